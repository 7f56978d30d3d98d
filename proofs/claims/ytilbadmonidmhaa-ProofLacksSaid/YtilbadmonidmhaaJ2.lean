/- Drawn regions: whatever order is drawn, the operations give what they give in one order that a check accepts (Gd). -/
import Derived.Scope
import Derived.Test.YtilbadmonidmhaaProg
import Derived.Test.YtilbadmonidmhaaDel
import Derived.Shelf.Sort.Plain
import Derived.Shelf.Slices.In.SortNone
import Derived.Shelf.Slices.CompactI
import Derived.Lib.RowBridge
import Derived.ScopeJumps
import Derived.Test.YtilbadmonidmhaaJ1
set_option linter.unusedVariables false
set_option linter.unusedSimpArgs false
namespace Go.E
open Go Go.RowKit
structure RF (A : BD) (F : Nat -> Prop) (st : St) (a : Act) (w : World) : Prop where
 ex : ∃ μ, HRel A μ st.heap F w /\ ∀ t, t < st.nt -> Ac (Ae A μ st.heap) μ w (a.tmps.getD t undef) (BU st.slots t)
 nt : a.tmps.size = st.nt
 defers : a.defers = []
theorem R.toRF {A : BD} {st : St} {a : Act} {w : World} (h : R A st a w) : RF A (Fr st.ctr) st a w := ⟨h.ex, h.nt, h.defers⟩
theorem RF.put' {A : BD} {F F' : Nat -> Prop} {st : St} {a : Act} {w w' : World} {h' : AT} {ctr' : Nat} {μ' : Nat -> Option BV} (hR : RF A F st a w)
  (hs : ∀ t, t < st.nt -> Ac (Ae A μ' h') μ' w' (a.tmps.getD t undef) (BU st.slots t))
  (hh : HRel A μ' h' F' w') {dst : Option Tmp} {v : Value} {l : LV} (hv : Ac (Ae A μ' h') μ' w' v l) :
  RF A F' (({ st with heap := h', ctr := ctr' } : St).put dst l) (a.put dst v) w' := by
 cases dst with
 | none => exact ⟨⟨μ', hh, hs⟩, hR.nt, hR.defers⟩
 | some d =>
  refine ⟨⟨μ', hh, fun t ht => ?_⟩, by simpa [Act.put, St.put] using hR.nt, hR.defers⟩
  have hn : t < a.tmps.size := by rw [hR.nt]; exact ht
  simp only [Act.put, St.put, BU, AJ]
  by_cases e : t = d
  .subst e
   simp only [if_true]
   rw [Array.getD_eq_getD_getElem?, Array.getElem?_setIfInBounds_self_of_lt hn]
   exact hv
  simp only [e, if_false]
  rw [Array.getD_eq_getD_getElem?, Array.getElem?_setIfInBounds_ne (by omega), <- Array.getD_eq_getD_getElem?]
  exact hs t ht
section
variable {P : Program} {A : BD} {AB : A2} {F : Nat -> Prop} {st : St} {a : Act} {w : World}
theorem Uw {μ : Nat -> Option BV} {h : AT} {F : Nat -> Prop} {w w' : World} {v : Value} {ctr e sz : Nat} {elems : List (List DV)} (hh : HRel A μ h F w) (hc : F ctr) (hn : JW w w' (Ae A μ h) v e sz elems) (hb : Below w.heap.size w w') :
  ∃ μ', HRel A μ' ((ctr, .row e sz elems) :: h) (fun id => F id /\ id ≠ ctr) w' /\ Ac (Ae A μ' ((ctr, .row e sz elems) :: h)) μ' w' v (.lsl ctr sz 0 elems.length) /\ ∀ v x, Ac (Ae A μ h) μ w v x -> Ac (Ae A μ' ((ctr, .row e sz elems) :: h)) μ' w' v x := by
 have hno : μ ctr = none := hh.fresh ctr hc
 obtain ⟨hlen, hn⟩ := hn
 have hkm : BM (Bt μ h) w w' := ⟨hb.size, fun b hb' _ => hb.block b hb'⟩
 have hsub : ∀ id x, AJ id ((ctr, A8.row e sz elems) :: h) = some x -> (id = ctr /\ x = .row e sz elems) \/ AJ id h = some x := by
  intro id x hx
  simp only [AJ] at hx
  split at hx
  .cases hx; exact .inl ⟨‹_›, rfl⟩
  exact .inr hx
 have hold : ∀ id x lc, AJ id ((ctr, A8.row e sz elems) :: h) = some x -> id ≠ ctr -> μ id = some lc -> lc.nil = false -> w'.heap[lc.b]? = w.heap[lc.b]? := by
  intro id x lc hx hne hm hnl
  rcases hsub id x hx with ⟨rfl, _⟩ | hx
  .exact absurd rfl hne
  exact hb.block _ (hh.base id x lc hx hm hnl).1
 have fin : ∀ (loc : BV), (loc.nil = false -> loc.b < w'.heap.size /\ w.heap.size <= loc.b) ->
   (∀ O' : Nat -> Prop, (∀ b, O' b -> Ae A μ h b \/ (loc.nil = false /\ b = loc.b)) -> (∀ b, Ae A μ h b -> b < w.heap.size -> O' b \/ True) -> (∀ b, Ae A (BJ μ ctr loc) ((ctr, A8.row e sz elems) :: h) b ↔ O' b) -> C7 O' (BJ μ ctr loc) w' loc (.row e sz elems)) ->
   (∀ O', Ac O' (BJ μ ctr loc) w' v (.lsl ctr sz 0 elems.length)) ->
   ∃ μ', HRel A μ' ((ctr, .row e sz elems) :: h) (fun id => F id /\ id ≠ ctr) w' /\ Ac (Ae A μ' ((ctr, .row e sz elems) :: h)) μ' w' v (.lsl ctr sz 0 elems.length) /\ ∀ v x, Ac (Ae A μ h) μ w v x -> Ac (Ae A μ' ((ctr, .row e sz elems) :: h)) μ' w' v x := by
  intro loc hloc ho hu
  have hfr : NM μ h ((ctr, A8.row e sz elems) :: h) w loc := fun hn => .inl (hloc hn).2
  have hown := hh.sub_add loc (.row e sz elems) ((ctr, .row e sz elems) :: h) hfr hsub
  have hcov : ∀ b, Ae A (BJ μ ctr loc) ((ctr, .row e sz elems) :: h) b -> Ae A μ h b \/ (loc.nil = false /\ b = loc.b) := by
   rintro b (hb' | ⟨id, x, lc, h1, h2, h3, h4⟩)
   .exact .inl (.inl hb')
   by_cases e' : id = ctr
   .subst e'
    simp only [BJ, if_true, Option.some.injEq] at h2
    subst h2; exact .inr ⟨h3, h4.symm⟩
   rcases hsub id x h1 with ⟨e'', _⟩ | h1
   .exact absurd e'' e'
   simp only [BJ, e', if_false] at h2
   exact .inl (.inr ⟨id, x, lc, h1, h2, h3, h4⟩)
  have hadd := hh.add (w' := w') hno loc (.row e sz elems) ((ctr, .row e sz elems) :: h) (fun hn => (hloc hn).1) hfr hsub hkm hold hb.os hb.tape hb.output (ho _ hcov (fun _ _ _ => .inr trivial) (fun _ => Iff.rfl))
  exact ⟨_, hadd, hu _, fun v x hv => hv.mono hkm.own hown (JG hno loc)⟩
 rcases hn with ⟨rfl, rfl⟩ | ⟨a, b, o, cap, c, rfl, h1, h2, h3, h4, h5, h6, h7, h8, h9, h10⟩
 .exact fin ⟨true, 0, 0, sz, 0⟩ (fun hn => by cases hn) (fun O' _ _ _ => ⟨rfl, hlen, .inl ⟨rfl, rfl⟩⟩) (fun O' => .lsln ctr ⟨true, 0, 0, sz, 0⟩ (by simp [BJ]) rfl)
 refine fin ⟨false, b, o, sz, cap⟩ (fun _ => ⟨h2, h1⟩) (fun O' hO' _ _ => ⟨rfl, hlen, .inr ⟨rfl, c, h6, h7, h8, h9, fun i j x d u hx hd hu => ?_⟩⟩) (fun O' => ?_)
 .refine (h10 i j x d u hx hd hu).mono (BM.refl _ _) fun q _ hq => ?_
  rcases hO' q hq with hq | ⟨_, hq⟩
  .exact .inl hq
  exact .inr hq
 exact .lsl ctr 0 elems.length cap a ⟨false, b, o, sz, cap⟩ (by simp [BJ]) rfl (by simp) h8 (fun hc => by rw [h3 hc]; simp) h4 h5
theorem Py (hE : BB P AB) {o : Oper} {l : LV} {e : Do} (hR : RF A F st a w) (hc : F st.ctr) (h : B1 P AB st o.op l e) {next : Act -> World -> Prop} {Q : Exit -> Act -> World -> Prop}
  (hK : ∀ a' w', RF A (fun id => F id /\ id ≠ st.ctr) (apS st st.ctr o l e) a' w' -> next a' w') : o.wp P a w next Q := by
 obtain ⟨⟨μ, hh, hs0⟩, hnt, hdef⟩ := id hR
 have hs := fun x => GB hs0 x
 have less : ∀ {μ h w} (c' : Nat), HRel A μ h (fun id => F id /\ (st.ctr < c' -> id ≠ st.ctr)) w -> HRel A μ h (fun id => F id /\ id ≠ st.ctr) w := fun _ h => h.less fun _ h => ⟨h.1, fun _ => h.2⟩
 have nCase : e = .keep -> nW AB st o.op (· = l) -> o.wp P a w next Q := by
  rintro rfl h
  obtain ⟨u, v, rfl, hv, hg⟩ := IB hE hs h
  unfold Oper.wp
  rw [hg o rfl w]
  exact hK _ _ (hR.put' (ctr' := st.ctr) hs0 (hh.less fun _ h => h.1) hv)
 have mCase : mW AB st o.op (fun r h _ => r = l /\ h = e.ap st.ctr st.heap) -> o.wp P a w next Q := by
  intro h
  obtain ⟨l', h', c', u, w', μ', ⟨rfl, rfl⟩, ⟨_, hh'⟩, hl, hmono, hrun⟩ := Nx (a := a) (F := F) hE hs ⟨hh, hc⟩ h
  have := hK _ _ (hR.put' (ctr' := st.ctr) (fun t ht => hmono _ _ (hs0 t ht)) (less c' hh') hl)
  unfold Oper.wp
  rcases hrun o rfl with hr | ⟨hr, rfl⟩ <;> rw [hr] <;> exact this
 obtain ⟨dst, op, type, pos, after, guard⟩ := o
 simp only at h nCase mCase
 cases op <;> simp only [B1] at h <;> (try exact nCase h.1 h.2)
 case load t x =>
  obtain ⟨rfl, _, ti, h1, h2⟩ := h
  refine mCase ?_
  simp only [mW, Do.ap]
  exact ⟨ti, h1, by
   unfold F0 at *
   split at h2
   .obtain ⟨r, g1, g2⟩ := h2; exact ⟨r, g1, g2, trivial⟩
   .obtain ⟨c, r, g1, g2, g3⟩ := h2; exact ⟨c, r, g1, g2, g3, trivial⟩
   .obtain ⟨c1, c2, c3, c4, r, g1, g2, g3, g4⟩ := h2; exact ⟨c1, c2, c3, c4, r, g1, g2, g3, g4, trivial⟩
   exact h2⟩
 case lookup t x i ok =>
  obtain ⟨rfl, ti, kt, et, te, m, kd, h1, h2, h3, h4, h5, h6, h7, h8⟩ := h
  refine mCase ?_
  simp only [mW, Do.ap]
  exact ⟨ti, kt, et, te, m, kd, h1, h2, h3, h4, h5, h6, h7, h8, trivial⟩
 case store => obtain ⟨_, h', rfl, h⟩ := h; exact mCase h
 case mapUpdate => obtain ⟨h', rfl, h⟩ := h; exact mCase h
 case mapEntry => obtain ⟨h', rfl, h⟩ := h; exact mCase h
 case entryStore => obtain ⟨h', rfl, h⟩ := h; exact mCase h
 case alloc t => obtain ⟨ti, h1, rfl, rfl⟩ := h; exact mCase (by simp only [mW]; exact ⟨ti, h1, trivial, rfl⟩)
 case box t x => obtain ⟨ls, h1, rfl, rfl⟩ := h; exact mCase (by simp only [mW]; exact ⟨ls, h1, trivial, rfl⟩)
 case buildSlice t n ps =>
  obtain ⟨ti, e', te, l', h1, h2, h3, h4, h5, h6, h7, ⟨rfl, rfl⟩ | ⟨rfl, rfl⟩⟩ := h
  .exact mCase (by simp only [mW]; exact ⟨ti, e', te, l', h1, h2, h3, h4, h5, h6, h7, .inl ⟨rfl, rfl⟩⟩)
  exact mCase (by simp only [mW]; exact ⟨ti, e', te, l', h1, h2, h3, h4, h5, h6, h7, .inr ⟨rfl, rfl⟩⟩)
 case makeSlice t x y =>
  obtain ⟨ti, e', te, n, k1, k2, h1, h2, h3, h4, h5, h6, h7, h8, ⟨rfl, rfl⟩ | ⟨rfl, rfl⟩⟩ := h
  .exact mCase (by simp only [mW]; exact ⟨ti, e', te, n, k1, k2, h1, h2, h3, h4, h5, h6, h7, h8, .inl ⟨rfl, rfl⟩⟩)
  exact mCase (by simp only [mW]; exact ⟨ti, e', te, n, k1, k2, h1, h2, h3, h4, h5, h6, h7, h8, .inr ⟨rfl, rfl⟩⟩)
 case makeMap t r => obtain ⟨rfl, rfl, rfl⟩ := h; exact mCase (by simp only [mW]; exact ⟨trivial, trivial, rfl⟩)
 case call c =>
  obtain ⟨callee, args, ats⟩ := c
  cases callee with
  | value f =>
   simp only at h
   rcases h with ⟨rfl, k, caps, ds, r, h1, h2, h3, h4, rfl⟩ | ⟨_, k, caps, ds, tt, sz, elems, h1, h2, h3, h4, rfl, rfl⟩
   .have hfv := hs f
    rw [h1] at hfv
    generalize hv : a.eval f = v at hfv
    cases hfv with
    | fn _ cs _ hsz hr =>
     have hx : (execOp a.eval ⟨dst, .call ⟨.value f, args, ats⟩, type, pos, after, guard⟩).run P w = .ok (.enter k (args.map a.eval ++ cs)) w := by
      simp [execOp, resolve, Deferred.ofValue, hv, invoke]
      exact h3.enters _ _
     unfold Oper.wp
     rw [hx, Oper.upon_enter]
     obtain ⟨g1, g2⟩ := Eb hh (l := (args.toList.map st.eval ++ caps).flatMap (Dn st.heap)) h2 (fun id hid => hid)
     have hO : ∀ b, Ae A μ (CE ((args.toList.map st.eval ++ caps).flatMap (Dn st.heap)) st.heap) b -> b < w.heap.size := by
      rintro b (hb | ⟨id, x, lc, h1, h2, h3, rfl⟩)
      .exact Nat.lt_of_lt_of_le (A.hO b hb).1 hh.size
      exact (hh.base id x lc (GA h1).2 h2 h3).1
     refine (h3.run _ w _ hO (by rw [<- g1]; simp [hsz]) fun i v d hvi hdi => ?_).mono fun e w' ⟨v, r', he, hp, hq, hb⟩ => ?_
     .have hi := (List.getElem?_eq_some_iff.1 hdi).1
      have hx : (args.toList.map st.eval ++ caps)[i]? = some ((args.toList.map st.eval ++ caps)[i]'(by omega)) := List.getElem?_eq_getElem _
      refine g2 i v _ d hx hdi ?_
      rw [List.getElem?_append] at hx
      rw [Array.getElem?_append] at hvi
      by_cases hi' : i < args.size
      .rw [if_pos (by simpa using hi')] at hvi hx
       exact Ii hs args.toList i v _ (by simpa using hvi) hx
      rw [if_neg (by simpa using hi')] at hvi hx
      exact hr _ v _ (by simpa using hvi) (by simpa using hx)
     subst he hq
     obtain ⟨hh', hown⟩ := hh.keep (w' := w') (h' := st.heap) (μ' := μ) (fun _ _ h => h) hh.fresh (fun _ _ h => h) hb.block hb.size hb.os hb.tape hb.output
     have hp' : Av (Ae A μ st.heap) w' v r' := by
      rcases h4 with h4 | h4
      .exact hp.scalar h4 _ _
      rw [h4] at hp; exact hp
     exact hK _ _ (hR.put' (ctr' := st.ctr) (fun t ht => (hs0 t ht).mono ⟨hb.size, fun b hb' _ => hb.block b hb'⟩ (fun b _ hb => hb) (fun _ _ h => h)) (hh'.less fun _ h => h.1) (.p _ _ hp'))
   have hfv := hs f
   rw [h1] at hfv
   generalize hv : a.eval f = v at hfv
   cases hfv with
   | fn _ cs _ hsz hr =>
    have hx : (execOp a.eval ⟨dst, .call ⟨.value f, args, ats⟩, type, pos, after, guard⟩).run P w = .ok (.enter k (args.map a.eval ++ cs)) w := by
     simp [execOp, resolve, Deferred.ofValue, hv, invoke]
     exact h3.enters _ _
    unfold Oper.wp
    rw [hx, Oper.upon_enter]
    obtain ⟨g1, g2⟩ := Eb hh (l := (args.toList.map st.eval ++ caps).flatMap (Dn st.heap)) h2 (fun id hid => hid)
    have hO : ∀ b, Ae A μ (CE ((args.toList.map st.eval ++ caps).flatMap (Dn st.heap)) st.heap) b -> b < w.heap.size := by
     rintro b (hb | ⟨id, x, lc, h1, h2, h3, rfl⟩)
     .exact Nat.lt_of_lt_of_le (A.hO b hb).1 hh.size
     exact (hh.base id x lc (GA h1).2 h2 h3).1
    refine (h3.run _ w _ hO (by rw [<- g1]; simp [hsz]) fun i v d hvi hdi => ?_).mono fun e w' ⟨v, he, hn', hb⟩ => ?_
    .have hi := (List.getElem?_eq_some_iff.1 hdi).1
     have hx : (args.toList.map st.eval ++ caps)[i]? = some ((args.toList.map st.eval ++ caps)[i]'(by omega)) := List.getElem?_eq_getElem _
     refine g2 i v _ d hx hdi ?_
     rw [List.getElem?_append] at hx
     rw [Array.getElem?_append] at hvi
     by_cases hi' : i < args.size
     .rw [if_pos (by simpa using hi')] at hvi hx
      exact Ii hs args.toList i v _ (by simpa using hvi) hx
     rw [if_neg (by simpa using hi')] at hvi hx
     exact hr _ v _ (by simpa using hvi) (by simpa using hx)
    subst he
    have hn2 : JW w w' (Ae A μ st.heap) v tt sz elems := by
     rcases h4 with h4 | h4
     .rw [h4] at hn'; exact hn'
     exact hn'.flat h4 _
    obtain ⟨μ', k1, k2, k3⟩ := Uw hh hc hn2 hb
    exact hK _ _ (hR.put' (ctr' := st.ctr) (fun t ht => k3 _ _ (hs0 t ht)) k1 k2)
  | builtin b =>
   cases b with
   | append => obtain ⟨h', rfl, h⟩ := h; exact mCase h
   | _ => exact nCase h.1 h.2
  | invoke r m => exact nCase h.1 h.2
theorem Q3 (hE : BB P AB) {ops : Array Oper} {i : Nat} {o : Oper} (ho : ops[i]? = some o) {l : LV} {e : Do} (hR : RF A F st a w) (hc : F st.ctr) (h : Ck P AB ops st o l e) {next : Act -> World -> Prop} {Q : Exit -> Act -> World -> Prop}
  (hK : ∀ a' w', RF A (fun id => F id /\ id ≠ st.ctr) (apS st st.ctr o l e) a' w' -> next a' w') : wpOp P ops Q i next a w := by
 obtain ⟨⟨μ, hh, hs0⟩, hnt, hdef⟩ := id hR
 have hs := fun x => GB hs0 x
 unfold wpOp
 rw [ho]
 simp only
 unfold Ck at h
 have skip : l = .und /\ e = .keep -> next (a.put o.dst undef) w := by
  rintro ⟨rfl, rfl⟩
  exact hK _ _ (hR.put' (ctr' := st.ctr) hs0 (hh.less fun _ h => h.1) .und)
 split at h
 .rename_i hg
  rw [if_pos (by simp [Region.wanted, hg])]
  exact .inl (Py hE hR hc h hK)
 rename_i j want hg
 obtain ⟨g1, g2⟩ := MW (ops := ops) (j := j) hs
 split at h
 .rename_i b hb
  have hy := g1 b hb
  split at h
  .rename_i e
   rw [if_pos (by simp [Region.wanted, hg, hy, e])]
   exact .inl (Py hE hR hc h hK)
  rename_i e
  rw [if_neg (by simp [Region.wanted, hg, hy, e])]
  exact skip h
 .rename_i hb
  have hy := g2 hb
  rw [if_neg (by simp [Region.wanted, hg, hy])]
  exact skip h
 exact h.elim
end
section
variable {P : Program} {AB : A2} {md : Region.Mode} {ops : Array Oper} {base : Nat} {Q : St -> Prop}
def HW (P : Program) (AB : A2) (md : Region.Mode) (ops : Array Oper) (base : Nat) (Q : St -> Prop) : Nat -> Array Bool -> St -> Prop
 | 0, listed, st => Region.ready md ops listed = [] /\ ∃ st', F1 st st' /\ Q st'
 | fuel + 1, listed, st => (Region.ready md ops listed = [] -> ∃ st', F1 st st' /\ Q st') /\
  ∀ i ∈ Region.ready md ops listed, ∃ o l e, ops[i]? = some o /\ Ck P AB ops (st.at (base + i)) o l e /\ HW P AB md ops base Q fuel (listed.setIfInBounds i true) (apS st (base + i) o l e)
theorem F1.trans {a b c : St} (h : F1 a b) (h' : F1 b c) : F1 a c := ⟨h.nt.trans h'.nt, fun t => (h.slots t).trans (h'.slots t), fun i => (h.heap i).trans (h'.heap i)⟩
theorem F1.symm {a b : St} (h : F1 a b) : F1 b a := ⟨h.nt.symm, fun t => (h.slots t).symm, fun i => (h.heap i).symm⟩
theorem Ux {st : St} {dst : Option Tmp} {l : LV} {t : Nat} : BU (st.put dst l).slots t = if dst = some t then l else BU st.slots t := by
 cases dst with
 | none => simp [St.put]
 | some d =>
  simp only [St.put, BU, AJ, Option.some.injEq]
  by_cases e : t = d
  .subst e; simp
  rw [if_neg e, if_neg (fun h => e h.symm)]
theorem Gs {st : St} {c : Nat} {o : Oper} {l : LV} {e : Do} : (apS st c o l e).nt = st.nt := by
 unfold apS St.put; split <;> rfl
theorem Bj {st : St} {c : Nat} {o : Oper} {l : LV} {e : Do} : (apS st c o l e).heap = e.ap c st.heap := by
 unfold apS St.put; split <;> rfl
theorem Cx {st : St} {c : Nat} {o : Oper} {l : LV} {e : Do} {t : Nat} : BU (apS st c o l e).slots t = if o.dst = some t then l else BU st.slots t := by
 unfold apS; rw [Ux]
theorem F1.at {st st' : St} (h : F1 st st') (c : Nat) : F1 (st.at c) (st'.at c) := ⟨h.nt, h.slots, h.heap⟩
theorem F1.apS {st st' : St} (h : F1 st st') {c : Nat} {o : Oper} {l : LV} {e e' : Do} (he : ∀ id, AJ id (e.ap c st.heap) = AJ id (e'.ap c st'.heap)) : F1 (apS st c o l e) (apS st' c o l e') :=
 ⟨by rw [Gs, Gs]; exact h.nt, fun t => by rw [Cx, Cx, h.slots], fun id => by rw [Bj, Bj]; exact he id⟩
theorem Lc : ∀ (fuel : Nat) (listed : Array Bool) (st st' : St), F1 st st' -> HW P AB md ops base Q fuel listed st -> HW P AB md ops base Q fuel listed st'
 | 0, _, _, _, he, ⟨h1, s, h2, h3⟩ => ⟨h1, s, he.symm.trans h2, h3⟩
 | fuel + 1, _, st, st', he, ⟨h1, h2⟩ => ⟨fun hr => by obtain ⟨s, a, b⟩ := h1 hr; exact ⟨s, he.symm.trans a, b⟩, fun i hi => by
   obtain ⟨o, l, e, g1, g2, g3⟩ := h2 i hi
   obtain ⟨e', k1, k2⟩ := UE (he.at (base + i)) rfl g2
   exact ⟨o, l, e', g1, k1, Lc fuel _ _ _ (he.apS k2) g3⟩⟩
def Md : WZ -> WZ -> Bool
 | .n, .w => true
 | .w, _ | _, .w => false
 | .a, .r => false
 | _, _ => true
def K2 : Op -> Bool
 | .call c => match c.callee with
  | .value _ => true
  | _ => false
 | _ => false
def PT (a b : Op) : Bool := !(K2 a) || decide (BP b ≠ .r)
theorem Uy {st : St} {o : Oper} {l : LV} {e : Do} (h : Ck P AB ops st o l e) (hc : BP o.op = .n \/ BP o.op = .r) (hw : AB.own = true -> K2 o.op = false) : e = .keep := by
 have big : B1 P AB st o.op l e -> e = .keep := by
  intro h
  generalize o.op = op at *
  cases op <;> simp only [BP, reduceCtorEq, or_self] at hc <;> simp only [B1] at h <;> (try exact h.1)
  case call c =>
   obtain ⟨callee, args, ats⟩ := c
   cases callee with
   | builtin b => cases b <;> simp only [reduceCtorEq, or_self] at hc <;> exact h.1
   | value f =>
    rcases h with h | ⟨h, _⟩
    .exact h.1
    have := hw h
    simp [K2] at this
   | _ => exact h.1
 unfold Ck at h
 split at h
 .exact big h
 split at h
 .split at h
  .exact big h
  exact h.2
 .exact h.2
 exact h.elim
theorem NN {st : St} {o : Oper} {l : LV} {e : Do} (h : Ck P AB ops st o l e) (hc : BP o.op ≠ .w) : e = .keep \/ ∃ x, e = .new x := by
 have big : B1 P AB st o.op l e -> e = .keep \/ ∃ x, e = .new x := by
  intro h
  generalize o.op = op at *
  cases op <;> simp only [B1] at h <;> (try exact .inl h.1)
  case store => exact absurd rfl hc
  case mapUpdate => exact absurd rfl hc
  case mapEntry => exact absurd rfl hc
  case entryStore => exact absurd rfl hc
  case alloc => obtain ⟨_, _, _, h⟩ := h; exact .inr ⟨_, h⟩
  case box => obtain ⟨_, _, _, h⟩ := h; exact .inr ⟨_, h⟩
  case buildSlice => obtain ⟨_, _, _, _, _, _, _, _, _, _, _, ⟨_, h⟩ | ⟨_, h⟩⟩ := h; exact .inr ⟨_, h⟩; exact .inl h
  case makeSlice => obtain ⟨_, _, _, _, _, _, _, _, _, _, _, _, _, _, ⟨_, h⟩ | ⟨_, h⟩⟩ := h; exact .inr ⟨_, h⟩; exact .inl h
  case makeMap => exact .inr ⟨_, h.2.2⟩
  case call c =>
   obtain ⟨callee, args, ats⟩ := c
   cases callee with
   | builtin b =>
    cases b with
    | append => exact absurd rfl hc
    | _ => exact .inl h.1
   | value f =>
    rcases h with h | ⟨_, _, _, _, _, _, _, _, _, _, _, _, h⟩
    .exact .inl h.1
    exact .inr ⟨_, h⟩
   | _ => exact .inl h.1
 unfold Ck at h
 split at h
 .exact big h
 split at h
 .split at h
  .exact big h
  exact .inl h.2
 .exact .inl h.2
 exact h.elim
theorem KA {st : St} {o : Oper} {l : LV} {e : Do} (h : Ck P AB ops st o l e) {k : Nat} (hk : k ≠ st.ctr) (hn : AJ k st.heap = none) : AJ k (e.ap st.ctr st.heap) = none := by
 by_cases hw : BP o.op = .w
 .have big : B1 P AB st o.op l e -> AJ k (e.ap st.ctr st.heap) = none := by
   intro h
   have : ∃ h1, e = .set h1 /\ (mW AB st o.op fun r h _ => r = l /\ h = h1) := by
    generalize hq : o.op = op at *
    cases op <;> simp only [BP, reduceCtorEq] at hw <;> simp only [B1] at h ⊢
    case store => exact h.2
    case mapUpdate => exact h
    case mapEntry => exact h
    case entryStore => exact h
    case call c =>
     obtain ⟨callee, args, ats⟩ := c
     cases callee with
     | builtin b =>
      cases b <;> simp only [reduceCtorEq] at hw
      exact h
     | _ => simp only [reduceCtorEq] at hw
   obtain ⟨h1, rfl, g⟩ := this
   obtain ⟨_, _, _, g⟩ := TH (st' := st) hw (fun _ _ => rfl) rfl (fun _ => rfl) g
   exact g k hk hn
  unfold Ck at h
  split at h
  .exact big h
  split at h
  .split at h
   .exact big h
   rw [h.2]; exact hn
  .rw [h.2]; exact hn
  exact h.elim
 rcases NN h hw with rfl | ⟨x, rfl⟩
 .exact hn
 simp only [Do.ap, AJ, hk, if_false]; exact hn
def PU : Op -> Op -> Bool
 | .load .., .mapUpdate .. | .load .., .mapEntry .. | .load .., .entryStore .. => true
 | _, _ => false
def N0 : Op -> Op -> Bool
 | .load .., .store .. => true
 | .load .., .call c => match c.callee with
  | .builtin .append => true
  | _ => false
 | _, _ => false
def Me (q : Bool) (a b : Op) : Bool := PU a b || (q && N0 a b)
def PV (q : Bool) (a b : Op) : Bool := Md (BP a) (BP b) || Me q a b
theorem TJ {o : Op} (h : K2 o = true) : BP o = .r := by
 unfold K2 at h
 split at h
 .rename_i c
  unfold BP
  split at h
  .rename_i e; simp only [e]
  cases h
 cases h
theorem QZ {a b : Op} (h : N0 a b = true) : BP a = .r /\ BP b = .w /\ (∃ t x, a = .load t x) /\ ((∃ t x v, b = .store t x v) \/ ∃ c, b = .call c /\ c.callee = .builtin .append) := by
 unfold N0 at h
 split at h
 .exact ⟨rfl, rfl, ⟨_, _, rfl⟩, .inl ⟨_, _, _, rfl⟩⟩
 .rename_i c
  split at h
  .rename_i e
   exact ⟨rfl, by simp [BP, e], ⟨_, _, rfl⟩, .inr ⟨_, rfl, e⟩⟩
  cases h
 cases h
theorem Q4 {a b : Op} (h : PU a b = true) : BP a = .r /\ BP b = .w /\ (∃ t x, a = .load t x) /\ ((∃ t x i v, b = .mapUpdate t x i v) \/ (∃ t x i, b = .mapEntry t x i) \/ ∃ t x i v, b = .entryStore t x i v) := by
 unfold PU at h
 split at h
 .exact ⟨rfl, rfl, ⟨_, _, rfl⟩, .inl ⟨_, _, _, _, rfl⟩⟩
 .exact ⟨rfl, rfl, ⟨_, _, rfl⟩, .inr (.inl ⟨_, _, _, rfl⟩)⟩
 .exact ⟨rfl, rfl, ⟨_, _, rfl⟩, .inr (.inr ⟨_, _, _, _, rfl⟩)⟩
 cases h
theorem Gt {q : Bool} {a b : Op} (h : Me q a b = true) : BP a = .r /\ BP b = .w /\ (∃ t x, a = .load t x) /\
  (((∃ t x i v, b = .mapUpdate t x i v) \/ (∃ t x i, b = .mapEntry t x i) \/ ∃ t x i v, b = .entryStore t x i v) \/ (q = true /\ ((∃ t x v, b = .store t x v) \/ ∃ c, b = .call c /\ c.callee = .builtin .append))) := by
 simp only [Me, Bool.or_eq_true, Bool.and_eq_true] at h
 rcases h with h | ⟨hq, h⟩
 .obtain ⟨h1, h2, h3, h4⟩ := Q4 h; exact ⟨h1, h2, h3, .inl h4⟩
 obtain ⟨h1, h2, h3, h4⟩ := QZ h; exact ⟨h1, h2, h3, .inr ⟨hq, h4⟩⟩
theorem V5 {st st' : St} {o : Oper} {l : LV} {e : Do} (hld : ∃ t x, o.op = .load t x) (hnt : st.nt = st'.nt) (hs : ∀ t ∈ o.looksAt ops, BU st.slots t = BU st'.slots t)
  (hm : ∀ id x, AJ id st.heap = some x -> (∀ m, x ≠ .map m) -> AJ id st'.heap = some x) (h : Ck P AB ops st o l e) : Ck P AB ops st' o l e := by
 have hop := En hnt hs
 have key : B1 P AB st o.op l e -> B1 P AB st' o.op l e := by
  obtain ⟨t, x, ho⟩ := hld
  rw [ho] at hop ⊢
  simp only [B1]
  rintro ⟨h1, hc', ti, h2, h3⟩
  have he : st.eval x = st'.eval x := hop x (by simp [Op.operands])
  rw [<- he]
  refine ⟨h1, hc', ti, h2, ?_⟩
  unfold F0 at h3 ⊢
  split at h3
  .rename_i hx; simp only [hx]; exact h3
  .rename_i id off hx
   obtain ⟨cells, r, g1, g2⟩ := h3
   simp only [hx]
   exact ⟨cells, r, hm _ _ g1 (by simp), g2⟩
  .rename_i id i off hx
   obtain ⟨e', sz, elems, y, r, g1, g2⟩ := h3
   simp only [hx]
   exact ⟨e', sz, elems, y, r, hm _ _ g1 (by simp), g2⟩
  exact h3.elim
 unfold Ck at *
 split at h
 .exact key h
 rename_i j want hg
 rw [<- Gr hnt hs hg]
 split at h
 .rename_i hb
  split at h
  .rw [if_pos ‹_›]; exact key h
  rw [if_neg ‹_›]; exact h
 .exact h
 exact h.elim
theorem Wa {st : St} {o : Oper} {l : LV} {e : Do} {c : Nat} (hmu : (∃ t x i v, o.op = .mapUpdate t x i v) \/ (∃ t x i, o.op = .mapEntry t x i) \/ ∃ t x i v, o.op = .entryStore t x i v) (h : Ck P AB ops st o l e) : ∀ id x, AJ id st.heap = some x -> (∀ m, x ≠ .map m) -> AJ id (e.ap c st.heap) = some x := by
 have key : B1 P AB st o.op l e -> ∀ id x, AJ id st.heap = some x -> (∀ m, x ≠ .map m) -> AJ id (e.ap c st.heap) = some x := by
  have fin : ∀ (id' : Nat) (m m' : List (DV × DV)), AJ id' st.heap = some (.map m) -> ∀ id y, AJ id st.heap = some y -> (∀ m, y ≠ .map m) -> AJ id (Be id' (.map m') st.heap) = some y := by
   intro id' m m' h4 id y hy hne
   by_cases hii : id = id'
   .subst hii; rw [h4] at hy; cases hy; exact absurd rfl (hne _)
   rw [Dq hii]; exact hy
  rcases hmu with ⟨t, x, i, v, ho⟩ | ⟨t, x, i, ho⟩ | ⟨t, x, i, v, ho⟩
  .rw [ho]
   simp only [B1]
   rintro ⟨h', rfl, hmw⟩ id y hy hne
   obtain ⟨ti, kt, et, id', m, kd, vd, h1, h2, h3, h4, h5, h6, h7, h8, _, rfl⟩ := hmw
   exact fin id' m _ h4 id y hy hne
  .rw [ho]
   simp only [B1]
   rintro ⟨h', rfl, hmw⟩ id y hy hne
   obtain ⟨ti, kt, et, te, id', m, kd, h1, h2, h3, h4, h5, h6, h7, h8, _, rfl⟩ := hmw
   show AJ id (match C3 kd m with | some _ => st.heap | none => _) = some y
   split
   .exact hy
   exact fin id' m _ h5 id y hy hne
  rw [ho]
  simp only [B1]
  rintro ⟨h', rfl, hmw⟩ id y hy hne
  obtain ⟨id', m, k1, n, vd, p, h1, h2, h3, h4, h5, h6, _, rfl⟩ := hmw
  exact fin id' m _ h2 id y hy hne
 unfold Ck at h
 split at h
 .exact key h
 split at h
 .split at h
  .exact key h
  obtain ⟨_, rfl⟩ := h; exact fun id x hx _ => hx
 .obtain ⟨_, rfl⟩ := h; exact fun id x hx _ => hx
 exact h.elim
theorem Uz {b : Nat -> Bool} (hb0 : AB.calm = some b) {st st' : St} {o : Oper} {l : LV} {e : Do} (hld : ∃ t x, o.op = .load t x) (hnt : st.nt = st'.nt) (hs : ∀ t ∈ o.looksAt ops, BU st.slots t = BU st'.slots t)
  (hm : ∀ id cells, b id = false -> AJ id st.heap = some (.box cells) -> AJ id st'.heap = some (.box cells)) (h : Ck P AB ops st o l e) : Ck P AB ops st' o l e := by
 have hop := En hnt hs
 have key : B1 P AB st o.op l e -> B1 P AB st' o.op l e := by
  obtain ⟨t, x, ho⟩ := hld
  rw [ho] at hop ⊢
  simp only [B1]
  rintro ⟨h1, hc', ti, h2, h3⟩
  have he : st.eval x = st'.eval x := hop x (by simp [Op.operands])
  rw [<- he]
  refine ⟨h1, hc', ti, h2, ?_⟩
  rw [hb0] at hc'
  unfold F0 at h3 ⊢
  split at h3
  .rename_i hx; simp only [hx]; exact h3
  .rename_i id off hx
   obtain ⟨cells, r, g1, g2⟩ := h3
   simp only [hx]
   simp only [hx, Ky] at hc'
   exact ⟨cells, r, hm _ _ (by simpa using hc') g1, g2⟩
  .rename_i id i off hx
   simp only [hx, Ky, Bool.false_eq_true] at hc'
  exact h3.elim
 unfold Ck at *
 split at h
 .exact key h
 rename_i j want hg
 rw [<- Gr hnt hs hg]
 split at h
 .rename_i hb
  split at h
  .rw [if_pos ‹_›]; exact key h
  rw [if_neg ‹_›]; exact h
 .exact h
 exact h.elim
theorem V6 {b : Nat -> Bool} (hb0 : AB.calm = some b) {st : St} {o : Oper} {l : LV} {e : Do} (hfr : AJ st.ctr st.heap = none) (hmu : (∃ t x v, o.op = .store t x v) \/ ∃ c, o.op = .call c /\ c.callee = .builtin .append) (h : Ck P AB ops st o l e) :
  ∀ id cells, b id = false -> AJ id st.heap = some (.box cells) -> AJ id (e.ap st.ctr st.heap) = some (.box cells) := by
 have key : B1 P AB st o.op l e -> ∀ id cells, b id = false -> AJ id st.heap = some (.box cells) -> AJ id (e.ap st.ctr st.heap) = some (.box cells) := by
  intro h id cells hid hl
  rcases hmu with ⟨t, x, v, ho⟩ | ⟨c, ho, hcal⟩
  .rw [ho] at h
   simp only [B1] at h
   obtain ⟨hc', h', rfl, ti, h1, hs⟩ := h
   rw [hb0] at hc'
   unfold Ik at hs
   obtain ⟨ls, g1, g2, g3, hs⟩ := hs
   split at hs
   .rename_i id' off hx
    obtain ⟨cells', q1, q2, _, rfl⟩ := hs
    rw [hx] at hc'
    simp only [JX] at hc'
    show AJ id (Be id' _ st.heap) = _
    rw [Dq (fun e2 => by rw [e2, hc'] at hid; cases hid)]; exact hl
   .rename_i hx
    first
    | exact hs.elim
    | (simp only [hx, JX, Bool.false_eq_true] at hc')
   all_goals first
    | exact hs.elim
    | (rename_i hx; simp only [hx, JX, Bool.false_eq_true] at hc')
  obtain ⟨callee, args, ats⟩ := c
  simp only at hcal
  subst hcal
  rw [ho] at h
  simp only [B1, mW] at h
  obtain ⟨h', rfl, _, s, x, t, g1, g2, ti, e', te, q1, q2, q3, q4, new, q5, q6, hs⟩ := h
  have hne : id ≠ st.ctr := fun e2 => by rw [e2, hfr] at hl; cases hl
  show AJ id h' = _
  split at hs
  .obtain ⟨_, _, _, rfl⟩ := hs
   simp only [AJ, if_neg hne]; exact hl
  .rename_i id' sz off len hx
   obtain ⟨elems, _, hrow, _, _, _, _, rfl⟩ := hs
   have hne2 : id ≠ id' := fun e2 => by rw [e2, hrow] at hl; cases hl
   simp only [AJ, if_neg hne]
   rw [El hne2]; exact hl
  exact hs.elim
 unfold Ck at h
 split at h
 .exact key h
 split at h
 .split at h
  .exact key h
  obtain ⟨_, rfl⟩ := h; exact fun id x _ hx => hx
 .obtain ⟨_, rfl⟩ := h; exact fun id x _ hx => hx
 exact h.elim
theorem OW (q : Bool) (hq : q = true -> ∃ b, AB.calm = some b) {i : Nat} {oi : Oper} {l : LV} {e : Do} (hi : ops[i]? = some oi) (B : Nat -> Bool)
  (hB : ∀ j, B j = true -> j ≠ i /\ ∀ oj, ops[j]? = some oj -> ∃ x ∈ oj.after, Region.binds md x = true /\ (x.on = i \/ B x.on = true)) :
  ∀ (fuel : Nat) (listed : Array Bool) (st : St), (∀ j, B j = true -> listed.getD j false = false) ->
   (∀ j oj, ops[j]? = some oj -> j ≠ i -> listed.getD j true = false -> B j = false -> oi.apart ops oj = true /\ PV q oi.op oj.op = true /\ (AB.own = true -> PT oi.op oj.op = true)) ->
   (∀ k, listed.getD k true = false -> AJ (base + k) st.heap = none) ->
   i ∈ Region.ready md ops listed -> Ck P AB ops (st.at (base + i)) oi l e ->
   HW P AB md ops base Q fuel (listed.setIfInBounds i true) (apS st (base + i) oi l e) -> HW P AB md ops base Q (fuel + 1) listed st := by
 intro fuel
 induction fuel with
 | zero =>
  intro listed st _ _ _ hr hy H
  refine ⟨fun h => (by rw [h] at hr; cases hr), fun j hj => ?_⟩
  by_cases hji : j = i
  .subst hji; exact ⟨oi, l, e, hi, hy, H⟩
  have := ready_mono hj hji
  rw [H.1] at this
  cases this
 | succ fuel ih =>
  intro listed st hBl hfree hfresh hr hy H
  refine ⟨fun h => (by rw [h] at hr; cases hr), fun j hj => ?_⟩
  by_cases hji : j = i
  .subst hji; exact ⟨oi, l, e, hi, hy, H⟩
  obtain ⟨oj, lj, ej, hoj, h1, h2⟩ := H.2 j (ready_mono hj hji)
  obtain ⟨hjun, oj', hoj', hall⟩ := mem_ready.1 hj
  rw [hoj] at hoj'; cases hoj'
  have hiun : listed.getD i true = false := (mem_ready.1 hr).1
  have hiF : listed.getD i false = false := by
   rcases Nat.lt_or_ge i listed.size with h' | h'
   .simp [h'] at hiun ⊢; exact hiun
   simp [Array.getElem?_eq_none h']
  have hjB : B j = false := by
   rcases hb : B j with _ | _
   .rfl
   obtain ⟨_, hb2⟩ := hB j hb
   obtain ⟨x, hx, hxb, hxo⟩ := hb2 oj hoj
   have := hall x hx hxb
   rcases hxo with hxo | hxo
   .rw [hxo, hiF] at this; cases this
   rw [hBl _ hxo] at this; cases this
  obtain ⟨hap, hcp, hwp⟩ := hfree j oj hoj hji hjun hjB
  obtain ⟨a1, a2, a3⟩ := Oper.apart_spec hap
  simp only [PV, Bool.or_eq_true] at hcp
  have hwi : BP oi.op ≠ .w := by
   rcases hcp with hcp | hcp
   .intro e; rw [e] at hcp; simp [Md] at hcp
   rw [(Gt hcp).1]; simp
  have hwj : BP oj.op = .w -> BP oi.op = .n \/ Me q oi.op oj.op = true := by
   intro e
   rcases hcp with hcp | hcp
   .rw [e] at hcp; cases hq : BP oi.op <;> rw [hq] at hcp <;> simp [Md] at hcp ⊢
   exact .inr hcp
  have hnr : BP oj.op = .w -> BP oi.op = .n \/ BP oi.op = .r := fun e => (hwj e).imp id fun h => (Gt h).1
  have hcp : BP oj.op ≠ .w -> Md (BP oi.op) (BP oj.op) = true := fun e => hcp.resolve_right fun h => e (Gt h).2.1
  have hkp : BP oi.op = .n \/ BP oi.op = .r -> BP oj.op = .r \/ BP oj.op = .w -> e = .keep := fun hc hj => Uy hy hc fun ho => by
   rcases hj with hj | hj
   .have := hwp ho
    simp only [PT, hj, ne_eq, not_true_eq_false, decide_false, Bool.or_false, Bool.not_eq_true'] at this
    exact this
   rcases hwj hj with h | h
   .cases hq : K2 oi.op with
    | false => rfl
    | true =>
     rw [TJ hq] at h
     cases h
   obtain ⟨_, _, ⟨t, x, h⟩, _⟩ := Gt h
   rw [h]; rfl
  have back : ∃ ej', Ck P AB ops (st.at (base + j)) oj lj ej' /\ (∀ id, AJ id (ej.ap (base + j) (apS st (base + i) oi l e).heap) = AJ id (ej'.ap (base + j) (apS st (base + i) oi l e).heap)) /\ (BP oj.op ≠ .w -> ej' = ej) := by
   have hsl : ∀ t ∈ oj.looksAt ops, BU ((apS st (base + i) oi l e).at (base + j)).slots t = BU (st.at (base + j)).slots t := fun t ht => by
    show BU (apS st (base + i) oi l e).slots t = BU st.slots t
    rw [Cx, if_neg]
    intro e'; exact a1 t e' ht
   by_cases hcw : BP oj.op = .w
   .have : e = .keep := hkp (hnr hcw) (.inr hcw)
    subst this
    have heq : F1 ((apS st (base + i) oi l .keep).at (base + j)) { (st.at (base + j)) with slots := (apS st (base + i) oi l .keep).slots } := ⟨by simp [St.at, Gs], fun _ => rfl, fun id => by simp [St.at, Bj, Do.ap]⟩
    obtain ⟨ej', k1, k2⟩ := UE heq rfl h1
    have h3 : ∃ e3, Ck P AB ops (st.at (base + j)) oj lj e3 /\ ∀ id, AJ id (ej'.ap (base + j) st.heap) = AJ id (e3.ap (base + j) st.heap) :=
     UF (st := { (st.at (base + j)) with slots := (apS st (base + i) oi l .keep).slots }) (st' := st.at (base + j)) hcw rfl hsl rfl (fun _ => rfl) k1
    obtain ⟨e3, g1, g2⟩ := h3
    refine ⟨e3, g1, fun id => ?_, fun hne => absurd hcw hne⟩
    have e1 : (apS st (base + i) oi l .keep).heap = st.heap := by rw [Bj]; rfl
    have k : AJ id (ej.ap (base + j) (apS st (base + i) oi l .keep).heap) = AJ id (ej'.ap (base + j) st.heap) := k2 id
    rw [k, e1]; exact g2 id
   refine ⟨ej, ?_, fun _ => rfl, fun _ => rfl⟩
   refine LZ (st := (apS st (base + i) oi l e).at (base + j)) (st' := st.at (base + j)) hcw (by simp [St.at, Gs]) hsl rfl (fun hcr => ?_) h1
   have : e = .keep := by
    refine hkp ?_ (.inl hcr)
    have hcp := hcp hcw
    rw [hcr] at hcp
    cases hq : BP oi.op <;> rw [hq] at hcp <;> simp [Md] at hcp ⊢
   subst this
   intro id o ho
   have ho' : AJ id (apS st (base + i) oi l .keep).heap = some o := ho
   rw [Bj] at ho'; exact ho'
  obtain ⟨ej', back, hej, hsame⟩ := back
  have keep : Ck P AB ops ((apS st (base + j) oj lj ej').at (base + i)) oi l e := by
   by_cases hsp : Me q oi.op oj.op = true
   .obtain ⟨_, _, hld, hmu⟩ := Gt hsp
    rcases hmu with hmu | ⟨hqt, hmu⟩
    rotate_left
    .obtain ⟨b, hb0⟩ := hq hqt
     refine Uz hb0 (st := st.at (base + i)) (st' := (apS st (base + j) oj lj ej').at (base + i)) hld (by simp [St.at, Gs]) (fun t ht => ?_) (fun id cells hid hx => ?_) hy
     .show BU st.slots t = BU (apS st (base + j) oj lj ej').slots t
      rw [Cx, if_neg]
      intro e'; exact a3 t e' ht
     show AJ id (apS st (base + j) oj lj ej').heap = some _
     rw [Bj]
     exact V6 hb0 (hfresh j hjun) hmu back id cells hid hx
    refine V5 (st := st.at (base + i)) (st' := (apS st (base + j) oj lj ej').at (base + i)) hld (by simp [St.at, Gs]) (fun t ht => ?_) (fun id x hx hne => ?_) hy
    .show BU st.slots t = BU (apS st (base + j) oj lj ej').slots t
     rw [Cx, if_neg]
     intro e'; exact a3 t e' ht
    show AJ id (apS st (base + j) oj lj ej').heap = some x
    rw [Bj]
    exact Wa hmu back id x hx hne
   refine LZ (st := st.at (base + i)) (st' := (apS st (base + j) oj lj ej').at (base + i)) hwi (by simp [St.at, Gs]) (fun t ht => ?_) rfl (fun hcr => ?_) hy
   .show BU st.slots t = BU (apS st (base + j) oj lj ej').slots t
    rw [Cx, if_neg]
    intro e'; exact a3 t e' ht
   intro id o ho
   show AJ id (apS st (base + j) oj lj ej').heap = some o
   rw [Bj]
   have hnw : BP oj.op ≠ .w := fun hc => by rw [(hwj hc).resolve_right hsp] at hcr; cases hcr
   rcases NN back hnw with rfl | ⟨x, rfl⟩
   .exact ho
   simp only [Do.ap, AJ]
   rw [if_neg]
   .exact ho
   intro e'; subst e'
   have := hfresh j hjun
   have ho' : AJ (base + j) st.heap = some o := ho
   rw [this] at ho'; cases ho'
  have swap : F1 (apS (apS st (base + i) oi l e) (base + j) oj lj ej) (apS (apS st (base + j) oj lj ej') (base + i) oi l e) := by
   refine ⟨by simp [Gs], fun t => ?_, fun id => ?_⟩
   .rw [Cx, Cx, Cx, Cx]
    by_cases c1 : oi.dst = some t
    .have := a2 t c1
     simp [c1, this]
    rw [if_neg c1]; split <;> simp [c1]
   by_cases hcw : BP oj.op = .w
   .have : e = .keep := hkp (hnr hcw) (.inr hcw)
    subst this
    have := hej id
    rw [Bj] at this
    rw [Bj, Bj, Bj, Bj]
    exact this
   have hs2 := hsame hcw
   subst hs2
   rw [Bj, Bj, Bj, Bj]
   rcases NN back hcw with rfl | ⟨x, rfl⟩ <;> rcases NN hy hwi with rfl | ⟨y, rfl⟩ <;> simp only [Do.ap, AJ]
   by_cases c1 : id = base + j
   .subst c1; simp [hji]
   simp [c1]
  refine ⟨oj, lj, ej', hoj, back, ?_⟩
  refine ih (listed.setIfInBounds j true) _ (fun k hk => ?_) (fun k ok hk hki hun hkB => ?_) (fun k hk => ?_) (ready_mono hr (Ne.symm hji)) keep ?_
  .rw [getD_set_ne false (fun e' => by subst e'; rw [hjB] at hk; cases hk)]; exact hBl k hk
  .refine hfree k ok hk hki ?_ hkB
   by_cases hjk : j = k
   .subst hjk; exact hjun
   rw [getD_set_ne true hjk] at hun; exact hun
  .have hjk : j ≠ k := by
    rintro rfl
    rcases Nat.lt_or_ge j listed.size with h' | h'
    .simp [h'] at hk
    simp [Array.getElem?_eq_none h'] at hk
   rw [Bj]
   have hk' : listed.getD k true = false := by rw [getD_set_ne true hjk] at hk; exact hk
   exact KA back (by simp only [St.at]; omega) (hfresh k hk')
  rw [Array.setIfInBounds_comm _ _ hji]
  exact Lc fuel _ _ _ swap h2
end
end Go.E
/- Drawn regions, the rule (Gd). Condition: the checks HX and mixedOrders, by kernel. -/
namespace Go.E
open Go Go.RowKit
def Lf (md : Region.Mode) (ops : Array Oper) (listed : Array Bool) (i : Nat) : List Nat :=
 (List.range ops.size).foldl (fun acc j => if !(j == i) && !(listed.getD j false) && (match ops[j]? with
  | some oj => oj.after.any fun x => Region.binds md x && (x.on == i || acc.contains x.on)
  | none => false) then j :: acc else acc) []
def NO (q w : Bool) (md : Region.Mode) (ops : Array Oper) (listed : Array Bool) (i : Nat) (oi : Oper) (B : List Nat) : Bool :=
  (B.all fun j => !(j == i) && !(listed.getD j false) && match ops[j]? with
    | some oj => oj.after.any fun x => Region.binds md x && (x.on == i || B.contains x.on)
    | none => false) &&
  ((List.range ops.size).all fun j => j == i || listed.getD j true || B.contains j || match ops[j]? with
    | some oj => oi.apart ops oj && (PV q oi.op oj.op && (!w || PT oi.op oj.op))
    | none => true)
def HX (q w : Bool) (md : Region.Mode) (ops : Array Oper) : List Nat -> Array Bool -> Bool
 | [], listed => (Region.ready md ops listed).isEmpty
 | i :: rest, listed => (match ops[i]? with
  | none => false
  | some oi => (Region.ready md ops listed == [i]) || ((Region.ready md ops listed).contains i && NO q w md ops listed i oi (Lf md ops listed i))) &&
  HX q w md ops rest (listed.setIfInBounds i true)
def F2 (P : Program) (AB : A2) (ops : Array Oper) (base : Nat) (K : St -> Prop) : List Nat -> St -> Prop
 | [], st => K st
 | i :: rest, st => match ops[i]? with
  | none => False
  | some o => match o.guard with
   | none => ∃ l e, B1 P AB (st.at (base + i)) o.op l e /\ F2 P AB ops base K rest (apS st (base + i) o l e)
   | some (j, want) => match D9 st ops j with
    | .p (.bool b) => (b = want -> ∃ l e, B1 P AB (st.at (base + i)) o.op l e /\ F2 P AB ops base K rest (apS st (base + i) o l e)) /\
      (b = !want -> F2 P AB ops base K rest (apS st (base + i) o .und .keep))
    | .und => F2 P AB ops base K rest (apS st (base + i) o .und .keep)
    | _ => False
section
variable {P : Program} {A : BD} {AB : A2} {md : Region.Mode} {ops : Array Oper} {base : Nat} {K : St -> Prop}
theorem Lg {i : Nat} {rest : List Nat} {st : St} (h : F2 P AB ops base K (i :: rest) st) :
  ∃ o l e, ops[i]? = some o /\ Ck P AB ops (st.at (base + i)) o l e /\ F2 P AB ops base K rest (apS st (base + i) o l e) := by
 simp only [F2] at h
 split at h
 .exact h.elim
 rename_i o ho
 split at h
 .rename_i hg
  obtain ⟨l, e, h1, h2⟩ := h
  exact ⟨o, l, e, ho, by unfold Ck; rw [hg]; exact h1, h2⟩
 rename_i j want hg
 have hgl : D9 (st.at (base + i)) ops j = D9 st ops j := rfl
 split at h
 .rename_i b hb
  by_cases e : b = want
  .obtain ⟨l, e', h1, h2⟩ := h.1 e
   exact ⟨o, l, e', ho, by unfold Ck; rw [hg]; simp only [hgl, hb]; rw [if_pos e]; exact h1, h2⟩
  exact ⟨o, .und, .keep, ho, by unfold Ck; rw [hg]; simp only [hgl, hb]; rw [if_neg e]; simp, h.2 (by cases b <;> cases want <;> simp_all)⟩
 .rename_i hb
  exact ⟨o, .und, .keep, ho, by unfold Ck; rw [hg]; simp [hgl, hb], h⟩
 exact h.elim
theorem MI (q : Bool) (hq : q = true -> ∃ b, AB.calm = some b) : ∀ (order : List Nat) (listed : Array Bool) (st : St), HX q AB.own md ops order listed = true -> (∀ k, listed.getD k true = false -> AJ (base + k) st.heap = none) ->
  F2 P AB ops base K order st -> HW P AB md ops base K order.length listed st
 | [], listed, st, hok, _, h => ⟨by simpa [HX] using hok, st, F1.refl st, h⟩
 | i :: rest, listed, st, hok, hfresh, h => by
  obtain ⟨o, l, e, ho, hd, hrest⟩ := Lg h
  simp only [HX, ho, Bool.and_eq_true, Bool.or_eq_true] at hok
  have hrec : HW P AB md ops base K rest.length (listed.setIfInBounds i true) (apS st (base + i) o l e) := by
   refine MI q hq rest _ _ hok.2 (fun k hk => ?_) hrest
   have hik : i ≠ k := by
    rintro rfl
    rcases Nat.lt_or_ge i listed.size with h' | h'
    .simp [h'] at hk
    simp [Array.getElem?_eq_none h'] at hk
   rw [Bj]
   exact KA hd (by simp only [St.at]; omega) (hfresh k (by rw [getD_set_ne true hik] at hk; exact hk))
  rcases hok.1 with h1 | h1
  .have hr : Region.ready md ops listed = [i] := by simpa using h1
   refine ⟨fun h0 => (by rw [hr] at h0; cases h0), fun j hj => ?_⟩
   rw [hr] at hj
   simp at hj
   subst hj
   exact ⟨o, l, e, ho, hd, hrec⟩
  obtain ⟨h1, h2⟩ := h1
  simp only [NO, Bool.and_eq_true, List.all_eq_true, List.mem_range] at h2
  obtain ⟨h2, h3⟩ := h2
  generalize hBe : Lf md ops listed i = B at h2 h3
  refine OW q hq ho (fun j => B.contains j) (fun j hj => ?_) rest.length listed st (fun j hj => ?_) (fun j oj hoj hji hun hBj => ?_) hfresh (by simpa using h1) hd hrec
  .have := h2 j (by simpa using hj)
   obtain ⟨⟨a1, a2⟩, a3⟩ := this
   refine ⟨by simpa using a1, fun oj hoj => ?_⟩
   rw [hoj] at a3
   obtain ⟨x, hx, hx2⟩ := Array.any_eq_true'.1 a3
   simp only [Bool.and_eq_true, Bool.or_eq_true, beq_iff_eq] at hx2
   exact ⟨x, hx, hx2.1, hx2.2⟩
  .have := (h2 j (by simpa using hj)).1.2
   simpa using this
  have := h3 j (Array.getElem?_eq_some_iff.1 hoj).1
  simp only [Bool.or_eq_true, beq_iff_eq, hji, false_or, hun, Bool.false_eq_true] at this
  rw [hBj] at this
  simp only [Bool.false_eq_true, false_or, hoj, Bool.and_eq_true] at this
  refine ⟨this.1, this.2.1, fun ho => ?_⟩
  have := this.2.2
  rw [ho] at this; simpa using this
theorem U0 {μ : Nat -> Option BV} {h h' : AT} (he : ∀ id, AJ id h = AJ id h') : Bt μ h = Bt μ h' := by
 funext b; simp only [Bt, he]
theorem RF.eqv {F : Nat -> Prop} {st st' : St} {a : Act} {w : World} (h : RF A F st a w) (he : F1 st st') : RF A F st' a w := by
 obtain ⟨⟨μ, hh, hs⟩, hnt, hdef⟩ := h
 have hm : Bt μ st.heap = Bt μ st'.heap := U0 he.heap
 have ho : Ae A μ st.heap = Ae A μ st'.heap := by funext b; simp only [Ae, hm]
 refine ⟨⟨μ, ⟨?_, ?_, hh.fresh, ?_, hh.size, hh.block, hh.os, hh.tape, hh.output, hh.ext⟩, fun t ht => ?_⟩, by rw [<- he.nt]; exact hnt, hdef⟩
 .rw [<- ho]; intro id o; rw [<- he.heap]; exact hh.obj id o
 .intro id id' o o' loc loc'; rw [<- he.heap, <- he.heap]; exact hh.inj id id' o o' loc loc'
 .intro id o loc; rw [<- he.heap]; exact hh.base id o loc
 rw [<- ho, <- he.slots]; exact hs t (by rw [he.nt]; exact ht)
def Fl (base n : Nat) (listed : Array Bool) (id : Nat) : Prop := base + n <= id \/ ∃ i, i < n /\ listed.getD i true = false /\ id = base + i
theorem I7 (hE : BB P AB) {n : Nat} (hn : n = ops.size) {Q' : Exit -> Act -> World -> Prop} (hQ : ∀ st a w listed, K st -> RF A (Fl base n listed) st a w -> Q' .normal a w) :
  ∀ (fuel : Nat) (listed : Array Bool) (st : St) (a : Act) (w : World), listed.size = n -> HW P AB md ops base K fuel listed st -> RF A (Fl base n listed) st a w -> wpAny P md ops Q' fuel listed a w
 | 0, listed, st, a, w, _, ⟨h1, st', he, hk⟩, hR => ⟨h1, hQ st' a w listed hk (hR.eqv he)⟩
 | fuel + 1, listed, st, a, w, hsz, ⟨h1, h2⟩, hR => by
  refine ⟨fun h0 => ?_, fun i hi => ?_⟩
  .obtain ⟨st', he, hk⟩ := h1 h0
   exact hQ st' a w listed hk (hR.eqv he)
  obtain ⟨o, l, e, ho, hd, hrec⟩ := h2 i hi
  have hun := (mem_ready.1 hi).1
  have hlt : i < n := by rw [hn]; exact (Array.getElem?_eq_some_iff.1 ho).1
  refine Q3 (st := st.at (base + i)) hE ho ⟨hR.ex, hR.nt, hR.defers⟩ (.inr ⟨i, hlt, hun, rfl⟩) hd fun a' w' hR' => ?_
  refine I7 hE hn hQ fuel _ _ _ _ (by simpa using hsz) hrec ?_
  have hR'' : RF A (fun id => Fl base n listed id /\ id ≠ base + i) (apS st (base + i) o l e) a' w' := by
   obtain ⟨⟨μ, x1, x2⟩, x3, x4⟩ := hR'
   refine ⟨⟨μ, ?_, fun t ht => ?_⟩, ?_, x4⟩
   .rw [Bj] at x1 ⊢; exact x1
   .have := x2 t (by rw [Gs] at ht ⊢; exact ht)
    rw [Bj, Cx] at this
    rw [Bj, Cx]; exact this
   rw [Gs] at x3 ⊢; exact x3
  obtain ⟨⟨μ, x1, x2⟩, x3, x4⟩ := hR''
  refine ⟨⟨μ, x1.less fun id hid => ?_, x2⟩, x3, x4⟩
  rcases hid with hid | ⟨k, hk1, hk2, rfl⟩
  .exact ⟨.inl hid, by omega⟩
  have hik : i ≠ k := by
   rintro rfl
   simp [show i < listed.size by omega] at hk2
  exact ⟨.inr ⟨k, hk1, by rw [getD_set_ne true hik] at hk2; exact hk2, rfl⟩, by omega⟩
theorem Ac.drawn {O : Nat -> Prop} {μ : Nat -> Option BV} {w : World} {v : Value} {l : LV} (n : Nat) (h : Ac O μ w v l) : Ac O μ { w with drawn := n } v l :=
 Ac.mono (w := w) (w' := { w with drawn := n }) ⟨Nat.le_refl _, fun _ _ _ => rfl⟩ (fun _ _ hb => hb) (fun _ _ h => h) h
theorem R.drawn {st : St} {a : Act} {w : World} (n : Nat) (h : R A st a w) : R A st a { w with drawn := n } := by
 obtain ⟨⟨μ, hh, hs⟩, hnt, hdef⟩ := h
 refine ⟨⟨μ, ⟨fun id o ho => ?_, hh.inj, hh.fresh, hh.base, hh.size, hh.block, hh.os, hh.tape, hh.output, hh.ext⟩, fun t ht => (hs t ht).drawn n⟩, hnt, hdef⟩
 obtain ⟨loc, h1, h2⟩ := hh.obj id o ho
 exact ⟨loc, h1, C7.mono (w := w) (w' := { w with drawn := n }) ⟨Nat.le_refl _, fun _ _ _ => rfl⟩ (fun _ _ hb => hb) (fun _ _ h => h) (fun _ => rfl) h2⟩
theorem Gd (q : Bool) (hq : q = true -> ∃ b, AB.calm = some b) (hE : BB P AB) (hm : P.follows .mixedOrders = true) {id : Nat} {l : List Oper} {order : List Nat} (hok : HX q AB.own .any l.toArray order (Array.replicate l.length false) = true)
  (hlen : order.length = l.length) {st : St} {Q : Exit -> St -> Prop} (h : F2 P AB l.toArray st.ctr (fun st' => Q .normal { st' with ctr := st.ctr + l.length }) order st) :
  Bw P A (.region id l.toArray true) Q st := fun a w hR => by
 refine wp_region_any hm ?_
 have hR' := (hR.drawn (w.drawn + 1)).toRF
 have hfr : ∀ k, AJ (st.ctr + k) st.heap = none := by
  intro k
  cases hx : AJ (st.ctr + k) st.heap with
  | none => rfl
  | some o =>
   obtain ⟨⟨μ, hh, _⟩, _, _⟩ := hR
   obtain ⟨loc, h1, _⟩ := hh.obj _ _ hx
   rw [hh.fresh _ (by simp [Fr])] at h1; cases h1
 have hD := MI q hq order (Array.replicate l.length false) st hok (fun k _ => hfr k) h
 have hsz : l.toArray.size = order.length := by simp [hlen]
 rw [hsz]
 have hrep : Array.replicate order.length false = Array.replicate l.length false := by rw [hlen]
 rw [hrep]
 refine I7 (A := A) (n := l.length) hE (by simp) (fun st' a' w' listed hk hR'' => ?_) order.length _ st a _ (by simp) hD ?_
 .refine ⟨_, ?_, hk⟩
  obtain ⟨⟨μ, x1, x2⟩, x3, x4⟩ := hR''
  exact ⟨⟨μ, x1.less fun id hid => .inl hid, x2⟩, x3, x4⟩
 obtain ⟨⟨μ, x1, x2⟩, x3, x4⟩ := hR'
 refine ⟨⟨μ, x1.less fun id hid => ?_, x2⟩, x3, x4⟩
 rcases hid with hid | ⟨k, _, _, rfl⟩
 .simp only [Fr]; omega
 simp [Fr]
end
end Go.E
/- Equality and keys of flat structs; operations in a short form, for the walk of a function. No condition. -/
namespace Go.E
open Go Go.RowKit
def FK : Option TypeDesc -> Sh -> Bool
 | some (.int j), .int j' => j == j'
 | some .string, .str => true
 | some .bool, .bool => true
 | _, _ => false
def Eo (P : Program) : List Field -> Nat -> List Sh -> Bool
 | [], _, [] => true
 | f :: fs, off, k :: ks => f.name != "_" && f.offset == off && FK (P.underlying f.type) k && Eo P fs (off + 1) ks
 | _, _, _ => false
section
variable {P : Program}
theorem I8 {t : TypeId} {k : Sh} (h : FK (P.underlying t) k = true) {xs : Array Value} {off : Nat} {v : Value} (hx : xs[off]? = some v) (w : World) : (part t xs off).run P w = .ok v w := by
 cases hu : P.underlying t with
 | none => rw [hu] at h; simp [FK] at h
 | some d =>
  rw [hu] at h
  cases d <;> simp [FK] at h <;> simp [part, isAgg, run_underlying hu, hx]
theorem PW {t : TypeId} {k : Sh} {a b : DV} (h : FK (P.underlying t) k = true) (ha : CR k a = true) (hb : CR k b = true) (d : Nat) (w : World) :
  (Op.equalIn (d + 1) t (flatV a) (flatV b)).run P w = .ok (DJ a b) w := by
 cases hu : P.underlying t with
 | none => rw [hu] at h; simp [FK] at h
 | some dd =>
  rw [hu] at h
  cases dd <;> cases k <;> simp [FK] at h <;> cases a <;> simp only [CR, Bool.false_eq_true] at ha <;> cases b <;> simp only [CR, Bool.false_eq_true] at hb
  .simp [flatV, DJ, Op.equalIn, run_underlying hu]
  .simp only [beq_iff_eq] at ha hb
   subst ha; subst hb
   simp [flatV, DJ, Op.equalIn, run_underlying hu]
  simp [flatV, DJ, Op.equalIn, run_underlying hu, beq_toListBytes]
theorem JE (d : Nat) (w : World) (xs ys : List DV) : ∀ (fs : List Field) (off : Nat) (ks : List Sh) (xa bs : List DV), Eo P fs off ks = true -> xs.drop off = xa -> ys.drop off = bs -> fits ks xa = true -> fits ks bs = true ->
  (Op.eqFields (d + 1) (xs.map flatV).toArray (ys.map flatV).toArray fs).run P w = .ok (B2 xa bs) w
 | [], off, [], [], [], _, _, _, _, _ => by simp [Op.eqFields, B2]
 | f :: fs, off, k :: ks, a :: xa, b :: bs, hB, hx, hy, ha, hb => by
  simp only [Eo, Bool.and_eq_true, bne_iff_ne, ne_eq, beq_iff_eq] at hB
  simp only [fits, Bool.and_eq_true] at ha hb
  obtain ⟨⟨⟨h1, h2⟩, h3⟩, h4⟩ := hB
  have ex : xs[off]? = some a := by
   have := congrArg List.head? hx
   rw [List.head?_drop] at this; exact this
  have ey : ys[off]? = some b := by
   have := congrArg List.head? hy
   rw [List.head?_drop] at this; exact this
  have hx' : xs.drop (off + 1) = xa := by rw [<- List.tail_drop, hx]; rfl
  have hy' : ys.drop (off + 1) = bs := by rw [<- List.tail_drop, hy]; rfl
  have ih := JE d w xs ys fs (off + 1) ks xa bs h4 hx' hy' ha.2 hb.2
  have px := I8 (w := w) h3 (xs := (xs.map flatV).toArray) (off := off) (v := flatV a) (by simp [ex])
  have py := I8 (w := w) h3 (xs := (ys.map flatV).toArray) (off := off) (v := flatV b) (by simp [ey])
  have pe := PW h3 ha.1 hb.1 d w
  simp only [Op.eqFields, h1, h2, ne_eq, not_false_eq_true, if_true, Sem.run_bind, px, py, pe, Result.andThen_ok, B2]
  cases DJ a b with
  | true => simpa using ih
  | false => simp
 | [], _, _ :: _, _, _, hB, _, _, _, _ => by simp [Eo] at hB
 | _ :: _, _, [], _, _, hB, _, _, _, _ => by simp [Eo] at hB
 | [], _, [], _ :: _, _, _, _, _, ha, _ => by simp [fits] at ha
 | [], _, [], [], _ :: _, _, _, _, _, hb => by simp [fits] at hb
 | _ :: _, _, _ :: _, [], _, _, _, _, ha, _ => by simp [fits] at ha
 | _ :: _, _, _ :: _, _ :: _, [], _, _, _, _, hb => by simp [fits] at hb
theorem Mf {t : TypeId} {ks : List Sh} (hu : P.underlying t = some (.struct (P.fieldsOf t))) (hp : P.stoodInHeld t = false) (hg : P.eqGuardType P.depth t = false)
  (hf : Eo P (P.fieldsOf t).toList 0 ks = true) : N1 P t ks :=
 ⟨hg, fun w ds es h1 h2 => by
  show (Op.equalIn (9999 + 1) t _ _).run P w = _
  rw [run_equalIn_struct w 9999 t _ _ hu hp]
  exact JE 9998 w ds es _ 0 ks ds es hf rfl rfl h1 h2⟩
theorem JY (em : Bool) (d : Nat) (w : World) (xs : List DV) : ∀ (fs : List Field) (off : Nat) (ks : List Sh) (xa : List DV), Eo P fs off ks = true -> xs.drop off = xa -> fits ks xa = true ->
  (forIn fs PUnit.unit fun f (_ : PUnit) => (do
   if f.name ≠ "_" then Instr.checkKey em (d + 1) f.type (<- part f.type (xs.map flatV).toArray f.offset)
   pure (ForInStep.yield PUnit.unit) : Sem (ForInStep PUnit))).run P w = .ok PUnit.unit w
 | [], off, [], [], _, _, _ => by simp
 | f :: fs, off, k :: ks, a :: xa, hB, hx, ha => by
  simp only [Eo, Bool.and_eq_true, bne_iff_ne, ne_eq, beq_iff_eq] at hB
  simp only [fits, Bool.and_eq_true] at ha
  obtain ⟨⟨⟨h1, h2⟩, h3⟩, h4⟩ := hB
  have ex : xs[off]? = some a := by
   have := congrArg List.head? hx
   rw [List.head?_drop] at this; exact this
  have hx' : xs.drop (off + 1) = xa := by rw [<- List.tail_drop, hx]; rfl
  have ih := JY em d w xs fs (off + 1) ks xa h4 hx' ha.2
  have px := I8 (w := w) h3 (xs := (xs.map flatV).toArray) (off := off) (v := flatV a) (by simp [ex])
  have pc : (Instr.checkKey em (d + 1) f.type (flatV a)).run P w = .ok () w := by
   cases hu : P.underlying f.type with
   | none => rw [hu] at h3; simp [FK] at h3
   | some dd =>
    rw [hu] at h3
    cases dd <;> simp [FK] at h3 <;> simp [Instr.checkKey, run_underlying hu]
  simp only [List.forIn_cons, Sem.run_bind, h1, ne_eq, not_false_eq_true, if_true, h2, px, pc, Result.andThen_ok, Sem.run_pure]
  exact ih
 | [], _, _ :: _, _, hB, _, _ => by simp [Eo] at hB
 | _ :: _, _, [], _, hB, _, _ => by simp [Eo] at hB
 | [], _, [], _ :: _, _, _, ha => by simp [fits] at ha
 | _ :: _, _, _ :: _, [], _, _, ha => by simp [fits] at ha
theorem TK {t : TypeId} {ks : List Sh} (hu : P.underlying t = some (.struct (P.fieldsOf t))) (he : N1 P t ks) (hf : Eo P (P.fieldsOf t).toList 0 ks = true) : OX P t ks := by
 refine ⟨he, by rw [hu]; trivial, fun em w ds h => ?_⟩
 show (Instr.checkKey em (9999 + 1) t _).run P w = _
 unfold Instr.checkKey
 simp only [Sem.run_bind, run_underlying hu, Result.andThen_ok]
 have := JY (P := P) em 9998 w ds (P.fieldsOf t).toList 0 ks ds hf rfl h
 simp only [Array.forIn_toList] at this
 simp at this ⊢
 rw [this]; rfl
end
def St.keep (ts : List Nat) (st : St) : St := { st with slots := ts.map fun t => (t, BU st.slots t) }
theorem Pz {st : St} {t : Nat} : ∀ (ts : List Nat), AJ t (ts.map fun t => (t, BU st.slots t)) = if t ∈ ts then some (BU st.slots t) else none
 | [] => by simp [AJ]
 | u :: ts => by
  simp only [List.map_cons, AJ]
  by_cases e : t = u
  .subst e; simp
  rw [if_neg e, Pz ts]; simp [e]
theorem R.keep {A : BD} {st : St} {a : Act} {w : World} (ts : List Nat) (h : R A st a w) : R A (st.keep ts) a w := by
 obtain ⟨⟨μ, hh, hs⟩, hnt, hdef⟩ := h
 refine ⟨⟨μ, hh, fun t ht => ?_⟩, hnt, hdef⟩
 have : BU (st.keep ts).slots t = if t ∈ ts then BU st.slots t else .any := by
  show (match AJ t (ts.map fun t => (t, BU st.slots t)) with | some v => v | none => LV.any) = _
  rw [Pz]
  by_cases e : t ∈ ts <;> simp [e]
 rw [this]
 split
 .exact hs t ht
 exact .any _
end Go.E
/- The walk of a function: operations in a short form (Ep), rules for the parts of a body, states made weaker (A4). No condition. -/
namespace Go.E
open Go Go.RowKit
structure Gu where
 dst : Option Tmp
 op : Op
 g : Option (Option Tmp × Bool)
def TM (ops : List Oper) (j : Nat) : Option Tmp :=
 match ops[j]? with
 | some o => o.dst
 | none => none
def Mg (ops : List Oper) (o : Oper) : Gu :=
 ⟨o.dst, o.op, match o.guard with
  | none => none
  | some (j, w) => some (TM ops j, w)⟩
structure H6 {α : Sort _} (a : α) : Type where
structure Az (α : Type) where
 f : α -> Prop
 h : H6 f
def B6 {α : Type} (o : Option α) (k : Az α) : Prop :=
 match o with
 | some a => k.f a
 | none => False
def Qk (x : LV) (k : Az Bool) : Prop :=
 match x with
 | .p (.bool b) => k.f b
 | _ => False
def Lh (x : LV) (k : Az (IntKind × Int)) : Prop :=
 match x with
 | .p (.int kk n) => k.f (kk, n)
 | _ => False
def Q5 (x : LV) (k : Az DV) : Prop :=
 match x with
 | .p d => k.f d
 | _ => False
def Kd (s : Sh) (k : Az Nat) : Prop :=
 match s with
 | .slc e => k.f e
 | _ => False
def NR (s : Sh) (k : Az (List (Nat × Nat))) : Prop :=
 match s with
 | .struct fs => k.f fs
 | _ => False
def Sc (s : Sh) (k : Az (Nat × Nat)) : Prop :=
 match s with
 | .mp a b => k.f (a, b)
 | _ => False
def CT (AB : A2) (t : Nat) (k : Az TI) : Prop := B6 (AB.tt t) k
def U1 (x : LV) (k : Az LV) : Prop :=
 match x with
 | .lpb i o => k.f (.lpb i o)
 | .lpe i j o => k.f (.lpe i j o)
 | .p (.place l o) => k.f (.p (.place l o))
 | _ => False
def K3 (op : BinOp) (kk : IntKind) (a b : Int) (k : Az LV) : Prop :=
 match op with
 | .quo | .rem => b ≠ 0 /\ B6 (HY op kk a b) ⟨fun v => k.f (.p v), ⟨⟩⟩
 | _ => B6 (HY op kk a b) ⟨fun v => k.f (.p v), ⟨⟩⟩
def UG (neg : Bool) (empty : Prop) (k : Az LV) : Prop := ∀ r, (¬ empty -> r = false) -> k.f (HZ neg r)
def Sd (AB : A2) (neg : Bool) (t : Nat) (x y : LV) (k : Az LV) : Prop :=
 match x, y with
 | .p (.str a), .p (.str b) => k.f (HZ neg (a.toList == b.toList))
 | .p (.bool a), .p (.bool b) => CT AB t ⟨fun ti => ti.sh = .bool /\ k.f (HZ neg (a == b)), ⟨⟩⟩
 | .p (.agg xs), .p (.agg ys) => B6 (AB.eqk t) ⟨fun ks => fits ks xs = true /\ fits ks ys = true /\ k.f (HZ neg (B2 xs ys)), ⟨⟩⟩
 | .p (.slice _ l), .p .nils => CT AB t ⟨fun ti => Kd ti.sh ⟨fun _ => UG neg (l = []) k, ⟨⟩⟩, ⟨⟩⟩
 | .p .nils, .p .nils => CT AB t ⟨fun ti => Kd ti.sh ⟨fun _ => k.f (HZ neg true), ⟨⟩⟩, ⟨⟩⟩
 | .lsl _ _ _ len, .p .nils => CT AB t ⟨fun ti => Kd ti.sh ⟨fun _ => UG neg (len = 0) k, ⟨⟩⟩, ⟨⟩⟩
 | .p (.place _ _), .p .nilp => AB.ptr t = true /\ k.f (HZ neg false)
 | .p .nilp, .p .nilp => AB.ptr t = true /\ k.f (HZ neg true)
 | .lpb _ _, .p .nilp => AB.ptr t = true /\ k.f (HZ neg false)
 | _, _ => False
def N2 (AB : A2) (op : BinOp) (t : Nat) (x y : LV) (k : Az LV) : Prop :=
 match x, y with
 | .p (.int k1 a), .p (.int k2 b) => k1 = k2 /\ K3 op k1 a b k
 | x, y => match op with
  | .eql => Sd AB false t x y k
  | .neq => Sd AB true t x y k
  | _ => False
def U2 (x : LV) (i : Nat) (k : Az LV) : Prop :=
 match x with
 | .tup l => B6 l[i]? k
 | .p (.tup l) => B6 l[i]? ⟨fun v => k.f (.p v), ⟨⟩⟩
 | _ => False
def U3 (x : LV) (k : Az (List LV)) : Prop :=
 match x with
 | .agg l => k.f l
 | .p (.agg l) => k.f (l.map .p)
 | _ => False
def TN (off : Nat) (x : LV) (k : Az LV) : Prop :=
 match x with
 | .lpb id o => k.f (.lpb id (o + off))
 | .lpe id j o => k.f (.lpe id j (o + off))
 | .p (.place l o) => k.f (.p (.place l (o + off)))
 | _ => False
def JZ (AB : A2) (place : Nat -> Option (Nat × Nat)) : List LV -> List (Nat × LV) -> Az (List LV) -> Prop
 | cells, [], k => k.f cells
 | cells, (i, v) :: rest, k => B6 (place i) ⟨fun p => CT AB p.2 ⟨fun ti => B6 v.cells ⟨fun ls => (ls.length = ti.size /\ p.1 + ls.length <= cells.length) /\
   JZ AB place (CL cells p.1 ls) rest k, ⟨⟩⟩, ⟨⟩⟩, ⟨⟩⟩
def Mh (AB : A2) (sh : Sh) (zero : List LV) (ps : List (Nat × LV)) (k : Az (List LV)) : Prop :=
 match sh with
 | .struct fs => (fs.all fun p => (AB.tt p.2).isSome) = true /\ JZ AB (fun i => fs[i]?) zero ps k
 | .arr _ e => CT AB e ⟨fun te => JZ AB (fun i => some (i * te.size, e)) zero ps k, ⟨⟩⟩
 | _ => False
def Wb (AB : A2) (sh : Sh) (x : LV) (n : Int) (k : Az LV) : Prop :=
 match sh, x with
 | .slc e, .p (.slice sz l) => CT AB e ⟨fun te => te.size = sz /\ 0 <= n /\ B6 l[n.toNat]? ⟨fun c => k.f (.p (.place c 0)), ⟨⟩⟩, ⟨⟩⟩
 | .slc e, .lsl id sz off len => CT AB e ⟨fun te => te.size = sz /\ (0 <= n /\ n < len) /\ k.f (.lpe id (off + n.toNat) 0), ⟨⟩⟩
 | .arr m e, .lpb id o => CT AB e ⟨fun te => (0 <= n /\ n < m) /\ k.f (.lpb id (o + n.toNat * te.size)), ⟨⟩⟩
 | .arr m e, .p (.place l o) => CT AB e ⟨fun te => (0 <= n /\ n < m) /\ k.f (.p (.place l (o + n.toNat * te.size))), ⟨⟩⟩
 | _, _ => False
def Wc (AB : A2) (sh : Sh) (x : LV) (n : Int) (k : Az LV) : Prop :=
 match sh, x with
 | .arr m e, .agg l => CT AB e ⟨fun te => n < m /\ B6 (Cj te (n.toNat * te.size) l) k, ⟨⟩⟩
 | .arr m e, .p (.agg l) => CT AB e ⟨fun te => n < m /\ B6 (Cj te (n.toNat * te.size) (l.map .p)) k, ⟨⟩⟩
 | .str, .p (.str s) => B6 s[n.toNat]? ⟨fun c => k.f (.p (.int .u8 c.toNat)), ⟨⟩⟩
 | _, _ => False
def Ja (dflt : Int) (x : Option LV) (k : Az Int) : Prop :=
 match x with
 | none => k.f dflt
 | some (.p (.int _ n)) => k.f n
 | some _ => False
def Jb (AB : A2) (t : Nat) (x : LV) (lo hi : Option LV) (k : Az LV) : Prop :=
 match x with
 | .p (.slice sz l) => CT AB t ⟨fun ti => Kd ti.sh ⟨fun e => CT AB e ⟨fun te => te.size = sz /\ Ja l.length hi ⟨fun h => Ja 0 lo ⟨fun lw => (0 <= lw /\ lw <= h /\ h <= l.length) /\ k.f (.p (.slice sz ((l.take h.toNat).drop lw.toNat))), ⟨⟩⟩, ⟨⟩⟩, ⟨⟩⟩, ⟨⟩⟩, ⟨⟩⟩
 | .lsl id sz off len => CT AB t ⟨fun ti => Kd ti.sh ⟨fun e => CT AB e ⟨fun te => te.size = sz /\ len ≠ 0 /\ Ja len hi ⟨fun h => Ja 0 lo ⟨fun lw => (0 <= lw /\ lw <= h /\ h <= len) /\ k.f (.lsl id sz (off + lw.toNat) (h - lw).toNat), ⟨⟩⟩, ⟨⟩⟩, ⟨⟩⟩, ⟨⟩⟩, ⟨⟩⟩
 | .p (.str s) => CT AB t ⟨fun ti => ti.sh = .str /\ Ja s.size hi ⟨fun h => Ja 0 lo ⟨fun lw => (0 <= lw /\ lw <= h /\ h <= s.size) /\ k.f (.p (.str (s.extract lw.toNat h.toNat))), ⟨⟩⟩, ⟨⟩⟩, ⟨⟩⟩
 | _ => False
def U4 (sh : Sh) (x : LV) (k : Az LV) : Prop :=
 match sh, x with
 | .arr n _, _ => k.f (.p (.int .i64 n))
 | .slc _, .p (.slice _ l) => l.length <= maxLen -> k.f (.p (.int .i64 l.length))
 | .slc _, .p .nils => k.f (.p (.int .i64 0))
 | .slc _, .lsl _ _ _ len => k.f (.p (.int .i64 len))
 | .str, .p (.str s) => k.f (.p (.int .i64 s.size))
 | _, _ => False
def TO (o : A8) (k : Az (List LV)) : Prop :=
 match o with
 | .box cells => k.f cells
 | _ => False
def Q6 (o : A8) (k : Az (Nat × Nat × List (List DV))) : Prop :=
 match o with
 | .row e sz l => k.f (e, sz, l)
 | _ => False
def Q7 (o : A8) (k : Az (List (DV × DV))) : Prop :=
 match o with
 | .map m => k.f m
 | _ => False
def OZ (h : AT) (ti : TI) (p : LV) (k : Az LV) : Prop :=
 match p with
 | .p (.place l off) => B6 (Cj ti off (l.map .p)) k
 | .lpb id off => B6 (AJ id h) ⟨fun o => TO o ⟨fun cells => B6 (Cj ti off cells) k, ⟨⟩⟩, ⟨⟩⟩
 | .lpe id i off => B6 (AJ id h) ⟨fun o => Q6 o ⟨fun r => B6 r.2.2[i]? ⟨fun x => B6 (Cj ti off (x.map .p)) k, ⟨⟩⟩, ⟨⟩⟩, ⟨⟩⟩
 | _ => False
def Q8 (h : AT) (ti : TI) (p : LV) (ls : List LV) (k : Az AT) : Prop :=
 match p with
 | .lpb id off => B6 (AJ id h) ⟨fun o => TO o ⟨fun cells => off + ls.length <= cells.length /\ k.f (Be id (.box (CL cells off ls)) h), ⟨⟩⟩, ⟨⟩⟩
 | .lpe id i off => B6 (AJ id h) ⟨fun o => Q6 o ⟨fun r => B6 r.2.2[i]? ⟨fun x => B6 (GF ls) ⟨fun ds => off + ls.length <= x.length /\ k.f (Be id (.row r.1 r.2.1 (r.2.2.set i (CL x off ds))) h), ⟨⟩⟩, ⟨⟩⟩, ⟨⟩⟩, ⟨⟩⟩
 | _ => False
def St.go (st : St) (dst : Option Tmp) (l : LV) (h : AT) (c : Nat) : St := ({ st with heap := h, ctr := c } : St).put dst l
def TP (st : St) (dst : Option Tmp) (e : Nat) (te : TI) (s : LV) (new : List (List DV)) (K : Az St) : Prop :=
  match s with
  | .p .nils => (new.length * te.bytes <= 140737488355328 /\ new.length <= maxLen) /\ K.f (st.go dst (.lsl st.ctr te.size 0 new.length) ((st.ctr, .row e te.size new) :: st.heap) (st.ctr + 1))
  | .lsl id sz off len => sz = te.size /\ B6 (AJ id st.heap) ⟨fun o => Q6 o ⟨fun r => (r.1 = e /\ r.2.1 = te.size /\ off + len <= r.2.2.length /\
        (len + new.length) * te.bytes <= 140737488355328 /\ len + new.length <= maxLen) /\ K.f (st.go dst (.lsl st.ctr te.size 0 (len + new.length)) ((st.ctr, .row e te.size ((r.2.2.drop off).take len ++ new)) :: HU id st.heap) (st.ctr + 1)), ⟨⟩⟩, ⟨⟩⟩
  | _ => False
def Oa (x : LV) (k : Az Nat) : Prop :=
 match x with
 | .lmap id => k.f id
 | _ => False
def Mi (x : LV) (k : Az (FuncId × List LV)) : Prop :=
 match x with
 | .fn f caps => k.f (f, caps)
 | _ => False
def KB (P : Program) (A : BD) (h : AT) (ctr k : Nat) (args : List LV) (K : Az (LV × AT × Nat)) : Prop := Dh P A h ctr k args fun l h c => K.f (l, h, c)
def Ob (P : Program) (A : BD) (AB : A2) (st : St) (dst : Option Tmp) (c : Call) (K : Az St) : Prop :=
 match c.callee, c.args.toList, c.argTypes.toList with
 | .value f, args, _ => Mi (st.eval f) ⟨fun g => KB P A st.heap st.ctr g.1 (args.map st.eval ++ g.2) ⟨fun r => K.f (st.go dst r.1 r.2.1 r.2.2), ⟨⟩⟩, ⟨⟩⟩
 | .builtin .append, [s, x], [t, t'] => t' = t /\ CT AB t ⟨fun ti => Kd ti.sh ⟨fun e => CT AB e ⟨fun te => 0 < te.size /\ B6 (J8 st.heap (st.eval x)) ⟨fun new =>
   (∀ y ∈ new, y.length = te.size /\ y.all DV.cell = true) /\ TP st dst e te (st.eval s) new K, ⟨⟩⟩, ⟨⟩⟩, ⟨⟩⟩, ⟨⟩⟩
 | .builtin .len, [x], [t] => CT AB t ⟨fun ti => U4 ti.sh (st.eval x) ⟨fun l => K.f (st.put dst l), ⟨⟩⟩, ⟨⟩⟩
 | .builtin .max, args, _ => B6 (Bk (fun x y => if y > x then y else x) (args.map st.eval)) ⟨fun r => K.f (st.put dst (.p (.int r.1 r.2))), ⟨⟩⟩
 | .builtin .min, args, _ => B6 (Bk (fun x y => if y < x then y else x) (args.map st.eval)) ⟨fun r => K.f (st.put dst (.p (.int r.1 r.2))), ⟨⟩⟩
 | _, _, _ => False
def TQ : Sh -> Option IntKind
 | .int k => some k
 | _ => none
def Wd (l : LV) (k : Az (List (DV × DV))) : Prop := match l with
 | .p .nilm => k.f []
 | .p (.map m) => k.f m
 | _ => False
def Wf (h : AT) (l : LV) (k0 : Unit -> Prop) (k : Nat -> List (DV × DV) -> Nat -> DV × DV -> Prop) : Prop := match l with
 | .lpb id 0 => match AJ id h with
  | some (.iter _ left) => (left = [] -> k0 ()) /\ ∀ j p, left[j]? = some p -> k id left j p
  | _ => False
 | _ => False
def Wg (h : AT) (l : LV) (k : Nat -> DV × DV -> List (DV × DV) -> Prop) : Prop := match l with
 | .lpb id 0 => match AJ id h with
  | some (.iter (some p) left) => k id p left
  | _ => False
 | _ => False
def BC (P : Program) (A : BD) (AB : A2) (st : St) (dst : Option Tmp) (op : Op) (K : Az St) : Prop :=
 match op with
 | .move x | .assign x => K.f (st.put dst (st.eval x))
 | .pick c a b => Qk (st.eval c) ⟨fun t => K.f (st.put dst (if t then st.eval a else st.eval b)), ⟨⟩⟩
 | .nilCheck x => U1 (st.eval x) ⟨fun l => K.f (st.put dst l), ⟨⟩⟩
 | .binOp op t x y _ => N2 AB op t (st.eval x) (st.eval y) ⟨fun l => K.f (st.put dst l), ⟨⟩⟩
 | .unOp .neg _ x => Lh (st.eval x) ⟨fun n => K.f (st.put dst (.p (.int n.1 (n.1.wrap (0 - n.2))))), ⟨⟩⟩
 | .unOp .not _ x => Qk (st.eval x) ⟨fun b => K.f (st.put dst (.p (.bool !b))), ⟨⟩⟩
 | .convert s d x => Lh (st.eval x) ⟨fun n => CT AB s ⟨fun _ => CT AB d ⟨fun ti => B6 (TQ ti.sh) ⟨fun kd => K.f (st.put dst (.p (.int kd (kd.wrap n.2)))), ⟨⟩⟩, ⟨⟩⟩, ⟨⟩⟩, ⟨⟩⟩
 | .extract t i => U2 (st.eval t) i ⟨fun l => K.f (st.put dst l), ⟨⟩⟩
 | .field t x i => CT AB t ⟨fun ti => NR ti.sh ⟨fun fs => B6 fs[i]? ⟨fun f => CT AB f.2 ⟨fun tf => U3 (st.eval x) ⟨fun ls => B6 (Cj tf f.1 ls) ⟨fun l => K.f (st.put dst l), ⟨⟩⟩, ⟨⟩⟩, ⟨⟩⟩, ⟨⟩⟩, ⟨⟩⟩, ⟨⟩⟩
 | .build t ps => CT AB t ⟨fun ti => Mh AB ti.sh (ti.zero.map .p) (ps.toList.map fun p => (p.1, st.eval p.2)) ⟨fun cells => K.f (st.put dst (Ei cells)), ⟨⟩⟩, ⟨⟩⟩
 | .fieldAddr t x i => CT AB t ⟨fun ti => NR ti.sh ⟨fun fs => B6 fs[i]? ⟨fun f => CT AB f.2 ⟨fun tf => tf.size ≠ 0 /\ TN f.1 (st.eval x) ⟨fun l => K.f (st.put dst l), ⟨⟩⟩, ⟨⟩⟩, ⟨⟩⟩, ⟨⟩⟩, ⟨⟩⟩
 | .indexAddr t x i => Lh (st.eval i) ⟨fun n => CT AB t ⟨fun ti => Wb AB ti.sh (st.eval x) n.2 ⟨fun l => K.f (st.put dst l), ⟨⟩⟩, ⟨⟩⟩, ⟨⟩⟩
 | .index t x i => Lh (st.eval i) ⟨fun n => CT AB t ⟨fun ti => 0 <= n.2 /\ Wc AB ti.sh (st.eval x) n.2 ⟨fun l => K.f (st.put dst l), ⟨⟩⟩, ⟨⟩⟩, ⟨⟩⟩
 | .makeFunc (.func f) first caps => first.toList = [] /\ K.f (st.put dst (.fn f (caps.toList.map st.eval)))
 | .slice t x lo hi none => Jb AB t (st.eval x) (lo.map st.eval) (hi.map st.eval) ⟨fun l => K.f (st.put dst l), ⟨⟩⟩
 | .load t x => CT AB t ⟨fun ti => OZ st.heap ti (st.eval x) ⟨fun l => K.f (st.put dst l), ⟨⟩⟩, ⟨⟩⟩
 | .store t x v => CT AB t ⟨fun ti => B6 (st.eval v).cells ⟨fun ls => (ls.length = ti.size /\ ls.all LV.one = true) /\ Q8 st.heap ti (st.eval x) ls ⟨fun h => K.f (st.go dst .any h st.ctr), ⟨⟩⟩, ⟨⟩⟩, ⟨⟩⟩
 | .alloc t => CT AB t ⟨fun ti => K.f (st.go dst (.lpb st.ctr 0) ((st.ctr, .box (ti.zero.map .p)) :: st.heap) (st.ctr + 1)), ⟨⟩⟩
 | .box _ x => B6 (st.eval x).cells ⟨fun ls => K.f (st.go dst (.lpb st.ctr 0) ((st.ctr, .box ls) :: st.heap) (st.ctr + 1)), ⟨⟩⟩
 | .buildSlice t n ps => CT AB t ⟨fun ti => Kd ti.sh ⟨fun e => CT AB e ⟨fun te => (0 < te.size /\ n * te.size <= 16777216) /\ B6 (F9 te.size 0 (ps.toList.map fun p => (p.1, st.eval p.2))) ⟨fun l =>
   l.length = n /\ (K.f (st.go dst (.lsl st.ctr te.size 0 n) ((st.ctr, .row e te.size l) :: st.heap) (st.ctr + 1)) \/ K.f (st.put dst (.p (.slice te.size l)))), ⟨⟩⟩, ⟨⟩⟩, ⟨⟩⟩, ⟨⟩⟩
 | .makeSlice t l c => CT AB t ⟨fun ti => Kd ti.sh ⟨fun e => CT AB e ⟨fun te => Lh (st.eval l) ⟨fun n => Lh (st.eval c) ⟨fun n' => (n'.2 = n.2 /\ 0 <= n.2 /\ te.bytes * n.2.toNat <= 281474976710656 /\ n.2.toNat <= maxLen) /\
   (K.f (st.go dst (.lsl st.ctr te.size 0 n.2.toNat) ((st.ctr, .row e te.size (List.replicate n.2.toNat te.zero)) :: st.heap) (st.ctr + 1)) \/ K.f (st.put dst (.p (.slice te.size (List.replicate n.2.toNat te.zero))))), ⟨⟩⟩, ⟨⟩⟩, ⟨⟩⟩, ⟨⟩⟩, ⟨⟩⟩
 | .makeMap _ none => K.f (st.go dst (.lmap st.ctr) ((st.ctr, .map []) :: st.heap) (st.ctr + 1))
 | .lookup t x i ok => CT AB t ⟨fun ti => Sc ti.sh ⟨fun m => CT AB m.2 ⟨fun te => B6 (JH st.heap (st.eval x)) ⟨fun l => Q5 (st.eval i) ⟨fun kd => (Bn AB m.1 kd = true /\ (l.all fun p => Bn AB m.1 p.1) = true) /\
   K.f (st.put dst (if ok then .tup [.p ((Er kd l).getD te.zeroDV), .p (.bool (Er kd l).isSome)] else .p ((Er kd l).getD te.zeroDV))), ⟨⟩⟩, ⟨⟩⟩, ⟨⟩⟩, ⟨⟩⟩, ⟨⟩⟩
 | .mapUpdate t x i v => CT AB t ⟨fun ti => Sc ti.sh ⟨fun m => Oa (st.eval x) ⟨fun id => B6 (AJ id st.heap) ⟨fun o => Q7 o ⟨fun l => Q5 (st.eval i) ⟨fun kd => Q5 (st.eval v) ⟨fun vd =>
   (Bn AB m.1 kd = true /\ (l.all fun p => Bn AB m.1 p.1) = true) /\ K.f (st.go dst .any (Be id (.map (Kc kd vd l)) st.heap) st.ctr), ⟨⟩⟩, ⟨⟩⟩, ⟨⟩⟩, ⟨⟩⟩, ⟨⟩⟩, ⟨⟩⟩, ⟨⟩⟩
 | .mapEntry t x i => CT AB t ⟨fun ti => Sc ti.sh ⟨fun m => CT AB m.2 ⟨fun te => Oa (st.eval x) ⟨fun id => B6 (AJ id st.heap) ⟨fun o => Q7 o ⟨fun l => Q5 (st.eval i) ⟨fun kd =>
   (Bn AB m.1 kd = true /\ (l.all fun p => Bn AB m.1 p.1) = true) /\
   K.f (st.go dst (.tup [.p ((Er kd l).getD te.zeroDV), .p (.int .i64 (((C3 kd l).map (·.1)).getD l.length))]) (match C3 kd l with
    | some _ => st.heap
    | none => Be id (.map (l ++ [(kd, te.zeroDV)])) st.heap) st.ctr), ⟨⟩⟩, ⟨⟩⟩, ⟨⟩⟩, ⟨⟩⟩, ⟨⟩⟩, ⟨⟩⟩, ⟨⟩⟩
 | .entryStore _ x s v => Oa (st.eval x) ⟨fun id => B6 (AJ id st.heap) ⟨fun o => Q7 o ⟨fun m => Lh (st.eval s) ⟨fun n => Q5 (st.eval v) ⟨fun vd => 0 <= n.2 /\ B6 m[n.2.toNat]? ⟨fun p =>
   K.f (st.go dst .any (Be id (.map (m.set n.2.toNat (p.1, vd))) st.heap) st.ctr), ⟨⟩⟩, ⟨⟩⟩, ⟨⟩⟩, ⟨⟩⟩, ⟨⟩⟩, ⟨⟩⟩
 | .range t x => CT AB t ⟨fun ti => Sc ti.sh ⟨fun _ => Wd (st.eval x) ⟨fun m => K.f (st.go dst (.lpb st.ctr 0) ((st.ctr, .iter none m) :: st.heap) (st.ctr + 1)), ⟨⟩⟩, ⟨⟩⟩, ⟨⟩⟩
 | .next x false => Wf st.heap (st.eval x) (fun _ => K.f (st.go dst (.tup [.p (.bool false)]) st.heap st.ctr)) fun id left j p => ∃ cur', (cur' = none \/ cur' = some p) /\ K.f (st.go dst (.tup [.p (.bool true), .p p.1, .p p.2]) (Be id (.iter cur' (left.eraseIdx j)) st.heap) st.ctr)
 | .entry x => Wg st.heap (st.eval x) fun id p left => K.f (st.go dst (.tup [.p p.1, .p p.2]) (Be id (.iter none left) st.heap) st.ctr)
 | .call c => Ob P A AB st dst c K
 | _ => False
def gW (b want : Bool) (X Y : Az Unit) : Prop := (b = want -> X.f ()) /\ (b = !want -> Y.f ())
def gM (v : LV) (want : Bool) (X Y : Az Unit) : Prop :=
 match v with
 | .p (.bool b) => gW b want X Y
 | .und => Y.f ()
 | _ => False
def Fe (st : St) (d : Option Tmp) : LV :=
 match d with
 | some t => st.eval (.tmp t)
 | none => .any
structure Wh (K : Az St) (st : St) : Prop where
 h : K.f st
def Ep (P : Program) (A : BD) (AB : A2) (K : Az St) : List Gu -> St -> Prop
 | [], st => Wh K st
 | ⟨dst, op, none⟩ :: rest, st => BC P A AB st dst op ⟨Ep P A AB K rest, ⟨⟩⟩
 | ⟨dst, op, some (d, want)⟩ :: rest, st => gM (Fe st d) want ⟨fun _ => BC P A AB st dst op ⟨Ep P A AB K rest, ⟨⟩⟩, ⟨⟩⟩ ⟨fun _ => Ep P A AB K rest (st.put dst .und), ⟨⟩⟩
section
variable {P : Program} {A : BD} {AB : A2}
theorem AN {α : Type} {o : Option α} {k : Az α} : B6 o k ↔ ∃ a, o = some a /\ k.f a := by cases o <;> simp [B6]
theorem AP {t : Nat} {k : Az TI} : CT AB t k ↔ ∃ a, AB.tt t = some a /\ k.f a := AN
theorem KC {x : LV} {k : Az Bool} : Qk x k ↔ ∃ b, x = .p (.bool b) /\ k.f b := by
 unfold Qk; split <;> simp_all
theorem B3 {x : LV} {k : Az (IntKind × Int)} : Lh x k ↔ ∃ kk n, x = .p (.int kk n) /\ k.f (kk, n) := by
 unfold Lh; split
 .exact ⟨fun h => ⟨_, _, rfl, h⟩, fun ⟨_, _, e, h⟩ => by cases e; exact h⟩
 simp_all
theorem Cq {x : LV} {k : Az DV} : Q5 x k ↔ ∃ d, x = .p d /\ k.f d := by
 unfold Q5; split <;> simp_all
theorem CB {x : Sh} {k : Az Nat} : Kd x k ↔ ∃ e, x = .slc e /\ k.f e := by
 unfold Kd; split <;> simp_all
theorem Ec {x : Sh} {k : Az (List (Nat × Nat))} : NR x k ↔ ∃ e, x = .struct e /\ k.f e := by
 unfold NR; split <;> simp_all
theorem Es {x : Sh} {k : Az (Nat × Nat)} : Sc x k ↔ ∃ a b, x = .mp a b /\ k.f (a, b) := by
 unfold Sc; split
 .exact ⟨fun h => ⟨_, _, rfl, h⟩, fun ⟨_, _, e, h⟩ => by cases e; exact h⟩
 simp_all
theorem EL {x : LV} {k : Az Nat} : Oa x k ↔ ∃ id, x = .lmap id /\ k.f id := by
 unfold Oa; split <;> simp_all
theorem Se {x : LV} {k : Az (FuncId × List LV)} : Mi x k ↔ ∃ f c, x = .fn f c /\ k.f (f, c) := by
 unfold Mi; split
 .exact ⟨fun h => ⟨_, _, rfl, h⟩, fun ⟨_, _, e, h⟩ => by cases e; exact h⟩
 simp_all
theorem FL {x : A8} {k : Az (List (DV × DV))} : Q7 x k ↔ ∃ m, x = .map m /\ k.f m := by
 unfold Q7; split <;> simp_all
theorem HE {x : A8} {k : Az (List LV)} : TO x k ↔ ∃ m, x = .box m /\ k.f m := by
 unfold TO; split <;> simp_all
theorem FM {x : A8} {k : Az (Nat × Nat × List (List DV))} : Q6 x k ↔ ∃ a b c, x = .row a b c /\ k.f (a, b, c) := by
 unfold Q6; split
 .exact ⟨fun h => ⟨_, _, _, rfl, h⟩, fun ⟨_, _, _, e, h⟩ => by cases e; exact h⟩
 simp_all
theorem ID {d : Int} {x : Option LV} {k : Az Int} {k' : Int -> Prop} (hk : ∀ n, k.f n -> k' n) (h : Ja d x k) : Ff d x k' := by
 unfold Ja at h; unfold Ff
 split at h <;> first | exact hk _ h | exact h.elim
theorem Sf {neg : Bool} {t : Nat} {x y : LV} {k : Az LV} (h : Sd AB neg t x y k) : P0 AB neg t x y k.f := by
 unfold Sd at h
 unfold P0
 split at h
 .exact h
 .obtain ⟨ti, h1, h2, h3⟩ := AP.1 h; exact ⟨⟨ti, h1, h2⟩, h3⟩
 .obtain ⟨ks, h1, h2⟩ := AN.1 h; exact ⟨ks, h1, h2⟩
 .obtain ⟨ti, h1, h2⟩ := AP.1 h
  obtain ⟨e, h3, h4⟩ := CB.1 h2
  exact ⟨⟨ti, e, h1, h3⟩, h4⟩
 .obtain ⟨ti, h1, h2⟩ := AP.1 h
  obtain ⟨e, h3, h4⟩ := CB.1 h2
  exact ⟨⟨ti, e, h1, h3⟩, h4⟩
 .obtain ⟨ti, h1, h2⟩ := AP.1 h
  obtain ⟨e, h3, h4⟩ := CB.1 h2
  exact ⟨⟨ti, e, h1, h3⟩, h4⟩
 .exact h
 .exact h
 .exact h
 exact h.elim
theorem Nj {op : BinOp} {kk : IntKind} {a b : Int} {k : Az LV} (h : K3 op kk a b k) : ∃ v, HY op kk a b = some v /\ k.f (.p v) := by
 unfold K3 at h
 split at h
 .exact AN.1 h.2
 .exact AN.1 h.2
 exact AN.1 h
theorem U5 {op : BinOp} {t : Nat} {x y : LV} {k : Az LV} (h : N2 AB op t x y k) : PX AB op t x y k.f := by
 unfold N2 at h
 unfold PX
 split at h
 .exact ⟨h.1, Nj h.2⟩
 rename_i hne
 split
 .exact absurd rfl (hne _ _ _ _ rfl)
 split at h
 .exact Sf h
 .exact Sf h
 exact h.elim
theorem Li {place : Nat -> Option (Nat × Nat)} {k : Az (List LV)} : ∀ {ps : List (Nat × LV)} {cells : List LV}, JZ AB place cells ps k -> Ha AB place cells ps k.f
 | [], _, h => h
 | (i, v) :: rest, cells, h => by
  obtain ⟨p, h1, h⟩ := AN.1 h
  obtain ⟨ti, h2, h⟩ := AP.1 h
  obtain ⟨ls, h3, ⟨h4, h5⟩, h⟩ := AN.1 h
  exact ⟨p.1, p.2, ti, ls, h1, h2, h3, h4, h5, Li h⟩
theorem UH {h : AT} {ti : TI} {p : LV} {k : Az LV} (hl : OZ h ti p k) : F0 h ti p k.f := by
 unfold OZ at hl
 unfold F0
 split at hl
 .exact AN.1 hl
 .obtain ⟨o, h1, hl⟩ := AN.1 hl
  obtain ⟨cells, rfl, hl⟩ := HE.1 hl
  obtain ⟨r, h2, h3⟩ := AN.1 hl
  exact ⟨cells, r, h1, h2, h3⟩
 .obtain ⟨o, h1, hl⟩ := AN.1 hl
  obtain ⟨e, sz, elems, rfl, hl⟩ := FM.1 hl
  obtain ⟨x, h2, hl⟩ := AN.1 hl
  obtain ⟨r, h3, h4⟩ := AN.1 hl
  exact ⟨e, sz, elems, x, r, h1, h2, h3, h4⟩
 exact hl.elim
theorem U6 {a b c d : Prop} (h : (a /\ b /\ c) /\ d) : a /\ b /\ c /\ d := ⟨h.1.1, h.1.2.1, h.1.2.2, h.2⟩
theorem TR {t : Nat} {x : LV} {lo hi : Option LV} {k : Az LV} (h : Jb AB t x lo hi k) : Jc AB t x lo hi k.f := by
 unfold Jb at h
 unfold Jc
 split at h
 .obtain ⟨ti, h1, h⟩ := AP.1 h
  obtain ⟨e, h2, h⟩ := CB.1 h
  obtain ⟨te, h3, h4, h⟩ := AP.1 h
  exact ⟨⟨ti, e, h1, h2, te, h3, h4⟩, ID (fun n hn => ID (fun m hm => U6 hm) hn) h⟩
 .obtain ⟨ti, h1, h⟩ := AP.1 h
  obtain ⟨e, h2, h⟩ := CB.1 h
  obtain ⟨te, h3, h4, h5, h⟩ := AP.1 h
  exact ⟨⟨ti, e, h1, h2, te, h3, h4⟩, h5, ID (fun n hn => ID (fun m hm => U6 hm) hn) h⟩
 .obtain ⟨ti, h1, h2, h⟩ := AP.1 h
  exact ⟨⟨ti, h1, h2⟩, ID (fun n hn => ID (fun m hm => U6 hm) hn) h⟩
 exact h.elim
end
end Go.E
/- The walk of a function: the short form holds what the long one says (Sg); rules for the parts of a body, states made weaker (A4). No condition. -/
namespace Go.E
open Go Go.RowKit
section
variable {P : Program} {A : BD} {AB : A2} {K : St -> Prop}
theorem Sg {st : St} {o : Oper} {K : Az St} (h : BC P A AB st o.dst o.op K) : Vq P A AB st o K.f := by
 obtain ⟨dst, op, type, pos, after, guard⟩ := o
 simp only at h
 cases op <;> simp only [BC] at h <;> simp only [Vq]
 case move x => exact h
 case assign x => exact h
 case pick c a b => obtain ⟨t, h1, h2⟩ := KC.1 h; exact ⟨t, h1, h2⟩
 case nilCheck x =>
  try dsimp only at h
  unfold U1 at h
  simp only [nW]
  split at h <;> first | (rename_i e; simp only [e]; exact ⟨trivial, h⟩) | exact h.elim
 case binOp op t x y z => exact U5 h
 case unOp op t x =>
  cases op <;> simp only [BC] at h
  case neg => obtain ⟨kk, n, h1, h2⟩ := B3.1 h; simp only [nW, Si, h1]; exact h2
  case not => obtain ⟨b, h1, h2⟩ := KC.1 h; simp only [nW, Si, h1]; exact h2
 case convert s d x =>
  obtain ⟨kk, n, h1, h⟩ := B3.1 h
  obtain ⟨tj, h2, h⟩ := AP.1 h
  obtain ⟨ti, h3, h⟩ := AP.1 h
  obtain ⟨kd, h4, h⟩ := AN.1 h
  refine ⟨kk, n, ti, tj, h1, h2, h3, kd, ?_, h⟩
  generalize ti.sh = q at h4
  cases q <;> simp [TQ] at h4
  rw [h4]
 case extract t i =>
  try dsimp only at h
  unfold U2 at h
  simp only [nW]
  split at h
  .rename_i l hl; simp only [hl]; exact AN.1 h
  .rename_i l hl; simp only [hl]; exact AN.1 h
  exact h.elim
 case field t x i =>
  obtain ⟨ti, h1, h⟩ := AP.1 h
  obtain ⟨fs, h2, h⟩ := Ec.1 h
  obtain ⟨f, h3, h⟩ := AN.1 h
  obtain ⟨tf, h4, h⟩ := AP.1 h
  try dsimp only at h
  unfold U3 at h
  split at h
  .rename_i l hl
   obtain ⟨v, h5, h6⟩ := AN.1 h
   exact ⟨ti, fs, f.1, f.2, tf, l, v, h1, h2, h3, h4, by rw [hl]; rfl, by rw [hl]; trivial, h5, h6⟩
  .rename_i l hl
   obtain ⟨v, h5, h6⟩ := AN.1 h
   exact ⟨ti, fs, f.1, f.2, tf, l.map .p, v, h1, h2, h3, h4, by rw [hl]; rfl, by rw [hl]; trivial, h5, h6⟩
  exact h.elim
 case build t ps =>
  obtain ⟨ti, h1, h⟩ := AP.1 h
  refine ⟨ti, h1, ?_⟩
  try dsimp only at h
  unfold Mh at h
  split at h
  .rename_i fs hsh; simp only [hsh]; exact ⟨h.1, Li h.2⟩
  .rename_i n e hsh
   obtain ⟨te, h2, h⟩ := AP.1 h
   simp only [hsh]
   exact ⟨te, h2, Li h⟩
  exact h.elim
 case fieldAddr t x i =>
  obtain ⟨ti, h1, h⟩ := AP.1 h
  obtain ⟨fs, h2, h⟩ := Ec.1 h
  obtain ⟨f, h3, h⟩ := AN.1 h
  obtain ⟨tf, h4, h5, h⟩ := AP.1 h
  refine ⟨ti, fs, f.1, f.2, tf, h1, h2, h3, h4, h5, ?_⟩
  try dsimp only at h
  unfold TN at h
  split at h <;> first | (rename_i e; simp only [e]; exact h) | exact h.elim
 case indexAddr t x i =>
  obtain ⟨kk, n, h1, h⟩ := B3.1 h
  obtain ⟨ti, h2, h⟩ := AP.1 h
  refine ⟨kk, n, ti, h1, h2, ?_⟩
  try dsimp only at h
  unfold Wb at h
  split at h
  .rename_i e1 e2
   obtain ⟨te, g1, g2, g3, h⟩ := AP.1 h
   simp only [e1, e2]
   exact ⟨⟨te, g1, g2⟩, g3, AN.1 h⟩
  .rename_i e1 e2
   obtain ⟨te, g1, g2, ⟨g3, g4⟩, h⟩ := AP.1 h
   simp only [e1, e2]
   exact ⟨⟨te, g1, g2⟩, g3, g4, h⟩
  .rename_i e1 e2
   obtain ⟨te, g1, ⟨g2, g3⟩, h⟩ := AP.1 h
   simp only [e1, e2]
   exact ⟨te, g1, g2, g3, h⟩
  .rename_i e1 e2
   obtain ⟨te, g1, ⟨g2, g3⟩, h⟩ := AP.1 h
   simp only [e1, e2]
   exact ⟨te, g1, g2, g3, h⟩
  exact h.elim
 case index t x i =>
  obtain ⟨kk, n, h1, h⟩ := B3.1 h
  obtain ⟨ti, h2, h0, h⟩ := AP.1 h
  refine ⟨kk, n, ti, h1, h2, h0, ?_⟩
  try dsimp only at h
  unfold Wc at h
  split at h
  .rename_i e1 e2
   obtain ⟨te, g1, g2, h⟩ := AP.1 h
   obtain ⟨v, g3, g4⟩ := AN.1 h
   simp only [e1, e2]
   exact ⟨te, v, g1, g2, g3, g4⟩
  .rename_i e1 e2
   obtain ⟨te, g1, g2, h⟩ := AP.1 h
   obtain ⟨v, g3, g4⟩ := AN.1 h
   simp only [e1, e2]
   exact ⟨te, v, g1, g2, g3, g4⟩
  .rename_i e1 e2
   simp only [e1, e2]
   exact AN.1 h
  exact h.elim
 case makeFunc fn first caps =>
  cases fn <;> simp only [BC] at h
  rename_i f
  exact ⟨by simpa using h.1, f, rfl, h.2⟩
 case slice t x lo hi mx =>
  cases mx with
  | some m => exact h.elim
  | none => exact ⟨rfl, TR h⟩
 case load t x => obtain ⟨ti, h1, h2⟩ := AP.1 h; exact ⟨ti, h1, UH h2⟩
 case store t x v =>
  obtain ⟨ti, h1, h⟩ := AP.1 h
  obtain ⟨ls, h2, ⟨h3, h4⟩, h⟩ := AN.1 h
  refine ⟨ti, h1, ls, h2, h3, h4, ?_⟩
  try dsimp only at h
  unfold Q8 at h
  split at h
  .rename_i id off e
   obtain ⟨o, g1, h⟩ := AN.1 h
   obtain ⟨cells, rfl, g2, h⟩ := HE.1 h
   try simp only [e]
   exact ⟨cells, g1, g2, h⟩
  .rename_i id i off e
   obtain ⟨o, g1, h⟩ := AN.1 h
   obtain ⟨e', sz, elems, rfl, h⟩ := FM.1 h
   obtain ⟨x, g2, h⟩ := AN.1 h
   obtain ⟨ds, g3, g4, h⟩ := AN.1 h
   try simp only [e]
   exact ⟨e', sz, elems, x, ds, g1, g2, g4, g3, h⟩
  exact h.elim
 case alloc t => obtain ⟨ti, h1, h2⟩ := AP.1 h; exact ⟨ti, h1, h2⟩
 case box t x => obtain ⟨ls, h1, h2⟩ := AN.1 h; exact ⟨ls, h1, h2⟩
 case buildSlice t n ps =>
  obtain ⟨ti, h1, h⟩ := AP.1 h
  obtain ⟨e, h2, h⟩ := CB.1 h
  obtain ⟨te, h3, ⟨h4, h5⟩, h⟩ := AP.1 h
  obtain ⟨l, h6, h7, h⟩ := AN.1 h
  exact ⟨ti, e, te, l, h1, h2, h3, h4, h5, h6, h7, h⟩
 case makeSlice t l c =>
  obtain ⟨ti, h1, h⟩ := AP.1 h
  obtain ⟨e, h2, h⟩ := CB.1 h
  obtain ⟨te, h3, h⟩ := AP.1 h
  obtain ⟨k1, n, h4, h⟩ := B3.1 h
  obtain ⟨k2, n', h5, ⟨h9, h6, h7, h8⟩, h⟩ := B3.1 h
  simp only at h9
  subst h9
  exact ⟨ti, e, te, n', k1, k2, h1, h2, h3, h4, h5, h6, h7, h8, h⟩
 case makeMap t r =>
  cases r with
  | some r => exact h.elim
  | none => exact ⟨rfl, h⟩
 case lookup t x i ok =>
  obtain ⟨ti, h1, h⟩ := AP.1 h
  obtain ⟨kt, et, h2, h⟩ := Es.1 h
  obtain ⟨te, h3, h⟩ := AP.1 h
  obtain ⟨m, h4, h⟩ := AN.1 h
  obtain ⟨kd, h5, ⟨h6, h7⟩, h⟩ := Cq.1 h
  exact ⟨ti, kt, et, te, m, kd, h1, h2, h3, h4, h5, h6, h7, h⟩
 case mapUpdate t x i v =>
  obtain ⟨ti, h1, h⟩ := AP.1 h
  obtain ⟨kt, et, h2, h⟩ := Es.1 h
  obtain ⟨id, h3, h⟩ := EL.1 h
  obtain ⟨o, h4, h⟩ := AN.1 h
  obtain ⟨m, rfl, h⟩ := FL.1 h
  obtain ⟨kd, h5, h⟩ := Cq.1 h
  obtain ⟨vd, h6, ⟨h7, h8⟩, h⟩ := Cq.1 h
  exact ⟨ti, kt, et, id, m, kd, vd, h1, h2, h3, h4, h5, h6, h7, h8, h⟩
 case mapEntry t x i =>
  obtain ⟨ti, h1, h⟩ := AP.1 h
  obtain ⟨kt, et, h2, h⟩ := Es.1 h
  obtain ⟨te, h3, h⟩ := AP.1 h
  obtain ⟨id, h4, h⟩ := EL.1 h
  obtain ⟨o, h5, h⟩ := AN.1 h
  obtain ⟨m, rfl, h⟩ := FL.1 h
  obtain ⟨kd, h6, ⟨h7, h8⟩, h⟩ := Cq.1 h
  exact ⟨ti, kt, et, te, id, m, kd, h1, h2, h3, h4, h5, h6, h7, h8, h⟩
 case entryStore t x s v =>
  obtain ⟨id, h1, h⟩ := EL.1 h
  obtain ⟨o, h2, h⟩ := AN.1 h
  obtain ⟨m, rfl, h⟩ := FL.1 h
  obtain ⟨kk, n, h3, h⟩ := B3.1 h
  obtain ⟨vd, h4, h0, h⟩ := Cq.1 h
  obtain ⟨p, h5, h⟩ := AN.1 h
  exact ⟨id, m, kk, n, vd, p, h1, h2, h3, h0, h5, h4, h⟩
 case range t x =>
  obtain ⟨ti, h1, h⟩ := AP.1 h
  obtain ⟨kt, et, h2, h⟩ := Es.1 h
  try dsimp only at h
  unfold Wd at h
  split at h
  .rename_i e; exact ⟨ti, kt, et, [], h1, h2, .inl ⟨e, rfl⟩, h⟩
  .rename_i m e; exact ⟨ti, kt, et, m, h1, h2, .inr e, h⟩
  exact h.elim
 case next x s =>
  cases s with
  | true => exact h.elim
  | false =>
   simp only [BC] at h
   unfold Wf at h
   split at h
   .rename_i id e
    split at h
    .rename_i cur left hl
     exact ⟨rfl, id, cur, left, e, hl, h.1, h.2⟩
    exact h.elim
   exact h.elim
 case entry x =>
  unfold Wg at h
  split at h
  .rename_i id e
   split at h
   .rename_i p left hl
    exact ⟨id, p, left, e, hl, h⟩
   exact h.elim
  exact h.elim
 case call c =>
  obtain ⟨callee, args, ats⟩ := c
  try dsimp only at h
  unfold Ob at h
  simp only at h
  split at h
  .rename_i f
   obtain ⟨k, caps, g1, g2⟩ := Se.1 h
   simp only [g1]
   exact g2
  .rename_i s x t t' e2 e3
   obtain ⟨rfl, h⟩ := h
   obtain ⟨ti, h1, h⟩ := AP.1 h
   obtain ⟨e, h2, h⟩ := CB.1 h
   obtain ⟨te, h3, h4, h⟩ := AP.1 h
   obtain ⟨new, h5, h6, h⟩ := AN.1 h
   have ha : args = #[s, x] := by rw [<- Array.toList_inj, e2]
   have hb : ats = #[t', t'] := by rw [<- Array.toList_inj, e3]
   simp only [mW]
   refine ⟨trivial, s, x, t', ha, hb, ti, e, te, h1, h2, h3, h4, new, h5, h6, ?_⟩
   try dsimp only at h
   unfold TP at h
   split at h
   .rename_i e; simp only [e]; exact ⟨h.1.1, h.1.2, h.2⟩
   .rename_i id sz off len e
    obtain ⟨hsz, h⟩ := h
    obtain ⟨o, g1, h⟩ := AN.1 h
    obtain ⟨e', sz', elems, rfl, ⟨k1, k2, g2, g3, g4⟩, h9⟩ := FM.1 h
    subst k1; subst k2
    try simp only [e]
    exact ⟨elems, hsz, g1, g2, g3, g4, h9⟩
   exact h.elim
  .rename_i x t e2 e3
   obtain ⟨ti, h1, h⟩ := AP.1 h
   have ha : args = #[x] := by rw [<- Array.toList_inj, e2]
   have hb : ats = #[t] := by rw [<- Array.toList_inj, e3]
   simp only [nW]
   refine ⟨x, t, ti, ha, hb, h1, ?_⟩
   try dsimp only at h
   unfold U4 at h
   split at h
   .rename_i g; simp only [g]; exact h
   .rename_i g1 g2; simp only [g1, g2, Jd]; exact h
   .rename_i g1 g2; simp only [g1, g2, Jd]; exact h
   .rename_i g1 g2; simp only [g1, g2, Jd]; exact h
   .rename_i g1 g2; simp only [g1, g2, Jd]; exact h
   exact h.elim
  .obtain ⟨r, h1, h⟩ := AN.1 h
   simp only [nW]
   exact ⟨r, h1, h⟩
  .obtain ⟨r, h1, h⟩ := AN.1 h
   simp only [nW]
   exact ⟨r, h1, h⟩
  exact h.elim
 all_goals exact h.elim
theorem P1 (st : St) (ops : List Oper) (j : Nat) : Fe st (TM ops j) = D9 st ops.toArray j := by
 unfold Fe D9 TM
 simp only [List.getElem?_toArray]
 cases ops[j]? with
 | none => rfl
 | some o => cases hd : o.dst <;> simp [hd]
theorem KD (hE : BB P AB) {ops : List Oper} {K : Az St} {Q : Exit -> Act -> World -> Prop} (hQ : ∀ st a w, K.f st -> R A st a w -> Q .normal a w) :
  ∀ (l : List Oper) (st : St) (a : Act) (w : World), Ep P A AB K (l.map (Mg ops)) st -> R A st a w -> wpList P ops.toArray Q l a w
 | [], st, a, w, h, hR => hQ st a w h.h hR
 | o :: rest, st, a, w, h, hR => by
  have run : BC P A AB st o.dst o.op ⟨Ep P A AB K (rest.map (Mg ops)), ⟨⟩⟩ -> o.wp P a w (wpList P ops.toArray Q rest) Q := fun h =>
   UA hE (Sg h) hR fun st' a' w' hk hR' => KD hE hQ rest st' a' w' hk hR'
  have skip : Ep P A AB K (rest.map (Mg ops)) (st.put o.dst .und) -> wpList P ops.toArray Q rest (a.put o.dst undef) w := fun h => by
   obtain ⟨μ, hh, hs⟩ := hR.ex
   exact KD hE hQ rest _ _ _ h (hR.put hs hh .und)
  unfold wpList
  simp only [List.map_cons, Mg] at h
  cases hg : o.guard with
  | none =>
   rw [hg] at h
   rw [if_pos (by simp [Region.wanted, hg])]
   exact .inl (run h)
  | some g =>
   obtain ⟨j, want⟩ := g
   rw [hg] at h
   simp only [Ep, P1] at h
   obtain ⟨μ, hh, hs⟩ := hR.ex
   obtain ⟨g1, g2⟩ := MW (ops := ops.toArray) (j := j) (fun x => GB hs x)
   unfold gM at h
   split at h
   .rename_i b hb
    have hy := g1 b hb
    by_cases e : b = want
    .rw [if_pos (by simp [Region.wanted, hg, hy, e])]
     exact .inl (run (h.1 e))
    rw [if_neg (by simp [Region.wanted, hg, hy, e])]
    exact skip (h.2 (by cases b <;> cases want <;> simp_all))
   .rename_i hb
    have hy := g2 hb
    rw [if_neg (by simp [Region.wanted, hg, hy])]
    exact skip h
   exact h.elim
theorem V7 (hE : BB P AB) {id : Nat} {ops : List Oper} {ms : List Gu} {y : Code} {Q : Exit -> St -> Prop} {st : St} (hm : ops.map (Mg ops) = ms) (h : Ep P A AB ⟨fun st' => Bw P A y Q st', ⟨⟩⟩ ms st) :
  Bw P A (.seq (.region id ops.toArray false) y) Q st :=
 AC fun a w hR => wp_region_lit (KD hE (fun st' _ _ hk hR' => ⟨st', hR', hk⟩) ops st a w (by rw [hm]; exact h) hR)
theorem U7 (hE : BB P AB) {id : Nat} {ops : List Oper} {ms : List Gu} {Q : Exit -> St -> Prop} {st : St} (hm : ops.map (Mg ops) = ms) (h : Ep P A AB ⟨fun st' => Q .normal st', ⟨⟩⟩ ms st) :
  Bw P A (.region id ops.toArray false) Q st :=
 fun a w hR => wp_region_lit (KD hE (fun st' _ _ hk hR' => ⟨st', hR', hk⟩) ops st a w (by rw [hm]; exact h) hR)
def A4 (A : BD) (st st' : St) : Prop := ∀ a w, R A st a w -> R A st' a w
theorem A4.refl (st : St) : A4 A st st := fun _ _ h => h
theorem A4.trans {a b c : St} (h : A4 A a b) (h' : A4 A b c) : A4 A a c := fun x w hR => h' x w (h x w hR)
theorem Je {c : Code} {Q : Exit -> St -> Prop} {st st' : St} (hw : A4 A st st') (h : Bw P A c Q st') : Bw P A c Q st := fun a w hR => h a w (hw a w hR)
def Ed (gl : List (Nat × Nat)) : LV -> LV
 | .lsl id sz off len => .lsl ((AJ id gl).getD 0) sz off len
 | .lpb id off => .lpb ((AJ id gl).getD 0) off
 | .lpe id i off => .lpe ((AJ id gl).getD 0) i off
 | .lmap id => .lmap ((AJ id gl).getD 0)
 | .agg l => .agg (renLs gl l)
 | .tup l => .tup (renLs gl l)
 | .fn f l => .fn f (renLs gl l)
 | l => l
where renLs (gl : List (Nat × Nat)) : List LV -> List LV
 | [] => []
 | x :: l => Ed gl x :: renLs gl l
def DK (gl : List (Nat × Nat)) : LV -> Bool
 | .lsl id _ _ _ | .lpb id _ | .lpe id _ _ | .lmap id => (AJ id gl).isSome
 | .agg l | .tup l | .fn _ l => namesLs gl l
 | _ => true
where namesLs (gl : List (Nat × Nat)) : List LV -> Bool
 | [] => true
 | x :: l => DK gl x && namesLs gl l
theorem Il {gl : List (Nat × Nat)} : ∀ {ls : List LV} {i : Nat}, (Ed.renLs gl ls)[i]? = (ls[i]?).map (Ed gl)
 | [], i => by simp [Ed.renLs]
 | x :: l, 0 => by simp [Ed.renLs]
 | x :: l, i + 1 => by simpa [Ed.renLs] using Il (ls := l)
theorem Im {gl : List (Nat × Nat)} : ∀ {ls : List LV}, (Ed.renLs gl ls).length = ls.length
 | [] => rfl
 | x :: l => by simp [Ed.renLs, Im (ls := l)]
theorem Gv {gl : List (Nat × Nat)} : ∀ {ls : List LV} {i : Nat} {x : LV}, DK.namesLs gl ls = true -> ls[i]? = some x -> DK gl x = true
 | [], i, x, _, h => by simp at h
 | y :: l, 0, x, hn, h => by simp at h; subst h; simp only [DK.namesLs, Bool.and_eq_true] at hn; exact hn.1
 | y :: l, i + 1, x, hn, h => by simp only [DK.namesLs, Bool.and_eq_true] at hn; exact Gv hn.2 (by simpa using h)
def FN (gl : List (Nat × Nat)) (μ : Nat -> Option BV) (id : Nat) : Option BV :=
 match AJ id gl with
 | some old => μ old
 | none => none
theorem Jf {O O' : Nat -> Prop} {μ : Nat -> Option BV} {w : World} {gl : List (Nat × Nat)} (hO : ∀ b, b < w.heap.size -> O' b -> O b) :
  ∀ (l : LV) (v : Value), DK gl l = true -> Ac O μ w v (Ed gl l) -> Ac O' (FN gl μ) w v l
 | .p d, v, _, h => .p _ _ (h.p_inv.mono (BM.refl _ _) hO)
 | .und, v, _, h => by cases h; exact .und
 | .any, v, _, h => .any _
 | .lsl id sz off len, v, hn, h => by
  simp only [DK] at hn
  cases hl : AJ id gl with
  | none => rw [hl] at hn; cases hn
  | some old =>
   simp only [Ed, hl, Option.getD_some] at h
   have hm : ∀ loc, μ old = some loc -> FN gl μ id = some loc := fun loc h => by simp [FN, hl, h]
   cases h with
   | lsln _ loc h1 h2 => exact .lsln id loc (hm _ h1) h2
   | lsl _ _ _ cap a loc h1 h2 h3 h4 h5 h6 h7 => exact .lsl id _ _ cap a loc (hm _ h1) h2 h3 h4 h5 h6 h7
 | .lpb id off, v, hn, h => by
  simp only [DK] at hn
  cases hl : AJ id gl with
  | none => rw [hl] at hn; cases hn
  | some old =>
   simp only [Ed, hl, Option.getD_some] at h
   have hm : ∀ loc, μ old = some loc -> FN gl μ id = some loc := fun loc h => by simp [FN, hl, h]
   cases h with
   | lpb _ _ loc h1 h2 => exact .lpb id _ loc (hm _ h1) h2
 | .lpe id i off, v, hn, h => by
  simp only [DK] at hn
  cases hl : AJ id gl with
  | none => rw [hl] at hn; cases hn
  | some old =>
   simp only [Ed, hl, Option.getD_some] at h
   have hm : ∀ loc, μ old = some loc -> FN gl μ id = some loc := fun loc h => by simp [FN, hl, h]
   cases h with
   | lpe _ _ _ loc h1 h2 => exact .lpe id _ _ loc (hm _ h1) h2
 | .lmap id, v, hn, h => by
  simp only [DK] at hn
  cases hl : AJ id gl with
  | none => rw [hl] at hn; cases hn
  | some old =>
   simp only [Ed, hl, Option.getD_some] at h
   have hm : ∀ loc, μ old = some loc -> FN gl μ id = some loc := fun loc h => by simp [FN, hl, h]
   cases h with
   | lmap _ loc h1 h2 => exact .lmap id loc (hm _ h1) h2
 | .agg ls, v, hn, h => by
  simp only [Ed] at h
  simp only [DK] at hn
  cases h with
  | agg vs _ hsz hr =>
   rw [Im] at hsz
   refine .agg vs ls hsz fun i u x h1 h2 => ?_
   have : SizeOf.sizeOf x < SizeOf.sizeOf ls := List.sizeOf_lt_of_mem (List.mem_of_getElem? h2)
   exact Jf hO x u (Gv hn h2) (hr i u _ h1 (by rw [Il, h2]; rfl))
 | .tup ls, v, hn, h => by
  simp only [Ed] at h
  simp only [DK] at hn
  cases h with
  | tup vs _ hsz hr =>
   rw [Im] at hsz
   refine .tup vs ls hsz fun i u x h1 h2 => ?_
   have : SizeOf.sizeOf x < SizeOf.sizeOf ls := List.sizeOf_lt_of_mem (List.mem_of_getElem? h2)
   exact Jf hO x u (Gv hn h2) (hr i u _ h1 (by rw [Il, h2]; rfl))
 | .fn f ls, v, hn, h => by
  simp only [Ed] at h
  simp only [DK] at hn
  cases h with
  | fn _ vs _ hsz hr =>
   rw [Im] at hsz
   refine .fn f vs ls hsz fun i u x h1 h2 => ?_
   have : SizeOf.sizeOf x < SizeOf.sizeOf ls := List.sizeOf_lt_of_mem (List.mem_of_getElem? h2)
   exact Jf hO x u (Gv hn h2) (hr i u _ h1 (by rw [Il, h2]; rfl))
def TS (gl : List (Nat × Nat)) : A8 -> A8
 | .box cells => .box (Ed.renLs gl cells)
 | o => o
def Q9 (gl : List (Nat × Nat)) : A8 -> Bool
 | .box cells => DK.namesLs gl cells
 | _ => true
def Ql (gl : List (Nat × Nat)) (sl : List (Nat × LV)) : List (Nat × LV) -> Prop
 | [] => True
 | (t, l) :: rest => (DK gl l = true /\ BU sl t = Ed gl l) /\ Ql gl sl rest
def Qm (gl : List (Nat × Nat)) (h : AT) : AT -> Prop
 | [] => True
 | (id, o) :: rest => (Q9 gl o = true /\ ∃ old, AJ id gl = some old /\ AJ old h = some (TS gl o)) /\ Qm gl h rest
theorem Oc {gl : List (Nat × Nat)} {sl : List (Nat × LV)} : ∀ {sl' : List (Nat × LV)}, Ql gl sl sl' -> ∀ t l, AJ t sl' = some l -> DK gl l = true /\ BU sl t = Ed gl l
 | [], _, t, l, h => by simp [AJ] at h
 | (u, x) :: rest, ⟨h1, h2⟩, t, l, h => by
  simp only [AJ] at h
  split at h
  .cases h; subst_vars; exact h1
  exact Oc h2 t l h
theorem Ge {gl : List (Nat × Nat)} {hp : AT} : ∀ {h' : AT}, Qm gl hp h' -> ∀ id o, AJ id h' = some o -> Q9 gl o = true /\ ∃ old, AJ id gl = some old /\ AJ old hp = some (TS gl o)
 | [], _, id, o, h => by simp [AJ] at h
 | (u, x) :: rest, ⟨h1, h2⟩, id, o, h => by
  simp only [AJ] at h
  split at h
  .cases h; subst_vars; exact h1
  exact Ge h2 id o h
theorem Lj {α : Type} {t : Nat} {v : α} : ∀ {l : List (Nat × α)}, AJ t l = some v -> (t, v) ∈ l
 | [], h => by simp [AJ] at h
 | (k, u) :: l, h => by
  simp only [AJ] at h
  split at h
  .cases h; subst_vars; simp
  exact List.mem_cons_of_mem _ (Lj h)
def Od (gl : List (Nat × Nat)) (h : AT) (c : Nat) : Bool := decide (h.map fun p => (AJ p.1 gl).getD 0).Nodup && gl.all fun p => decide (p.1 < c)
theorem U8 {gl : List (Nat × Nat)} {h : AT} (hn : (h.map fun p => (AJ p.1 gl).getD 0).Nodup) {a b : Nat × A8} (ha : a ∈ h) (hb : b ∈ h) (e : (AJ a.1 gl).getD 0 = (AJ b.1 gl).getD 0) : a = b := by
 induction h with
 | nil => simp at ha
 | cons x l ih =>
  simp only [List.map_cons, List.nodup_cons, List.mem_map, not_exists, not_and] at hn
  rcases List.mem_cons.1 ha with e1 | ha' <;> rcases List.mem_cons.1 hb with e2 | hb'
  .rw [e1, e2]
  .subst e1; exact absurd e.symm (hn.1 b hb')
  .subst e2; exact absurd e (hn.1 a ha')
  exact ih hn.2 ha' hb'
theorem U9 (gl : List (Nat × Nat)) {nt : Nat} {sl sl' : List (Nat × LV)} {h h' : AT} {c c' : Nat} (hext : ∀ id, A.μ0 id ≠ none -> AJ id gl = some id) (ho : Od gl h' c' = true)
  (hs : Ql gl sl sl') (hh' : Qm gl h h') : A4 A ⟨nt, sl, h, c⟩ ⟨nt, sl', h', c'⟩ := fun a w ⟨⟨μ, hh, hr⟩, hnt, hdef⟩ => by
 simp only [Od, Bool.and_eq_true, decide_eq_true_eq, List.all_eq_true] at ho
 have hmine : ∀ b, Bt (FN gl μ) h' b -> Bt μ h b := by
  rintro b ⟨id, o, loc, h1, h2, h3, h4⟩
  obtain ⟨_, old, g1, g2⟩ := Ge hh' id o h1
  simp only [FN, g1] at h2
  exact ⟨old, _, loc, g2, h2, h3, h4⟩
 have hown : ∀ b, b < w.heap.size -> Ae A (FN gl μ) h' b -> Ae A μ h b := fun b _ hb => hb.imp id (hmine b)
 refine ⟨⟨FN gl μ, ⟨?_, ?_, ?_, ?_, hh.size, hh.block, hh.os, hh.tape, hh.output, ?_⟩, fun t ht => ?_⟩, hnt, hdef⟩
 .intro id o hid
  obtain ⟨hn, old, g1, g2⟩ := Ge hh' id o hid
  obtain ⟨loc, k1, k2⟩ := hh.obj old _ g2
  refine ⟨loc, by simp only [FN, g1]; exact k1, ?_⟩
  cases o with
  | box cells =>
   obtain ⟨a1, cs, ty, a2, a3, a4⟩ := k2
   rw [Im] at a3
   refine ⟨a1, cs, ty, a2, a3, fun i v l hv hl => Jf hown l v (Gv hn hl) (a4 i v _ hv (by rw [Il, hl]; rfl))⟩
  | row e sz elems =>
   obtain ⟨a1, a2, a3⟩ := k2
   refine ⟨a1, a2, ?_⟩
   rcases a3 with a3 | ⟨b1, cs, b2, b3, b4, b5, b6⟩
   .exact .inl a3
   exact .inr ⟨b1, cs, b2, b3, b4, b5, fun i j x d v hx hd hv => (b6 i j x d v hx hd hv).mono (BM.refl _ _) hown⟩
  | map m =>
   obtain ⟨a1, es, a2, a3, a4, a5⟩ := k2
   exact ⟨a1, es, a2, a3, a4, fun i e p he hp => ⟨(a5 i e p he hp).1.mono (BM.refl _ _) hown, (a5 i e p he hp).2.mono (BM.refl _ _) hown⟩⟩
  | iter cur left => exact ⟨k2.1, k2.2.mono (BM.refl _ _) hown rfl⟩
 .intro id id' o o' loc loc' h1 h2 m1 m2 n1 n2 hb
  obtain ⟨_, old, g1, g2⟩ := Ge hh' id o h1
  obtain ⟨_, old', g1', g2'⟩ := Ge hh' id' o' h2
  simp only [FN, g1] at m1
  simp only [FN, g1'] at m2
  have := hh.inj _ _ _ _ _ _ g2 g2' m1 m2 n1 n2 hb
  have := U8 ho.1 (Lj h1) (Lj h2) (by simp only [g1, g1', Option.getD_some]; exact this)
  exact congrArg (·.1) this
 .intro id hid
  simp only [FN]
  cases hl : AJ id gl with
  | none => rfl
  | some old =>
   have := ho.2 _ (Lj hl)
   simp only [Fr] at hid
   omega
 .intro id o loc h1 m1 n1
  obtain ⟨_, old, g1, g2⟩ := Ge hh' id o h1
  simp only [FN, g1] at m1
  exact hh.base _ _ _ g2 m1 n1
 .intro id loc hm
  have := hext id (by rw [hm]; simp)
  simp only [FN, this]
  exact hh.ext _ _ hm
 show Ac _ _ _ _ (match AJ t sl' with | some v => v | none => .any)
 cases hl : AJ t sl' with
 | none => exact .any _
 | some l =>
  obtain ⟨g1, g2⟩ := Oc hs t l hl
  have := hr t ht
  simp only at this
  rw [g2] at this
  exact Jf hown l _ g1 this
theorem CM {nt : Nat} {sl : List (Nat × LV)} {h : AT} {c : Nat} (t e sz : Nat) (ht : BU sl t = .p .nils) : A4 A ⟨nt, sl, h, c⟩ ⟨nt, (t, .lsl c sz 0 0) :: sl, (c, .row e sz []) :: h, c + 1⟩ := fun a w ⟨⟨μ, hh, hr⟩, hnt, hdef⟩ => by
 have hno := hh.fresh c (Nat.le_refl _)
 let loc : BV := ⟨true, 0, 0, sz, 0⟩
 have hsub : ∀ id x, AJ id ((c, A8.row e sz []) :: h) = some x -> (id = c /\ x = .row e sz []) \/ AJ id h = some x := by
  intro id x hx
  simp only [AJ] at hx
  split at hx
  .cases hx; exact .inl ⟨‹_›, rfl⟩
  exact .inr hx
 have hadd := hh.add hno loc (.row e sz []) ((c, .row e sz []) :: h) (fun hn => by cases hn) (fun hn => by cases hn) hsub (BM.refl _ _) (fun _ _ _ _ _ _ _ => rfl) rfl rfl rfl ⟨rfl, by simp, .inl ⟨rfl, rfl⟩⟩
 have hown := hh.sub_add loc (.row e sz []) ((c, .row e sz []) :: h) (fun hn => by cases hn) hsub
 refine ⟨⟨_, hadd.less (F' := Fr (c + 1)) fun id hid => ?_, fun u hu => ?_⟩, hnt, hdef⟩
 .simp only [Fr] at hid ⊢; omega
 show Ac _ _ _ _ (match AJ u ((t, LV.lsl c sz 0 0) :: sl) with | some v => v | none => .any)
 simp only [AJ]
 by_cases hut : u = t
 .subst hut
  rw [if_pos rfl]
  have := hr u hu
  simp only at this
  rw [ht] at this
  rw [this.nils_inv]
  exact .lsln c loc (by simp [BJ]) rfl
 rw [if_neg hut]
 exact (hr u hu).mono (BM.refl _ _) hown (JG hno loc)
end
end Go.E
/- Loops whose states are told outright; parts of a body. No condition. -/
namespace Go.E
open Go Go.RowKit
section
variable {P : Program} {A : BD} {AB : A2} {Q : Exit -> St -> Prop} {st : St}
theorem AD {next : St -> Prop} (h : next st) : OR next Q .normal st := h
theorem AH {next : St -> Prop} (h : Q .ret st) : OR next Q .ret st := h
theorem AY {next : St -> Prop} {id : Nat} (h : Q (.exit id) st) : OR next Q (.exit id) st := h
theorem Ai {id : Nat} (h : Q .normal st) : GC id Q .normal st := h
theorem AR {id : Nat} (h : Q .ret st) : GC id Q .ret st := h
theorem Aq {id : Nat} (h : Q .normal st) : GC id Q (.exit id) st := by simp only [GC, if_true]; exact h
theorem Lk {id id' : Nat} (hne : (id' == id) = false) (h : Q (.exit id') st) : GC id Q (.exit id') st := by
 simp only [GC]
 rw [if_neg (by simpa using hne)]; exact h
theorem Wi {P : Program} {AB : A2} (hE : BB P AB) {k : Nat} {fn : Func} {c : Code} (hf : P.funcs[k]? = some fn) (hb : fn.body = some c) (hn : (fn.name == "runtime.NumGoroutine") = false) (nt : Nat) (hnt : fn.ntmps = nt)
  (rs : List ResultVar) (hrs : fn.results.toList = rs) {ds : List DV} (hlen : ds.length <= nt) {Q : DV -> Prop}
  (h : ∀ A : BD, (∀ id, A.μ0 id = none) -> Bw P A c (LY fun st => ∃ r, FJ AB.tt rs st = some r /\ Q r) ⟨nt, Cw 0 ds, [], 0⟩) : A7 P k ds Q := by
 subst hnt hrs
 exact OT hE hf hb hn hlen h
theorem XP {h : AT} {c k : Nat} {args : List LV} {ds : List DV} {r : DV} {f : LV × AT × Nat -> Prop} {hf : H6 f} (hds : Bi h args = some ds) (hF : A7 P k ds (· = r))
  (hs : r.scalar = true \/ args.flatMap (Dn h) = []) (hK : f (.p r, h, c)) : KB P A h c k args ⟨f, hf⟩ :=
 Dh.pure hds hF fun q hq => by
  subst hq
  split
  .exact hK
  rcases hs with hs | hs
  .exact absurd hs ‹_›
  rw [hs]; exact hK
def Le (r d : DV) : Prop := ∀ (O : Nat -> Prop) (w : World) (v : Value), Av O w v r -> Av O w v d
theorem Le.of_eq {r d : DV} (h : r = d) : Le r d := fun _ _ _ hv => h ▸ hv
theorem Le.nil (sz : Nat) : Le .nils (.slice sz []) := fun _ _ _ hv => by cases hv; exact .snil sz
theorem Le.tup {l m : List DV} (hl : l.length = m.length) (h : ∀ (i : Nat) (a b : DV), l[i]? = some a -> m[i]? = some b -> Le a b) : Le (.tup l) (.tup m) := fun O w v hv => by
 cases hv with
 | tup vs _ hsz hr =>
  refine .tup vs m (by omega) fun i u d h1 h2 => ?_
  have hi := (List.getElem?_eq_some_iff.1 h2).1
  have hx : l[i]? = some (l[i]'(by omega)) := List.getElem?_eq_getElem _
  exact h i _ d hx h2 O w u (hr i u _ h1 hx)
theorem Le.agg {l m : List DV} (hl : l.length = m.length) (h : ∀ (i : Nat) (a b : DV), l[i]? = some a -> m[i]? = some b -> Le a b) : Le (.agg l) (.agg m) := fun O w v hv => by
 cases hv with
 | agg vs _ hsz hr =>
  refine .agg vs m (by omega) fun i u d h1 h2 => ?_
  have hi := (List.getElem?_eq_some_iff.1 h2).1
  have hx : l[i]? = some (l[i]'(by omega)) := List.getElem?_eq_getElem _
  exact h i _ d hx h2 O w u (hr i u _ h1 hx)
theorem Le.cons {a b : DV} {l m : List DV} (h : Le a b) (hr : ∀ (i : Nat) (a b : DV), l[i]? = some a -> m[i]? = some b -> Le a b) : ∀ (i : Nat) (x y : DV), (a :: l)[i]? = some x -> (b :: m)[i]? = some y -> Le x y := fun i x y h1 h2 => by
 cases i with
 | zero => simp at h1 h2; subst h1 h2; exact h
 | succ i => exact hr i x y (by simpa using h1) (by simpa using h2)
theorem Wj {P : Program} {AB : A2} (hE : BB P AB) {k : Nat} {fn : Func} {c : Code} (hf : P.funcs[k]? = some fn) (hb : fn.body = some c) (hn : (fn.name == "runtime.NumGoroutine") = false) (nt : Nat) (hnt : fn.ntmps = nt)
  (rs : List ResultVar) (hrs : fn.results.toList = rs) {ds : List DV} (hlen : ds.length <= nt) {d : DV}
  (h : ∀ A : BD, (∀ id, A.μ0 id = none) -> Bw P A c (LY fun st => ∃ r, FJ AB.tt rs st = some r /\ Le r d) ⟨nt, Cw 0 ds, [], 0⟩) : A7 P k ds (· = d) := by
 have := Wi hE hf hb hn nt hnt rs hrs hlen h
 exact ⟨this.enters, fun O w vs h1 h2 h3 => (this.run O w vs h1 h2 h3).mono fun _ _ ⟨v, r, e, hr, q, hb⟩ => ⟨v, d, e, q _ _ _ hr, rfl, hb⟩⟩
end
end Go.E
/- The equations by which a walk is reckoned. Written by a program (mkev.py). No condition. -/
namespace Go.E
open Go Go.RowKit
theorem RA : ∀ l : List DV, GF (l.map .p) = some l
 | [] => rfl
 | x :: l => by simp [GF, RA l]
end Go.E
/- Drawn regions in short form. Conditions: HX and mixedOrders, by kernel. -/
namespace Go.E
open Go Go.RowKit
def VA (P : Program) (h : AT) (k : Nat) (args : List LV) (K : Az DV) : Prop :=
 ∃ ds r, Bi h args = some ds /\ A7 P k ds (· = r) /\ (r.scalar = true \/ args.flatMap (Dn h) = []) /\ K.f r
def Xp (P : Program) (AB : A2) (h : AT) (k : Nat) (args : List LV) (K : Az (Nat × Nat × List (List DV))) : Prop :=
 AB.own = true /\ ∃ ds t sz elems, Bi h args = some ds /\ GE P k ds t sz elems /\ TG (args.flatMap (Dn h)) elems /\ K.f (t, sz, elems)
def Vr (AB : A2) (neg : Bool) (t : Nat) (x y : LV) (k : Az LV) : Prop :=
 match y with
 | .p .nils => False
 | y => Sd AB neg t x y k
def PY (AB : A2) (op : BinOp) (t : Nat) (x y : LV) (k : Az LV) : Prop :=
 match x, y with
 | .p (.int k1 a), .p (.int k2 b) => k1 = k2 /\ K3 op k1 a b k
 | x, y => match op with
  | .eql => Vr AB false t x y k
  | .neq => Vr AB true t x y k
  | _ => False
def TT (sh : Sh) (x : LV) (k : Az LV) : Prop :=
 match sh, x with
 | .arr n _, _ => k.f (.p (.int .i64 n))
 | .slc _, .p (.slice _ l) => k.f (.p (.int .i64 l.length))
 | .slc _, .p .nils => k.f (.p (.int .i64 0))
 | .slc _, .lsl _ _ _ len => k.f (.p (.int .i64 len))
 | .str, .p (.str s) => k.f (.p (.int .i64 s.size))
 | _, _ => False
def H7 (P : Program) (A : BD) (AB : A2) (st : St) (dst : Option Tmp) (op : Op) (K : Az St) : Prop :=
 match op with
 | .binOp op t x y _ => PY AB op t (st.eval x) (st.eval y) ⟨fun l => K.f (st.put dst l), ⟨⟩⟩
 | .call c => match c.callee, c.args.toList, c.argTypes.toList with
  | .builtin .len, [x], [t] => CT AB t ⟨fun ti => TT ti.sh (st.eval x) ⟨fun l => K.f (st.put dst l), ⟨⟩⟩, ⟨⟩⟩
  | .builtin .len, _, _ => False
  | .value f, args, _ => Mi (st.eval f) ⟨fun g => VA P st.heap g.1 (args.map st.eval ++ g.2) ⟨fun r => K.f (st.put dst (.p r)), ⟨⟩⟩ \/
    Xp P AB st.heap g.1 (args.map st.eval ++ g.2) ⟨fun r => K.f (({ st with heap := (st.ctr, .row r.1 r.2.1 r.2.2) :: st.heap, ctr := st.ctr + 1 } : St).put dst (.lsl st.ctr r.2.1 0 r.2.2.length)), ⟨⟩⟩, ⟨⟩⟩
  | _, _, _ => BC P A AB st dst (.call c) K
 | .range _ _ => False
 | .next _ _ => False
 | .entry _ => False
 | .load t x => Ky AB.calm (st.eval x) = true /\ BC P A AB st dst (.load t x) K
 | .store t x v => JX AB.calm (st.eval x) = true /\ BC P A AB st dst (.store t x v) K
 | op => BC P A AB st dst op K
def C6 (P : Program) (A : BD) (AB : A2) (base n : Nat) (K : Az St) : List (Nat × Gu) -> St -> Prop
 | [], st => Wh K (st.at (base + n))
 | (i, ⟨dst, op, none⟩) :: rest, st => H7 P A AB (st.at (base + i)) dst op ⟨C6 P A AB base n K rest, ⟨⟩⟩
 | (i, ⟨dst, op, some (d, want)⟩) :: rest, st => gM (Fe st d) want ⟨fun _ => H7 P A AB (st.at (base + i)) dst op ⟨C6 P A AB base n K rest, ⟨⟩⟩, ⟨⟩⟩ ⟨fun _ => C6 P A AB base n K rest (st.put dst .und), ⟨⟩⟩
section
variable {P : Program} {A : BD} {AB : A2}
theorem St.at_at (st : St) (c d : Nat) : (st.at c).at d = st.at d := rfl
theorem V8 {v : LV} {want : Bool} {f f' g g' : Unit -> Prop} (h1 : f () = f' ()) (h2 : g () = g' ()) : gM v want ⟨f, ⟨⟩⟩ ⟨g, ⟨⟩⟩ = gM v want ⟨f', ⟨⟩⟩ ⟨g', ⟨⟩⟩ := by
 unfold gM
 split
 .simp only [gW, h1, h2]
 .exact h2
 rfl
theorem Oe (base n : Nat) (K : Az St) (l : List (Nat × Gu)) : ∀ (st : St) (c : Nat), C6 P A AB base n K l (st.at c) = C6 P A AB base n K l st := by
 induction l with
 | nil => intro st c; rfl
 | cons p l ih =>
  intro st c
  obtain ⟨i, dst, op, g⟩ := p
  cases g with
  | none => rfl
  | some g =>
   obtain ⟨d, want⟩ := g
   have e1 : Fe (st.at c) d = Fe st d := by cases d <;> rfl
   have e2 : C6 P A AB base n K l ((st.at c).put dst .und) = C6 P A AB base n K l (st.put dst .und) := by
    have : (st.at c).put dst .und = (st.put dst .und).at c := by cases dst <;> rfl
    rw [this, ih]
   simp only [C6, e1, St.at_at]
   exact V8 rfl e2
theorem Sj {neg : Bool} {t : Nat} {x y : LV} {k : Az LV} (h : Vr AB neg t x y k) : ∃ l, P0 AB neg t x y (· = l) /\ k.f l := by
 unfold Vr at h
 split at h
 .exact h.elim
 rename_i hne
 unfold Sd at h
 unfold P0
 split at h
 .exact ⟨_, rfl, h⟩
 .obtain ⟨ti, h1, h2, h3⟩ := AP.1 h; exact ⟨_, ⟨⟨ti, h1, h2⟩, rfl⟩, h3⟩
 .obtain ⟨ks, h1, h2, h3, h4⟩ := AN.1 h; exact ⟨_, ⟨ks, h1, h2, h3, rfl⟩, h4⟩
 .exact absurd rfl hne
 .exact absurd rfl hne
 .exact absurd rfl hne
 .exact ⟨_, ⟨h.1, rfl⟩, h.2⟩
 .exact ⟨_, ⟨h.1, rfl⟩, h.2⟩
 .exact ⟨_, ⟨h.1, rfl⟩, h.2⟩
 exact h.elim
theorem VB {op : BinOp} {t : Nat} {x y : LV} {k : Az LV} (h : PY AB op t x y k) : ∃ l, PX AB op t x y (· = l) /\ k.f l := by
 unfold PY at h
 unfold PX
 split at h
 .obtain ⟨v, h1, h2⟩ := Nj h.2
  exact ⟨_, ⟨h.1, v, h1, rfl⟩, h2⟩
 rename_i hne
 split
 .exact absurd rfl (hne _ _ _ _ rfl)
 split at h
 .exact Sj h
 .exact Sj h
 exact h.elim
theorem Ll {place : Nat -> Option (Nat × Nat)} {k : Az (List LV)} : ∀ {ps : List (Nat × LV)} {cells : List LV}, JZ AB place cells ps k -> ∃ l, Ha AB place cells ps (· = l) /\ k.f l
 | [], _, h => ⟨_, rfl, h⟩
 | (i, v) :: rest, cells, h => by
  obtain ⟨p, h1, h⟩ := AN.1 h
  obtain ⟨ti, h2, h⟩ := AP.1 h
  obtain ⟨ls, h3, ⟨h4, h5⟩, h⟩ := AN.1 h
  obtain ⟨l, h6, h7⟩ := Ll h
  exact ⟨l, ⟨p.1, p.2, ti, ls, h1, h2, h3, h4, h5, h6⟩, h7⟩
theorem Lm {place : Nat -> Option (Nat × Nat)} {f : List LV -> LV} {l : List LV} : ∀ {ps : List (Nat × LV)} {cells : List LV}, Ha AB place cells ps (· = l) -> Ha AB place cells ps fun c => f c = f l
 | [], _, h => congrArg f h
 | (i, v) :: rest, cells, ⟨off, t, ti, ls, h1, h2, h3, h4, h5, h6⟩ => ⟨off, t, ti, ls, h1, h2, h3, h4, h5, Lm h6⟩
theorem IE {d : Int} {x : Option LV} {k : Az Int} (h : Ja d x k) : ∃ n, (∀ k' : Int -> Prop, k' n -> Ff d x k') /\ k.f n := by
 unfold Ja at h; unfold Ff
 split at h
 .exact ⟨_, fun _ h => h, h⟩
 .exact ⟨_, fun _ h => h, h⟩
 exact h.elim
theorem UI {h : AT} {ti : TI} {p : LV} {k : Az LV} (hl : OZ h ti p k) : ∃ l, F0 h ti p (· = l) /\ k.f l := by
 unfold OZ at hl
 unfold F0
 split at hl
 .obtain ⟨r, h1, h2⟩ := AN.1 hl
  exact ⟨r, ⟨r, h1, rfl⟩, h2⟩
 .obtain ⟨o, h1, hl⟩ := AN.1 hl
  obtain ⟨cells, rfl, hl⟩ := HE.1 hl
  obtain ⟨r, h2, h3⟩ := AN.1 hl
  exact ⟨r, ⟨cells, r, h1, h2, rfl⟩, h3⟩
 .obtain ⟨o, h1, hl⟩ := AN.1 hl
  obtain ⟨e, sz, elems, rfl, hl⟩ := FM.1 hl
  obtain ⟨x, h2, hl⟩ := AN.1 hl
  obtain ⟨r, h3, h4⟩ := AN.1 hl
  exact ⟨r, ⟨e, sz, elems, x, r, h1, h2, h3, rfl⟩, h4⟩
 exact hl.elim
theorem TU {t : Nat} {x : LV} {lo hi : Option LV} {k : Az LV} (h : Jb AB t x lo hi k) : ∃ l, Jc AB t x lo hi (· = l) /\ k.f l := by
 unfold Jb at h
 unfold Jc
 split at h
 .obtain ⟨ti, h1, h⟩ := AP.1 h
  obtain ⟨e, h2, h⟩ := CB.1 h
  obtain ⟨te, h3, h4, h⟩ := AP.1 h
  obtain ⟨a, ka, h⟩ := IE h
  obtain ⟨b, kb, h5, h⟩ := IE h
  exact ⟨_, ⟨⟨ti, e, h1, h2, te, h3, h4⟩, ka _ (kb _ ⟨h5.1, h5.2.1, h5.2.2, rfl⟩)⟩, h⟩
 .obtain ⟨ti, h1, h⟩ := AP.1 h
  obtain ⟨e, h2, h⟩ := CB.1 h
  obtain ⟨te, h3, h4, h6, h⟩ := AP.1 h
  obtain ⟨a, ka, h⟩ := IE h
  obtain ⟨b, kb, h5, h⟩ := IE h
  exact ⟨_, ⟨⟨ti, e, h1, h2, te, h3, h4⟩, h6, ka _ (kb _ ⟨h5.1, h5.2.1, h5.2.2, rfl⟩)⟩, h⟩
 .obtain ⟨ti, h1, h2, h⟩ := AP.1 h
  obtain ⟨a, ka, h⟩ := IE h
  obtain ⟨b, kb, h5, h⟩ := IE h
  exact ⟨_, ⟨⟨ti, h1, h2⟩, ka _ (kb _ ⟨h5.1, h5.2.1, h5.2.2, rfl⟩)⟩, h⟩
 exact h.elim
theorem V9 {st : St} {dst : Option Tmp} {op : Op} {K : Az St} (hK : ∀ (s : St) (c : Nat), K.f (s.at c) -> K.f s) (h : H7 P A AB st dst op K) {o : Oper} (ho : o.dst = dst) :
  ∃ l e, B1 P AB st op l e /\ K.f (apS st st.ctr o l e) := by
 subst ho
 have keep : ∀ l, K.f (st.put o.dst l) -> K.f (apS st st.ctr o l .keep) := fun l h => by
  have : apS st st.ctr o l .keep = st.put o.dst l := rfl
  rw [this]; exact h
 have goes : ∀ l e h' c, e.ap st.ctr st.heap = h' -> K.f (st.go o.dst l h' c) -> K.f (apS st st.ctr o l e) := fun l e h' c he hk => by
  refine hK _ c ?_
  have : (apS st st.ctr o l e).at c = st.go o.dst l h' c := by
   unfold apS St.go St.at St.put
   rw [he]
   cases o.dst <;> rfl
  rw [this]; exact hk
 have nC : ∀ l, nW AB st op (· = l) -> (B1 P AB st op l .keep ↔ (Do.keep = Do.keep /\ nW AB st op (· = l))) -> K.f (st.put o.dst l) -> ∃ l e, B1 P AB st op l e /\ K.f (apS st st.ctr o l e) :=
  fun l h1 h2 h3 => ⟨l, .keep, h2.2 ⟨rfl, h1⟩, keep l h3⟩
 cases op <;> simp only [H7, BC] at h
 case move x => exact nC _ rfl Iff.rfl h
 case assign x => exact nC _ rfl Iff.rfl h
 case pick c a b => obtain ⟨t, h1, h2⟩ := KC.1 h; exact nC _ ⟨t, h1, rfl⟩ Iff.rfl h2
 case nilCheck x =>
  unfold U1 at h
  split at h <;> first | exact h.elim | (rename_i e; refine nC _ ?_ Iff.rfl h; simp only [nW, e]; exact ⟨trivial, trivial⟩)
 case binOp op t x y z => obtain ⟨l, h1, h2⟩ := VB h; exact nC l h1 Iff.rfl h2
 case unOp op t x =>
  cases op <;> simp only at h
  case neg => obtain ⟨kk, n, h1, h2⟩ := B3.1 h; exact nC _ (by simp only [nW, Si, h1]) Iff.rfl h2
  case not => obtain ⟨b, h1, h2⟩ := KC.1 h; exact nC _ (by simp only [nW, Si, h1]) Iff.rfl h2
 case convert s d x =>
  obtain ⟨kk, n, h1, h⟩ := B3.1 h
  obtain ⟨tj, h2, h⟩ := AP.1 h
  obtain ⟨ti, h3, h⟩ := AP.1 h
  obtain ⟨kd, h4, h⟩ := AN.1 h
  refine nC _ ⟨kk, n, ti, tj, h1, h2, h3, kd, ?_, rfl⟩ Iff.rfl h
  generalize ti.sh = q at h4
  cases q <;> simp [TQ] at h4
  rw [h4]
 case extract t i =>
  unfold U2 at h
  split at h
  .rename_i l hl; obtain ⟨v, h1, h2⟩ := AN.1 h; exact nC v (by simp only [nW, hl]; exact ⟨v, h1, rfl⟩) Iff.rfl h2
  .rename_i l hl; obtain ⟨v, h1, h2⟩ := AN.1 h; exact nC _ (by simp only [nW, hl]; exact ⟨v, h1, rfl⟩) Iff.rfl h2
  exact h.elim
 case field t x i =>
  obtain ⟨ti, h1, h⟩ := AP.1 h
  obtain ⟨fs, h2, h⟩ := Ec.1 h
  obtain ⟨f, h3, h⟩ := AN.1 h
  obtain ⟨tf, h4, h⟩ := AP.1 h
  try dsimp only at h
  unfold U3 at h
  split at h
  .rename_i l hl
   obtain ⟨v, h5, h6⟩ := AN.1 h
   exact nC v ⟨ti, fs, f.1, f.2, tf, l, v, h1, h2, h3, h4, by rw [hl]; rfl, by rw [hl]; trivial, h5, rfl⟩ Iff.rfl h6
  .rename_i l hl
   obtain ⟨v, h5, h6⟩ := AN.1 h
   exact nC v ⟨ti, fs, f.1, f.2, tf, l.map .p, v, h1, h2, h3, h4, by rw [hl]; rfl, by rw [hl]; trivial, h5, rfl⟩ Iff.rfl h6
  exact h.elim
 case build t ps =>
  obtain ⟨ti, h1, h⟩ := AP.1 h
  try dsimp only at h
  unfold Mh at h
  split at h
  .rename_i fs hsh
   obtain ⟨l, h2, h3⟩ := Ll h.2
   exact nC _ ⟨ti, h1, by simp only [hsh]; exact ⟨h.1, Lm h2⟩⟩ Iff.rfl h3
  .rename_i n e hsh
   obtain ⟨te, h2, h⟩ := AP.1 h
   obtain ⟨l, h3, h4⟩ := Ll h
   exact nC _ ⟨ti, h1, by simp only [hsh]; exact ⟨te, h2, Lm h3⟩⟩ Iff.rfl h4
  exact h.elim
 case fieldAddr t x i =>
  obtain ⟨ti, h1, h⟩ := AP.1 h
  obtain ⟨fs, h2, h⟩ := Ec.1 h
  obtain ⟨f, h3, h⟩ := AN.1 h
  obtain ⟨tf, h4, h5, h⟩ := AP.1 h
  try dsimp only at h
  unfold TN at h
  split at h <;> first | exact h.elim | (rename_i e; exact nC _ ⟨ti, fs, f.1, f.2, tf, h1, h2, h3, h4, h5, by simp only [e]⟩ Iff.rfl h)
 case indexAddr t x i =>
  obtain ⟨kk, n, h1, h⟩ := B3.1 h
  obtain ⟨ti, h2, h⟩ := AP.1 h
  try dsimp only at h
  unfold Wb at h
  split at h
  .rename_i e1 e2
   obtain ⟨te, g1, g2, g3, h⟩ := AP.1 h
   obtain ⟨c, g4, g5⟩ := AN.1 h
   exact nC _ ⟨kk, n, ti, h1, h2, by simp only [e1, e2]; exact ⟨⟨te, g1, g2⟩, g3, c, g4, rfl⟩⟩ Iff.rfl g5
  .rename_i e1 e2
   obtain ⟨te, g1, g2, ⟨g3, g4⟩, h⟩ := AP.1 h
   exact nC _ ⟨kk, n, ti, h1, h2, by simp only [e1, e2]; exact ⟨⟨te, g1, g2⟩, g3, g4, trivial⟩⟩ Iff.rfl h
  .rename_i e1 e2
   obtain ⟨te, g1, ⟨g2, g3⟩, h⟩ := AP.1 h
   exact nC _ ⟨kk, n, ti, h1, h2, by simp only [e1, e2]; exact ⟨te, g1, g2, g3, rfl⟩⟩ Iff.rfl h
  .rename_i e1 e2
   obtain ⟨te, g1, ⟨g2, g3⟩, h⟩ := AP.1 h
   exact nC _ ⟨kk, n, ti, h1, h2, by simp only [e1, e2]; exact ⟨te, g1, g2, g3, rfl⟩⟩ Iff.rfl h
  exact h.elim
 case index t x i =>
  obtain ⟨kk, n, h1, h⟩ := B3.1 h
  obtain ⟨ti, h2, h0, h⟩ := AP.1 h
  try dsimp only at h
  unfold Wc at h
  split at h
  .rename_i e1 e2
   obtain ⟨te, g1, g2, h⟩ := AP.1 h
   obtain ⟨v, g3, g4⟩ := AN.1 h
   exact nC v ⟨kk, n, ti, h1, h2, h0, by simp only [e1, e2]; exact ⟨te, v, g1, g2, g3, rfl⟩⟩ Iff.rfl g4
  .rename_i e1 e2
   obtain ⟨te, g1, g2, h⟩ := AP.1 h
   obtain ⟨v, g3, g4⟩ := AN.1 h
   exact nC v ⟨kk, n, ti, h1, h2, h0, by simp only [e1, e2]; exact ⟨te, v, g1, g2, g3, rfl⟩⟩ Iff.rfl g4
  .rename_i e1 e2
   obtain ⟨c, g1, g2⟩ := AN.1 h
   exact nC _ ⟨kk, n, ti, h1, h2, h0, by simp only [e1, e2]; exact ⟨c, g1, rfl⟩⟩ Iff.rfl g2
  exact h.elim
 case makeFunc fn first caps =>
  cases fn <;> simp only at h
  rename_i f
  exact nC _ ⟨by simpa using h.1, f, rfl, rfl⟩ Iff.rfl h.2
 case slice t x lo hi mx =>
  cases mx with
  | some m => exact h.elim
  | none => obtain ⟨l, h1, h2⟩ := TU h; exact nC l ⟨rfl, h1⟩ Iff.rfl h2
 case load t x =>
  obtain ⟨hc', h⟩ := h
  obtain ⟨ti, h1, h2⟩ := AP.1 h
  obtain ⟨l, h3, h4⟩ := UI h2
  exact ⟨l, .keep, ⟨rfl, hc', ti, h1, h3⟩, keep l h4⟩
 case store t x v =>
  obtain ⟨hc', h⟩ := h
  obtain ⟨ti, h1, h⟩ := AP.1 h
  obtain ⟨ls, h2, ⟨h3, h4⟩, h⟩ := AN.1 h
  try dsimp only at h
  unfold Q8 at h
  split at h
  .rename_i id off e
   obtain ⟨o', g1, h⟩ := AN.1 h
   obtain ⟨cells, rfl, g2, h⟩ := HE.1 h
   refine ⟨.any, .set _, ⟨hc', _, rfl, ?_⟩, goes _ _ _ _ rfl h⟩
   simp only [mW, Ik]
   exact ⟨ti, h1, ls, h2, h3, h4, by simp only [e]; exact ⟨cells, g1, g2, trivial, rfl⟩⟩
  .rename_i id i off e
   obtain ⟨o', g1, h⟩ := AN.1 h
   obtain ⟨e', sz, elems, rfl, h⟩ := FM.1 h
   obtain ⟨x, g2, h⟩ := AN.1 h
   obtain ⟨ds, g3, g4, h⟩ := AN.1 h
   refine ⟨.any, .set _, ⟨hc', _, rfl, ?_⟩, goes _ _ _ _ rfl h⟩
   simp only [mW, Ik]
   exact ⟨ti, h1, ls, h2, h3, h4, by simp only [e]; exact ⟨e', sz, elems, x, ds, g1, g2, g4, g3, trivial, rfl⟩⟩
  exact h.elim
 case alloc t => obtain ⟨ti, h1, h2⟩ := AP.1 h; exact ⟨_, .new _, ⟨ti, h1, rfl, rfl⟩, goes _ _ _ _ rfl h2⟩
 case box t x => obtain ⟨ls, h1, h2⟩ := AN.1 h; exact ⟨_, .new _, ⟨ls, h1, rfl, rfl⟩, goes _ _ _ _ rfl h2⟩
 case buildSlice t n ps =>
  obtain ⟨ti, h1, h⟩ := AP.1 h
  obtain ⟨e, h2, h⟩ := CB.1 h
  obtain ⟨te, h3, ⟨h4, h5⟩, h⟩ := AP.1 h
  obtain ⟨l, h6, h7, h⟩ := AN.1 h
  rcases h with h | h
  .exact ⟨_, .new _, ⟨ti, e, te, l, h1, h2, h3, h4, h5, h6, h7, .inl ⟨rfl, rfl⟩⟩, goes _ _ _ _ rfl h⟩
  exact ⟨_, .keep, ⟨ti, e, te, l, h1, h2, h3, h4, h5, h6, h7, .inr ⟨rfl, rfl⟩⟩, keep _ h⟩
 case makeSlice t l c =>
  obtain ⟨ti, h1, h⟩ := AP.1 h
  obtain ⟨e, h2, h⟩ := CB.1 h
  obtain ⟨te, h3, h⟩ := AP.1 h
  obtain ⟨k1, n, h4, h⟩ := B3.1 h
  obtain ⟨k2, n', h5, ⟨h9, h6, h7, h8⟩, h⟩ := B3.1 h
  simp only at h9
  subst h9
  rcases h with h | h
  .exact ⟨_, .new _, ⟨ti, e, te, n', k1, k2, h1, h2, h3, h4, h5, h6, h7, h8, .inl ⟨rfl, rfl⟩⟩, goes _ _ _ _ rfl h⟩
  exact ⟨_, .keep, ⟨ti, e, te, n', k1, k2, h1, h2, h3, h4, h5, h6, h7, h8, .inr ⟨rfl, rfl⟩⟩, keep _ h⟩
 case makeMap t r =>
  cases r with
  | some r => exact h.elim
  | none => exact ⟨_, .new _, ⟨rfl, rfl, rfl⟩, goes _ _ _ _ rfl h⟩
 case lookup t x i ok =>
  obtain ⟨ti, h1, h⟩ := AP.1 h
  obtain ⟨kt, et, h2, h⟩ := Es.1 h
  obtain ⟨te, h3, h⟩ := AP.1 h
  obtain ⟨m, h4, h⟩ := AN.1 h
  obtain ⟨kd, h5, ⟨h6, h7⟩, h⟩ := Cq.1 h
  exact ⟨_, .keep, ⟨rfl, ti, kt, et, te, m, kd, h1, h2, h3, h4, h5, h6, h7, rfl⟩, keep _ h⟩
 case mapUpdate t x i v =>
  obtain ⟨ti, h1, h⟩ := AP.1 h
  obtain ⟨kt, et, h2, h⟩ := Es.1 h
  obtain ⟨id, h3, h⟩ := EL.1 h
  obtain ⟨o', h4, h⟩ := AN.1 h
  obtain ⟨m, rfl, h⟩ := FL.1 h
  obtain ⟨kd, h5, h⟩ := Cq.1 h
  obtain ⟨vd, h6, ⟨h7, h8⟩, h⟩ := Cq.1 h
  refine ⟨.any, .set _, ⟨_, rfl, ?_⟩, goes _ _ _ _ rfl h⟩
  simp only [mW, K0]
  exact ⟨ti, kt, et, id, m, kd, vd, h1, h2, h3, h4, h5, h6, h7, h8, trivial, rfl⟩
 case mapEntry t x i =>
  obtain ⟨ti, h1, h⟩ := AP.1 h
  obtain ⟨kt, et, h2, h⟩ := Es.1 h
  obtain ⟨te, h3, h⟩ := AP.1 h
  obtain ⟨id, h4, h⟩ := EL.1 h
  obtain ⟨o', h5, h⟩ := AN.1 h
  obtain ⟨m, rfl, h⟩ := FL.1 h
  obtain ⟨kd, h6, ⟨h7, h8⟩, h⟩ := Cq.1 h
  refine ⟨_, .set _, ⟨_, rfl, ?_⟩, goes _ _ _ _ rfl h⟩
  simp only [mW, K1]
  exact ⟨ti, kt, et, te, id, m, kd, h1, h2, h3, h4, h5, h6, h7, h8, rfl, rfl⟩
 case entryStore t x s v =>
  obtain ⟨id, h1, h⟩ := EL.1 h
  obtain ⟨o', h2, h⟩ := AN.1 h
  obtain ⟨m, rfl, h⟩ := FL.1 h
  obtain ⟨kk, n, h3, h⟩ := B3.1 h
  obtain ⟨vd, h4, h0, h⟩ := Cq.1 h
  obtain ⟨p, h5, h⟩ := AN.1 h
  refine ⟨.any, .set _, ⟨_, rfl, ?_⟩, goes _ _ _ _ rfl h⟩
  simp only [mW, Mc]
  exact ⟨id, m, kk, n, vd, p, h1, h2, h3, h0, h5, h4, trivial, rfl⟩
 case call c =>
  obtain ⟨callee, args, ats⟩ := c
  simp only at h
  split at h
  .rename_i x t e2 e3
   obtain ⟨ti, h1, h⟩ := AP.1 h
   have ha : args = #[x] := by rw [<- Array.toList_inj, e2]
   have hb : ats = #[t] := by rw [<- Array.toList_inj, e3]
   try dsimp only at h
   unfold TT at h
   split at h
   .rename_i g; exact nC _ (by simp only [nW]; exact ⟨x, t, ti, ha, hb, h1, by simp only [g]⟩) Iff.rfl h
   .rename_i g1 g2; exact nC _ (by simp only [nW]; exact ⟨x, t, ti, ha, hb, h1, by simp only [g1, g2, Jd]; try (intros; trivial)⟩) Iff.rfl h
   .rename_i g1 g2; exact nC _ (by simp only [nW]; exact ⟨x, t, ti, ha, hb, h1, by simp only [g1, g2, Jd]; try (intros; trivial)⟩) Iff.rfl h
   .rename_i g1 g2; exact nC _ (by simp only [nW]; exact ⟨x, t, ti, ha, hb, h1, by simp only [g1, g2, Jd]; try (intros; trivial)⟩) Iff.rfl h
   .rename_i g1 g2; exact nC _ (by simp only [nW]; exact ⟨x, t, ti, ha, hb, h1, by simp only [g1, g2, Jd]; try (intros; trivial)⟩) Iff.rfl h
   exact h.elim
  .exact h.elim
  .rename_i f
   obtain ⟨k, caps, g1, g2⟩ := Se.1 h
   rcases g2 with ⟨ds, r, g3, g4, g5, g6⟩ | ⟨g0, ds, t, sz, elems, g3, g4, g5, g6⟩
   .exact ⟨_, .keep, .inl ⟨rfl, k, caps, ds, r, g1, g3, g4, g5, rfl⟩, keep _ g6⟩
   exact ⟨_, .new _, .inr ⟨g0, k, caps, ds, t, sz, elems, g1, g3, g4, g5, rfl, rfl⟩, goes _ _ _ _ rfl g6⟩
  rename_i hne
  unfold Ob at h
  simp only at h
  split at h
  .rename_i g; exact (g _ rfl).elim
  .rename_i s x t t' e2 e3 _ _
   obtain ⟨rfl, h⟩ := h
   obtain ⟨ti, h1, h⟩ := AP.1 h
   obtain ⟨e, h2, h⟩ := CB.1 h
   obtain ⟨te, h3, h4, h⟩ := AP.1 h
   obtain ⟨new, h5, h6, h⟩ := AN.1 h
   have ha : args = #[s, x] := by rw [<- Array.toList_inj, e2]
   have hb : ats = #[t', t'] := by rw [<- Array.toList_inj, e3]
   try dsimp only at h
   unfold TP at h
   split at h
   .rename_i e9
    refine ⟨_, .set _, ⟨_, rfl, ?_⟩, goes _ _ _ _ rfl h.2⟩
    simp only [mW]
    exact ⟨trivial, s, x, t', ha, hb, ti, e, te, h1, h2, h3, h4, new, h5, h6, by simp only [e9]; exact ⟨h.1.1, h.1.2, trivial, trivial⟩⟩
   .rename_i id sz off len e9
    obtain ⟨hsz, h⟩ := h
    obtain ⟨o', g1, h⟩ := AN.1 h
    obtain ⟨e', sz', elems, rfl, ⟨k1, k2, g2, g3, g4⟩, h9⟩ := FM.1 h
    subst k1; subst k2
    refine ⟨_, .set _, ⟨_, rfl, ?_⟩, goes _ _ _ _ rfl h9⟩
    simp only [mW]
    exact ⟨trivial, s, x, t', ha, hb, ti, e', te, h1, h2, h3, h4, new, h5, h6, by simp only [e9]; exact ⟨elems, hsz, g1, g2, g3, g4, trivial, rfl⟩⟩
   exact h.elim
  .rename_i x t e2 e3
   simp_all
  .obtain ⟨r, h1, h⟩ := AN.1 h
   exact nC _ (by simp only [nW]; exact ⟨r, h1, rfl⟩) Iff.rfl h
  .obtain ⟨r, h1, h⟩ := AN.1 h
   exact nC _ (by simp only [nW]; exact ⟨r, h1, rfl⟩) Iff.rfl h
  exact h.elim
 all_goals exact h.elim
def F3 (ops : List Oper) (order : List Nat) : List (Nat × Gu) :=
 match order with
 | [] => []
 | i :: rest => match ops[i]? with
  | some o => (i, Mg ops o) :: F3 ops rest
  | none => []
theorem Io {ops : List Oper} {base : Nat} {K : Az St} : ∀ (order : List Nat) (st : St), (order.all fun i => decide (i < ops.length)) = true -> C6 P A AB base ops.length K (F3 ops order) st ->
  F2 P AB ops.toArray base (fun st' => K.f { st' with ctr := base + ops.length }) order st
 | [], st, _, h => h.h
 | i :: rest, st, hb, h => by
  simp only [List.all_cons, Bool.and_eq_true, decide_eq_true_eq] at hb
  obtain ⟨o, ho⟩ : ∃ o, ops[i]? = some o := ⟨_, List.getElem?_eq_getElem hb.1⟩
  have ih := Io (ops := ops) (base := base) (K := K) rest
  have hp : F3 ops (i :: rest) = (i, Mg ops o) :: F3 ops rest := by simp [F3, ho]
  rw [hp] at h
  have ho' : ops.toArray[i]? = some o := by simpa using ho
  have step : H7 P A AB (st.at (base + i)) o.dst o.op ⟨C6 P A AB base ops.length K (F3 ops rest), ⟨⟩⟩ ->
    ∃ l e, B1 P AB (st.at (base + i)) o.op l e /\ F2 P AB ops.toArray base (fun st' => K.f { st' with ctr := base + ops.length }) rest (apS st (base + i) o l e) := fun h => by
   obtain ⟨l, e, h1, h2⟩ := V9 (fun s c hk => by
    have := Oe (P := P) (A := A) (AB := AB) base ops.length K (F3 ops rest) s c
    simp only at hk ⊢
    rw [<- this]; exact hk) h (o := o) rfl
   refine ⟨l, e, h1, ih _ hb.2 ?_⟩
   have e1 : apS (st.at (base + i)) (st.at (base + i)).ctr o l e = (apS st (base + i) o l e).at (base + i) := by
    unfold apS St.at St.put
    cases o.dst <;> rfl
   simp only at h2
   rw [e1, Oe] at h2
   exact h2
  simp only [F2, ho']
  simp only [Mg] at h
  cases hg : o.guard with
  | none =>
   rw [hg] at h
   exact step h
  | some g =>
   obtain ⟨j, want⟩ := g
   rw [hg] at h
   simp only [C6, P1] at h
   unfold gM at h
   have sk : C6 P A AB base ops.length K (F3 ops rest) (st.put o.dst .und) -> F2 P AB ops.toArray base (fun st' => K.f { st' with ctr := base + ops.length }) rest (apS st (base + i) o .und .keep) := fun h => by
    have e1 : apS st (base + i) o .und .keep = st.put o.dst .und := rfl
    rw [e1]; exact ih _ hb.2 h
   simp only
   split at h
   .rename_i b e
    try simp only [e]
    exact ⟨fun hb => step (h.1 hb), fun hb => sk (h.2 hb)⟩
   .rename_i e
    try simp only [e]
    exact sk h
   exact h.elim
end
end Go.E
/- The equations by which a drawn region is reckoned. Written by a program (mkev.py). No condition. -/
namespace Go.E
open Go Go.RowKit
section
variable {P : Program}
theorem Xq {h : AT} {k : Nat} {args : List LV} {ds : List DV} {r : DV} {f : DV -> Prop} {hf : H6 f} (hds : Bi h args = some ds) (hF : A7 P k ds (· = r))
  (hs : r.scalar = true \/ args.flatMap (Dn h) = []) (hK : f r) : VA P h k args ⟨f, hf⟩ := ⟨ds, r, hds, hF, hs, hK⟩
end
end Go.E
/- Functions that hand back a slice of their own: the caller may write into it. No condition. -/
namespace Go.E
open Go Go.RowKit
section
variable {P : Program} {A : BD} {AB : A2}
theorem Dh.own {h : AT} {ctr k : Nat} {args : List LV} {ds : List DV} {e sz : Nat} {elems : List (List DV)} {K : LV -> AT -> Nat -> Prop} (hds : Bi h args = some ds) (hf : GE P k ds e sz elems)
  (hl : args.flatMap (Dn h) = []) (hK : K (.lsl ctr sz 0 elems.length) ((ctr, .row e sz elems) :: h) (ctr + 1)) : Dh P A h ctr k args K := by
 refine ⟨hf.enters, fun μ w vs hh hsz hr => ?_⟩
 obtain ⟨g1, g2⟩ := Eb hh (l := args.flatMap (Dn h)) hds (fun id hid => hid)
 rw [hl] at g2
 have hO : ∀ b, Ae A μ h b -> b < w.heap.size := by
  rintro b (hb | ⟨id, x, lc, h1, h2, h3, rfl⟩)
  .exact Nat.lt_of_lt_of_le (A.hO b hb).1 hh.size
  exact (hh.base id x lc h1 h2 h3).1
 refine (hf.run (Ae A μ h) w vs hO (by omega) fun i v d hv hd => ?_).mono fun en w' ⟨v, he, hn, hb⟩ => ?_
 .have hi := (List.getElem?_eq_some_iff.1 hd).1
  have hx : args[i]? = some (args[i]'(by omega)) := List.getElem?_eq_getElem _
  exact g2 i v _ d hx hd (hr i v _ hv hx)
 have hno : μ ctr = none := hh.fresh ctr (Nat.le_refl _)
 obtain ⟨hlen, hn⟩ := hn
 have hkm : BM (Bt μ h) w w' := ⟨hb.size, fun b hb' _ => hb.block b hb'⟩
 have hsub : ∀ id x, AJ id ((ctr, A8.row e sz elems) :: h) = some x -> (id = ctr /\ x = .row e sz elems) \/ AJ id h = some x := by
  intro id x hx
  simp only [AJ] at hx
  split at hx
  .cases hx; exact .inl ⟨‹_›, rfl⟩
  exact .inr hx
 have hold : ∀ id x lc, AJ id ((ctr, A8.row e sz elems) :: h) = some x -> id ≠ ctr -> μ id = some lc -> lc.nil = false -> w'.heap[lc.b]? = w.heap[lc.b]? := by
  intro id x lc hx hne hm hnl
  rcases hsub id x hx with ⟨rfl, _⟩ | hx
  .exact absurd rfl hne
  exact hb.block _ (hh.base id x lc hx hm hnl).1
 have fin : ∀ (loc : BV), (loc.nil = false -> loc.b < w'.heap.size /\ w.heap.size <= loc.b) ->
   (∀ O' : Nat -> Prop, (∀ b, O' b -> Ae A μ h b \/ (loc.nil = false /\ b = loc.b)) -> C7 O' (BJ μ ctr loc) w' loc (.row e sz elems)) ->
   (∀ O', Ac O' (BJ μ ctr loc) w' v (.lsl ctr sz 0 elems.length)) ->
   ∃ u l h' c' μ', en = .returned u /\ K l h' c' /\ HRel A μ' h' (Fr c') w' /\ Ac (Ae A μ' h') μ' w' u l /\ ∀ v x, Ac (Ae A μ h) μ w v x -> Ac (Ae A μ' h') μ' w' v x := by
  intro loc hloc ho hu
  have hfr : NM μ h ((ctr, A8.row e sz elems) :: h) w loc := fun hn => .inl (hloc hn).2
  have hown := hh.sub_add loc (.row e sz elems) ((ctr, .row e sz elems) :: h) hfr hsub
  have hcov : ∀ b, Ae A (BJ μ ctr loc) ((ctr, .row e sz elems) :: h) b -> Ae A μ h b \/ (loc.nil = false /\ b = loc.b) := by
   rintro b (hb' | ⟨id, x, lc, h1, h2, h3, h4⟩)
   .exact .inl (.inl hb')
   by_cases e' : id = ctr
   .subst e'
    simp only [BJ, if_true, Option.some.injEq] at h2
    subst h2; exact .inr ⟨h3, h4.symm⟩
   rcases hsub id x h1 with ⟨e'', _⟩ | h1
   .exact absurd e'' e'
   simp only [BJ, e', if_false] at h2
   exact .inl (.inr ⟨id, x, lc, h1, h2, h3, h4⟩)
  have hadd := hh.add (w' := w') hno loc (.row e sz elems) ((ctr, .row e sz elems) :: h) (fun hn => (hloc hn).1) hfr hsub hkm hold hb.os hb.tape hb.output (ho _ hcov)
  exact ⟨v, _, _, _, _, he, hK, hadd.less (fun id hid => by simp only [Fr] at hid ⊢; omega), hu _, fun v x hv => hv.mono hkm.own hown (JG hno loc)⟩
 rcases hn with ⟨rfl, rfl⟩ | ⟨a, b, o, cap, c, rfl, h1, h2, h3, h4, h5, h6, h7, h8, h9, h10⟩
 .exact fin ⟨true, 0, 0, sz, 0⟩ (fun hn => by cases hn) (fun O' _ => ⟨rfl, hlen, .inl ⟨rfl, rfl⟩⟩) (fun O' => .lsln ctr ⟨true, 0, 0, sz, 0⟩ (by simp [BJ]) rfl)
 refine fin ⟨false, b, o, sz, cap⟩ (fun _ => ⟨h2, h1⟩) (fun O' hO' => ⟨rfl, hlen, .inr ⟨rfl, c, h6, h7, h8, h9, fun i j x d u hx hd hu => ?_⟩⟩) (fun O' => ?_)
 .refine (h10 i j x d u hx hd hu).mono (BM.refl _ _) fun q _ hq => ?_
  rcases hO' q hq with hq | ⟨_, hq⟩
  .exact .inl hq
  exact .inr hq
 exact .lsl ctr 0 elems.length cap a ⟨false, b, o, sz, cap⟩ (by simp [BJ]) rfl (by simp) h8 (fun hc => by rw [h3 hc]; simp) h4 h5
def TV (t e sz : Nat) (elems : List (List DV)) : Exit -> St -> Prop := LY fun st =>
 (∃ id, st.eval (.tmp t) = .lsl id sz 0 elems.length /\ AJ id st.heap = some (.row e sz elems)) \/ (st.eval (.tmp t) = .p .nils /\ elems = [])
theorem WA {k : Nat} {fn : Func} {c : Code} (hf : P.funcs[k]? = some fn) (hb : fn.body = some c) (hn : (fn.name == "runtime.NumGoroutine") = false) (nt : Nat) (hnt : fn.ntmps = nt) (t : Nat) (hrs : fn.results.toList = [.tmp t]) {ds : List DV} (hlen : ds.length <= nt)
  {e sz : Nat} {elems : List (List DV)} (hel : ∀ x ∈ elems, x.length = sz)
  (h : ∀ A : BD, (∀ id, A.μ0 id = none) -> Bw P A c (TV t e sz elems) ⟨nt, Cw 0 ds, [], 0⟩) : GE P k ds e sz elems := by
 subst hnt
 refine ⟨MV hf hb hn, fun O w vs hO hsz hrel => ?_⟩
 let A : BD := ⟨w, O, fun _ => False, fun _ => none, fun b hb => ⟨hO b hb, id⟩⟩
 have hR : R A ⟨fn.ntmps, Cw 0 ds, [], 0⟩ { tmps := vs ++ Array.replicate (fn.ntmps - vs.size) undef, defers := [] } w := by
  refine ⟨⟨fun _ => none, ⟨by simp [AJ], by simp [AJ], fun _ _ => rfl, by simp [AJ], Nat.le_refl _, fun _ _ _ => rfl, rfl, rfl, rfl, by simp [A]⟩, fun t ht => ?_⟩, by simp; omega, rfl⟩
  have hown : ∀ b, Ae A (fun _ => none) [] b -> O b := by
   rintro b (hb | ⟨id, x, lc, h1, _⟩)
   .exact hb
   simp [AJ] at h1
  simp only [BU, MX, Nat.zero_le, if_true, Nat.sub_zero]
  by_cases hlt : t < ds.length
  .have hv : t < vs.size := by omega
   have e : ds[t]? = some ds[t] := by simp [hlt]
   rw [e]
   simp only [Option.map_some]
   have e2 : (vs ++ Array.replicate (fn.ntmps - vs.size) undef).getD t undef = vs[t] := by
    rw [Array.getD_eq_getD_getElem?, Array.getElem?_append_left hv]; simp [hv]
   rw [e2]
   exact .p _ _ ((hrel t _ _ (by simp [hv]) e).mono (BM.refl _ _) (fun b _ hb => hown b hb))
  have e : ds[t]? = none := by simp; omega
  rw [e]; exact .any _
 refine calls_of_wp hf hb (wp_mono (h A (fun _ => rfl) _ _ hR) ?_)
 rintro en a' w' ⟨st', ⟨⟨μ, hh, hs⟩, hnt, hdef⟩, hq⟩
 have hres : (results fn a'.tmps).run P w' = .ok (a'.eval (.tmp t)) w' := by
  have : (fn.results.toList.mapM (KY P a'.tmps)).run P w' = .ok [a'.eval (.tmp t)] w' := by
   rw [hrs]; simp [List.mapM_cons, KY, Act.eval]
  exact Ka this
 have hbel : Below w.heap.size w w' := ⟨hh.os, hh.tape, hh.output, hh.size, fun b hb => hh.block b hb id⟩
 have fin : ((∃ id, st'.eval (.tmp t) = .lsl id sz 0 elems.length /\ AJ id st'.heap = some (.row e sz elems)) \/ (st'.eval (.tmp t) = .p .nils /\ elems = [])) ->
   a'.defers = [] /\ ∃ v, (results fn a'.tmps).run P w' = .ok v w' /\ ∃ u, Ending.returned v = .returned u /\ JW w w' O u e sz elems /\ Below w.heap.size w w' := by
  intro hc
  refine ⟨hdef, _, hres, _, rfl, ?_, hbel⟩
  have hv := GB hs (.tmp t)
  rcases hc with ⟨id, h1, h2⟩ | ⟨h1, rfl⟩
  .rw [h1] at hv
   generalize a'.eval (.tmp t) = v at hv
   obtain ⟨loc, m1, ⟨_, m2, m3⟩⟩ := hh.obj id _ h2
   refine ⟨hel, ?_⟩
   generalize hq0 : (0 : Nat) = off at hv
   generalize hq1 : elems.length = n at hv
   cases hv with
   | lsln _ loc' k1 k2 => exact .inl ⟨rfl, by cases elems <;> simp_all⟩
   | lsl _ _ _ cap ad loc' k1 k2 k3 k4 k5 k6 k7 =>
    subst hq0; subst hq1
    rw [m1] at k1; cases k1
    rcases m3 with ⟨m4, _⟩ | ⟨m4, c, m5, m6, m7, m8, m9⟩
    .rw [k2] at m4; cases m4
    have hbase := hh.base id _ loc h2 m1 k2
    refine .inr ⟨ad, loc.b, loc.o, cap, c, rfl, ?_, hbase.1, fun hc => by simpa using k5 hc, k6, k7, m5, by rw [show cap = loc.cap by omega]; exact m6, k4, by omega, fun i j x d u hx hd hu => ?_⟩
    .rcases hbase.2.2 with hb | hb
     .exact hb
     exact hb.elim
    refine (m9 i j x d u hx hd hu).mono (BM.refl _ _) fun q _ hq => ?_
    rcases hq with hq | rfl
    .exact .inl hq
    exact .inr ⟨id, _, loc, h2, m1, k2, rfl⟩
  rw [h1] at hv
  exact ⟨by simp, .inl ⟨hv.nils_inv, rfl⟩⟩
 cases en with
 | normal => exact fin hq
 | ret => exact fin hq
 | _ => exact hq.elim
theorem XQ {h : AT} {c k : Nat} {args : List LV} {ds : List DV} {e sz : Nat} {elems : List (List DV)} {f : LV × AT × Nat -> Prop} {hf : H6 f} (hds : Bi h args = some ds) (hF : GE P k ds e sz elems)
  (hs : args.flatMap (Dn h) = []) (hK : f (.lsl c sz 0 elems.length, (c, .row e sz elems) :: h, c + 1)) : KB P A h c k args ⟨f, hf⟩ :=
 Dh.own hds hF hs hK
end
end Go.E
/- Operations reckoned by unfolding alone (FO, FP, FQ): a run of operations of which each gives its value at once. No condition. -/
namespace Go.E
open Go Go.RowKit
def BX {α : Type} (t : Nat) : List (Nat × α) -> Option α
 | [] => none
 | p :: l => match Nat.beq t p.1 with
  | true => some p.2
  | false => BX t l
theorem BQ {α : Type} {t : Nat} : ∀ {l : List (Nat × α)}, BX t l = AJ t l
 | [] => rfl
 | (k, v) :: l => by
  simp only [BX, AJ]
  by_cases h : t = k
  .subst h; simp
  rw [if_neg h]
  have : Nat.beq t k = false := by
   cases hb : Nat.beq t k with
   | false => rfl
   | true => exact absurd (Nat.eq_of_beq_eq_true hb) h
  rw [this]
  exact BQ
def A9 (nt : Nat) (sl : List (Nat × LV)) (x : Operand) : LV :=
 match x with
 | .tmp t => match Nat.blt t nt with
  | true => match BX t sl with
   | some v => v
   | none => .any
  | false => .any
 | .const v => NQ v
 | .func f => .fn f []
 | .global _ => .any
theorem BE {nt : Nat} {sl : List (Nat × LV)} {h : AT} {c : Nat} {x : Operand} : A9 nt sl x = (⟨nt, sl, h, c⟩ : St).eval x := by
 cases x with
 | tmp t =>
  simp only [A9, St.eval, BU, BQ]
  by_cases hb : t < nt
  .rw [if_pos hb]
   have : Nat.blt t nt = true := Nat.ble_eq_true_of_le hb
   rw [this]; rfl
  rw [if_neg hb]
  have : Nat.blt t nt = false := by
   cases hq : Nat.blt t nt with
   | false => rfl
   | true => exact absurd (Nat.le_of_ble_eq_true hq) hb
  rw [this]
 | const v => rfl
 | func f => rfl
 | global g => rfl
section
variable {α β γ : Type}
def D4 : List α -> Nat -> List α
 | l, 0 => l
 | [], _ + 1 => []
 | _ :: l, n + 1 => D4 l n
theorem IG : ∀ {l : List α} {n : Nat}, D4 l n = l.drop n
 | l, 0 => by simp [D4]
 | [], _ + 1 => by simp [D4]
 | _ :: l, n + 1 => by simp only [D4, List.drop_succ_cons]; exact IG
def JI : List α -> Nat -> (List α -> Option β) -> Option β
 | _, 0, k => k []
 | x :: l, n + 1, k => JI l n (fun r => k (x :: r))
 | [], _ + 1, _ => none
theorem N3 : ∀ {l : List α} {n : Nat} {k : List α -> Option β}, JI l n k = (DE l n).bind k
 | _, 0, k => by simp [JI, DE]
 | x :: l, n + 1, k => by
  simp only [JI, DE]
  rw [N3]
  cases DE l n <;> rfl
 | [], _ + 1, _ => by simp [JI, DE]
def PZ : List LV -> (List DV -> Option β) -> Option β -> Option β
 | [], k, _ => k []
 | .p d :: l, k, e => PZ l (fun ds => k (d :: ds)) e
 | _ :: _, _, e => e
theorem Pa : ∀ {l : List LV} {k : List DV -> Option β} {e : Option β}, PZ l k e = match GF l with | some ds => k ds | none => e
 | [], k, e => by simp [PZ, GF]
 | x :: l, k, e => by
  cases x with
  | p d =>
   simp only [PZ, GF]
   rw [Pa]
   cases GF l <;> rfl
  | _ => rfl
def Pb (l : List LV) (k : LV -> Option β) : Option β := PZ l (fun ds => k (.p (.agg ds))) (k (.agg l))
theorem Pc {l : List LV} {k : LV -> Option β} : Pb l k = k (Ei l) := by
 unfold Pb Ei
 rw [Pa]
 cases GF l <;> rfl
def Qn (ti : TI) (off : Nat) (l : List LV) (k : LV -> Option β) : Option β :=
 match ti.sh with
 | .struct _ | .arr _ _ => JI (D4 l off) ti.size (fun r => Pb r k)
 | _ => match D4 l off with
  | v :: _ => k v
  | [] => none
theorem RD {ti : TI} {off : Nat} {l : List LV} {k : LV -> Option β} : Qn ti off l k = (Cj ti off l).bind k := by
 have hd : (match D4 l off with
  | v :: _ => k v
  | [] => none) = l[off]?.bind k := by
  rw [IG]
  cases hq : l.drop off with
  | nil => simp at hq; simp [List.getElem?_eq_none hq]
  | cons v r =>
   have : l[off]? = some v := by
    have := congrArg (·[0]?) hq
    simpa [List.getElem?_drop] using this
   simp [this]
 have ha : JI (D4 l off) ti.size (fun r => Pb r k) = ((DE (l.drop off) ti.size).map Ei).bind k := by
  rw [N3, IG]
  cases DE (l.drop off) ti.size with
  | none => rfl
  | some r => simp [Pc]
 unfold Qn Cj
 cases hsh : ti.sh <;> simp only [Sh.isAgg] <;> first | exact ha | exact hd
def Of (ti : TI) (off : Nat) (l : List DV) (k : LV -> Option β) : Option β :=
 match ti.sh with
 | .struct _ | .arr _ _ => JI (D4 l off) ti.size (fun r => k (.p (.agg r)))
 | _ => match D4 l off with
  | v :: _ => k (.p v)
  | [] => none
theorem P2 {f : α -> γ} : ∀ {l : List α} {n : Nat}, DE (l.map f) n = (DE l n).map (List.map f)
 | _, 0 => by simp [DE]
 | x :: l, n + 1 => by
  simp only [List.map_cons, DE]
  rw [P2]
  cases DE l n <;> rfl
 | [], _ + 1 => by simp [DE]
theorem UJ {l : List DV} : Ei (l.map .p) = .p (.agg l) := by simp [Ei, RA]
theorem N4 {ti : TI} {off : Nat} {l : List DV} {k : LV -> Option β} : Of ti off l k = (Cj ti off (l.map .p)).bind k := by
 have hd : (match D4 l off with
  | v :: _ => k (.p v)
  | [] => none) = (l.map LV.p)[off]?.bind k := by
  rw [IG, List.getElem?_map]
  cases hq : l.drop off with
  | nil => simp at hq; simp [List.getElem?_eq_none hq]
  | cons v r =>
   have : l[off]? = some v := by
    have := congrArg (·[0]?) hq
    simpa [List.getElem?_drop] using this
   simp [this]
 have ha : JI (D4 l off) ti.size (fun r => k (.p (.agg r))) = ((DE ((l.map LV.p).drop off) ti.size).map Ei).bind k := by
  rw [N3, IG, <- List.map_drop, P2]
  cases DE (l.drop off) ti.size with
  | none => rfl
  | some r => simp [UJ]
 unfold Of Cj
 cases hsh : ti.sh <;> simp only [Sh.isAgg] <;> first | exact ha | exact hd
def Lo : List DV -> (List LV -> Option β) -> Option β
 | [], k => k []
 | d :: l, k => Lo l (fun r => k (.p d :: r))
theorem Jg : ∀ {l : List DV} {k : List LV -> Option β}, Lo l k = k (l.map .p)
 | [], k => rfl
 | d :: l, k => by simp only [Lo, List.map_cons]; rw [Jg]
def Jh (v : LV) (k : List LV -> Option β) : Option β :=
 match v with
 | .p (.agg l) => Lo l k
 | .agg l => k l
 | .p (.tup _) | .tup _ | .any | .und => none
 | v => k [v]
theorem Iq {v : LV} {k : List LV -> Option β} : Jh v k = v.cells.bind k := by
 cases v with
 | p d => cases d <;> first | rfl | (simp only [Jh, LV.cells]; rw [Jg]; rfl)
 | _ => rfl
def NS : List LV -> List LV -> (List LV -> Option β) -> Option β
 | l, [], k => k l
 | [], _ :: _, _ => none
 | _ :: l, v :: vs, k => NS l vs (fun r => k (v :: r))
def N5 : List LV -> Nat -> List LV -> (List LV -> Option β) -> Option β
 | l, 0, vs, k => NS l vs k
 | [], _ + 1, _, _ => none
 | x :: l, n + 1, vs, k => N5 l n vs (fun r => k (x :: r))
theorem RE : ∀ {l vs : List LV} {k : List LV -> Option β} {y : β}, NS l vs k = some y -> vs.length <= l.length /\ k (CL.over l vs) = some y
 | l, [], k, y, h => by simp only [NS] at h; exact ⟨by simp, by simpa [CL.over] using h⟩
 | [], _ :: _, _, _, h => by simp [NS] at h
 | _ :: l, v :: vs, k, y, h => by
  simp only [NS] at h
  obtain ⟨h1, h2⟩ := RE h
  exact ⟨by simpa using h1, h2⟩
theorem Pd : ∀ {l : List LV} {n : Nat} {vs : List LV} {k : List LV -> Option β} {y : β}, N5 l n vs k = some y -> n + vs.length <= l.length /\ k (CL l n vs) = some y
 | l, 0, vs, k, y, h => by
  obtain ⟨h1, h2⟩ := RE (by simpa only [N5] using h)
  cases l <;> exact ⟨by simpa using h1, h2⟩
 | [], _ + 1, _, _, _, h => by simp [N5] at h
 | x :: l, n + 1, vs, k, y, h => by
  simp only [N5] at h
  obtain ⟨h1, h2⟩ := Pd h
  exact ⟨by simp only [List.length_cons]; omega, h2⟩
def Ke (t : Nat) (v : A8) : AT -> (AT -> Option β) -> Option β
 | [], k => k []
 | (q, u) :: l, k => match Nat.beq t q with
  | true => k ((q, v) :: l)
  | false => Ke t v l (fun r => k ((q, u) :: r))
theorem HH {t : Nat} {v : A8} : ∀ {l : AT} {k : AT -> Option β}, Ke t v l k = k (Be t v l)
 | [], k => rfl
 | (q, u) :: l, k => by
  simp only [Ke, Be]
  by_cases h : t = q
  .subst h; simp
  have : Nat.beq t q = false := by
   cases hb : Nat.beq t q with
   | false => rfl
   | true => exact absurd (Nat.eq_of_beq_eq_true hb) h
  rw [this, if_neg h]
  exact HH
def Mk : List LV -> Bool
 | [] => true
 | v :: l => match v.one with
  | true => Mk l
  | false => false
theorem Ml : ∀ {l : List LV}, Mk l = l.all LV.one
 | [] => rfl
 | v :: l => by
  simp only [Mk, List.all_cons]
  cases v.one with
  | true => rw [Ml]; rfl
  | false => rfl
def Og (sz : Nat) : Nat -> List (Nat × LV) -> (List (List DV) -> Option β) -> Option β
 | _, [], k => k []
 | n, p :: rest, k => match Nat.beq p.1 n with
  | true => Jh p.2 fun ls => PZ ls (fun ds => match Nat.beq ds.length sz with
   | true => Og sz (n + 1) rest (fun r => k (ds :: r))
   | false => none) none
  | false => none
theorem P3 {sz : Nat} : ∀ {ps : List (Nat × LV)} {n : Nat} {k : List (List DV) -> Option β} {y : β}, Og sz n ps k = some y -> ∃ l, F9 sz n ps = some l /\ k l = some y
 | [], n, k, y, h => ⟨[], by simp [F9], h⟩
 | (i, v) :: rest, n, k, y, h => by
  simp only [Og] at h
  split at h
  .rename_i hb
   have hi : i = n := Nat.eq_of_beq_eq_true hb
   subst hi
   rw [Iq] at h
   cases hc : v.cells with
   | none => rw [hc] at h; simp at h
   | some ls =>
    rw [hc] at h
    simp only [Option.bind_some] at h
    rw [Pa] at h
    cases ha : GF ls with
    | none => rw [ha] at h; simp at h
    | some ds =>
     rw [ha] at h
     simp only at h
     split at h
     .rename_i hl
      obtain ⟨r, h1, h2⟩ := P3 h
      refine ⟨ds :: r, ?_, h2⟩
      simp only [F9, if_true, hc, ha, h1]
      rw [if_pos (Nat.eq_of_beq_eq_true hl)]
     cases h
  cases h
def Pe (v : LV) (k : LV -> Option β) : Option β :=
 match v with
 | .p d => k (.p d)
 | .lsl a b c d => k (.lsl a b c d)
 | .lpb a b => k (.lpb a b)
 | .lpe a b c => k (.lpe a b c)
 | .lmap a => k (.lmap a)
 | .agg l => k (.agg l)
 | .tup l => k (.tup l)
 | .fn g l => k (.fn g l)
 | .und => k .und
 | .any => k .any
theorem K4 {v : LV} {k : LV -> Option β} : Pe v k = k v := by cases v <;> rfl
def NT (nt : Nat) (sl : List (Nat × LV)) : List (Nat × Operand) -> (List (Nat × LV) -> Option β) -> Option β
 | [], k => k []
 | (i, x) :: l, k => Pe (A9 nt sl x) fun v => NT nt sl l (fun r => k ((i, v) :: r))
theorem Lp {nt : Nat} {sl : List (Nat × LV)} : ∀ {l : List (Nat × Operand)} {k : List (Nat × LV) -> Option β}, NT nt sl l k = k (l.map fun p => (p.1, A9 nt sl p.2))
 | [], k => rfl
 | (i, x) :: l, k => by simp only [NT, List.map_cons]; rw [K4, Lp]
def EM (nt : Nat) (sl : List (Nat × LV)) : List Operand -> (List LV -> Option β) -> Option β
 | [], k => k []
 | p :: l, k => Pe (A9 nt sl p) fun v => EM nt sl l (fun r => k (v :: r))
theorem Ir {nt : Nat} {sl : List (Nat × LV)} : ∀ {l : List Operand} {k : List LV -> Option β}, EM nt sl l k = k (l.map fun p => A9 nt sl p)
 | [], k => rfl
 | p :: l, k => by simp only [EM, List.map_cons]; rw [K4, Ir]
def Mm (AB : A2) (pl : Nat -> Option (Nat × Nat)) : List LV -> List (Nat × LV) -> (List LV -> Option β) -> Option β
 | cells, [], k => k cells
 | cells, (i, v) :: rest, k => match pl i with
  | some (o, ft) => match AB.tt ft with
   | some ti => Jh v fun ls => match Nat.beq ls.length ti.size with
    | true => N5 cells o ls fun cells' => Mm AB pl cells' rest k
    | false => none
   | none => none
  | none => none
theorem Mn {AB : A2} {pl : Nat -> Option (Nat × Nat)} : ∀ {ps : List (Nat × LV)} {cells : List LV} {k : List LV -> Option β} {y : β}, Mm AB pl cells ps k = some y ->
  ∃ l, k l = some y /\ ∀ K : Az (List LV), K.f l -> JZ AB pl cells ps K
 | [], cells, k, y, h => ⟨cells, h, fun _ => id⟩
 | (i, v) :: rest, cells, k, y, h => by
  simp only [Mm] at h
  split at h
  .rename_i o ft hq
   split at h
   .rename_i ti hti
    rw [Iq] at h
    cases hc : v.cells with
    | none => rw [hc] at h; simp at h
    | some ls =>
     rw [hc] at h
     simp only [Option.bind_some] at h
     split at h
     .rename_i hl
      obtain ⟨h1, h2⟩ := Pd h
      obtain ⟨l, h3, h4⟩ := Mn h2
      refine ⟨l, h3, fun K hk => ?_⟩
      simp only [JZ]
      exact AN.2 ⟨(o, ft), hq, AP.2 ⟨ti, hti, AN.2 ⟨ls, hc, ⟨Nat.eq_of_beq_eq_true hl, h1⟩, h4 K hk⟩⟩⟩
     cases h
   cases h
  cases h
def Qo (AB : A2) : List (Nat × Nat) -> Bool
 | [] => true
 | p :: l => match AB.tt p.2 with
  | some _ => Qo AB l
  | none => false
theorem RG {AB : A2} : ∀ {l : List (Nat × Nat)}, Qo AB l = l.all fun p => (AB.tt p.2).isSome
 | [] => rfl
 | p :: l => by
  simp only [Qo, List.all_cons]
  cases AB.tt p.2 with
  | some _ => simp [RG]
  | none => simp
def VC (op : BinOp) (kk : IntKind) (a b : Int) (k : LV -> Option β) : Option β :=
 match op with
 | .add => k (.p (.int kk (kk.wrap (a + b))))
 | .sub => k (.p (.int kk (kk.wrap (a - b))))
 | .mul => k (.p (.int kk (kk.wrap (a * b))))
 | .eql => k (.p (.bool (a == b)))
 | .neq => k (.p (.bool (a != b)))
 | .lss => k (.p (.bool (decide (a < b))))
 | .leq => k (.p (.bool (decide (a <= b))))
 | .gtr => k (.p (.bool (decide (b < a))))
 | .geq => k (.p (.bool (decide (b <= a))))
 | .xor => k (.p (.int kk (kk.wrap (BitVec.ofInt kk.bits a ^^^ BitVec.ofInt kk.bits b).toNat)))
 | .or => k (.p (.int kk (kk.wrap (BitVec.ofInt kk.bits a ||| BitVec.ofInt kk.bits b).toNat)))
 | _ => none
def Pf (AB : A2) (t : Nat) : Bool :=
 match AB.tt t with
 | some ti => match ti.sh with
  | .bool => true
  | _ => false
 | none => false
def Mo : IntKind -> IntKind -> Bool
 | .i8, .i8 | .i16, .i16 | .i32, .i32 | .i64, .i64 | .u8, .u8 | .u16, .u16 | .u32, .u32 | .u64, .u64 => true
 | _, _ => false
theorem Mp {a b : IntKind} (h : Mo a b = true) : a = b := by cases a <;> cases b <;> first | rfl | simp [Mo] at h
def VD (AB : A2) (op : BinOp) (t : Nat) (x y : LV) (k : LV -> Option β) : Option β :=
 match x, y with
 | .p (.int k1 a), .p (.int k2 b) => match Mo k1 k2 with
  | true => VC op k1 a b k
  | false => none
 | .p (.str a), .p (.str b) => match op with
  | .eql => k (.p (.bool (a.toList == b.toList)))
  | .neq => k (.p (.bool (!(a.toList == b.toList))))
  | _ => none
 | .p (.bool a), .p (.bool b) => match Pf AB t with
  | true => match op with
   | .eql => k (.p (.bool (a == b)))
   | .neq => k (.p (.bool (!(a == b))))
   | _ => none
  | false => none
 | .p (.place _ _), .p .nilp => match AB.ptr t with
  | true => match op with
   | .eql => k (.p (.bool false))
   | .neq => k (.p (.bool true))
   | _ => none
  | false => none
 | .lpb _ _, .p .nilp => match AB.ptr t with
  | true => match op with
   | .eql => k (.p (.bool false))
   | .neq => k (.p (.bool true))
   | _ => none
  | false => none
 | .p .nilp, .p .nilp => match AB.ptr t with
  | true => match op with
   | .eql => k (.p (.bool true))
   | .neq => k (.p (.bool false))
   | _ => none
  | false => none
 | _, _ => none
def VE (off : Nat) (x : LV) (k : LV -> Option β) : Option β :=
 match x with
 | .lpb id o => k (.lpb id (o + off))
 | .lpe id j o => k (.lpe id j (o + off))
 | .p (.place l o) => k (.p (.place l (o + off)))
 | _ => none
def RH : IntKind -> Int -> List LV -> (Int -> Option β) -> Option β
 | _, n, [], k => k n
 | kk, n, .p (.int j m) :: rest, k => match Mo j kk with
  | true => RH kk (if m > n then m else n) rest k
  | false => none
 | _, _, _ :: _, _ => none
def RJ : IntKind -> Int -> List LV -> (Int -> Option β) -> Option β
 | _, n, [], k => k n
 | kk, n, .p (.int j m) :: rest, k => match Mo j kk with
  | true => RJ kk (if m < n then m else n) rest k
  | false => none
 | _, _, _ :: _, _ => none
def FO (AB : A2) (nt : Nat) (sl : List (Nat × LV)) (h : AT) (c : Nat) (op : Op) (k : LV -> AT -> Nat -> Option β) : Option β :=
  match op with
  | .move x | .assign x => Pe (A9 nt sl x) fun v => k v h c
  | .pick b x y => match A9 nt sl b with
    | .p (.bool b) => match b with
      | true => Pe (A9 nt sl x) fun v => k v h c
      | false => Pe (A9 nt sl y) fun v => k v h c
    | _ => none
  | .nilCheck x => match A9 nt sl x with
    | .lpb i o => k (.lpb i o) h c
    | .lpe i j o => k (.lpe i j o) h c
    | .p (.place l o) => k (.p (.place l o)) h c
    | _ => none
  | .binOp op t x y _ => VD AB op t (A9 nt sl x) (A9 nt sl y) fun l => k l h c
  | .unOp op _ x => match op with
    | .not => match A9 nt sl x with
      | .p (.bool b) => k (.p (.bool !b)) h c
      | _ => none
    | .neg => match A9 nt sl x with
      | .p (.int kk n) => k (.p (.int kk (kk.wrap (0 - n)))) h c
      | _ => none
    | _ => none
  | .convert s d x => match A9 nt sl x with
    | .p (.int _ n) => match AB.tt s with
      | some _ => match AB.tt d with
        | some ti => match ti.sh with
          | .int kd => k (.p (.int kd (kd.wrap n))) h c
          | _ => none
        | none => none
      | none => none
    | _ => none
  | .extract t i => match A9 nt sl t with
    | .tup l => match D4 l i with
      | v :: _ => k v h c
      | [] => none
    | .p (.tup l) => match D4 l i with
      | v :: _ => k (.p v) h c
      | [] => none
    | _ => none
  | .field t x i => match AB.tt t with
    | some ti => match ti.sh with
      | .struct fs => match D4 fs i with
        | (o, ft) :: _ => match AB.tt ft with
          | some tf => match A9 nt sl x with
            | .agg ls => Qn tf o ls fun l => k l h c
            | .p (.agg ds) => Of tf o ds fun l => k l h c
            | _ => none
          | none => none
        | [] => none
      | _ => none
    | none => none
  | .build t ps => match AB.tt t with
    | some ti => match ti.sh with
      | .struct fs => match Qo AB fs with
        | true => Lo ti.zero fun z => NT nt sl ps.toList fun ps' => Mm AB (fun i => fs[i]?) z ps' fun cells => Pb cells fun l => k l h c
        | false => none
      | .arr _ e => match AB.tt e with
        | some te => Lo ti.zero fun z => NT nt sl ps.toList fun ps' => Mm AB (fun i => some (i * te.size, e)) z ps' fun cells => Pb cells fun l => k l h c
        | none => none
      | _ => none
    | none => none
  | .fieldAddr t x i => match AB.tt t with
    | some ti => match ti.sh with
      | .struct fs => match D4 fs i with
        | (o, ft) :: _ => match AB.tt ft with
          | some tf => match Nat.blt 0 tf.size with
            | true => VE o (A9 nt sl x) fun l => k l h c
            | false => none
          | none => none
        | [] => none
      | _ => none
    | none => none
  | .makeFunc (.func f) first caps => match first.toList with
    | [] => EM nt sl caps.toList fun l => k (.fn f l) h c
    | _ => none
  | .load t x => match Ky AB.calm (A9 nt sl x) with
   | false => none
   | true => match AB.tt t with
    | some ti => match A9 nt sl x with
      | .p (.place l off) => Of ti off l fun v => k v h c
      | .lpb id off => match BX id h with
        | some (.box cells) => Qn ti off cells fun v => k v h c
        | _ => none
      | _ => none
    | none => none
  | .store t x v => match JX AB.calm (A9 nt sl x) with
   | false => none
   | true => match AB.tt t with
    | some ti => match A9 nt sl x with
      | .lpb id off => Jh (A9 nt sl v) fun ls => match Nat.beq ls.length ti.size with
        | true => match Mk ls with
          | true => match BX id h with
            | some (.box cells) => N5 cells off ls fun cells' => Ke id (.box cells') h fun h' => k .any h' c
            | _ => none
          | false => none
        | false => none
      | _ => none
    | none => none
  | .alloc t => match AB.tt t with
    | some ti => Lo ti.zero fun z => k (.lpb c 0) ((c, .box z) :: h) (c + 1)
    | none => none
  | .box _ x => Jh (A9 nt sl x) fun ls => k (.lpb c 0) ((c, .box ls) :: h) (c + 1)
  | .buildSlice t n ps => match AB.tt t with
    | some ti => match ti.sh with
      | .slc e => match AB.tt e with
        | some te => match Nat.blt 0 te.size && Nat.ble (n * te.size) 16777216 with
          | true => NT nt sl ps.toList fun ps' => Og te.size 0 ps' fun l => match Nat.beq l.length n with
            | true => k (.lsl c te.size 0 n) ((c, .row e te.size l) :: h) (c + 1)
            | false => none
          | false => none
        | none => none
      | _ => none
    | none => none
  | .makeMap _ none => k (.lmap c) ((c, .map []) :: h) (c + 1)
  | .call ⟨.builtin .len, args, ts⟩ => match args.toList, ts.toList with
    | [x], [t] => match AB.tt t with
      | some ti => match ti.sh, A9 nt sl x with
        | .arr n _, _ => k (.p (.int .i64 n)) h c
        | .slc _, .p .nils => k (.p (.int .i64 0)) h c
        | .slc _, .lsl _ _ _ len => k (.p (.int .i64 len)) h c
        | .str, .p (.str s) => k (.p (.int .i64 s.size)) h c
        | _, _ => none
      | none => none
    | _, _ => none
  | .call ⟨.builtin .max, args, _⟩ => EM nt sl args.toList fun l => match l with
    | .p (.int kk n) :: rest => RH kk n rest fun m => k (.p (.int kk m)) h c
    | _ => none
  | .call ⟨.builtin .min, args, _⟩ => EM nt sl args.toList fun l => match l with
    | .p (.int kk n) :: rest => RJ kk n rest fun m => k (.p (.int kk m)) h c
    | _ => none
  | _ => none
end
end Go.E
/- Operations reckoned by unfolding alone: they are sound (Gw); runs of operations (FP, FQ). No condition. -/
namespace Go.E
open Go Go.RowKit
section
variable {β : Type} {AB : A2} {nt : Nat} {sl : List (Nat × LV)} {hp : AT} {c : Nat}
theorem WC {op : BinOp} {kk : IntKind} {a b : Int} {k : LV -> Option β} {y : β} (h : VC op kk a b k = some y) : ∃ l, k l = some y /\ ∀ K : Az LV, K.f l -> K3 op kk a b K := by
 cases op <;> simp only [VC] at h <;> first | cases h | exact ⟨_, h, fun K hk => hk⟩
theorem TX {t : Nat} (h : Pf AB t = true) : ∃ ti, AB.tt t = some ti /\ ti.sh = .bool := by
 unfold Pf at h
 split at h
 .rename_i ti hti
  split at h
  .exact ⟨ti, hti, ‹_›⟩
  cases h
 cases h
theorem WD {op : BinOp} {t : Nat} {x y : LV} {k : LV -> Option β} {z : β} (h : VD AB op t x y k = some z) : ∃ l, k l = some z /\ ∀ K : Az LV, K.f l -> N2 AB op t x y K /\ PY AB op t x y K := by
 unfold VD at h
 split at h
 .rename_i k1 a k2 b
  split at h
  .rename_i hk
   have := Mp hk
   subst this
   obtain ⟨l, h1, h2⟩ := WC h
   exact ⟨l, h1, fun K hk => ⟨⟨rfl, h2 K hk⟩, ⟨rfl, h2 K hk⟩⟩⟩
  cases h
 .rename_i a b
  split at h
  .exact ⟨_, h, fun K hk => ⟨hk, hk⟩⟩
  .exact ⟨_, h, fun K hk => ⟨hk, hk⟩⟩
  cases h
 .rename_i a b
  split at h
  .rename_i hb
   obtain ⟨ti, hti, hsh⟩ := TX hb
   split at h
   .exact ⟨_, h, fun K hk => ⟨AP.2 ⟨ti, hti, hsh, hk⟩, AP.2 ⟨ti, hti, hsh, hk⟩⟩⟩
   .exact ⟨_, h, fun K hk => ⟨AP.2 ⟨ti, hti, hsh, hk⟩, AP.2 ⟨ti, hti, hsh, hk⟩⟩⟩
   cases h
  cases h
 .split at h
  .rename_i hb
   split at h
   .exact ⟨_, h, fun K hk => ⟨⟨hb, hk⟩, ⟨hb, hk⟩⟩⟩
   .exact ⟨_, h, fun K hk => ⟨⟨hb, hk⟩, ⟨hb, hk⟩⟩⟩
   cases h
  cases h
 .split at h
  .rename_i hb
   split at h
   .exact ⟨_, h, fun K hk => ⟨⟨hb, hk⟩, ⟨hb, hk⟩⟩⟩
   .exact ⟨_, h, fun K hk => ⟨⟨hb, hk⟩, ⟨hb, hk⟩⟩⟩
   cases h
  cases h
 .split at h
  .rename_i hb
   split at h
   .exact ⟨_, h, fun K hk => ⟨⟨hb, hk⟩, ⟨hb, hk⟩⟩⟩
   .exact ⟨_, h, fun K hk => ⟨⟨hb, hk⟩, ⟨hb, hk⟩⟩⟩
   cases h
  cases h
 cases h
theorem WE {off : Nat} {x : LV} {k : LV -> Option β} {y : β} (h : VE off x k = some y) : ∃ l, k l = some y /\ ∀ K : Az LV, K.f l -> TN off x K := by
 unfold VE at h
 split at h
 .exact ⟨_, h, fun K hk => hk⟩
 .exact ⟨_, h, fun K hk => hk⟩
 .exact ⟨_, h, fun K hk => hk⟩
 cases h
theorem Hb {α : Type} {l r : List α} {n : Nat} {x : α} (h : D4 l n = x :: r) : l[n]? = some x := by
 rw [IG] at h
 have := congrArg (·[0]?) h
 simpa [List.getElem?_drop] using this
theorem Sk {kk : IntKind} : ∀ {l : List LV} {n : Int} {k : Int -> Option β} {y : β}, RH kk n l k = some y -> ∃ m, k m = some y /\ Bk.go (fun x y => if y > x then y else x) kk n l = some m
 | [], n, k, y, h => ⟨n, h, rfl⟩
 | .p (.int j m) :: rest, n, k, y, h => by
  simp only [RH] at h
  split at h
  .rename_i hj
   have := Mp hj
   subst this
   obtain ⟨r, h1, h2⟩ := Sk h
   exact ⟨r, h1, by simp only [Bk.go, if_true]; exact h2⟩
  cases h
 | .p .nils :: _, _, _, _, h | .p .nilp :: _, _, _, _, h | .p .nilm :: _, _, _, _, h | .p (.bool _) :: _, _, _, _, h | .p (.str _) :: _, _, _, _, h | .p (.agg _) :: _, _, _, _, h | .p (.tup _) :: _, _, _, _, h
 | .p (.slice _ _) :: _, _, _, _, h | .p (.place _ _) :: _, _, _, _, h | .p (.map _) :: _, _, _, _, h | .lsl .. :: _, _, _, _, h | .lpb .. :: _, _, _, _, h | .lpe .. :: _, _, _, _, h | .lmap _ :: _, _, _, _, h | .p (.fn _ _) :: _, _, _, _, h
 | .agg _ :: _, _, _, _, h | .tup _ :: _, _, _, _, h | .fn .. :: _, _, _, _, h | .und :: _, _, _, _, h | .any :: _, _, _, _, h => by simp [RH] at h
theorem Sl {kk : IntKind} : ∀ {l : List LV} {n : Int} {k : Int -> Option β} {y : β}, RJ kk n l k = some y -> ∃ m, k m = some y /\ Bk.go (fun x y => if y < x then y else x) kk n l = some m
 | [], n, k, y, h => ⟨n, h, rfl⟩
 | .p (.int j m) :: rest, n, k, y, h => by
  simp only [RJ] at h
  split at h
  .rename_i hj
   have := Mp hj
   subst this
   obtain ⟨r, h1, h2⟩ := Sl h
   exact ⟨r, h1, by simp only [Bk.go, if_true]; exact h2⟩
  cases h
 | .p .nils :: _, _, _, _, h | .p .nilp :: _, _, _, _, h | .p .nilm :: _, _, _, _, h | .p (.bool _) :: _, _, _, _, h | .p (.str _) :: _, _, _, _, h | .p (.agg _) :: _, _, _, _, h | .p (.tup _) :: _, _, _, _, h
 | .p (.slice _ _) :: _, _, _, _, h | .p (.place _ _) :: _, _, _, _, h | .p (.map _) :: _, _, _, _, h | .lsl .. :: _, _, _, _, h | .lpb .. :: _, _, _, _, h | .lpe .. :: _, _, _, _, h | .lmap _ :: _, _, _, _, h | .p (.fn _ _) :: _, _, _, _, h
 | .agg _ :: _, _, _, _, h | .tup _ :: _, _, _, _, h | .fn .. :: _, _, _, _, h | .und :: _, _, _, _, h | .any :: _, _, _, _, h => by simp [RJ] at h
def UK (AB : A2) (st : St) (op : Op) (l : LV) (h' : AT) (c' : Nat) : Prop :=
 ∀ (P : Program) (A : BD) (dst : Option Tmp) (K : Az St), K.f (st.go dst l h' c') -> BC P A AB st dst op K /\ H7 P A AB st dst op K
theorem Gw {op : Op} {k : LV -> AT -> Nat -> Option β} {y : β} (h : FO AB nt sl hp c op k = some y) : ∃ l h' c', k l h' c' = some y /\ UK AB ⟨nt, sl, hp, c⟩ op l h' c' := by
 have hev : ∀ x, A9 nt sl x = (⟨nt, sl, hp, c⟩ : St).eval x := fun x => BE
 cases op <;> simp only [FO] at h <;> try (cases h; done)
 case move x => rw [K4] at h; exact ⟨_, _, _, h, fun P A dst K hk => by rw [hev] at hk; exact ⟨hk, hk⟩⟩
 case assign x => rw [K4] at h; exact ⟨_, _, _, h, fun P A dst K hk => by rw [hev] at hk; exact ⟨hk, hk⟩⟩
 case pick b x z =>
  split at h
  .rename_i b' hb
   rw [hev] at hb
   simp only [K4] at h
   split at h
   .exact ⟨_, _, _, h, fun P A dst K hk => by
     rw [hev] at hk
     have : BC P A AB ⟨nt, sl, hp, c⟩ dst (.pick b x z) K := by simp only [BC]; rw [hb]; exact hk
     exact ⟨this, this⟩⟩
   exact ⟨_, _, _, h, fun P A dst K hk => by
    rw [hev] at hk
    have : BC P A AB ⟨nt, sl, hp, c⟩ dst (.pick b x z) K := by simp only [BC]; rw [hb]; exact hk
    exact ⟨this, this⟩⟩
  cases h
 case nilCheck x =>
  split at h
  .rename_i hx; rw [hev] at hx
   exact ⟨_, _, _, h, fun P A dst K hk => by
    have : BC P A AB ⟨nt, sl, hp, c⟩ dst (.nilCheck x) K := by simp only [BC]; rw [hx]; exact hk
    exact ⟨this, this⟩⟩
  .rename_i hx; rw [hev] at hx
   exact ⟨_, _, _, h, fun P A dst K hk => by
    have : BC P A AB ⟨nt, sl, hp, c⟩ dst (.nilCheck x) K := by simp only [BC]; rw [hx]; exact hk
    exact ⟨this, this⟩⟩
  .rename_i hx; rw [hev] at hx
   exact ⟨_, _, _, h, fun P A dst K hk => by
    have : BC P A AB ⟨nt, sl, hp, c⟩ dst (.nilCheck x) K := by simp only [BC]; rw [hx]; exact hk
    exact ⟨this, this⟩⟩
  cases h
 case binOp op t x z w =>
  obtain ⟨l, h1, h2⟩ := WD h
  refine ⟨l, _, _, h1, fun P A dst K hk => ?_⟩
  rw [hev, hev] at h2
  exact ⟨(h2 ⟨fun l => K.f (St.put ⟨nt, sl, hp, c⟩ dst l), ⟨⟩⟩ hk).1, (h2 ⟨fun l => K.f (St.put ⟨nt, sl, hp, c⟩ dst l), ⟨⟩⟩ hk).2⟩
 case unOp op t x =>
  split at h
  .split at h
   .rename_i hx; rw [hev] at hx
    exact ⟨_, _, _, h, fun P A dst K hk => by
     have : BC P A AB ⟨nt, sl, hp, c⟩ dst (.unOp .not t x) K := by simp only [BC]; rw [hx]; exact hk
     exact ⟨this, this⟩⟩
   cases h
  .split at h
   .rename_i hx; rw [hev] at hx
    exact ⟨_, _, _, h, fun P A dst K hk => by
     have : BC P A AB ⟨nt, sl, hp, c⟩ dst (.unOp .neg t x) K := by simp only [BC]; rw [hx]; exact hk
     exact ⟨this, this⟩⟩
   cases h
  cases h
 case convert s d x =>
  split at h
  .rename_i kk n hx; rw [hev] at hx
   split at h
   .rename_i ts hs
    split at h
    .rename_i ti ht
     split at h
     .rename_i kd hsh
      exact ⟨_, _, _, h, fun P A dst K hk => by
       have : BC P A AB ⟨nt, sl, hp, c⟩ dst (.convert s d x) K := by
        simp only [BC]; rw [hx]
        exact AP.2 ⟨ts, hs, AP.2 ⟨ti, ht, AN.2 ⟨kd, by rw [hsh]; rfl, hk⟩⟩⟩
       exact ⟨this, this⟩⟩
     cases h
    cases h
   cases h
  cases h
 case extract t i =>
  split at h
  .rename_i l hx; rw [hev] at hx
   split at h
   .rename_i v r hd
    exact ⟨_, _, _, h, fun P A dst K hk => by
     have : BC P A AB ⟨nt, sl, hp, c⟩ dst (.extract t i) K := by
      simp only [BC]; rw [hx]
      exact AN.2 ⟨v, Hb hd, hk⟩
     exact ⟨this, this⟩⟩
   cases h
  .rename_i l hx; rw [hev] at hx
   split at h
   .rename_i v r hd
    exact ⟨_, _, _, h, fun P A dst K hk => by
     have : BC P A AB ⟨nt, sl, hp, c⟩ dst (.extract t i) K := by
      simp only [BC]; rw [hx]
      exact AN.2 ⟨v, Hb hd, hk⟩
     exact ⟨this, this⟩⟩
   cases h
  cases h
 case field t x i =>
  split at h
  .rename_i ti ht
   split at h
   .rename_i fs hsh
    split at h
    .rename_i o ft r hd
     split at h
     .rename_i tf htf
      split at h
      .rename_i ls hx; rw [hev] at hx
       rw [RD, Option.bind_eq_some_iff] at h
       obtain ⟨v, hv, h⟩ := h
       exact ⟨_, _, _, h, fun P A dst K hk => by
        have : BC P A AB ⟨nt, sl, hp, c⟩ dst (.field t x i) K := by
         simp only [BC]; rw [hx]
         exact AP.2 ⟨ti, ht, Ec.2 ⟨fs, hsh, AN.2 ⟨(o, ft), Hb hd, AP.2 ⟨tf, htf, AN.2 ⟨v, hv, hk⟩⟩⟩⟩⟩
        exact ⟨this, this⟩⟩
      .rename_i ds hx; rw [hev] at hx
       rw [N4, Option.bind_eq_some_iff] at h
       obtain ⟨v, hv, h⟩ := h
       exact ⟨_, _, _, h, fun P A dst K hk => by
        have : BC P A AB ⟨nt, sl, hp, c⟩ dst (.field t x i) K := by
         simp only [BC]; rw [hx]
         exact AP.2 ⟨ti, ht, Ec.2 ⟨fs, hsh, AN.2 ⟨(o, ft), Hb hd, AP.2 ⟨tf, htf, AN.2 ⟨v, hv, hk⟩⟩⟩⟩⟩
        exact ⟨this, this⟩⟩
      cases h
     cases h
    cases h
   cases h
  cases h
 case build t ps =>
  split at h
  .rename_i ti ht
   split at h
   .rename_i fs hsh
    split at h
    .rename_i hall
     rw [Jg, Lp] at h
     obtain ⟨l, h1, h2⟩ := Mn h
     rw [Pc] at h1
     exact ⟨_, _, _, h1, fun P A dst K hk => by
      have : BC P A AB ⟨nt, sl, hp, c⟩ dst (.build t ps) K := by
       simp only [BC]
       refine AP.2 ⟨ti, ht, ?_⟩
       simp only [Mh, hsh]
       rw [RG] at hall
       refine ⟨hall, ?_⟩
       have := h2 ⟨fun cells => K.f (St.put ⟨nt, sl, hp, c⟩ dst (Ei cells)), ⟨⟩⟩ hk
       simpa only [hev] using this
      exact ⟨this, this⟩⟩
    cases h
   .rename_i n e hsh
    split at h
    .rename_i te hte
     rw [Jg, Lp] at h
     obtain ⟨l, h1, h2⟩ := Mn h
     rw [Pc] at h1
     exact ⟨_, _, _, h1, fun P A dst K hk => by
      have : BC P A AB ⟨nt, sl, hp, c⟩ dst (.build t ps) K := by
       simp only [BC]
       refine AP.2 ⟨ti, ht, ?_⟩
       simp only [Mh, hsh]
       refine AP.2 ⟨te, hte, ?_⟩
       have := h2 ⟨fun cells => K.f (St.put ⟨nt, sl, hp, c⟩ dst (Ei cells)), ⟨⟩⟩ hk
       simpa only [hev] using this
      exact ⟨this, this⟩⟩
    cases h
   cases h
  cases h
 case fieldAddr t x i =>
  split at h
  .rename_i ti ht
   split at h
   .rename_i fs hsh
    split at h
    .rename_i o ft r hd
     split at h
     .rename_i tf htf
      split at h
      .rename_i hsz
       obtain ⟨l, h1, h2⟩ := WE h
       rw [hev] at h2
       exact ⟨_, _, _, h1, fun P A dst K hk => by
        have : BC P A AB ⟨nt, sl, hp, c⟩ dst (.fieldAddr t x i) K := by
         simp only [BC]
         refine AP.2 ⟨ti, ht, Ec.2 ⟨fs, hsh, AN.2 ⟨(o, ft), Hb hd, AP.2 ⟨tf, htf, ?_, h2 ⟨fun l => K.f (St.put ⟨nt, sl, hp, c⟩ dst l), ⟨⟩⟩ hk⟩⟩⟩⟩
         have := Nat.le_of_ble_eq_true hsz
         omega
        exact ⟨this, this⟩⟩
      cases h
     cases h
    cases h
   cases h
  cases h
 case makeFunc fn first caps =>
  cases fn <;> simp only at h <;> try (cases h; done)
  rename_i f
  split at h
  .rename_i hf
   rw [Ir] at h
   exact ⟨_, _, _, h, fun P A dst K hk => by
    have : BC P A AB ⟨nt, sl, hp, c⟩ dst (.makeFunc (.func f) first caps) K := by
     simp only [BC]
     refine ⟨hf, ?_⟩
     have e : (caps.toList.map fun p => A9 nt sl p) = caps.toList.map (St.eval ⟨nt, sl, hp, c⟩) := List.map_congr_left fun x _ => hev x
     rw [e] at hk
     exact hk
    exact ⟨this, this⟩⟩
  cases h
 case load t x =>
  split at h
  .cases h
  rename_i hc'
  rw [hev] at hc'
  split at h
  .rename_i ti ht
   split at h
   .rename_i l off hx; rw [hev] at hx
    rw [N4, Option.bind_eq_some_iff] at h
    obtain ⟨v, hv, h⟩ := h
    exact ⟨_, _, _, h, fun P A dst K hk => by
     have : BC P A AB ⟨nt, sl, hp, c⟩ dst (.load t x) K := by
      simp only [BC]; rw [hx]
      exact AP.2 ⟨ti, ht, AN.2 ⟨v, hv, hk⟩⟩
     exact ⟨this, hc', this⟩⟩
   .rename_i id off hx; rw [hev] at hx
    split at h
    .rename_i cells hl
     rw [BQ] at hl
     rw [RD, Option.bind_eq_some_iff] at h
     obtain ⟨v, hv, h⟩ := h
     exact ⟨_, _, _, h, fun P A dst K hk => by
      have : BC P A AB ⟨nt, sl, hp, c⟩ dst (.load t x) K := by
       simp only [BC]; rw [hx]
       exact AP.2 ⟨ti, ht, AN.2 ⟨_, hl, by dsimp only; refine HE.2 ⟨cells, rfl, ?_⟩; exact AN.2 ⟨v, hv, hk⟩⟩⟩
      exact ⟨this, hc', this⟩⟩
    cases h
   cases h
  cases h
 case store t x v =>
  split at h
  .cases h
  rename_i hc'
  rw [hev] at hc'
  split at h
  .rename_i ti ht
   split at h
   .rename_i id off hx; rw [hev] at hx
    rw [Iq, Option.bind_eq_some_iff] at h
    obtain ⟨ls, hls, h⟩ := h
    rw [hev] at hls
    split at h
    .rename_i hlen
     split at h
     .rename_i hone
      rw [Ml] at hone
      split at h
      .rename_i cells hl
       rw [BQ] at hl
       obtain ⟨h1, h2⟩ := Pd h
       rw [HH] at h2
       exact ⟨_, _, _, h2, fun P A dst K hk => by
        have : BC P A AB ⟨nt, sl, hp, c⟩ dst (.store t x v) K := by
         simp only [BC]; rw [hx]
         exact AP.2 ⟨ti, ht, AN.2 ⟨ls, hls, ⟨Nat.eq_of_beq_eq_true hlen, hone⟩, AN.2 ⟨_, hl, by dsimp only; refine HE.2 ⟨cells, rfl, ?_⟩; exact ⟨h1, hk⟩⟩⟩⟩
        exact ⟨this, hc', this⟩⟩
      cases h
     cases h
    cases h
   cases h
  cases h
 case alloc t =>
  split at h
  .rename_i ti ht
   rw [Jg] at h
   exact ⟨_, _, _, h, fun P A dst K hk => by
    have : BC P A AB ⟨nt, sl, hp, c⟩ dst (.alloc t) K := by
     simp only [BC]
     exact AP.2 ⟨ti, ht, hk⟩
    exact ⟨this, this⟩⟩
  cases h
 case box t x =>
  rw [Iq, Option.bind_eq_some_iff] at h
  obtain ⟨ls, hls, h⟩ := h
  rw [hev] at hls
  exact ⟨_, _, _, h, fun P A dst K hk => by
   have : BC P A AB ⟨nt, sl, hp, c⟩ dst (.box t x) K := by
    simp only [BC]
    exact AN.2 ⟨ls, hls, hk⟩
   exact ⟨this, this⟩⟩
 case buildSlice t n ps =>
  split at h
  .rename_i ti ht
   split at h
   .rename_i e hsh
    split at h
    .rename_i te hte
     split at h
     .rename_i hb
      rw [Lp] at h
      obtain ⟨l, h1, h2⟩ := P3 h
      split at h2
      .rename_i hlen
       simp only [Bool.and_eq_true] at hb
       exact ⟨_, _, _, h2, fun P A dst K hk => by
        have : BC P A AB ⟨nt, sl, hp, c⟩ dst (.buildSlice t n ps) K := by
         simp only [BC]
         simp only [hev] at h1
         exact AP.2 ⟨ti, ht, CB.2 ⟨e, hsh, AP.2 ⟨te, hte, ⟨Nat.le_of_ble_eq_true hb.1, Nat.le_of_ble_eq_true hb.2⟩, AN.2 ⟨l, h1, Nat.eq_of_beq_eq_true hlen, .inl hk⟩⟩⟩⟩
        exact ⟨this, this⟩⟩
      cases h2
     cases h
    cases h
   cases h
  cases h
 case makeMap t r =>
  cases r with
  | some r => cases h
  | none => exact ⟨_, _, _, h, fun P A dst K hk => ⟨hk, hk⟩⟩
 case call cl =>
  obtain ⟨callee, args, ts⟩ := cl
  cases callee with
  | value f => cases h
  | invoke r m => cases h
  | builtin b =>
   cases b <;> simp only at h <;> try (cases h; done)
   case len =>
    split at h
    .rename_i x t hargs hts
     split at h
     .rename_i ti ht
      have ha : args = #[x] := by cases args; simpa using hargs
      have ht' : ts = #[t] := by cases ts; simpa using hts
      subst ha ht'
      have fin : ∀ l, k l hp c = some y -> (∀ K : Az LV, K.f l -> U4 ti.sh ((⟨nt, sl, hp, c⟩ : St).eval x) K /\ TT ti.sh ((⟨nt, sl, hp, c⟩ : St).eval x) K) ->
        ∃ l h' c', k l h' c' = some y /\ UK AB ⟨nt, sl, hp, c⟩ (.call ⟨.builtin .len, #[x], #[t]⟩) l h' c' := fun l h1 h2 => ⟨l, hp, c, h1, fun P A dst K hk => by
       have := h2 ⟨fun l => K.f (St.put ⟨nt, sl, hp, c⟩ dst l), ⟨⟩⟩ hk
       exact ⟨AP.2 ⟨ti, ht, this.1⟩, AP.2 ⟨ti, ht, this.2⟩⟩⟩
      split at h
      .rename_i hsh
       exact fin _ h fun K hk => by rw [hsh]; exact ⟨hk, hk⟩
      .rename_i hsh hx; rw [hev] at hx
       exact fin _ h fun K hk => by rw [hsh, hx]; exact ⟨hk, hk⟩
      .rename_i hsh hx; rw [hev] at hx
       exact fin _ h fun K hk => by rw [hsh, hx]; exact ⟨hk, hk⟩
      .rename_i hsh hx; rw [hev] at hx
       exact fin _ h fun K hk => by rw [hsh, hx]; exact ⟨hk, hk⟩
      cases h
     cases h
    cases h
   case max =>
    rw [Ir] at h
    split at h
    .rename_i kk n rest hl
     obtain ⟨m, h1, h2⟩ := Sk h
     exact ⟨_, _, _, h1, fun P A dst K hk => by
      have : BC P A AB ⟨nt, sl, hp, c⟩ dst (.call ⟨.builtin .max, args, ts⟩) K := by
       simp only [BC, Ob]
       simp only [hev] at hl
       refine AN.2 ⟨(kk, m), ?_, hk⟩
       show Bk _ (args.toList.map fun x => St.eval _ x) = _
       rw [hl]
       simp only [Bk, h2]; rfl
      exact ⟨this, this⟩⟩
    cases h
   case min =>
    rw [Ir] at h
    split at h
    .rename_i kk n rest hl
     obtain ⟨m, h1, h2⟩ := Sl h
     exact ⟨_, _, _, h1, fun P A dst K hk => by
      have : BC P A AB ⟨nt, sl, hp, c⟩ dst (.call ⟨.builtin .min, args, ts⟩) K := by
       simp only [BC, Ob]
       simp only [hev] at hl
       refine AN.2 ⟨(kk, m), ?_, hk⟩
       show Bk _ (args.toList.map fun x => St.eval _ x) = _
       rw [hl]
       simp only [Bk, h2]; rfl
      exact ⟨this, this⟩⟩
    cases h
end
end Go.E
/- Runs of operations (FP, FQ), loops and joins told by plain Lean (AO, Hc), rules for a walk in step with a plain function. No condition. -/
namespace Go.E
open Go Go.RowKit
section
variable {β : Type}
def Ji : Bool -> Bool -> Bool
 | true, true | false, false => true
 | _, _ => false
theorem Jj {a b : Bool} (h : Ji a b = true) : a = b := by cases a <;> cases b <;> first | rfl | cases h
theorem Lq {a b : Bool} (h : Ji a b = false) : a = !b := by cases a <;> cases b <;> first | rfl | cases h
def FP (AB : A2) : Nat -> List Gu -> Nat -> List (Nat × LV) -> AT -> Nat -> Option (List Gu × St)
 | 0, ms, nt, sl, h, c => some (ms, ⟨nt, sl, h, c⟩)
 | _ + 1, [], _, _, _, _ => none
 | n + 1, m :: ms, nt, sl, h, c => match m with
  | ⟨dst, op, g⟩ => match g with
   | none => FO AB nt sl h c op fun l h' c' => match dst with
    | some t => FP AB n ms nt ((t, l) :: sl) h' c'
    | none => FP AB n ms nt sl h' c'
   | some (some d, want) => match A9 nt sl (.tmp d) with
    | .p (.bool b) => match Ji b want with
     | true => FO AB nt sl h c op fun l h' c' => match dst with
      | some t => FP AB n ms nt ((t, l) :: sl) h' c'
      | none => FP AB n ms nt sl h' c'
     | false => match dst with
      | some t => FP AB n ms nt ((t, .und) :: sl) h c
      | none => FP AB n ms nt sl h c
    | .und => match dst with
     | some t => FP AB n ms nt ((t, .und) :: sl) h c
     | none => FP AB n ms nt sl h c
    | _ => none
   | some (none, _) => none
def HF (AB : A2) : List Gu -> Nat -> List (Nat × LV) -> AT -> Nat -> Option St
 | [], nt, sl, h, c => some ⟨nt, sl, h, c⟩
 | m :: ms, nt, sl, h, c => match m with
  | ⟨dst, op, g⟩ => match g with
   | none => FO AB nt sl h c op fun l h' c' => match dst with
    | some t => HF AB ms nt ((t, l) :: sl) h' c'
    | none => HF AB ms nt sl h' c'
   | some (some d, want) => match A9 nt sl (.tmp d) with
    | .p (.bool b) => match Ji b want with
     | true => FO AB nt sl h c op fun l h' c' => match dst with
      | some t => HF AB ms nt ((t, l) :: sl) h' c'
      | none => HF AB ms nt sl h' c'
     | false => match dst with
      | some t => HF AB ms nt ((t, .und) :: sl) h c
      | none => HF AB ms nt sl h c
    | .und => match dst with
     | some t => HF AB ms nt ((t, .und) :: sl) h c
     | none => HF AB ms nt sl h c
    | _ => none
   | some (none, _) => none
def FQ (AB : A2) (base : Nat) : Nat -> List (Nat × Gu) -> Nat -> List (Nat × LV) -> AT -> Option (List (Nat × Gu) × List (Nat × LV) × AT)
 | 0, ms, _, sl, h => some (ms, sl, h)
 | _ + 1, [], _, _, _ => none
 | n + 1, m :: ms, nt, sl, h => match m with
  | (i, ⟨dst, op, g⟩) => match g with
   | none => FO AB nt sl h (base + i) op fun l h' _ => match dst with
    | some t => FQ AB base n ms nt ((t, l) :: sl) h'
    | none => FQ AB base n ms nt sl h'
   | some (some d, want) => match A9 nt sl (.tmp d) with
    | .p (.bool b) => match Ji b want with
     | true => FO AB nt sl h (base + i) op fun l h' _ => match dst with
      | some t => FQ AB base n ms nt ((t, l) :: sl) h'
      | none => FQ AB base n ms nt sl h'
     | false => match dst with
      | some t => FQ AB base n ms nt ((t, .und) :: sl) h
      | none => FQ AB base n ms nt sl h
    | .und => match dst with
     | some t => FQ AB base n ms nt ((t, .und) :: sl) h
     | none => FQ AB base n ms nt sl h
    | _ => none
   | some (none, _) => none
def FR (AB : A2) (base : Nat) : List (Nat × Gu) -> Nat -> List (Nat × LV) -> AT -> Option (List (Nat × LV) × AT)
 | [], _, sl, h => some (sl, h)
 | m :: ms, nt, sl, h => match m with
  | (i, ⟨dst, op, g⟩) => match g with
   | none => FO AB nt sl h (base + i) op fun l h' _ => match dst with
    | some t => FR AB base ms nt ((t, l) :: sl) h'
    | none => FR AB base ms nt sl h'
   | some (some d, want) => match A9 nt sl (.tmp d) with
    | .p (.bool b) => match Ji b want with
     | true => FO AB nt sl h (base + i) op fun l h' _ => match dst with
      | some t => FR AB base ms nt ((t, l) :: sl) h'
      | none => FR AB base ms nt sl h'
     | false => match dst with
      | some t => FR AB base ms nt ((t, .und) :: sl) h
      | none => FR AB base ms nt sl h
    | .und => match dst with
     | some t => FR AB base ms nt ((t, .und) :: sl) h
     | none => FR AB base ms nt sl h
    | _ => none
   | some (none, _) => none
end
section
variable {P : Program} {A : BD} {AB : A2} {f : St -> Prop} {hf : H6 f} {nt : Nat} {sl : List (Nat × LV)} {h : AT} {c : Nat}
theorem NU {dst : Option Tmp} {l : LV} {h' : AT} {c' : Nat} : (⟨nt, sl, h, c⟩ : St).go dst l h' c' = match dst with | some t => ⟨nt, (t, l) :: sl, h', c'⟩ | none => ⟨nt, sl, h', c'⟩ := by
 cases dst <;> rfl
theorem rn (n : Nat) {ms ms' : List Gu} {st' : St} (hr : FP AB n ms nt sl h c = some (ms', st')) (k : Ep P A AB ⟨f, hf⟩ ms' st') : Ep P A AB ⟨f, hf⟩ ms ⟨nt, sl, h, c⟩ := by
  induction n generalizing ms nt sl h c with
  | zero =>
    have : (ms, (⟨nt, sl, h, c⟩ : St)) = (ms', st') := by simpa [FP] using hr
    cases this; exact k
  | succ n ih =>
    cases ms with
    | nil => simp [FP] at hr
    | cons m ms =>
      obtain ⟨dst, op, g⟩ := m
      have run : (FO AB nt sl h c op fun l h' c' => match (generalizing := false) dst with
            | some t => FP AB n ms nt ((t, l) :: sl) h' c'
            | none => FP AB n ms nt sl h' c') = some (ms', st') -> BC P A AB ⟨nt, sl, h, c⟩ dst op ⟨Ep P A AB ⟨f, hf⟩ ms, ⟨⟩⟩ := fun hs => by
        obtain ⟨l, h', c', h1, h2⟩ := Gw hs
        refine (h2 P A dst _ ?_).1
        rw [NU]
        cases dst with
        | some t => exact ih h1
        | none => exact ih h1
      have skip : (match (generalizing := false) dst with
          | some t => FP AB n ms nt ((t, .und) :: sl) h c
          | none => FP AB n ms nt sl h c) = some (ms', st') -> Ep P A AB ⟨f, hf⟩ ms ((⟨nt, sl, h, c⟩ : St).put dst .und) := fun hs => by
        cases dst with
        | some t => exact ih hs
        | none => exact ih hs
      simp only [FP] at hr
      cases g with
      | none => exact run hr
      | some g =>
        obtain ⟨d, want⟩ := g
        cases d with
        | none => simp at hr
        | some d =>
          simp only at hr
          simp only [Ep, Fe, <- BE (h := h) (c := c)]
          generalize A9 nt sl (.tmp d) = v at hr ⊢
          split at hr
          . rename_i b
            split at hr
            . rename_i hb
              refine ⟨fun _ => run hr, fun e => ?_⟩
              rw [Jj hb] at e; cases want <;> cases e
            rename_i hb
            refine ⟨fun e => ?_, fun _ => skip hr⟩
            rw [Lq hb] at e; cases want <;> cases e
          . exact skip hr
          cases hr
theorem rl {ms : List Gu} {st' : St} (hr : HF AB ms nt sl h c = some st') (k : f st') : Ep P A AB ⟨f, hf⟩ ms ⟨nt, sl, h, c⟩ := by
  induction ms generalizing nt sl h c with
  | nil =>
    have : (⟨nt, sl, h, c⟩ : St) = st' := by simpa [HF] using hr
    subst this; exact ⟨k⟩
  | cons m ms ih =>
      obtain ⟨dst, op, g⟩ := m
      have run : (FO AB nt sl h c op fun l h' c' => match (generalizing := false) dst with
            | some t => HF AB ms nt ((t, l) :: sl) h' c'
            | none => HF AB ms nt sl h' c') = some st' -> BC P A AB ⟨nt, sl, h, c⟩ dst op ⟨Ep P A AB ⟨f, hf⟩ ms, ⟨⟩⟩ := fun hs => by
        obtain ⟨l, h', c', h1, h2⟩ := Gw hs
        refine (h2 P A dst _ ?_).1
        rw [NU]
        cases dst with
        | some t => exact ih h1
        | none => exact ih h1
      have skip : (match (generalizing := false) dst with
          | some t => HF AB ms nt ((t, .und) :: sl) h c
          | none => HF AB ms nt sl h c) = some st' -> Ep P A AB ⟨f, hf⟩ ms ((⟨nt, sl, h, c⟩ : St).put dst .und) := fun hs => by
        cases dst with
        | some t => exact ih hs
        | none => exact ih hs
      simp only [HF] at hr
      cases g with
      | none => exact run hr
      | some g =>
        obtain ⟨d, want⟩ := g
        cases d with
        | none => simp at hr
        | some d =>
          simp only at hr
          simp only [Ep, Fe, <- BE (h := h) (c := c)]
          generalize A9 nt sl (.tmp d) = v at hr ⊢
          split at hr
          . rename_i b
            split at hr
            . rename_i hb
              refine ⟨fun _ => run hr, fun e => ?_⟩
              rw [Jj hb] at e; cases want <;> cases e
            rename_i hb
            refine ⟨fun e => ?_, fun _ => skip hr⟩
            rw [Lq hb] at e; cases want <;> cases e
          . exact skip hr
          cases hr
theorem Ax (n : Nat) {base m : Nat} {ms ms' : List (Nat × Gu)} {sl' : List (Nat × LV)} {h' : AT} (hr : FQ AB base n ms nt sl h = some (ms', sl', h')) (k : C6 P A AB base m ⟨f, hf⟩ ms' ⟨nt, sl', h', c⟩) : C6 P A AB base m ⟨f, hf⟩ ms ⟨nt, sl, h, c⟩ := by
  induction n generalizing ms sl h with
  | zero =>
    have : (ms, sl, h) = (ms', sl', h') := by simpa [FQ] using hr
    cases this; exact k
  | succ n ih =>
    cases ms with
    | nil => simp [FQ] at hr
    | cons p ms =>
      obtain ⟨i, dst, op, g⟩ := p
      have at_ : ∀ {sl h c'} , C6 P A AB base m ⟨f, hf⟩ ms ⟨nt, sl, h, c⟩ -> C6 P A AB base m ⟨f, hf⟩ ms ⟨nt, sl, h, c'⟩ := fun {sl h c'} hd => by
        have := Oe (P := P) (A := A) (AB := AB) base m ⟨f, hf⟩ ms ⟨nt, sl, h, c⟩ c'
        rw [<- this] at hd; exact hd
      have run : (FO AB nt sl h (base + i) op fun l h' c' => match (generalizing := false) dst with
            | some t => FQ AB base n ms nt ((t, l) :: sl) h'
            | none => FQ AB base n ms nt sl h') = some (ms', sl', h') -> H7 P A AB ((⟨nt, sl, h, c⟩ : St).at (base + i)) dst op ⟨C6 P A AB base m ⟨f, hf⟩ ms, ⟨⟩⟩ := fun hs => by
        obtain ⟨l, h', c', h1, h2⟩ := Gw hs
        refine (h2 P A dst _ ?_).2
        rw [NU]
        cases dst with
        | some t => exact at_ (ih h1)
        | none => exact at_ (ih h1)
      have skip : (match (generalizing := false) dst with
          | some t => FQ AB base n ms nt ((t, .und) :: sl) h
          | none => FQ AB base n ms nt sl h) = some (ms', sl', h') -> C6 P A AB base m ⟨f, hf⟩ ms ((⟨nt, sl, h, c⟩ : St).put dst .und) := fun hs => by
        cases dst with
        | some t => exact ih hs
        | none => exact ih hs
      simp only [FQ] at hr
      cases g with
      | none => exact run hr
      | some g =>
        obtain ⟨d, want⟩ := g
        cases d with
        | none => simp at hr
        | some d =>
          simp only at hr
          simp only [C6, Fe, <- BE (h := h) (c := c)]
          generalize A9 nt sl (.tmp d) = v at hr ⊢
          split at hr
          . rename_i b
            split at hr
            . rename_i hb
              refine ⟨fun _ => run hr, fun e => ?_⟩
              rw [Jj hb] at e; cases want <;> cases e
            rename_i hb
            refine ⟨fun e => ?_, fun _ => skip hr⟩
            rw [Lq hb] at e; cases want <;> cases e
          . exact skip hr
          cases hr
theorem BG {base m : Nat} {ms : List (Nat × Gu)} {sl' : List (Nat × LV)} {h' : AT} (hr : FR AB base ms nt sl h = some (sl', h')) (k : f ⟨nt, sl', h', base + m⟩) : C6 P A AB base m ⟨f, hf⟩ ms ⟨nt, sl, h, c⟩ := by
  induction ms generalizing sl h with
  | nil =>
    have : (sl, h) = (sl', h') := by simpa [FR] using hr
    cases this; exact ⟨k⟩
  | cons p ms ih =>
      obtain ⟨i, dst, op, g⟩ := p
      have at_ : ∀ {sl h c'} , C6 P A AB base m ⟨f, hf⟩ ms ⟨nt, sl, h, c⟩ -> C6 P A AB base m ⟨f, hf⟩ ms ⟨nt, sl, h, c'⟩ := fun {sl h c'} hd => by
        have := Oe (P := P) (A := A) (AB := AB) base m ⟨f, hf⟩ ms ⟨nt, sl, h, c⟩ c'
        rw [<- this] at hd; exact hd
      have run : (FO AB nt sl h (base + i) op fun l h' c' => match (generalizing := false) dst with
            | some t => FR AB base ms nt ((t, l) :: sl) h'
            | none => FR AB base ms nt sl h') = some (sl', h') -> H7 P A AB ((⟨nt, sl, h, c⟩ : St).at (base + i)) dst op ⟨C6 P A AB base m ⟨f, hf⟩ ms, ⟨⟩⟩ := fun hs => by
        obtain ⟨l, h', c', h1, h2⟩ := Gw hs
        refine (h2 P A dst _ ?_).2
        rw [NU]
        cases dst with
        | some t => exact at_ (ih h1)
        | none => exact at_ (ih h1)
      have skip : (match (generalizing := false) dst with
          | some t => FR AB base ms nt ((t, .und) :: sl) h
          | none => FR AB base ms nt sl h) = some (sl', h') -> C6 P A AB base m ⟨f, hf⟩ ms ((⟨nt, sl, h, c⟩ : St).put dst .und) := fun hs => by
        cases dst with
        | some t => exact ih hs
        | none => exact ih hs
      simp only [FR] at hr
      cases g with
      | none => exact run hr
      | some g =>
        obtain ⟨d, want⟩ := g
        cases d with
        | none => simp at hr
        | some d =>
          simp only at hr
          simp only [C6, Fe, <- BE (h := h) (c := c)]
          generalize A9 nt sl (.tmp d) = v at hr ⊢
          split at hr
          . rename_i b
            split at hr
            . rename_i hb
              refine ⟨fun _ => run hr, fun e => ?_⟩
              rw [Jj hb] at e; cases want <;> cases e
            rename_i hb
            refine ⟨fun e => ?_, fun _ => skip hr⟩
            rw [Lq hb] at e; cases want <;> cases e
          . exact skip hr
          cases hr
end
end Go.E
/- Rules for a walk in step with a plain function. No condition. -/
namespace Go.E
open Go Go.RowKit
def Mq : List Nat -> Nat -> Bool
 | [], _ => false
 | x :: l, t => match Nat.beq t x with
  | true => true
  | false => Mq l t
theorem Sm : ∀ {l : List Nat} {t : Nat}, Mq l t = true ↔ t ∈ l
 | [], t => by simp [Mq]
 | x :: l, t => by
  simp only [Mq, List.mem_cons]
  split
  .rename_i h; have := Nat.eq_of_beq_eq_true h; subst this; simp
  rename_i h
  have hne : t ≠ x := by rintro rfl; simp at h
  rw [Sm]; simp [hne]
theorem VF {P : Program} {l : List (Nat × TI)} (h : (l.map fun p => TW P p.1) = l.map fun p => some p.2) : Mj P (fun t => BX t l) := by
 have := RC h
 intro t ti ht
 exact this t ti (by simpa only [BQ] using ht)
section
variable {α β γ : Type}
theorem bd {o : Option α} {f : α -> Option β} {b : β} (h : o.bind f = some b) : ∃ a, o = some a /\ f a = some b := Option.bind_eq_some_iff.1 h
def Al (l : List α) (n : Int) : Option α := match n with
 | .ofNat k => l[k]?
 | .negSucc _ => none
theorem FT {l : List α} {n : Int} {y : α} (h : Al l n = some y) : 0 <= n /\ n.toNat < l.length /\ l[n.toNat]? = some y := by
 cases n with
 | ofNat k => exact ⟨Int.natCast_nonneg k, (List.getElem?_eq_some_iff.1 h).1, h⟩
 | negSucc k => cases h
def Lr (s : ByteArray) (n : Int) : Option UInt8 := match n with
 | .ofNat k => s[k]?
 | .negSucc _ => none
def F4 (l : List α) (lo hi : Int) : Option (List α) := if 0 <= lo /\ lo <= hi /\ hi <= l.length then some ((l.take hi.toNat).drop lo.toNat) else none
def Bc (l m : List α) : Option (List α) := if l.length + m.length <= 4294967296 then some (l ++ m) else none
def A1 (l : List α) (n : Int) (z : α) : List α := l.set n.toNat z
def RK (a b : Int) : Option Int := if b = 0 then none else some (a.tmod b)
def Ej (step : α -> Option (α ⊕ β)) : Nat -> α -> Option β
 | 0, _ => none
 | n + 1, s => match step s with
  | none => none
  | some (.inl s') => Ej step n s'
  | some (.inr b) => some b
theorem Mr {step : α -> Option (α ⊕ β)} : ∀ {n m : Nat} {s : α} {b : β}, Ej step n s = some b -> Ej step (n + m) s = some b
 | 0, _, _, _, h => by cases h
 | n + 1, m, s, b, h => by
  rw [show n + 1 + m = (n + m) + 1 by omega]
  simp only [Ej] at h ⊢
  split at h
  .cases h
  .exact Mr h
  exact h
open Classical in
noncomputable def Oh (step : α -> Option (α ⊕ β)) (s : α) : Option β := if h : ∃ b n, Ej step n s = some b then some h.choose else none
noncomputable def AO (step : α -> Option (α ⊕ β)) (s : α) : Option β := match Ej step 18446744073709551616 s with
 | some b => some b
 | none => Oh step s
theorem RL {step : α -> Option (α ⊕ β)} {n : Nat} {s : α} {b : β} (h : Ej step n s = some b) : Oh step s = some b := by
 have hex : ∃ b n, Ej step n s = some b := ⟨b, n, h⟩
 unfold Oh
 rw [dif_pos hex]
 obtain ⟨m, hm⟩ := hex.choose_spec
 have h1 := Mr (m := m) h
 have h2 := Mr (m := n) hm
 rw [show m + n = n + m by omega, h1] at h2
 exact h2.symm
theorem Sn (step : α -> Option (α ⊕ β)) (s : α) : AO step s = Oh step s := by
 unfold AO
 split
 .rename_i h; exact (RL h).symm
 rfl
theorem N6 {step : α -> Option (α ⊕ β)} {n : Nat} {s : α} {b : β} (h : Ej step n s = some b) : AO step s = some b := by
 rw [Sn]; exact RL h
theorem JJ {step : α -> Option (α ⊕ β)} {s : α} {b : β} (h : AO step s = some b) : ∃ n, Ej step n s = some b := by
 rw [Sn] at h
 unfold Oh at h
 split at h
 .rename_i hex
  obtain ⟨m, hm⟩ := hex.choose_spec
  simp only [Option.some.injEq] at h
  rw [h] at hm
  exact ⟨m, hm⟩
 cases h
theorem FU (step : α -> Option (α ⊕ β)) (s : α) : AO step s = match step s with
  | none => none
  | some (.inl s') => AO step s'
  | some (.inr b) => some b := by
 cases hs : step s with
 | none =>
  cases hl : AO step s with
  | none => rfl
  | some b =>
   obtain ⟨n, hn⟩ := JJ hl
   cases n with
   | zero => cases hn
   | succ n => simp [Ej, hs] at hn
 | some r =>
  cases r with
  | inl s' =>
   simp only
   cases hl : AO step s' with
   | some b => obtain ⟨n, hn⟩ := JJ hl; exact N6 (n := n + 1) (by simp only [Ej, hs]; exact hn)
   | none =>
    cases hl' : AO step s with
    | none => rfl
    | some b =>
     obtain ⟨n, hn⟩ := JJ hl'
     cases n with
     | zero => cases hn
     | succ n =>
      simp only [Ej, hs] at hn
      rw [N6 hn] at hl; cases hl
  | inr b => exact N6 (n := 1) (by simp [Ej, hs])
def Hc (sp : Option (α ⊕ β)) (rest : α -> Option β) : Option β := match sp with
 | none => none
 | some (.inl t) => rest t
 | some (.inr b) => some b
def Pg (o : Option α) (a : Option β) (b : α -> Option β) : Option β := match o with
 | none => a
 | some x => b x
theorem Xj {a : Option β} {b : α -> Option β} {r : Option β} (h : Pg none a b = r) : a = r := h
theorem Xk {x : α} {a : Option β} {b : α -> Option β} {r : Option β} (h : Pg (some x) a b = r) : b x = r := h
end
section
variable {P : Program} {A : BD} {AB : A2} {st : St} {σ Ans : Type}
def LP (A : BD) (S : σ -> St) (Q : Ans -> Exit -> St -> Prop) : σ ⊕ Ans -> Exit -> St -> Prop
 | .inl s, e, st => e = .normal /\ A4 A st (S s)
 | .inr a, e, st => e ≠ .normal /\ Q a e st
theorem lp {c : Code} {Q : Ans -> Exit -> St -> Prop} {a : Ans} (I : σ -> St) {step : σ -> Option (σ ⊕ Ans)} {s0 : σ} (h : AO step s0 = some a) (hw : A4 A st (I s0))
  (hb : ∀ s b, step s = some b -> Bw P A c (LP A I Q b) (I s)) : Bw P A (.loop c) (Q a) st := by
 obtain ⟨n, hn⟩ := JJ h
 refine Uu (ι := Nat × σ) (fun i s => Ej step i.1 i.2 = some a /\ A4 A s (I i.2)) (fun i => i.1) (n, s0) ⟨hn, hw⟩ ?_
 rintro ⟨n, s⟩ st' ⟨hi, hws⟩
 refine Je hws ?_
 cases n with
 | zero => cases hi
 | succ n =>
  simp only [Ej] at hi
  cases hs : step s with
  | none => rw [hs] at hi; cases hi
  | some r =>
   rw [hs] at hi
   refine JV (hb s r hs) fun e st'' q => ?_
   cases r with
   | inl s' =>
    obtain ⟨he, hw'⟩ := q
    subst he
    exact ⟨(n, s'), ⟨hi, hw'⟩, Nat.lt_succ_self n⟩
   | inr a' =>
    obtain ⟨he, hq⟩ := q
    simp only [Option.some.injEq] at hi
    subst hi
    cases e <;> first | exact absurd rfl he | exact hq
theorem jn {x y : Code} {Q : Ans -> Exit -> St -> Prop} {a : Ans} (S : σ -> St) {sp : Option (σ ⊕ Ans)} {rest : σ -> Option Ans} (h : Hc sp rest = some a)
  (hx : ∀ b, sp = some b -> Bw P A x (LP A S Q b) st) (hy : ∀ t, rest t = some a -> Bw P A y (Q a) (S t)) : Bw P A (.seq x y) (Q a) st := by
 refine AC ?_
 cases hs : sp with
 | none => rw [hs] at h; cases h
 | some r =>
  rw [hs] at h
  refine JV (hx r hs) fun e st' q => ?_
  cases r with
  | inl t =>
   obtain ⟨he, hw⟩ := q
   subst he
   exact Je hw (hy t h)
  | inr a' =>
   obtain ⟨he, hq⟩ := q
   simp only [Hc, Option.some.injEq] at h
   subst h
   cases e <;> first | exact absurd rfl he | exact hq
def NP (A : BD) (S : σ -> St) (s : σ) (e : Exit) (st : St) : Prop := e = .normal /\ A4 A st (S s)
theorem jb {x y : Code} {Q : Exit -> St -> Prop} {a : Ans} (S : σ -> St) {sp : Option σ} {rest : σ -> Option Ans} (h : sp.bind rest = some a)
  (hx : ∀ t, sp = some t -> Bw P A x (NP A S t) st) (hy : ∀ t, rest t = some a -> Bw P A y Q (S t)) : Bw P A (.seq x y) Q st := by
 obtain ⟨t, h1, h2⟩ := bd h
 refine AC (JV (hx t h1) fun e st' q => ?_)
 obtain ⟨he, hw⟩ := q
 subst he
 exact Je hw (hy t h2)
theorem rg (hE : BB P AB) {id : Nat} {ops : List Oper} {Q : Exit -> St -> Prop} (k : Ep P A AB ⟨Q .normal, ⟨⟩⟩ (ops.map (Mg ops)) st) : Bw P A (.region id ops.toArray false) Q st := U7 hE rfl k
theorem rs (hE : BB P AB) {id : Nat} {ops : List Oper} {y : Code} {Q : Exit -> St -> Prop} (k : Ep P A AB ⟨Bw P A y Q, ⟨⟩⟩ (ops.map (Mg ops)) st) : Bw P A (.seq (.region id ops.toArray false) y) Q st := V7 hE rfl k
theorem CF (hE : BB P AB) (hm : P.follows .mixedOrders = true) {id : Nat} {ops : List Oper} {Q : Exit -> St -> Prop} {nt : Nat} {sl : List (Nat × LV)} {h : AT} {c : Nat} (order : List Nat) (n : Nat)
  (hok : HX false AB.own .any ops.toArray order (Array.replicate ops.length false) = true) (hl : Nat.beq order.length ops.length = true) (hb : (order.all fun i => Nat.blt i ops.length) = true) (hn : Nat.beq ops.length n = true)
  (k : C6 P A AB c n ⟨Q .normal, ⟨⟩⟩ (F3 ops order) ⟨nt, sl, h, c⟩) : Bw P A (.region id ops.toArray true) Q ⟨nt, sl, h, c⟩ := by
 have hb' : (order.all fun i => decide (i < ops.length)) = true := by
  rw [List.all_eq_true] at hb ⊢
  intro i hi
  have := Nat.le_of_ble_eq_true (hb i hi)
  simp only [decide_eq_true_eq]; omega
 have hn' := Nat.eq_of_beq_eq_true hn
 subst hn'
 exact Gd false (fun h => by cases h) hE hm hok (Nat.eq_of_beq_eq_true hl) (Io order _ hb' k)
theorem Xr (hE : BB P AB) (hm : P.follows .mixedOrders = true) {id : Nat} {ops : List Oper} {Q : Exit -> St -> Prop} {nt : Nat} {sl : List (Nat × LV)} {h : AT} {c : Nat} (order : List Nat) (n : Nat)
  (hq : AB.calm.isSome = true) (hok : HX true AB.own .any ops.toArray order (Array.replicate ops.length false) = true) (hl : Nat.beq order.length ops.length = true) (hb : (order.all fun i => Nat.blt i ops.length) = true) (hn : Nat.beq ops.length n = true)
  (k : C6 P A AB c n ⟨Q .normal, ⟨⟩⟩ (F3 ops order) ⟨nt, sl, h, c⟩) : Bw P A (.region id ops.toArray true) Q ⟨nt, sl, h, c⟩ := by
 have hb' : (order.all fun i => decide (i < ops.length)) = true := by
  rw [List.all_eq_true] at hb ⊢
  intro i hi
  have := Nat.le_of_ble_eq_true (hb i hi)
  simp only [decide_eq_true_eq]; omega
 have hn' := Nat.eq_of_beq_eq_true hn
 subst hn'
 exact Gd true (fun _ => Option.isSome_iff_exists.1 hq) hE hm hok (Nat.eq_of_beq_eq_true hl) (Io order _ hb' k)
theorem cd {x : Operand} {cx cy : Code} {Q : Exit -> St -> Prop} {nt : Nat} {sl : List (Nat × LV)} {h : AT} {c : Nat} {b : Bool} {p q : Option Ans} {a : Ans} (hb : A9 nt sl x = .p (.bool b)) (hh : cond b p q = some a)
  (hx : p = some a -> Bw P A cx Q ⟨nt, sl, h, c⟩) (hy : q = some a -> Bw P A cy Q ⟨nt, sl, h, c⟩) : Bw P A (.cond x cx cy) Q ⟨nt, sl, h, c⟩ := by
 refine Ny (b := b) (by rw [<- BE]; exact hb) (fun e => ?_) (fun e => ?_)
 .subst e; exact hx hh
 subst e; exact hy hh
theorem Oi {x : Operand} {cx cy : Code} {Q : Exit -> St -> Prop} {nt : Nat} {sl : List (Nat × LV)} {h : AT} {c : Nat} (hb : A9 nt sl x = .p (.bool true)) (hx : Bw P A cx Q ⟨nt, sl, h, c⟩) : Bw P A (.cond x cx cy) Q ⟨nt, sl, h, c⟩ :=
 Ny (b := true) (by rw [<- BE]; exact hb) (fun _ => hx) (fun e => by cases e)
theorem Oj {x : Operand} {cx cy : Code} {Q : Exit -> St -> Prop} {nt : Nat} {sl : List (Nat × LV)} {h : AT} {c : Nat} (hb : A9 nt sl x = .p (.bool false)) (hx : Bw P A cy Q ⟨nt, sl, h, c⟩) : Bw P A (.cond x cx cy) Q ⟨nt, sl, h, c⟩ :=
 Ny (b := false) (by rw [<- BE]; exact hb) (fun e => by cases e) (fun _ => hx)
end
end Go.E
/- Rules for single operations of a walk in step with a plain function. No condition. -/
namespace Go.E
open Go Go.RowKit
section
variable {β : Type}
def TY (t : Nat) (v : LV) : List (Nat × LV) -> (List (Nat × LV) -> Option β) -> Option β
 | [], _ => none
 | (q, u) :: l, k => match Nat.beq t q with
  | true => k ((q, v) :: l)
  | false => TY t v l (fun r => k ((q, u) :: r))
theorem So {t : Nat} {v : LV} : ∀ {l : List (Nat × LV)} {k : List (Nat × LV) -> Option β} {y : β}, BX t l = some v -> TY t v l k = some y -> k l = some y
 | [], _, _, h, _ => by simp [BX] at h
 | (q, u) :: l, k, y, h, hr => by
  simp only [BX] at h
  simp only [TY] at hr
  split at h
  .rename_i hb
   rw [hb] at hr
   simp only [Option.some.injEq] at h
   subst h; exact hr
  rename_i hb
  rw [hb] at hr
  exact So (k := fun r => k ((q, u) :: r)) h hr
def UL (t : Nat) (v : LV) (l : List (Nat × LV)) : Option (List (Nat × LV)) := TY t v l some
theorem Ok {t : Nat} {v : LV} {l l' : List (Nat × LV)} (h : BX t l = some v) (hr : UL t v l = some l') : l = l' := by
 have := So h hr
 simpa using this
theorem Ls {nt t : Nat} {sl : List (Nat × LV)} {d : DV} (h : A9 nt sl (.tmp t) = .p d) : BX t sl = some (.p d) := by
 simp only [A9] at h
 split at h
 .split at h
  .subst h; assumption
  cases h
 cases h
def Vs (nt : Nat) (sl : List (Nat × LV)) : Option (Option Tmp × Bool) -> Bool
 | none => true
 | some (some d, want) => match A9 nt sl (.tmp d) with
  | .p (.bool b) => Ji b want
  | _ => false
 | some (none, _) => false
theorem RM {nt : Nat} {sl : List (Nat × LV)} {d : Tmp} {want : Bool} (h : Vs nt sl (some (some d, want)) = true) : A9 nt sl (.tmp d) = .p (.bool want) := by
 simp only [Vs] at h
 split at h
 .rename_i b hb; rw [hb, Jj h]
 cases h
end
section
variable {P : Program} {A : BD} {AB : A2} {f : St -> Prop} {hf : H6 f} {nt : Nat} {sl : List (Nat × LV)} {h : AT} {c : Nat} {Ans : Type}
theorem gs (t : Nat) {ms : List Gu} {b : Bool} {p q : Option Ans} {a : Ans} {slT slF : List (Nat × LV)} (hh : cond b p q = some a) (hv : A9 nt sl (.tmp t) = .p (.bool b))
  (hT : UL t (.p (.bool true)) sl = some slT) (hF : UL t (.p (.bool false)) sl = some slF)
  (hx : p = some a -> Ep P A AB ⟨f, hf⟩ ms ⟨nt, slT, h, c⟩) (hy : q = some a -> Ep P A AB ⟨f, hf⟩ ms ⟨nt, slF, h, c⟩) : Ep P A AB ⟨f, hf⟩ ms ⟨nt, sl, h, c⟩ := by
 cases b with
 | true => rw [Ok (Ls hv) hT]; exact hx hh
 | false => rw [Ok (Ls hv) hF]; exact hy hh
theorem HI (t : Nat) {base m : Nat} {ms : List (Nat × Gu)} {b : Bool} {p q : Option Ans} {a : Ans} {slT slF : List (Nat × LV)} (hh : cond b p q = some a) (hv : A9 nt sl (.tmp t) = .p (.bool b))
  (hT : UL t (.p (.bool true)) sl = some slT) (hF : UL t (.p (.bool false)) sl = some slF)
  (hx : p = some a -> C6 P A AB base m ⟨f, hf⟩ ms ⟨nt, slT, h, c⟩) (hy : q = some a -> C6 P A AB base m ⟨f, hf⟩ ms ⟨nt, slF, h, c⟩) : C6 P A AB base m ⟨f, hf⟩ ms ⟨nt, sl, h, c⟩ := by
 cases b with
 | true => rw [Ok (Ls hv) hT]; exact hx hh
 | false => rw [Ok (Ls hv) hF]; exact hy hh
theorem sx {dst : Option Tmp} {op : Op} {g : Option (Option Tmp × Bool)} {rest : List Gu} (hg : Vs nt sl g = true) (k : BC P A AB ⟨nt, sl, h, c⟩ dst op ⟨Ep P A AB ⟨f, hf⟩ rest, ⟨⟩⟩) :
  Ep P A AB ⟨f, hf⟩ (⟨dst, op, g⟩ :: rest) ⟨nt, sl, h, c⟩ := by
 cases g with
 | none => exact k
 | some g =>
  obtain ⟨d, want⟩ := g
  cases d with
  | none => cases hg
  | some d =>
   have := RM hg
   simp only [Ep, Fe, <- BE (h := h) (c := c), this, gM, gW]
   exact ⟨fun _ => k, fun e => by cases want <;> cases e⟩
theorem Au {base m i : Nat} {dst : Option Tmp} {op : Op} {g : Option (Option Tmp × Bool)} {rest : List (Nat × Gu)} (hg : Vs nt sl g = true) (k : H7 P A AB ⟨nt, sl, h, base + i⟩ dst op ⟨C6 P A AB base m ⟨f, hf⟩ rest, ⟨⟩⟩) :
  C6 P A AB base m ⟨f, hf⟩ ((i, ⟨dst, op, g⟩) :: rest) ⟨nt, sl, h, c⟩ := by
 cases g with
 | none => exact k
 | some g =>
  obtain ⟨d, want⟩ := g
  cases d with
  | none => cases hg
  | some d =>
   have := RM hg
   simp only [C6, Fe, <- BE (h := h) (c := c), this, gM, gW]
   exact ⟨fun _ => k, fun e => by cases want <;> cases e⟩
def WF : Op -> Bool
 | .binOp .. | .call _ | .range .. | .next .. | .entry .. | .load .. | .store .. => false
 | _ => true
theorem Ag {st : St} {dst : Option Tmp} {op : Op} {K : Az St} (hp : WF op = true) (k : BC P A AB st dst op K) : H7 P A AB st dst op K := by
 cases op <;> first | exact k | cases hp
theorem Hd {nt : Nat} {sl : List (Nat × LV)} {h : AT} {c : Nat} {dst : Option Tmp} {t : TypeId} {x : Operand} {K : Az St} (hc : Ky AB.calm (A9 nt sl x) = true) (k : BC P A AB ⟨nt, sl, h, c⟩ dst (.load t x) K) : H7 P A AB ⟨nt, sl, h, c⟩ dst (.load t x) K := ⟨by rw [<- BE (h := h) (c := c)]; exact hc, k⟩
theorem K5 {nt : Nat} {sl : List (Nat × LV)} {h : AT} {c : Nat} {dst : Option Tmp} {t : TypeId} {x v : Operand} {K : Az St} (hc : JX AB.calm (A9 nt sl x) = true) (k : BC P A AB ⟨nt, sl, h, c⟩ dst (.store t x v) K) : H7 P A AB ⟨nt, sl, h, c⟩ dst (.store t x v) K := ⟨by rw [<- BE (h := h) (c := c)]; exact hc, k⟩
theorem Bo {st : St} {dst : Option Tmp} {args : Array Operand} {ts : Array TypeId} {K : Az St} (k : BC P A AB st dst (.call ⟨.builtin .append, args, ts⟩) K) : H7 P A AB st dst (.call ⟨.builtin .append, args, ts⟩) K := k
def Ol (AB : A2) (t : Nat) : Bool := match AB.tt t with
 | some ti => match ti.sh with
  | .slc _ => true
  | _ => false
 | none => false
def TZ (AB : A2) (t : Nat) : Bool := match AB.tt t with
 | some ti => match ti.sh with
  | .str => true
  | _ => false
 | none => false
theorem VG {t : Nat} (h : TZ AB t = true) : ∃ ti, AB.tt t = some ti /\ ti.sh = .str := by
 unfold TZ at h
 split at h
 .rename_i ti hti
  split at h
  .rename_i he; exact ⟨ti, hti, he⟩
  cases h
 cases h
theorem N7 {t : Nat} (h : Ol AB t = true) : ∃ ti e, AB.tt t = some ti /\ ti.sh = .slc e := by
 unfold Ol at h
 split at h
 .rename_i ti hti
  split at h
  .rename_i e he; exact ⟨ti, e, hti, he⟩
  cases h
 cases h
def Lt (AB : A2) (t sz : Nat) : Bool := match AB.tt t with
 | some ti => match ti.sh with
  | .slc e => match AB.tt e with
   | some te => Nat.beq te.size sz
   | none => false
  | _ => false
 | none => false
theorem Lu {t sz : Nat} (h : Lt AB t sz = true) : ∃ ti e te, AB.tt t = some ti /\ ti.sh = .slc e /\ AB.tt e = some te /\ te.size = sz := by
 unfold Lt at h
 split at h
 .rename_i ti hti
  split at h
  .rename_i e he
   split at h
   .rename_i te hte; exact ⟨ti, e, te, hti, he, hte, Nat.eq_of_beq_eq_true h⟩
   cases h
  cases h
 cases h
variable {α : Type} {enc : α -> List DV} {l : List α} {d : Tmp} {t sz : Nat} {x : Operand}
theorem Aj (ht : Ol AB t = true) (hx : A9 nt sl x = .p (.slice sz (l.map enc))) (k : f ⟨nt, (d, .p (.int .i64 l.length)) :: sl, h, c⟩) : BC P A AB ⟨nt, sl, h, c⟩ (some d) (.call ⟨.builtin .len, #[x], #[t]⟩) ⟨f, hf⟩ := by
 obtain ⟨ti, e, h1, h2⟩ := N7 ht
 refine AP.2 ⟨ti, h1, ?_⟩
 rw [BE (h := h) (c := c)] at hx
 dsimp only
 rw [h2, hx]
 intro _
 simp only [List.length_map]
 exact k
theorem Om (ht : Ol AB t = true) (hx : A9 nt sl x = .p (.slice sz (l.map enc))) (k : f ⟨nt, (d, .p (.int .i64 l.length)) :: sl, h, c⟩) : H7 P A AB ⟨nt, sl, h, c⟩ (some d) (.call ⟨.builtin .len, #[x], #[t]⟩) ⟨f, hf⟩ := by
 obtain ⟨ti, e, h1, h2⟩ := N7 ht
 refine AP.2 ⟨ti, h1, ?_⟩
 rw [BE (h := h) (c := c)] at hx
 dsimp only
 rw [h2, hx]
 simp only [TT, List.length_map]
 exact k
theorem Ap {i : Operand} {kk : IntKind} {n : Int} {y : α} (hy : Al l n = some y) (ht : Lt AB t sz = true) (hx : A9 nt sl x = .p (.slice sz (l.map enc))) (hi : A9 nt sl i = .p (.int kk n))
  (k : f ⟨nt, (d, .p (.place (enc y) 0)) :: sl, h, c⟩) : BC P A AB ⟨nt, sl, h, c⟩ (some d) (.indexAddr t x i) ⟨f, hf⟩ := by
 obtain ⟨ti, e, te, h1, h2, h3, h4⟩ := Lu ht
 obtain ⟨g1, g2, g3⟩ := FT hy
 rw [BE (h := h) (c := c)] at hx hi
 refine B3.2 ⟨kk, n, hi, AP.2 ⟨ti, h1, ?_⟩⟩
 dsimp only
 rw [h2, hx]
 exact AP.2 ⟨te, h3, h4, g1, AN.2 ⟨enc y, by rw [List.getElem?_map, g3]; rfl, k⟩⟩
theorem Ms {s : ByteArray} {i : Operand} {kk : IntKind} {n : Int} {y : UInt8} (hy : Lr s n = some y) (ht : TZ AB t = true) (hx : A9 nt sl x = .p (.str s)) (hi : A9 nt sl i = .p (.int kk n))
  (k : f ⟨nt, (d, .p (.int .u8 y.toNat)) :: sl, h, c⟩) : BC P A AB ⟨nt, sl, h, c⟩ (some d) (.index t x i) ⟨f, hf⟩ := by
 obtain ⟨ti, hti, hsh⟩ := VG ht
 rw [BE (h := h) (c := c)] at hx hi
 cases n with
 | negSucc n => cases hy
 | ofNat n =>
  refine B3.2 ⟨kk, _, hi, AP.2 ⟨ti, hti, Int.natCast_nonneg n, ?_⟩⟩
  dsimp only
  rw [hsh, hx]
  exact AN.2 ⟨y, hy, k⟩
def Mt (nt : Nat) (sl : List (Nat × LV)) (d : Int) : Option Operand -> Option Int
 | none => some d
 | some o => match A9 nt sl o with
  | .p (.int _ n) => some n
  | _ => none
theorem NV {d n : Int} {x : Option Operand} {k : Az Int} (hb : Mt nt sl d x = some n) (hk : k.f n) : Ja d (x.map (St.eval ⟨nt, sl, h, c⟩)) k := by
 cases x with
 | none => simp only [Mt, Option.some.injEq] at hb; subst hb; exact hk
 | some o =>
  simp only [Mt, BE (h := h) (c := c)] at hb
  simp only [Option.map_some]
  split at hb
  .rename_i kk m he
   simp only [Option.some.injEq] at hb
   subst hb
   rw [he]; exact hk
  cases hb
theorem Lv {lo hi : Option Operand} {n m : Int} {r : List α} (hr : F4 l n m = some r) (ht : Lt AB t sz = true) (hx : A9 nt sl x = .p (.slice sz (l.map enc)))
  (hlo : Mt nt sl 0 lo = some n) (hhi : Mt nt sl l.length hi = some m)
  (k : f ⟨nt, (d, .p (.slice sz (r.map enc))) :: sl, h, c⟩) : BC P A AB ⟨nt, sl, h, c⟩ (some d) (.slice t x lo hi none) ⟨f, hf⟩ := by
 obtain ⟨ti, e, te, h1, h2, h3, h4⟩ := Lu ht
 rw [BE (h := h) (c := c)] at hx
 simp only [F4] at hr
 split at hr
 .rename_i hb
  simp only [Option.some.injEq] at hr
  subst hr
  show Jb AB t _ _ _ _
  rw [hx]
  refine AP.2 ⟨ti, h1, CB.2 ⟨e, h2, AP.2 ⟨te, h3, h4, ?_⟩⟩⟩
  rw [List.length_map]
  refine NV hhi (NV hlo ⟨hb, ?_⟩)
  rw [<- List.map_take, <- List.map_drop]; exact k
 cases hr
end
end Go.E
/- Rules for single operations: calls, what is appended, made, looked up, set against another. No condition. -/
namespace Go.E
open Go Go.RowKit
inductive KE : List DV -> List DV -> Prop where
 | nil : KE [] []
 | cons {a b : DV} {l m : List DV} (h : Le a b) (t : KE l m) : KE (a :: l) (b :: m)
theorem Le.rfl {d : DV} : Le d d := fun _ _ _ h => h
theorem KE.rfl : ∀ {l : List DV}, KE l l
 | [] => .nil
 | _ :: _ => .cons Le.rfl KE.rfl
theorem KE.len {l m : List DV} (h : KE l m) : l.length = m.length := by induction h with
 | nil => exact Eq.refl _
 | cons _ _ ih => simp [ih]
theorem KE.get {l m : List DV} (h : KE l m) : ∀ (i : Nat) (a b : DV), l[i]? = some a -> m[i]? = some b -> Le a b := by
 induction h with
 | nil => intro i a b h1; simp at h1
 | cons h _ ih =>
  intro i x y h1 h2
  cases i with
  | zero => simp at h1 h2; subst h1 h2; exact h
  | succ i => exact ih i x y (by simpa using h1) (by simpa using h2)
theorem Le.tup' {l m : List DV} (h : KE l m) : Le (.tup l) (.tup m) := Le.tup h.len h.get
theorem Le.agg' {l m : List DV} (h : KE l m) : Le (.agg l) (.agg m) := Le.agg h.len h.get
theorem Le.nilm : Le .nilm (.map []) := fun _ _ _ hv => by cases hv; exact .mnil
theorem Le.own {α : Type} {enc : α -> List DV} {l : List α} {sz : Nat} : Le (.slice sz (((l.map enc).drop 0).take l.length)) (.slice sz (l.map enc)) := Le.of_eq (by rw [List.drop_zero, List.take_of_length_le (by simp)])
theorem A7.le {P : Program} {k : Nat} {ds ds' : List DV} {Q : DV -> Prop} (h : A7 P k ds Q) (hl : KE ds' ds) : A7 P k ds' Q :=
 ⟨h.enters, fun O w vs h1 h2 h3 => h.run O w vs h1 (by rw [h2, hl.len]) fun i v d hv hd => by
  have hi := (List.getElem?_eq_some_iff.1 hd).1
  have hlen := hl.len
  have hx : ds'[i]? = some (ds'[i]'(by omega)) := List.getElem?_eq_getElem _
  exact hl.get i _ d hx hd _ _ _ (h3 i v _ hv hx)⟩
theorem GE.le {P : Program} {k : Nat} {ds ds' : List DV} {e sz : Nat} {el : List (List DV)} (h : GE P k ds e sz el) (hl : KE ds' ds) : GE P k ds' e sz el :=
 ⟨h.enters, fun O w vs h1 h2 h3 => h.run O w vs h1 (by rw [h2, hl.len]) fun i v d hv hd => by
  have hi := (List.getElem?_eq_some_iff.1 hd).1
  have hlen := hl.len
  have hx : ds'[i]? = some (ds'[i]'(by omega)) := List.getElem?_eq_getElem _
  exact hl.get i _ d hx hd _ _ _ (h3 i v _ hv hx)⟩
section
variable {κ υ : Type} [BEq κ]
def Af (m : List (κ × υ)) (x : κ) : Option υ := match m with
 | [] => none
 | p :: m => if x == p.1 then some p.2 else Af m x
def A6 (x : κ) (v : υ) : List (κ × υ) -> List (κ × υ)
 | [] => [(x, v)]
 | p :: m => if x == p.1 then (p.1, v) :: m else p :: A6 x v m
structure Jk (AB : A2) (kt : Nat) (ke : κ -> DV) : Prop where
 eq : ∀ a b, Di (ke a) (ke b) = (a == b)
 fits : ∀ a, Bn AB kt (ke a) = true
def Am (ke : κ -> DV) (ve : υ -> DV) (m : List (κ × υ)) : List (DV × DV) := m.map fun p => (ke p.1, ve p.2)
variable {AB : A2} {kt : Nat} {ke : κ -> DV} {ve : υ -> DV}
theorem KF (hk : Jk AB kt ke) (x : κ) : ∀ m : List (κ × υ), Er (ke x) (Am ke ve m) = (Af m x).map ve
 | [] => by simp [Am, Er, C3, Af]
 | p :: m => by
  have ih := KF hk x m
  simp only [Am, Er] at ih
  simp only [Am, List.map_cons, Er, C3, hk.eq, Af]
  by_cases h : (x == p.1) = true
  .simp [h]
  simp only [h]
  simp only [Bool.false_eq_true, if_false, Option.map_map]
  rw [<- ih]
  cases C3 (ke x) (m.map fun p => (ke p.1, ve p.2)) <;> simp
theorem P4 (hk : Jk AB kt ke) (x : κ) (v : υ) : ∀ m : List (κ × υ), Kc (ke x) (ve v) (Am ke ve m) = Am ke ve (A6 x v m)
 | [] => by simp [Am, Kc, A6]
 | p :: m => by
  have ih := P4 hk x v m
  simp only [Am] at ih
  simp only [Am, List.map_cons, Kc, hk.eq, A6]
  by_cases h : (x == p.1) = true
  .simp [h]
  simp only [h]
  simp only [Bool.false_eq_true, if_false, List.map_cons, ih]
theorem KG (hk : Jk AB kt ke) (m : List (κ × υ)) : ((Am ke ve m).all fun p => Bn AB kt p.1) = true := by
 simp only [Am, List.all_map, List.all_eq_true, Function.comp]
 intro p _; exact hk.fits _
end
section
variable {β : Type}
def RN (t : Nat) : AT -> (AT -> Option β) -> Option β
 | [], k => k []
 | (q, u) :: l, k => match Nat.beq t q with
  | true => RN t l k
  | false => RN t l (fun r => k ((q, u) :: r))
theorem Ph {t : Nat} : ∀ {l : AT} {k : AT -> Option β}, RN t l k = k (HU t l)
 | [], k => rfl
 | (q, u) :: l, k => by
  simp only [RN, HU]
  by_cases h : t = q
  .subst h; simp only [Nat.beq_refl, if_true]; exact Ph
  have : Nat.beq t q = false := by
   cases hb : Nat.beq t q with
   | false => rfl
   | true => exact absurd (Nat.eq_of_beq_eq_true hb) h
  rw [this, if_neg h]
  exact Ph
end
section
variable {P : Program} {A : BD} {AB : A2} {f : St -> Prop} {hf : H6 f} {nt : Nat} {sl : List (Nat × LV)} {h : AT} {c : Nat} {d : Tmp}
theorem HJ {args : List Operand} {ls : List LV} (hl : EM nt sl args some = some ls) : args.map (St.eval ⟨nt, sl, h, c⟩) = ls := by
 rw [Ir, Option.some.injEq] at hl
 rw [<- hl]
 exact List.map_congr_left fun x _ => (BE (h := h) (c := c)).symm
theorem AS {fo : Operand} {args : Array Operand} {ts : Array TypeId} {k : Nat} {caps ls : List LV} {ds : List DV} {r : DV} (hF : A7 P k ds (· = r)) (hs : r.scalar = true \/ (ls ++ caps).flatMap (Dn h) = [])
  (hfn : A9 nt sl fo = .fn k caps) (hl : EM nt sl args.toList some = some ls) (hds : Bi h (ls ++ caps) = some ds) (kk : f ⟨nt, (d, .p r) :: sl, h, c⟩) : BC P A AB ⟨nt, sl, h, c⟩ (some d) (.call ⟨.value fo, args, ts⟩) ⟨f, hf⟩ := by
 rw [BE (h := h) (c := c)] at hfn
 show Mi _ _
 rw [hfn]
 show KB P A h c k (args.toList.map _ ++ caps) _
 rw [HJ hl]
 exact XP hds hF hs kk
theorem Bq {fo : Operand} {args : Array Operand} {ts : Array TypeId} {k : Nat} {caps ls : List LV} {ds : List DV} {r : DV} (hF : A7 P k ds (· = r)) (hs : r.scalar = true \/ (ls ++ caps).flatMap (Dn h) = [])
  (hfn : A9 nt sl fo = .fn k caps) (hl : EM nt sl args.toList some = some ls) (hds : Bi h (ls ++ caps) = some ds) (kk : f ⟨nt, (d, .p r) :: sl, h, c⟩) : H7 P A AB ⟨nt, sl, h, c⟩ (some d) (.call ⟨.value fo, args, ts⟩) ⟨f, hf⟩ := by
 rw [BE (h := h) (c := c)] at hfn
 show Mi _ _
 rw [hfn]
 refine .inl ?_
 show VA P h k (args.toList.map _ ++ caps) _
 rw [HJ hl]
 exact Xq hds hF hs kk
def VH (AB : A2) (t e sz : Nat) : Bool := match AB.tt t with
 | some ti => match ti.sh with
  | .slc e' => match AB.tt e with
   | some te => Nat.beq e' e && (Nat.beq te.size sz && (Nat.blt 0 sz && Nat.ble te.bytes 32768))
   | none => false
  | _ => false
 | none => false
theorem WG {t e sz : Nat} (h : VH AB t e sz = true) : ∃ ti te, AB.tt t = some ti /\ ti.sh = .slc e /\ AB.tt e = some te /\ te.size = sz /\ 0 < sz /\ te.bytes <= 32768 := by
 unfold VH at h
 split at h
 .rename_i ti hti
  split at h
  .rename_i e' he
   split at h
   .rename_i te hte
    simp only [Bool.and_eq_true] at h
    obtain ⟨h1, h2, h3, h4⟩ := h
    have := Nat.eq_of_beq_eq_true h1
    subst this
    exact ⟨ti, te, hti, he, hte, Nat.eq_of_beq_eq_true h2, Nat.le_of_ble_eq_true h3, Nat.le_of_ble_eq_true h4⟩
   cases h
  cases h
 cases h
variable {α : Type} {enc : α -> List DV} {l m r : List α} {t e sz : Nat} {s x : Operand}
def Vt (enc : α -> List DV) (sz : Nat) : Prop := ∀ a, (enc a).length = sz /\ (enc a).all DV.cell = true
theorem UM (hr : Bc l m = some r) : r = l ++ m /\ l.length + m.length <= 4294967296 := by
 simp only [Bc] at hr
 split at hr
 .simp only [Option.some.injEq] at hr; exact ⟨hr.symm, ‹_›⟩
 cases hr
theorem UN {n b : Nat} (hb : b <= 32768) (hn : n <= 4294967296) : n * b <= 140737488355328 :=
 Nat.le_trans (Nat.mul_le_mul hn hb) (by decide)
theorem WH {n : Nat} (hn : n <= 4294967296) : n <= maxLen := by unfold maxLen; omega
theorem Ay {id n : Nat} {h' : AT} (hr : Bc l m = some r) (hen : Vt enc sz) (hs : A9 nt sl s = .lsl id sz 0 n) (hl : BX id h = some (.row e sz (l.map enc))) (hn : n = l.length) (hd : RN id h some = some h')
  (hx : J8 h (A9 nt sl x) = some (m.map enc)) (ht : VH AB t e sz = true)
  (k : f ⟨nt, (d, .lsl c sz 0 r.length) :: sl, (c, .row e sz (r.map enc)) :: h', c + 1⟩) : BC P A AB ⟨nt, sl, h, c⟩ (some d) (.call ⟨.builtin .append, #[s, x], #[t, t]⟩) ⟨f, hf⟩ := by
 obtain ⟨ti, te, h1, h2, h3, h4, h5, h6⟩ := WG ht
 obtain ⟨rfl, hb⟩ := UM hr
 rw [BE (h := h) (c := c)] at hs hx
 rw [Ph, Option.some.injEq] at hd
 rw [BQ] at hl
 subst h4 hn hd
 refine ⟨rfl, AP.2 ⟨ti, h1, CB.2 ⟨e, h2, AP.2 ⟨te, h3, h5, AN.2 ⟨_, hx, ?_, ?_⟩⟩⟩⟩⟩
 .intro y hy
  obtain ⟨a, _, rfl⟩ := List.mem_map.1 hy
  exact hen a
 rw [hs]
 simp only [TP]
 refine ⟨trivial, AN.2 ⟨_, hl, ?_⟩⟩
 dsimp only
 refine FM.2 ⟨e, te.size, l.map enc, rfl, ?_⟩
 refine ⟨⟨rfl, rfl, by simp, by rw [List.length_map]; exact UN h6 hb, by rw [List.length_map]; exact WH hb⟩, ?_⟩
 have e1 : ((l.map enc).drop 0).take l.length ++ m.map enc = (l ++ m).map enc := by rw [List.drop_zero, List.take_of_length_le (by simp), List.map_append]
 rw [List.length_append] at k
 simp only [e1, List.length_map]
 exact k
theorem By {i : Operand} {kk : IntKind} {n : Int} {id len : Nat} {y : α} (hy : Al l n = some y) (ht : Lt AB t sz = true) (hx : A9 nt sl x = .lsl id sz 0 len) (hi : A9 nt sl i = .p (.int kk n)) (hn : len = l.length)
  (k : f ⟨nt, (d, .lpe id n.toNat 0) :: sl, h, c⟩) : BC P A AB ⟨nt, sl, h, c⟩ (some d) (.indexAddr t x i) ⟨f, hf⟩ := by
 obtain ⟨ti, e, te, h1, h2, h3, h4⟩ := Lu ht
 obtain ⟨g1, g2, g3⟩ := FT hy
 rw [BE (h := h) (c := c)] at hx hi
 refine B3.2 ⟨kk, n, hi, AP.2 ⟨ti, h1, ?_⟩⟩
 dsimp only
 rw [h2, hx]
 refine AP.2 ⟨te, h3, h4, ⟨g1, by omega⟩, ?_⟩
 simp only [Nat.zero_add]
 exact k
theorem C4 {n : Int} {id o : Nat} {y : α} {v : LV} (hy : Al l n = some y) (hx : A9 nt sl x = .lpe id n.toNat o) (hl : BX id h = some (.row e sz (l.map enc)))
  (hv : (match AB.tt t with | some ti => Of ti o (enc y) some | none => none) = some v) (k : f ⟨nt, (d, v) :: sl, h, c⟩) : BC P A AB ⟨nt, sl, h, c⟩ (some d) (.load t x) ⟨f, hf⟩ := by
 obtain ⟨g1, g2, g3⟩ := FT hy
 rw [BE (h := h) (c := c)] at hx
 rw [BQ] at hl
 split at hv
 .rename_i ti hti
  rw [N4] at hv
  obtain ⟨u, h1, h2⟩ := Option.bind_eq_some_iff.1 hv
  simp only [Option.some.injEq] at h2
  subst h2
  refine AP.2 ⟨ti, hti, ?_⟩
  rw [hx]
  refine AN.2 ⟨_, hl, ?_⟩
  dsimp only
  refine FM.2 ⟨e, sz, l.map enc, rfl, ?_⟩
  exact AN.2 ⟨enc y, by rw [List.getElem?_map, g3]; rfl, AN.2 ⟨u, h1, k⟩⟩
 cases hv
theorem Lw {n : Int} {id o : Nat} {y z : α} {v : Operand} {ls : List LV} {ds : List DV} {h' : AT} (hy : Al l n = some y) (hx : A9 nt sl x = .lpe id n.toNat o) (hl : BX id h = some (.row e sz (l.map enc)))
  (hc : Jh (A9 nt sl v) some = some ls) (hds : GF ls = some ds) (hsz : (match AB.tt t with | some ti => Nat.beq ls.length ti.size && Mk ls | none => false) = true) (hz : CL (enc y) o ds = enc z) (hlen : Nat.ble (o + ls.length) (enc y).length = true)
  (hu : Ke id (.row e sz ((A1 l n z).map enc)) h some = some h') (k : f ⟨nt, sl, h', c⟩) : BC P A AB ⟨nt, sl, h, c⟩ none (.store t x v) ⟨f, hf⟩ := by
 obtain ⟨g1, g2, g3⟩ := FT hy
 rw [BE (h := h) (c := c)] at hx hc
 rw [BQ] at hl
 rw [HH, Option.some.injEq] at hu
 subst hu
 split at hsz
 .rename_i ti hti
  simp only [Bool.and_eq_true] at hsz
  rw [Iq, Option.bind_eq_some_iff] at hc
  obtain ⟨ls', h1, h2⟩ := hc
  simp only [Option.some.injEq] at h2
  subst h2
  refine AP.2 ⟨ti, hti, AN.2 ⟨ls', h1, ⟨Nat.eq_of_beq_eq_true hsz.1, by rw [<- Ml]; exact hsz.2⟩, ?_⟩⟩
  rw [hx]
  refine AN.2 ⟨_, hl, ?_⟩
  dsimp only
  refine FM.2 ⟨e, sz, l.map enc, rfl, ?_⟩
  refine AN.2 ⟨enc y, by rw [List.getElem?_map, g3]; rfl, AN.2 ⟨ds, hds, Nat.le_of_ble_eq_true hlen, ?_⟩⟩
  dsimp only
  rw [hz]
  simp only [A1, List.map_set] at k
  exact k
 cases hsz
def Sp (AB : A2) (t kt et : Nat) : Bool := match AB.tt t with
 | some ti => match ti.sh with
  | .mp k e => Nat.beq k kt && Nat.beq e et
  | _ => false
 | none => false
theorem Oo {kt et : Nat} (h : Sp AB t kt et = true) : ∃ ti, AB.tt t = some ti /\ ti.sh = .mp kt et := by
 unfold Sp at h
 split at h
 .rename_i ti hti
  split at h
  .rename_i k e he
   simp only [Bool.and_eq_true] at h
   have h1 := Nat.eq_of_beq_eq_true h.1; have h2 := Nat.eq_of_beq_eq_true h.2
   subst h1 h2
   exact ⟨ti, hti, he⟩
  cases h
 cases h
variable {κ υ : Type} [BEq κ] {ke : κ -> DV} {ve : υ -> DV} {mp : List (κ × υ)} {kt et : Nat} {i : Operand}
theorem N8 {o : Option υ} {z : υ} : (o.map ve).getD (ve z) = ve (o.getD z) := by cases o <;> rfl
theorem Hf {y : κ} (z : υ) (hk : Jk AB kt ke) (hm : JH h (A9 nt sl x) = some (Am ke ve mp)) (hi : A9 nt sl i = .p (ke y)) (ht : Sp AB t kt et = true) (hz : (AB.tt et).map TI.zeroDV = some (ve z))
  (k : f ⟨nt, (d, .tup [.p (ve ((Af mp y).getD z)), .p (.bool (Af mp y).isSome)]) :: sl, h, c⟩) : BC P A AB ⟨nt, sl, h, c⟩ (some d) (.lookup t x i true) ⟨f, hf⟩ := by
 obtain ⟨ti, h1, h2⟩ := Oo ht
 rw [BE (h := h) (c := c)] at hm hi
 obtain ⟨te, h3, h4⟩ := Option.map_eq_some_iff.1 hz
 refine AP.2 ⟨ti, h1, Es.2 ⟨kt, et, h2, AP.2 ⟨te, h3, AN.2 ⟨_, hm, Cq.2 ⟨_, hi, ⟨hk.fits y, KG hk mp⟩, ?_⟩⟩⟩⟩⟩
 simp only [if_true, KF hk, h4, N8, Option.isSome_map]
 exact k
theorem JK {y : κ} (z : υ) (hk : Jk AB kt ke) (hm : JH h (A9 nt sl x) = some (Am ke ve mp)) (hi : A9 nt sl i = .p (ke y)) (ht : Sp AB t kt et = true) (hz : (AB.tt et).map TI.zeroDV = some (ve z))
  (k : f ⟨nt, (d, .p (ve ((Af mp y).getD z))) :: sl, h, c⟩) : BC P A AB ⟨nt, sl, h, c⟩ (some d) (.lookup t x i false) ⟨f, hf⟩ := by
 obtain ⟨ti, h1, h2⟩ := Oo ht
 rw [BE (h := h) (c := c)] at hm hi
 obtain ⟨te, h3, h4⟩ := Option.map_eq_some_iff.1 hz
 refine AP.2 ⟨ti, h1, Es.2 ⟨kt, et, h2, AP.2 ⟨te, h3, AN.2 ⟨_, hm, Cq.2 ⟨_, hi, ⟨hk.fits y, KG hk mp⟩, ?_⟩⟩⟩⟩⟩
 simp only [Bool.false_eq_true, if_false, KF hk, h4, N8]
 exact k
theorem Hg {y : κ} {z : υ} {id : Nat} {v : Operand} {h' : AT} (hk : Jk AB kt ke) (hx : A9 nt sl x = .lmap id) (hm : BX id h = some (.map (Am ke ve mp))) (hi : A9 nt sl i = .p (ke y)) (hv : A9 nt sl v = .p (ve z)) (ht : Sp AB t kt et = true)
  (hu : Ke id (.map (Am ke ve (A6 y z mp))) h some = some h') (k : f ⟨nt, sl, h', c⟩) : BC P A AB ⟨nt, sl, h, c⟩ none (.mapUpdate t x i v) ⟨f, hf⟩ := by
 obtain ⟨ti, h1, h2⟩ := Oo ht
 rw [BE (h := h) (c := c)] at hx hi hv
 rw [BQ] at hm
 rw [HH, Option.some.injEq] at hu
 subst hu
 refine AP.2 ⟨ti, h1, Es.2 ⟨kt, et, h2, EL.2 ⟨id, hx, AN.2 ⟨_, hm, ?_⟩⟩⟩⟩
 dsimp only
 refine FL.2 ⟨Am ke ve mp, rfl, ?_⟩
 refine Cq.2 ⟨_, hi, Cq.2 ⟨_, hv, ⟨hk.fits y, KG hk mp⟩, ?_⟩⟩
 rw [P4 hk]
 exact k
theorem XR {ks : List Sh} {xs ys : List DV} {b : Bool} {y : Operand} {t' : Nat} (hb : B2 xs ys = b) (hx : A9 nt sl x = .p (.agg xs)) (hy : A9 nt sl y = .p (.agg ys)) (hk : AB.eqk t = some ks) (f1 : fits ks xs = true) (f2 : fits ks ys = true)
  (k : f ⟨nt, (d, .p (.bool b)) :: sl, h, c⟩) : BC P A AB ⟨nt, sl, h, c⟩ (some d) (.binOp .eql t x y t') ⟨f, hf⟩ := by
 rw [BE (h := h) (c := c)] at hx hy
 show N2 AB .eql t _ _ _
 rw [hx, hy]
 exact AN.2 ⟨ks, hk, f1, f2, by rw [hb]; exact k⟩
theorem Mu {ks : List Sh} {xs ys : List DV} {b : Bool} {y : Operand} {t' : Nat} (hb : B2 xs ys = b) (hx : A9 nt sl x = .p (.agg xs)) (hy : A9 nt sl y = .p (.agg ys)) (hk : AB.eqk t = some ks) (f1 : fits ks xs = true) (f2 : fits ks ys = true)
  (k : f ⟨nt, (d, .p (.bool b)) :: sl, h, c⟩) : H7 P A AB ⟨nt, sl, h, c⟩ (some d) (.binOp .eql t x y t') ⟨f, hf⟩ := by
 rw [BE (h := h) (c := c)] at hx hy
 show PY AB .eql t _ _ _
 rw [hx, hy]
 exact AN.2 ⟨ks, hk, f1, f2, by rw [hb]; exact k⟩
theorem UO {ks : List Sh} {xs ys : List DV} {b : Bool} {y : Operand} {t' : Nat} (hb : B2 xs ys = b) (hx : A9 nt sl x = .p (.agg xs)) (hy : A9 nt sl y = .p (.agg ys)) (hk : AB.eqk t = some ks) (f1 : fits ks xs = true) (f2 : fits ks ys = true)
  (k : f ⟨nt, (d, .p (.bool !b)) :: sl, h, c⟩) : H7 P A AB ⟨nt, sl, h, c⟩ (some d) (.binOp .neq t x y t') ⟨f, hf⟩ := by
 rw [BE (h := h) (c := c)] at hx hy
 show PY AB .neq t _ _ _
 rw [hx, hy]
 exact AN.2 ⟨ks, hk, f1, f2, by rw [hb]; exact k⟩
end
end Go.E
/- Rules for a function's beginning and end, and for states that are made weaker, by unfolding alone. No condition. -/
namespace Go.E
open Go Go.RowKit
abbrev li (n : Int) : LV := .p (.int .i64 n)
abbrev lb (b : Bool) : LV := .p (.bool b)
abbrev lq (l : List DV) : LV := .p (.place l 0)
abbrev ls {α : Type} (sz : Nat) (enc : α -> List DV) (l : List α) : LV := .p (.slice sz (l.map enc))
section
variable {P : Program} {A : BD} {AB : A2}
theorem fn (hE : BB P AB) {k : Nat} {fn : Func} {c : Code} {ds : List DV} {d : DV} (hf : P.funcs[k]? = some fn) (hb : fn.body = some c) (hn : (fn.name == "runtime.NumGoroutine") = false) (nt : Nat) (hnt : Nat.beq fn.ntmps nt = true)
  (rs : List ResultVar) (hrs : fn.results.toList = rs) (sl : List (Nat × LV)) (hsl : Cw 0 ds = sl) (hlen : Nat.ble ds.length nt = true)
  (h : ∀ A : BD, (∀ id, A.μ0 id = none) -> Bw P A c (LY fun st => ∃ r, FJ AB.tt rs st = some r /\ Le r d) ⟨nt, sl, [], 0⟩) : A7 P k ds (· = d) := by
 subst hsl
 exact Wj hE hf hb hn nt (Nat.eq_of_beq_eq_true hnt) rs hrs (Nat.le_of_ble_eq_true hlen) h
theorem er {rs : List ResultVar} {st : St} {r d : DV} (h : FJ AB.tt rs st = some r) (hle : Le r d) : LY (fun st => ∃ r, FJ AB.tt rs st = some r /\ Le r d) .ret st := ⟨r, h, hle⟩
theorem en {rs : List ResultVar} {st : St} {r d : DV} (h : FJ AB.tt rs st = some r) (hle : Le r d) : LY (fun st => ∃ r, FJ AB.tt rs st = some r /\ Le r d) .normal st := ⟨r, h, hle⟩
inductive KH (h : AT) : LV -> DV -> Prop where
 | p (d : DV) : KH h (.p d) d
 | own {α : Type} {enc : α -> List DV} (l : List α) {id e sz n : Nat} (hl : BX id h = some (.row e sz (l.map enc))) (hn : n = l.length) : KH h (.lsl id sz 0 n) (.slice sz (l.map enc))
 | map {id : Nat} {m : List (DV × DV)} (hl : BX id h = some (.map m)) : KH h (.lmap id) (.map m)
 | sub {α : Type} {enc : α -> List DV} (l r : List α) {id e sz off n : Nat} (hl : BX id h = some (.row e sz (l.map enc))) (hr : off + n <= l.length /\ (l.drop off).take n = r) : KH h (.lsl id sz off n) (.slice sz (r.map enc))
inductive Oq (h : AT) : List LV -> List DV -> Prop where
 | nil : Oq h [] []
 | cons {v : LV} {d : DV} {vs : List LV} {ds : List DV} (k : KH h v d) (r : Oq h vs ds) : Oq h (v :: vs) (d :: ds)
inductive P5 (h : AT) : List LV -> List DV -> Prop where
 | nil : P5 h [] []
 | box {us : List LV} {es : List DV} {id off : Nat} {vs : List LV} {ds : List DV} (hl : BX id h = some (.box us)) (k : Oq h us es) (r : P5 h vs ds) : P5 h (.lpb id off :: vs) (.place es off :: ds)
 | cons {v : LV} {d : DV} {vs : List LV} {ds : List DV} (k : KH h v d) (r : P5 h vs ds) : P5 h (v :: vs) (d :: ds)
inductive Ld (h : AT) : LV -> DV -> Prop where
 | one {v : LV} {d : DV} (k : KH h v d) : Ld h v d
 | agg {vs : List LV} {ds : List DV} (k : Oq h vs ds) : Ld h (.agg vs) (.agg ds)
 | tup {vs : List LV} {ds : List DV} (k : Oq h vs ds) : Ld h (.tup vs) (.tup ds)
 | box {vs : List LV} {ds : List DV} {id off : Nat} (hl : BX id h = some (.box vs)) (k : Oq h vs ds) : Ld h (.lpb id off) (.place ds off)
 | fn {f : Nat} {vs : List LV} {ds : List DV} (k : P5 h vs ds) : Ld h (.fn f vs) (.fn f ds)
inductive DP (h : AT) : List LV -> List DV -> Prop where
 | nil : DP h [] []
 | cons {v : LV} {d : DV} {vs : List LV} {ds : List DV} (k : Ld h v d) (r : DP h vs ds) : DP h (v :: vs) (d :: ds)
theorem KH.eq {h : AT} {v : LV} {d : DV} (k : KH h v d) : FH h v = some d := by
 cases k with
 | p => rfl
 | own l hl hn =>
  rw [BQ] at hl
  subst hn
  simp only [FH, hl, Nat.zero_add, List.length_map, Nat.le_refl, and_self, if_true, List.drop_zero]
  rw [List.take_of_length_le (by simp)]
 | map hl => rw [BQ] at hl; simp only [FH, hl]
 | sub l r hl hr =>
  rw [BQ] at hl
  simp only [FH, hl, List.length_map]
  rw [if_pos ⟨trivial, hr.1⟩, <- List.map_drop, <- List.map_take, hr.2]
theorem Oq.eq {h : AT} {vs : List LV} {ds : List DV} (k : Oq h vs ds) : Fz h vs = some ds := by
 induction k with
 | nil => rfl
 | cons k _ ih => simp only [Fz, k.eq, ih]
theorem KH.eqb {h : AT} {v : LV} {d : DV} (k : KH h v d) : IT h v = some d := by
 have := k.eq
 cases k <;> exact this
theorem P5.eq {h : AT} {vs : List LV} {ds : List DV} (k : P5 h vs ds) : Fd h vs = some ds := by
 induction k with
 | nil => rfl
 | box hl k _ ih => rw [BQ] at hl; simp only [Fd, IT, hl, k.eq, ih, Option.map_some]
 | cons k _ ih => simp only [Fd, k.eqb, ih]
theorem Ld.eq {h : AT} {v : LV} {d : DV} (k : Ld h v d) : Em h v = some d := by
 cases k with
 | one k => cases k with
  | p => rfl
  | own l hl hn => exact KH.eq (.own l hl hn)
  | map hl => exact KH.eq (.map hl)
  | sub l r hl hr => exact KH.eq (.sub l r hl hr)
 | agg k => simp only [Em, k.eq, Option.map_some]
 | tup k => simp only [Em, k.eq, Option.map_some]
 | box hl k => rw [BQ] at hl; simp only [Em, hl, k.eq, Option.map_some]
 | fn k => simp only [Em, k.eq, Option.map_some]
theorem DP.eq {h : AT} {vs : List LV} {ds : List DV} (k : DP h vs ds) : Bi h vs = some ds := by
 induction k with
 | nil => rfl
 | cons k _ ih => simp only [Bi, k.eq, ih]
theorem JF {rs : List ResultVar} {st : St} {v : LV} {d : DV} (hr : IU AB.tt st rs = some [v]) (k : Ld st.heap v d) : FJ AB.tt rs st = some d := by
 simp only [FJ, hr, k.eq]
theorem RO {rs : List ResultVar} {st : St} {v u : LV} {vs : List LV} {ds : List DV} (hr : IU AB.tt st rs = some (v :: u :: vs)) (k : DP st.heap (v :: u :: vs) ds) : FJ AB.tt rs st = some (.tup ds) := by
 simp only [FJ, hr, k.eq, Option.map_some]
def Ta (sl : List (Nat × LV)) (t : Nat) : LV := match BX t sl with
 | some v => v
 | none => .any
theorem WI {sl : List (Nat × LV)} {t : Nat} : Ta sl t = BU sl t := by simp only [Ta, BU, BQ]; rfl
inductive Sq (gl : List (Nat × Nat)) (sl : List (Nat × LV)) : List (Nat × LV) -> Prop where
 | nil : Sq gl sl []
 | cons {t : Nat} {l : LV} {r : List (Nat × LV)} (h : Ta sl t = Ed gl l) (k : Sq gl sl r) : Sq gl sl ((t, l) :: r)
inductive Sr (gl : List (Nat × Nat)) (h : AT) : AT -> Prop where
 | nil : Sr gl h []
 | cons {id old : Nat} {o : A8} {r : AT} (h1 : BX id gl = some old) (h2 : BX old h = some (TS gl o)) (k : Sr gl h r) : Sr gl h ((id, o) :: r)
def K6 (gl : List (Nat × Nat)) : List (Nat × LV) -> Bool
 | [] => true
 | (_, l) :: r => match DK gl l with
  | true => K6 gl r
  | false => false
def K7 (gl : List (Nat × Nat)) : AT -> Bool
 | [] => true
 | (_, o) :: r => match Q9 gl o with
  | true => K7 gl r
  | false => false
theorem VI {gl : List (Nat × Nat)} {sl sl' : List (Nat × LV)} (h : Sq gl sl sl') : K6 gl sl' = true -> Ql gl sl sl' := by
 induction h with
 | nil => intro _; trivial
 | cons h _ ih =>
  intro hn
  simp only [K6] at hn
  split at hn
  .rename_i hq; exact ⟨⟨hq, by rw [<- WI]; exact h⟩, ih hn⟩
  cases hn
theorem VJ {gl : List (Nat × Nat)} {h h' : AT} (k : Sr gl h h') : K7 gl h' = true -> Qm gl h h' := by
 induction k with
 | nil => intro _; trivial
 | cons h1 h2 _ ih =>
  intro hn
  simp only [K7] at hn
  split at hn
  .rename_i hq; exact ⟨⟨hq, _, by rw [<- BQ]; exact h1, by rw [<- BQ]; exact h2⟩, ih hn⟩
  cases hn
theorem wk (gl : List (Nat × Nat)) {nt : Nat} {sl sl' : List (Nat × LV)} {h h' : AT} {c c' : Nat} (hext : ∀ id, A.μ0 id ≠ none -> AJ id gl = some id) (ho : Od gl h' c' = true) (hn : K6 gl sl' = true) (hm : K7 gl h' = true)
  (hs : Sq gl sl sl') (hh : Sr gl h h') : A4 A ⟨nt, sl, h, c⟩ ⟨nt, sl', h', c'⟩ := U9 gl hext ho (VI hs hn) (VJ hh hm)
def Qp (sl : List (Nat × LV)) : List (Nat × LV) -> List LV
 | [] => []
 | (t, _) :: r => Ta sl t :: Qp sl r
def Qq (gl : List (Nat × Nat)) : List (Nat × LV) -> List LV
 | [] => []
 | (_, l) :: r => Ed gl l :: Qq gl r
def Wl (gl : List (Nat × Nat)) (h : AT) (id : Nat) : Option A8 := match BX id gl with
 | some old => BX old h
 | none => none
def Qr (gl : List (Nat × Nat)) (h : AT) : AT -> List (Option A8)
 | [] => []
 | (id, _) :: r => Wl gl h id :: Qr gl h r
def Qs (gl : List (Nat × Nat)) : AT -> List (Option A8)
 | [] => []
 | (_, o) :: r => some (TS gl o) :: Qs gl r
theorem RP {gl : List (Nat × Nat)} {sl : List (Nat × LV)} : ∀ {sl' : List (Nat × LV)}, Qp sl sl' = Qq gl sl' -> Sq gl sl sl'
 | [], _ => .nil
 | (_, _) :: _, h => .cons (List.cons.inj h).1 (RP (List.cons.inj h).2)
theorem RQ {gl : List (Nat × Nat)} {h : AT} : ∀ {h' : AT}, Qr gl h h' = Qs gl h' -> Sr gl h h'
 | [], _ => .nil
 | (id, o) :: _, e => by
  have e1 := (List.cons.inj e).1
  unfold Wl at e1
  split at e1
  .rename_i old hl; exact .cons hl e1 (RQ (List.cons.inj e).2)
  cases e1
def Tb (gl : List (Nat × Nat)) (sl' : List (Nat × LV)) (h' : AT) (c' : Nat) : Bool := match Od gl h' c' with
 | true => match K6 gl sl' with
  | true => K7 gl h'
  | false => false
 | false => false
theorem JQ {gl : List (Nat × Nat)} {sl' : List (Nat × LV)} {h' : AT} {c' : Nat} (h : Tb gl sl' h' c' = true) : Od gl h' c' = true /\ K6 gl sl' = true /\ K7 gl h' = true := by
 unfold Tb at h
 split at h
 .split at h
  .exact ⟨‹_›, ‹_›, h⟩
  cases h
 cases h
def gi : Nat -> List (Nat × Nat) -> List (Nat × Nat)
 | 0, l => l
 | n + 1, l => gi n ((n, n) :: l)
theorem wf {nt : Nat} {sl sl' : List (Nat × LV)} {h h' : AT} {c c' : Nat} (hA : ∀ id, A.μ0 id = none) (gl : List (Nat × Nat)) (ha : Tb gl sl' h' c' = true) (hs : Qp sl sl' = Qq gl sl') (hh : Qr gl h h' = Qs gl h') : A4 A ⟨nt, sl, h, c⟩ ⟨nt, sl', h', c'⟩ :=
 wk gl (fun id h => absurd (hA id) h) (JQ ha).1 (JQ ha).2.1 (JQ ha).2.2 (RP hs) (RQ hh)
theorem N9 (hA : ∀ id, A.μ0 id = none) (gl : List (Nat × Nat)) : ∀ id, A.μ0 id ≠ none -> AJ id gl = some id := fun id h => absurd (hA id) h
section
variable {σ Ans : Type} {S : σ -> St} {Q : Ans -> Exit -> St -> Prop} {st : St}
theorem Xx {s : σ} (hw : A4 A st (S s)) : LP A S Q (.inl s) .normal st := ⟨rfl, hw⟩
theorem Xl {a : Ans} {id : Nat} (k : Q a (.exit id) st) : LP A S Q (.inr a) (.exit id) st := ⟨nofun, k⟩
theorem Xm {a : Ans} (k : Q a .ret st) : LP A S Q (.inr a) .ret st := ⟨nofun, k⟩
theorem Xy {s : σ} (hw : A4 A st (S s)) : NP A S s .normal st := ⟨rfl, hw⟩
end
theorem mp {σ Ans : Type} {o : Option Ans} {b : σ ⊕ Ans} (h : o.map .inr = some b) : ∃ a, o = some a /\ b = .inr a := by
 cases o with
 | none => cases h
 | some a => exact ⟨a, rfl, (Option.some.inj h).symm⟩
theorem X4 {σ Ans : Type} {x : Ans} {b : σ ⊕ Ans} (h : some (.inr x) = some b) : ∃ a, some x = some a /\ b = .inr a := ⟨x, rfl, (Option.some.inj h).symm⟩
end
end Go.E
/- Scopes, slices set against nil, functions walked where they are called (C1), slices handed back (GE). No condition. -/
namespace Go.E
open Go Go.RowKit
section
variable {α : Type} [DecidableEq α]
def Qt (a b : Option α) : Option α := if a = b then a else none
theorem Tc {a b : Option α} {x : α} (h : Qt a b = some x) : a = some x /\ b = some x := by
 unfold Qt at h
 split at h
 .rename_i e; exact ⟨h, e ▸ h⟩
 cases h
def Kf {β : Type} (l : List β) (a b : Option α) : Option α := match l with
 | [] => Qt a b
 | _ :: _ => b
end
section
variable {P : Program} {A : BD} {AB : A2} {st : St}
def Wm (Q : Exit -> St -> Prop) : Exit -> St -> Prop
 | .goto _, _ => False
 | e, st => Q e st
theorem sc {c : Code} {Q : Exit -> St -> Prop} (h : Bw P A c (Wm Q) st) : Bw P A (.scope c) Q st := fun a w hR =>
 wp_scope_straight (wp_mono (h a w hR) fun e a' w' ⟨st', hR', q⟩ => by
  cases e <;> first | exact q.elim | exact ⟨st', hR', q⟩)
theorem DW {Q : Exit -> St -> Prop} (h : Q .ret st) : Wm Q .ret st := h
theorem Wn {Q : Exit -> St -> Prop} {id : Nat} (h : Q (.exit id) st) : Wm Q (.exit id) st := h
section
variable {f : St -> Prop} {hf : H6 f} {nt : Nat} {sl : List (Nat × LV)} {h : AT} {c : Nat} {α Ans : Type} [DecidableEq Ans] {enc : α -> List DV} {l : List α} {d : Tmp} {t t' sz : Nat} {x y : Operand} {p q : Option Ans} {a : Ans}
theorem Hh (hh : Kf l p q = some a) (ht : Ol AB t = true) (hx : A9 nt sl x = .p (.slice sz (l.map enc))) (hy : A9 nt sl y = .p .nils)
  (k1 : p = some a -> f ⟨nt, (d, .p (.bool true)) :: sl, h, c⟩) (k2 : q = some a -> f ⟨nt, (d, .p (.bool false)) :: sl, h, c⟩) : BC P A AB ⟨nt, sl, h, c⟩ (some d) (.binOp .eql t x y t') ⟨f, hf⟩ := by
 obtain ⟨ti, e, h1, h2⟩ := N7 ht
 rw [BE (h := h) (c := c)] at hx hy
 show N2 AB .eql t _ _ _
 rw [hx, hy]
 refine AP.2 ⟨ti, h1, CB.2 ⟨e, h2, ?_⟩⟩
 intro r hr
 cases l with
 | nil =>
  obtain ⟨g1, g2⟩ := Tc hh
  cases r with
  | true => exact k1 g1
  | false => exact k2 g2
 | cons z l => rw [hr (by simp)]; exact k2 hh
end
def Hi (tt : Nat -> Option TI) (rs : List ResultVar) (st : St) : Option LV :=
 match IU tt st rs with
 | some [l] => some l
 | some ls => some (.tup ls)
 | none => none
def KJ : Nat -> List LV -> List (Nat × LV)
 | _, [] => []
 | n, d :: ds => (n, d) :: KJ (n + 1) ds
theorem Ot : ∀ (ds : List LV) (n t : Nat), AJ t (KJ n ds) = if n <= t then ds[t - n]? else none
 | [], n, t => by simp [KJ, AJ]
 | d :: ds, n, t => by
  simp only [KJ, AJ]
  by_cases e : t = n
  .subst e; simp
  rw [if_neg e, Ot ds (n + 1) t]
  by_cases h : n + 1 <= t
  .rw [if_pos h, if_pos (by omega), show t - n = t - (n + 1) + 1 by omega, List.getElem?_cons_succ]
  rw [if_neg h, if_neg (by omega)]
theorem SD (hE : BB P AB) {A : BD} {μ : Nat -> Option BV} {F : Nat -> Prop} {st : St} {a : Act} {w : World} (hs : ∀ x, Ac (Ae A μ st.heap) μ w (a.eval x) (st.eval x)) (hh : HRel A μ st.heap F w) {fn : Func} {r : LV} (h : Hi AB.tt fn.results.toList st = some r) :
  ∃ v, (results fn a.tmps).run P w = .ok v w /\ Ac (Ae A μ st.heap) μ w v r := by
 unfold Hi at h
 cases hr : IU AB.tt st fn.results.toList with
 | none => rw [hr] at h; cases h
 | some ls =>
  rw [hr] at h
  obtain ⟨vs, g1, g2, g3⟩ := KZ (P := P) hE hs hh hr
  have hrun := Ka g1
  match ls, vs, g2 with
  | [], [], _ => cases h; exact ⟨_, hrun, .tup _ _ rfl (by simp)⟩
  | [l], [v], _ => simp only [Option.some.injEq] at h; subst h; exact ⟨_, hrun, g3 0 v l rfl rfl⟩
  | l :: m :: ls, u :: v :: vs, g2 => simp only [Option.some.injEq] at h; subst h; exact ⟨_, hrun, .tup _ _ (by simpa using g2) fun i x d hx hd => g3 i x d (by simpa using hx) hd⟩
theorem Ss {c : Code} {Q : Exit -> St -> Prop} (h : Bw P A c (fun e s => ∃ s', A4 A s s' /\ Q e s') st) : Bw P A c Q st := fun a w hR =>
 wp_mono (h a w hR) fun _ a' w' ⟨_, hR', s', hw, q⟩ => ⟨s', hw a' w' hR', q⟩
theorem RR (hE : BB P AB) {k : Nat} {fn : Func} {cd : Code} (hf : P.funcs[k]? = some fn) (hb : fn.body = some cd) (hn : (fn.name == "runtime.NumGoroutine") = false) (nt : Nat) (hnt : fn.ntmps = nt) (rs : List ResultVar) (hrs : fn.results.toList = rs)
  {h : AT} {ctr : Nat} {args : List LV} (hlen : args.length <= nt) {K : LV -> AT -> Nat -> Prop}
  (body : ∀ A' : BD, (∀ id, A'.μ0 id ≠ none -> id < ctr) -> Bw P A' cd (LY fun st => ∃ l, Hi AB.tt rs st = some l /\ K l st.heap st.ctr) ⟨nt, KJ 0 args, h, ctr⟩) : Dh P A h ctr k args K := by
 subst hnt hrs
 refine ⟨MV hf hb hn, fun μ w vs hh hsz hr => ?_⟩
 have hlt : ∀ id loc, μ id = some loc -> id < ctr := by
  intro id loc hm
  by_cases hi : id < ctr
  .exact hi
  rw [hh.fresh id (by simp only [Fr]; omega)] at hm; cases hm
 let A' : BD := ⟨w, A.O, Bt μ h, fun id => if id < ctr then μ id else none, fun b hb' => ⟨Nat.lt_of_lt_of_le (A.hO b hb').1 hh.size, by
  rintro ⟨id, o, loc, h1, h2, h3, rfl⟩
  exact (hh.base id o loc h1 h2 h3).2.1 hb'⟩⟩
 have hA' : ∀ id, A'.μ0 id ≠ none -> id < ctr := by
  intro id hid
  by_cases hi : id < ctr
  .exact hi
  simp [A', hi] at hid
 have hown : ∀ b, Ae A' μ h b ↔ Ae A μ h b := fun b => Iff.rfl
 have hh' : HRel A' μ h (Fr ctr) w := ⟨hh.obj, hh.inj, hh.fresh, fun id o loc h1 h2 h3 => ⟨(hh.base id o loc h1 h2 h3).1, (hh.base id o loc h1 h2 h3).2.1, .inr ⟨id, o, loc, h1, h2, h3, rfl⟩⟩, Nat.le_refl _, fun _ _ _ => rfl, rfl, rfl, rfl, fun id loc hm => by
  simp only [A'] at hm
  split at hm
  .exact hm
  cases hm⟩
 have hR : R A' ⟨fn.ntmps, KJ 0 args, h, ctr⟩ { tmps := vs ++ Array.replicate (fn.ntmps - vs.size) undef, defers := [] } w := by
  refine ⟨⟨μ, hh', fun t ht => ?_⟩, by simp; omega, rfl⟩
  simp only [BU, Ot, Nat.zero_le, if_true, Nat.sub_zero]
  by_cases hlt' : t < args.length
  .have hv : t < vs.size := by omega
   have e : args[t]? = some args[t] := by simp [hlt']
   rw [e]
   have e2 : (vs ++ Array.replicate (fn.ntmps - vs.size) undef).getD t undef = vs[t] := by
    rw [Array.getD_eq_getD_getElem?, Array.getElem?_append_left hv]; simp [hv]
   rw [e2]
   exact hr t _ _ (by simp [hv]) e
  have e : args[t]? = none := by simp; omega
  rw [e]; exact .any _
 refine calls_of_wp hf hb (wp_mono (body A' hA' _ _ hR) ?_)
 rintro e a' w' ⟨st', ⟨⟨μ', hh2, hs⟩, hnt, hdef⟩, hq⟩
 have fin : (∃ l, Hi AB.tt fn.results.toList st' = some l /\ K l st'.heap st'.ctr) -> a'.defers = [] /\ ∃ v, (results fn a'.tmps).run P w' = .ok v w' /\
   ∃ u l h' c' μ', Ending.returned v = .returned u /\ K l h' c' /\ HRel A μ' h' (Fr c') w' /\ Ac (Ae A μ' h') μ' w' u l /\ ∀ v x, Ac (Ae A μ h) μ w v x -> Ac (Ae A μ' h') μ' w' v x := by
  rintro ⟨l, h1, h2⟩
  obtain ⟨v, g1, g2⟩ := SD (P := P) hE (fun x => GB hs x) hh2 h1
  have mineof : ∀ b, b < w.heap.size -> Bt μ' st'.heap b -> Bt μ h b := by
   rintro b hb' ⟨id, o, loc, k1, k2, k3, rfl⟩
   rcases (hh2.base id o loc k1 k2 k3).2.2 with hb2 | hb2
   .exact absurd hb2 (by show ¬ w.heap.size <= _; omega)
   exact hb2
  have keepμ' : ∀ id loc, μ id = some loc -> μ' id = some loc := fun id loc hm => hh2.ext id loc (by simp only [A']; rw [if_pos (hlt id loc hm)]; exact hm)
  refine ⟨hdef, v, g1, v, l, st'.heap, st'.ctr, μ', rfl, h2, ⟨hh2.obj, hh2.inj, hh2.fresh, fun id o loc k1 k2 k3 => ⟨(hh2.base id o loc k1 k2 k3).1, (hh2.base id o loc k1 k2 k3).2.1, ?_⟩, Nat.le_trans hh.size hh2.size, fun b hb' hnf => ?_, hh2.os.trans hh.os, hh2.tape.trans hh.tape, hh2.output.trans hh.output, fun id loc hm => keepμ' id loc (hh.ext id loc hm)⟩, g2, fun v x hv => hv.mono ⟨hh2.size, fun b hb' hno => hh2.block b hb' fun hm => hno (.inr hm)⟩ (fun b hb' ho => ?_) keepμ'⟩
  .rcases (hh2.base id o loc k1 k2 k3).2.2 with hb2 | ⟨id2, o2, loc2, m1, m2, m3, m4⟩
   .exact .inl (Nat.le_trans hh.size hb2)
   rw [<- m4]; exact (hh.base id2 o2 loc2 m1 m2 m3).2.2
  .have hnm : ¬ Bt μ h b := by
    rintro ⟨id2, o2, loc2, m1, m2, m3, rfl⟩
    rcases (hh.base id2 o2 loc2 m1 m2 m3).2.2 with hb2 | hb2
    .omega
    exact hnf hb2
   rw [hh2.block b (Nat.lt_of_lt_of_le hb' hh.size) hnm]
   exact hh.block b hb' hnf
  rcases ho with ho | ho
  .exact .inl ho
  exact .inr (mineof b hb' ho)
 cases e with
 | normal => exact fin hq
 | ret => exact fin hq
 | _ => exact hq.elim
def IP (tt : Nat -> Option TI) (rs : List ResultVar) (A : BD) (L : LV) (H : AT) (C : Nat) (e : Exit) (st : St) : Prop :=
 ∃ s', A4 A st s' /\ LY (fun s => Hi tt rs s = some L /\ s.heap = H /\ s.ctr = C) e s'
theorem Cl {rs : List ResultVar} {L : LV} {nt C : Nat} {sl : List (Nat × LV)} {H : AT} (hw : A4 A st ⟨nt, sl, H, C⟩) (hr : Hi AB.tt rs ⟨nt, sl, H, C⟩ = some L) : IP AB.tt rs A L H C .ret st := ⟨_, hw, hr, rfl, rfl⟩
theorem Nk {rs : List ResultVar} {L : LV} {nt C : Nat} {sl : List (Nat × LV)} {H : AT} (hw : A4 A st ⟨nt, sl, H, C⟩) (hr : Hi AB.tt rs ⟨nt, sl, H, C⟩ = some L) : IP AB.tt rs A L H C .normal st := ⟨_, hw, hr, rfl, rfl⟩
section
variable {f : St -> Prop} {hf : H6 f} {nt : Nat} {sl : List (Nat × LV)} {h : AT} {c : Nat} {σ Ans : Type}
theorem C1 (hE : BB P AB) (L : σ -> LV) (H : σ -> AT) (C : Nat) {sp : Option σ} {rest : σ -> Option Ans} {a : Ans} {dst : Option Tmp} {fo : Operand} {args : Array Operand} {ts : Array TypeId} {k : Nat} {fn : Func} {cd : Code} {caps ls : List LV}
  (hh : sp.bind rest = some a) (hfun : P.funcs[k]? = some fn) (nt' : Nat) (rs : List ResultVar) (sl' : List (Nat × LV)) (hb : fn.body = some cd) (hn : (fn.name == "runtime.NumGoroutine") = false) (hnt : Nat.beq fn.ntmps nt' = true) (hrs : fn.results.toList = rs)
  (hfn : A9 nt sl fo = .fn k caps) (hl : EM nt sl args.toList some = some ls) (hlen : Nat.ble (ls ++ caps).length nt' = true) (hsl : KJ 0 (ls ++ caps) = sl')
  (body : ∀ A : BD, (∀ id, A.μ0 id ≠ none -> id < c) -> ∀ t, sp = some t -> Bw P A cd (IP AB.tt rs A (L t) (H t) C) ⟨nt', sl', h, c⟩)
  (kk : ∀ t, rest t = some a -> f (match dst with | some d => ⟨nt, (d, L t) :: sl, H t, C⟩ | none => ⟨nt, sl, H t, C⟩)) : BC P A AB ⟨nt, sl, h, c⟩ dst (.call ⟨.value fo, args, ts⟩) ⟨f, hf⟩ := by
 obtain ⟨t, h1, h2⟩ := bd hh
 rw [BE (h := h) (c := c)] at hfn
 show Mi _ _
 rw [hfn]
 show KB P A h c k (args.toList.map _ ++ caps) _
 rw [HJ hl]
 subst hsl
 refine RR hE hfun hb hn nt' (Nat.eq_of_beq_eq_true hnt) rs hrs (Nat.le_of_ble_eq_true hlen) fun A' hA' => ?_
 have := Ss (body A' hA' t h1)
 refine JV this fun e s q => ?_
 have fin : (Hi AB.tt rs s = some (L t) /\ s.heap = H t /\ s.ctr = C) -> ∃ l, Hi AB.tt rs s = some l /\ f (St.go ⟨nt, sl, h, c⟩ dst l s.heap s.ctr) := by
  rintro ⟨q1, q2, q3⟩
  refine ⟨_, q1, ?_⟩
  rw [q2, q3, NU]
  have := kk t h2
  cases dst <;> exact this
 cases e <;> first | exact fin q | exact q.elim
end
def Ou : Nat -> List (Nat × Nat) -> Bool
 | 0, _ => true
 | n + 1, gl => match BX n gl with
  | some m => match Nat.beq n m with
   | true => Ou n gl
   | false => false
  | none => false
theorem RS : ∀ {n : Nat} {gl : List (Nat × Nat)}, Ou n gl = true -> ∀ i, i < n -> AJ i gl = some i
 | 0, _, _, i, h => by omega
 | n + 1, gl, hk, i, hi => by
  simp only [Ou] at hk
  split at hk
  .rename_i m hm
   split at hk
   .rename_i hb
    have := Nat.eq_of_beq_eq_true hb
    subst this
    by_cases e : i = n
    .subst e; rw [<- BQ]; exact hm
    exact RS hk i (by omega)
   cases hk
  cases hk
theorem kept {n : Nat} (hA : ∀ id, A.μ0 id ≠ none -> id < n) (gl : List (Nat × Nat)) (hk : Ou n gl = true) : ∀ id, A.μ0 id ≠ none -> AJ id gl = some id := fun id h => RS hk id (hA id h)
theorem wj {n nt : Nat} {sl sl' : List (Nat × LV)} {h h' : AT} {c c' : Nat} (hA : ∀ id, A.μ0 id ≠ none -> id < n) (gl : List (Nat × Nat)) (hk : Ou n gl = true) (ha : Tb gl sl' h' c' = true) (hs : Qp sl sl' = Qq gl sl') (hh : Qr gl h h' = Qs gl h') : A4 A ⟨nt, sl, h, c⟩ ⟨nt, sl', h', c'⟩ :=
 wk gl (kept hA gl hk) (JQ ha).1 (JQ ha).2.1 (JQ ha).2.2 (RP hs) (RQ hh)
section
variable {f : St -> Prop} {hf : H6 f} {nt : Nat} {sl : List (Nat × LV)} {h : AT} {c : Nat} {d : Tmp} {α : Type} {enc : α -> List DV}
theorem WJ {fo : Operand} {args : Array Operand} {ts : Array TypeId} {k e sz : Nat} {caps ls : List LV} {ds : List DV} {r : List α} (hF : GE P k ds e sz (r.map enc))
  (hs : (ls ++ caps).flatMap (Dn h) = []) (hfn : A9 nt sl fo = .fn k caps) (hl : EM nt sl args.toList some = some ls) (hds : Bi h (ls ++ caps) = some ds)
  (kk : f ⟨nt, (d, .lsl c sz 0 r.length) :: sl, (c, .row e sz (r.map enc)) :: h, c + 1⟩) : BC P A AB ⟨nt, sl, h, c⟩ (some d) (.call ⟨.value fo, args, ts⟩) ⟨f, hf⟩ := by
 rw [BE (h := h) (c := c)] at hfn
 show Mi _ _
 rw [hfn]
 show KB P A h c k (args.toList.map _ ++ caps) _
 rw [HJ hl]
 refine XQ hds hF hs ?_
 rw [List.length_map]
 exact kk
theorem VK {fo : Operand} {args : Array Operand} {ts : Array TypeId} {k e sz : Nat} {caps ls : List LV} {ds : List DV} {r : List α} (hF : GE P k ds e sz (r.map enc)) (hw : AB.own = true)
  (hs : (ls ++ caps).flatMap (Dn h) = []) (hfn : A9 nt sl fo = .fn k caps) (hl : EM nt sl args.toList some = some ls) (hds : Bi h (ls ++ caps) = some ds)
  (kk : f ⟨nt, (d, .lsl c sz 0 r.length) :: sl, (c, .row e sz (r.map enc)) :: h, c + 1⟩) : H7 P A AB ⟨nt, sl, h, c⟩ (some d) (.call ⟨.value fo, args, ts⟩) ⟨f, hf⟩ := by
 rw [BE (h := h) (c := c)] at hfn
 show Mi _ _
 rw [hfn]
 refine .inr ⟨hw, ds, e, sz, r.map enc, ?_, hF, ?_, ?_⟩
 .show Bi h (args.toList.map _ ++ caps) = _
  rw [HJ hl]; exact hds
 .show TG (List.flatMap _ (args.toList.map _ ++ caps)) _
  rw [HJ hl]; exact .inl hs
 show f ⟨nt, (d, .lsl c sz 0 (r.map enc).length) :: sl, _, _⟩
 rw [List.length_map]
 exact kk
theorem Wo {k : Nat} {fn : Func} {cd : Code} {ds : List DV} {e sz : Nat} {r : List α} (hen : Vt enc sz) (hf : P.funcs[k]? = some fn) (hb : fn.body = some cd) (hn : (fn.name == "runtime.NumGoroutine") = false) (nt : Nat) (hnt : Nat.beq fn.ntmps nt = true)
  (t : Nat) (hrs : fn.results.toList = [.tmp t]) (sl : List (Nat × LV)) (hsl : Cw 0 ds = sl) (hlen : Nat.ble ds.length nt = true)
  (h : ∀ A : BD, (∀ id, A.μ0 id = none) -> Bw P A cd (TV t e sz (r.map enc)) ⟨nt, sl, [], 0⟩) : GE P k ds e sz (r.map enc) := by
 subst hsl
 refine WA hf hb hn nt (Nat.eq_of_beq_eq_true hnt) t hrs (Nat.le_of_ble_eq_true hlen) (fun x hx => ?_) h
 obtain ⟨a, _, rfl⟩ := List.mem_map.1 hx
 exact (hen a).1
theorem Wp {t e sz id n : Nat} {r : List α} (hv : A9 nt sl (.tmp t) = .lsl id sz 0 n) (hl : BX id h = some (.row e sz (r.map enc))) (hn : n = r.length) : TV t e sz (r.map enc) .ret ⟨nt, sl, h, c⟩ := by
 rw [BE (h := h) (c := c)] at hv
 rw [BQ] at hl
 refine .inl ⟨id, ?_, hl⟩
 rw [hv, hn, List.length_map]
theorem VL {t e sz : Nat} (hv : A9 nt sl (.tmp t) = .p .nils) : TV t e sz (([] : List α).map enc) .ret ⟨nt, sl, h, c⟩ := by
 rw [BE (h := h) (c := c)] at hv
 exact .inr ⟨hv, rfl⟩
end
end
end Go.E
/- Rules for single operations: arrays, division, a nil slice as an empty one. No condition. -/
namespace Go.E
open Go Go.RowKit
section
variable {P : Program} {A : BD} {AB : A2} {f : St -> Prop} {hf : H6 f} {nt : Nat} {sl : List (Nat × LV)} {h : AT} {c : Nat} {d : Tmp} {α : Type} {l : List α} {t : Nat} {x i : Operand}
theorem BF {α : Type} (l : List α) (n : Int) (z : α) : (A1 l n z).length = l.length := by simp [A1]
def Td (AB : A2) (t m : Nat) : Bool := match AB.tt t with
 | some ti => match ti.sh with
  | .arr n e => match AB.tt e with
   | some te => match te.sh with
    | .struct _ | .arr _ _ => false
    | _ => Nat.beq n m && Nat.beq te.size 1
   | none => false
  | _ => false
 | none => false
theorem Su {t m : Nat} (h : Td AB t m = true) : ∃ ti e te, AB.tt t = some ti /\ ti.sh = .arr m e /\ AB.tt e = some te /\ te.size = 1 /\ te.sh.isAgg = false := by
 unfold Td at h
 split at h
 .rename_i ti hti
  split at h
  .rename_i n e he
   split at h
   .rename_i te hte
    split at h
    .cases h
    .cases h
    rename_i k1 k2
    simp only [Bool.and_eq_true] at h
    have h1 := Nat.eq_of_beq_eq_true h.1
    subst h1
    refine ⟨ti, e, te, hti, he, hte, Nat.eq_of_beq_eq_true h.2, ?_⟩
    cases hq : te.sh <;> first | rfl | exact absurd hq (k1 _) | exact absurd hq (k2 _ _)
   cases h
  cases h
 cases h
theorem XS {n : Int} {kk : IntKind} {id : Nat} {y : α} (hy : Al l n = some y) (ht : Td AB t l.length = true) (hx : A9 nt sl x = .lpb id 0) (hi : A9 nt sl i = .p (.int kk n)) (_ : True = True)
  (k : f ⟨nt, (d, .lpb id n.toNat) :: sl, h, c⟩) : BC P A AB ⟨nt, sl, h, c⟩ (some d) (.indexAddr t x i) ⟨f, hf⟩ := by
 obtain ⟨ti, e, te, h1, h2, h3, h4, _⟩ := Su ht
 obtain ⟨g1, g2, g3⟩ := FT hy
 rw [BE (h := h) (c := c)] at hx hi
 refine B3.2 ⟨kk, n, hi, AP.2 ⟨ti, h1, ?_⟩⟩
 dsimp only
 rw [h2, hx]
 refine AP.2 ⟨te, h3, ⟨g1, by omega⟩, ?_⟩
 simp only [Nat.zero_add, h4, Nat.mul_one]
 exact k
def Te (AB : A2) (t : Nat) : Bool := match AB.tt t with
 | some ti => match ti.sh with
  | .struct _ | .arr _ _ => false
  | _ => true
 | none => false
theorem VM {t : Nat} (h : Te AB t = true) : ∃ ti, AB.tt t = some ti /\ ti.sh.isAgg = false := by
 unfold Te at h
 split at h
 .rename_i ti hti
  refine ⟨ti, hti, ?_⟩
  split at h
  .cases h
  .cases h
  rename_i k1 k2
  cases hq : ti.sh <;> first | rfl | exact absurd hq (k1 _) | exact absurd hq (k2 _ _)
 cases h
theorem XT {n : Int} {id : Nat} {y : α} {g : α -> LV} (hy : Al l n = some y) (hx : A9 nt sl x = .lpb id n.toNat) (hl : BX id h = some (.box (l.map g))) (ht : Te AB t = true) (_ : True = True)
  (k : f ⟨nt, (d, g y) :: sl, h, c⟩) : BC P A AB ⟨nt, sl, h, c⟩ (some d) (.load t x) ⟨f, hf⟩ := by
 obtain ⟨ti, h1, h2⟩ := VM ht
 obtain ⟨g1, g2, g3⟩ := FT hy
 rw [BE (h := h) (c := c)] at hx
 rw [BQ] at hl
 refine AP.2 ⟨ti, h1, ?_⟩
 rw [hx]
 refine AN.2 ⟨_, hl, ?_⟩
 dsimp only
 refine HE.2 ⟨_, rfl, ?_⟩
 refine AN.2 ⟨g y, ?_, k⟩
 simp only [Cj, h2, Bool.false_eq_true, if_false, List.getElem?_map, g3, Option.map_some]
theorem XU {n : Int} {kk : IntKind} {y : α} {g : α -> DV} (hy : Al l n = some y) (ht : Td AB t l.length = true) (hx : A9 nt sl x = .p (.agg (l.map g))) (hi : A9 nt sl i = .p (.int kk n)) (_ : True = True)
  (k : f ⟨nt, (d, .p (g y)) :: sl, h, c⟩) : BC P A AB ⟨nt, sl, h, c⟩ (some d) (.index t x i) ⟨f, hf⟩ := by
 obtain ⟨ti, e, te, h1, h2, h3, h4, h5⟩ := Su ht
 obtain ⟨g1, g2, g3⟩ := FT hy
 rw [BE (h := h) (c := c)] at hx hi
 refine B3.2 ⟨kk, n, hi, AP.2 ⟨ti, h1, g1, ?_⟩⟩
 dsimp only
 rw [h2, hx]
 refine AP.2 ⟨te, h3, by show n < (l.length : Int); omega, AN.2 ⟨.p (g y), ?_, k⟩⟩
 simp only [Cj, h5, Bool.false_eq_true, if_false, h4, Nat.mul_one, List.map_map, List.getElem?_map, g3, Option.map_some, Function.comp]
theorem XV {kk : IntKind} {a b r : Int} {y : Operand} {t' : Nat} (hr : RK a b = some r) (hx : A9 nt sl x = .p (.int kk a)) (hy : A9 nt sl y = .p (.int kk b)) (k : f ⟨nt, (d, .p (.int kk r)) :: sl, h, c⟩) :
  BC P A AB ⟨nt, sl, h, c⟩ (some d) (.binOp .rem t x y t') ⟨f, hf⟩ := by
 rw [BE (h := h) (c := c)] at hx hy
 simp only [RK] at hr
 split at hr
 .cases hr
 rename_i hb
 simp only [Option.some.injEq] at hr
 subst hr
 show N2 AB .rem t _ _ _
 rw [hx, hy]
 exact ⟨rfl, hb, by rw [HY, if_neg hb]; exact k⟩
section
variable {κ υ : Type} [BEq κ] {ke : κ -> DV} {ve : υ -> DV} {mp : List (κ × υ)} {kt et : Nat}
def Jl (m : List (κ × υ)) (x : κ) : Nat := match m with
 | [] => 0
 | p :: m => if x == p.1 then 0 else Jl m x + 1
def Hj (m : List (κ × υ)) (x : κ) (z : υ) : List (κ × υ) := match m with
 | [] => [(x, z)]
 | p :: m => if x == p.1 then p :: m else p :: Hj m x z
theorem Ov (hk : Jk AB kt ke) (x : κ) : ∀ m : List (κ × υ), (C3 (ke x) (Am ke ve m)).map (·.1) = if (Af m x).isSome then some (Jl m x) else none
 | [] => by simp [Am, C3, Af]
 | p :: m => by
  have ih := Ov hk x m
  simp only [Am] at ih
  simp only [Am, List.map_cons, C3, hk.eq, Af, Jl]
  by_cases h : (x == p.1) = true
  .simp [h]
  simp only [h, Bool.false_eq_true, if_false, Option.map_map]
  cases ha : (Af m x).isSome with
  | true =>
   rw [ha, if_pos rfl] at ih
   obtain ⟨r, hr, h1⟩ := Option.map_eq_some_iff.1 ih
   rw [hr]; simp [h1]
  | false =>
   rw [ha] at ih
   simp only [Bool.false_eq_true, if_false, Option.map_eq_none_iff] at ih
   rw [ih]; simp
theorem P6 {x : κ} {z : υ} : ∀ {m : List (κ × υ)}, (Af m x).isSome = true -> Hj m x z = m
 | [], h => by simp [Af] at h
 | p :: m, h => by
  simp only [Af] at h
  simp only [Hj]
  by_cases hx : (x == p.1) = true
  .rw [if_pos hx]
  rw [if_neg hx] at h ⊢; rw [P6 h]
theorem P7 {x : κ} {z : υ} : ∀ {m : List (κ × υ)}, (Af m x).isSome = false -> Hj m x z = m ++ [(x, z)] /\ Jl m x = m.length
 | [], _ => ⟨rfl, rfl⟩
 | p :: m, h => by
  simp only [Af] at h
  simp only [Hj, Jl]
  by_cases hx : (x == p.1) = true
  .rw [if_pos hx] at h; cases h
  rw [if_neg hx] at h ⊢
  obtain ⟨h1, h2⟩ := P7 (z := z) h
  rw [h1, if_neg hx, h2]; simp
theorem P8 {x : κ} {z w : υ} : ∀ (m : List (κ × υ)), ∃ p, (Hj m x z)[Jl m x]? = some p /\ (Hj m x z).set (Jl m x) (p.1, w) = A6 x w m
 | [] => ⟨(x, z), rfl, rfl⟩
 | p :: m => by
  simp only [Hj, Jl, A6]
  by_cases hx : (x == p.1) = true
  .simp only [hx, if_true]; exact ⟨p, rfl, rfl⟩
  simp only [hx, Bool.false_eq_true, if_false]
  obtain ⟨q, h1, h2⟩ := P8 (x := x) (z := z) (w := w) m
  exact ⟨q, by simpa using h1, by simp [h2]⟩
theorem RT {id : Nat} {v : A8} : ∀ {h : AT}, AJ id h = some v -> Be id v h = h
 | [], hl => by simp [AJ] at hl
 | (q, u) :: r, hl => by
  simp only [AJ] at hl
  simp only [Be]
  split
  .rw [if_pos ‹_›] at hl; cases hl; rfl
  rw [if_neg ‹_›] at hl; rw [RT hl]
theorem Ow {y : κ} {id : Nat} {h' : AT} (z : υ) (hk : Jk AB kt ke) (hx : A9 nt sl x = .lmap id) (hm : BX id h = some (.map (Am ke ve mp))) (hi : A9 nt sl i = .p (ke y)) (ht : Sp AB t kt et = true) (hz : (AB.tt et).map TI.zeroDV = some (ve z))
  (hu : Ke id (.map (Am ke ve (Hj mp y z))) h some = some h') (k : f ⟨nt, (d, .tup [.p (ve ((Af mp y).getD z)), .p (.int .i64 (Jl mp y))]) :: sl, h', c⟩) : BC P A AB ⟨nt, sl, h, c⟩ (some d) (.mapEntry t x i) ⟨f, hf⟩ := by
 obtain ⟨ti, h1, h2⟩ := Oo ht
 rw [BE (h := h) (c := c)] at hx hi
 rw [BQ] at hm
 rw [HH, Option.some.injEq] at hu
 subst hu
 obtain ⟨te, h3, h4⟩ := Option.map_eq_some_iff.1 hz
 refine AP.2 ⟨ti, h1, Es.2 ⟨kt, et, h2, AP.2 ⟨te, h3, EL.2 ⟨id, hx, AN.2 ⟨_, hm, ?_⟩⟩⟩⟩⟩
 dsimp only
 refine FL.2 ⟨Am ke ve mp, rfl, ?_⟩
 refine Cq.2 ⟨_, hi, ⟨hk.fits y, KG hk mp⟩, ?_⟩
 have hf1 := Ov (ve := ve) hk y mp
 rw [KF hk, h4, N8]
 cases ha : (Af mp y).isSome with
 | true =>
  rw [ha, if_pos rfl] at hf1
  obtain ⟨r, hr, h5⟩ := Option.map_eq_some_iff.1 hf1
  rw [P6 ha, RT hm] at k
  rw [hr]
  simp only [Option.map_some, Option.getD_some, h5]
  exact k
 | false =>
  rw [ha] at hf1
  simp only [Bool.false_eq_true, if_false, Option.map_eq_none_iff] at hf1
  obtain ⟨g1, g2⟩ := P7 (z := z) ha
  rw [g1, g2] at k
  rw [hf1]
  have e1 : Am ke ve (mp ++ [(y, z)]) = Am ke ve mp ++ [(ke y, ve z)] := by simp [Am]
  have e2 : (Am ke ve mp).length = mp.length := by simp [Am]
  rw [e1] at k
  simp only [Option.map_none, Option.getD_none, e2]
  exact k
theorem Ox {y : κ} {z w : υ} {id : Nat} {h' : AT} {s v : Operand} (hx : A9 nt sl x = .lmap id) (hm : BX id h = some (.map (Am ke ve (Hj mp y z)))) (hs : A9 nt sl s = .p (.int .i64 (Jl mp y))) (hv : A9 nt sl v = .p (ve w))
  (hu : Ke id (.map (Am ke ve (A6 y w mp))) h some = some h') (k : f ⟨nt, sl, h', c⟩) : BC P A AB ⟨nt, sl, h, c⟩ none (.entryStore t x s v) ⟨f, hf⟩ := by
 rw [BE (h := h) (c := c)] at hx hs hv
 rw [BQ] at hm
 rw [HH, Option.some.injEq] at hu
 subst hu
 refine EL.2 ⟨id, hx, AN.2 ⟨_, hm, ?_⟩⟩
 dsimp only
 refine FL.2 ⟨_, rfl, ?_⟩
 refine B3.2 ⟨.i64, _, hs, Cq.2 ⟨_, hv, Int.natCast_nonneg _, ?_⟩⟩
 obtain ⟨p, h1, h2⟩ := P8 (x := y) (z := z) (w := w) mp
 refine AN.2 ⟨(ke p.1, ve p.2), by simp only [Int.toNat_natCast, Am, List.getElem?_map, h1, Option.map_some], ?_⟩
 have e : (Am ke ve (Hj mp y z)).set (Int.toNat (Jl mp y : Int)) (ke p.1, ve w) = Am ke ve (A6 y w mp) := by
  rw [<- h2]; simp [Am, List.map_set]
 dsimp only
 rw [e]
 exact k
end
end
end Go.E
/- The types that the functions of this seat use, as plain data. Written by a program (mkenv.py). No condition. -/
namespace Go.E
open Go Go.RowKit Go.Proofs
def Wq : List (Nat × TI) := [
 (3, ⟨.int .i64, 1, 8, [.int .i64 0]⟩),
 (4, ⟨.bool, 1, 1, [.bool false]⟩),
 (5, ⟨.int .u8, 1, 1, [.int .u8 0]⟩),
 (9, ⟨.str, 1, 16, [.str .empty]⟩),
 (22, ⟨.slc 130, 1, 24, [.nils]⟩),
 (23, ⟨.slc 132, 1, 24, [.nils]⟩),
 (24, ⟨.slc 135, 1, 24, [.nils]⟩),
 (25, ⟨.slc 140, 1, 24, [.nils]⟩),
 (27, ⟨.struct [(0, 22), (1, 23), (2, 24), (3, 25), (4, 3), (5, 3), (6, 3), (7, 3), (8, 4)], 9, 136, [.nils, .nils, .nils, .nils, .int .i64 0, .int .i64 0, .int .i64 0, .int .i64 0, .bool false]⟩),
 (30, ⟨.other, 1, 8, [.nilp]⟩),
 (32, ⟨.slc 90, 1, 24, [.nils]⟩),
 (33, ⟨.slc 46, 1, 24, [.nils]⟩),
 (34, ⟨.slc 3, 1, 24, [.nils]⟩),
 (36, ⟨.struct [(0, 3), (1, 3), (2, 3), (3, 32), (4, 33), (5, 33), (6, 34), (7, 34), (8, 4)], 9, 152, [.int .i64 0, .int .i64 0, .int .i64 0, .nils, .nils, .nils, .nils, .nils, .bool false]⟩),
 (43, ⟨.slc 4, 1, 24, [.nils]⟩),
 (46, ⟨.struct [(0, 3), (1, 3)], 2, 16, [.int .i64 0, .int .i64 0]⟩),
 (51, ⟨.slc 5, 1, 24, [.nils]⟩),
 (52, ⟨.slc 36, 1, 24, [.nils]⟩),
 (55, ⟨.other, 1, 8, [.nilp]⟩),
 (57, ⟨.slc 34, 1, 24, [.nils]⟩),
 (58, ⟨.int .i64, 1, 8, [.int .i64 0]⟩),
 (75, ⟨.struct [(0, 27), (9, 52)], 10, 160, [.nils, .nils, .nils, .nils, .int .i64 0, .int .i64 0, .int .i64 0, .int .i64 0, .bool false, .nils]⟩),
 (90, ⟨.struct [(0, 3), (1, 3), (2, 3)], 3, 24, [.int .i64 0, .int .i64 0, .int .i64 0]⟩),
 (92, ⟨.mp 96 4, 1, 8, [.nilm]⟩),
 (93, ⟨.slc 96, 1, 24, [.nils]⟩),
 (96, ⟨.struct [(0, 3), (1, 3)], 2, 16, [.int .i64 0, .int .i64 0]⟩),
 (103, ⟨.other, 1, 8, [.nilp]⟩),
 (107, ⟨.other, 1, 8, [.nilp]⟩),
 (109, ⟨.struct [(0, 27), (9, 36), (18, 93)], 19, 312, [.nils, .nils, .nils, .nils, .int .i64 0, .int .i64 0, .int .i64 0, .int .i64 0, .bool false, .int .i64 0, .int .i64 0, .int .i64 0, .nils, .nils, .nils, .nils, .nils, .bool false, .nils]⟩),
 (111, ⟨.slc 33, 1, 24, [.nils]⟩),
 (115, ⟨.mp 3 34, 1, 8, [.nilm]⟩),
 (116, ⟨.mp 3 33, 1, 8, [.nilm]⟩),
 (118, ⟨.struct [(0, 3), (1, 115), (2, 115), (3, 116), (4, 116)], 5, 40, [.int .i64 0, .nilm, .nilm, .nilm, .nilm]⟩),
 (130, ⟨.struct [(0, 9), (1, 3), (2, 3)], 3, 32, [.str .empty, .int .i64 0, .int .i64 0]⟩),
 (132, ⟨.struct [(0, 96), (2, 96)], 4, 32, [.int .i64 0, .int .i64 0, .int .i64 0, .int .i64 0]⟩),
 (135, ⟨.struct [(0, 9), (1, 96), (3, 4)], 4, 40, [.str .empty, .int .i64 0, .int .i64 0, .bool false]⟩),
 (140, ⟨.struct [(0, 9), (1, 34)], 2, 40, [.str .empty, .nils]⟩),
 (141, ⟨.slc 9, 1, 24, [.nils]⟩),
 (146, ⟨.mp 96 96, 1, 8, [.nilm]⟩),
 (147, ⟨.mp 96 3, 1, 8, [.nilm]⟩),
 (148, ⟨.mp 3 152, 1, 8, [.nilm]⟩),
 (149, ⟨.mp 3 3, 1, 8, [.nilm]⟩),
 (151, ⟨.struct [(0, 27), (9, 146), (10, 147), (11, 148), (12, 149)], 13, 168, [.nils, .nils, .nils, .nils, .int .i64 0, .int .i64 0, .int .i64 0, .int .i64 0, .bool false, .nilm, .nilm, .nilm, .nilm]⟩),
 (152, ⟨.arr 2 3, 2, 16, [.int .i64 0, .int .i64 0]⟩),
 (164, ⟨.int .u64, 1, 8, [.int .u64 0]⟩),
 (169, ⟨.slc 171, 1, 24, [.nils]⟩),
 (171, ⟨.struct [(0, 3), (1, 3)], 2, 16, [.int .i64 0, .int .i64 0]⟩),
 (200, ⟨.mp 3 4, 1, 8, [.nilm]⟩),
 (202, ⟨.int .i64, 1, 8, [.int .i64 0]⟩),
 (209, ⟨.int .u32, 1, 4, [.int .u32 0]⟩),
 (211, ⟨.int .u64, 1, 8, [.int .u64 0]⟩),
 (212, ⟨.other, 1, 8, [.nilp]⟩),
 (213, ⟨.slc 169, 1, 24, [.nils]⟩),
 (215, ⟨.struct [(0, 3), (1, 32), (2, 34), (3, 213)], 4, 80, [.int .i64 0, .nils, .nils, .nils]⟩),
 (218, ⟨.arr 4 3, 4, 32, [.int .i64 0, .int .i64 0, .int .i64 0, .int .i64 0]⟩),
 (219, ⟨.arr 3 3, 3, 24, [.int .i64 0, .int .i64 0, .int .i64 0]⟩),
 (220, ⟨.mp 9 4, 1, 8, [.nilm]⟩),
 (222, ⟨.int .u64, 1, 8, [.int .u64 0]⟩),
 (226, ⟨.other, 1, 8, [.nilp]⟩)]
def Vu : List (Nat × List Sh) := [(46, [.int .i64, .int .i64]), (90, [.int .i64, .int .i64, .int .i64]), (96, [.int .i64, .int .i64])]
def Tg : List (Nat × List Sh) := [(96, [.int .i64, .int .i64])]
def Th : List Nat := [30, 55]
def AB : A2 := ⟨fun t => BX t Wq, fun t => BX t Vu, fun t => BX t Tg, Mq Th, none, false⟩
def Xt (b : Nat) (l : List Nat) : A2 := ⟨fun t => BX t Wq, fun t => BX t Vu, fun t => BX t Tg, Mq Th, some fun id => Nat.ble b id || Mq l id, false⟩
def Xu : A2 := ⟨fun t => BX t Wq, fun t => BX t Vu, fun t => BX t Tg, Mq Th, none, true⟩
theorem Wr : ∃ e, Try.prog.underlying 30 = some (.pointer e) := ⟨151, by kernel_rfl⟩
theorem Ws : ∃ e, Try.prog.underlying 55 = some (.pointer e) := ⟨118, by kernel_rfl⟩
theorem RV : Mj Try.prog AB.tt := VF (by kernel_rfl)
theorem XW : N1 Try.prog 46 [.int .i64, .int .i64] := Mf (by kernel_rfl) (by kernel_rfl) (by kernel_rfl) (by kernel_rfl)
theorem XX : N1 Try.prog 90 [.int .i64, .int .i64, .int .i64] := Mf (by kernel_rfl) (by kernel_rfl) (by kernel_rfl) (by kernel_rfl)
theorem Vv : N1 Try.prog 96 [.int .i64, .int .i64] := Mf (by kernel_rfl) (by kernel_rfl) (by kernel_rfl) (by kernel_rfl)
theorem Wt : OX Try.prog 96 [.int .i64, .int .i64] := TK (by kernel_rfl) Vv (by kernel_rfl)
theorem AA : BB Try.prog AB := by
 refine ⟨RV, fun t ks h => ?_, fun t ks h => ?_, fun t h => ?_⟩
 .simp only [AB, BQ, Vu, AJ] at h
  split at h
  .subst_vars; cases h; exact XW
  split at h
  .subst_vars; cases h; exact XX
  split at h
  .subst_vars; cases h; exact Vv
  cases h
 .simp only [AB, BQ, Tg, AJ] at h
  split at h
  .subst_vars; cases h; exact Wt
  cases h
 simp only [AB, Th, Sm, List.mem_cons, List.not_mem_nil, or_false] at h
 rcases h with rfl | rfl
 .exact Wr
 exact Ws
theorem WM (b : Nat) (l : List Nat) : BB Try.prog (Xt b l) := ⟨AA.tt, AA.eqk, AA.keyk, AA.ptr⟩
theorem WN : BB Try.prog Xu := ⟨AA.tt, AA.eqk, AA.keyk, AA.ptr⟩
theorem BK : Try.prog.follows .mixedOrders = true := by kernel_rfl
end Go.E
/- slices.Delete as a call out of a data state: the row goes on under a new name. For an own slice, i up to j up to its length. -/
namespace Go.E
open Go Go.RowKit Go.Shelf Go.Proofs
variable {P : Program} {ρ : Ren} {AB : A2} {A : BD}
section
variable {α : Type} {enc : α -> List DV} {l r : List α} {i j : Int} {nt : Nat} {sl : List (Nat × LV)} {h h' : AT} {c d : Nat} {f : St -> Prop} {hf : H6 f}
end
end Go.E
/- slices.Sort and slices.Compact of an own row of whole numbers, as calls out of a data state. For rows of fewer than 2^62 numbers. -/
namespace Go.E
open Go Go.RowKit Go.Shelf Go.Proofs Go.Sort
section
variable {P : Program} {ρ : Ren} {AB : A2} {A : BD}
end
section
variable {P : Program} {ρ : Ren} {AB : A2} {A : BD} {l r : List Int} {nt : Nat} {sl : List (Nat × LV)} {h h' : AT} {c d : Nat} {f : St -> Prop} {hf : H6 f}
end
end Go.E
/- A scope in which the run jumps back to one label, and on to another. No condition. -/
namespace Go.E
open Go Go.RowKit
section
variable {P : Program} {A : BD} {st : St} {σ Ans : Type}
end
def LB {α : Type} (l : List α) (lo hi : Int) : Option (List α) := match l with
 | [] => none
 | x :: r => F4 (x :: r) lo hi
theorem UW {α : Type} {l r : List α} {lo hi : Int} (h : LB l lo hi = some r) : l ≠ [] /\ F4 l lo hi = some r := by
 cases l with
 | nil => cases h
 | cons x l => exact ⟨by simp, h⟩
theorem RZ {α : Type} {l r : List α} {lo hi : Int} (h : LB l lo hi = some r) : lo.toNat + (hi - lo).toNat <= l.length /\ (l.drop lo.toNat).take (hi - lo).toNat = r := by
 obtain ⟨-, h⟩ := UW h
 unfold F4 at h
 split at h
 .rename_i hb
  cases h
  refine ⟨by omega, ?_⟩
  rw [List.drop_take]
  congr 1
  omega
 cases h
section
variable {P : Program} {A : BD} {AB : A2} {α : Type} {enc : α -> List DV} {l r : List α} {nt : Nat} {sl : List (Nat × LV)} {h : AT} {c d : Nat} {f : St -> Prop} {hf : H6 f} {x : Operand} {t sz : Nat}
theorem Vx {lo hi : Option Operand} {n m : Int} {id k : Nat} (hr : LB l n m = some r) (ht : Lt AB t sz = true) (hk : k = l.length) (hx : A9 nt sl x = .lsl id sz 0 k)
  (hlo : Mt nt sl 0 lo = some n) (hhi : Mt nt sl l.length hi = some m)
  (kk : f ⟨nt, (d, .lsl id sz n.toNat (m - n).toNat) :: sl, h, c⟩) : BC P A AB ⟨nt, sl, h, c⟩ (some d) (.slice t x lo hi none) ⟨f, hf⟩ := by
 obtain ⟨ti, e, te, h1, h2, h3, h4⟩ := Lu ht
 obtain ⟨hne, hs⟩ := UW hr
 have hpos := List.length_pos_iff.2 hne
 subst hk
 rw [BE (h := h) (c := c)] at hx
 simp only [F4] at hs
 split at hs
 .rename_i hb
  show Jb AB t _ _ _ _
  rw [hx]
  refine AP.2 ⟨ti, h1, CB.2 ⟨e, h2, AP.2 ⟨te, h3, h4, by omega, ?_⟩⟩⟩
  refine NV hhi (NV hlo ⟨hb, ?_⟩)
  rw [Nat.zero_add]; exact kk
 cases hs
end
end Go.E
