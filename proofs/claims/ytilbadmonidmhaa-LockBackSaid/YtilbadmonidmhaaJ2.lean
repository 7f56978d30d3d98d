/- Drawn regions: whatever order is drawn, the operations give what they give in one order that a check accepts (Ge). -/
import Derived.Scope
import Derived.Test.YtilbadmonidmhaaProg
import Derived.Test.YtilbadmonidmhaaJ1
set_option linter.unusedVariables false
set_option linter.unusedSimpArgs false
namespace Go.E
open Go Go.RowKit
structure RF (A : BF) (F : Nat -> Prop) (st : St) (a : Act) (w : World) : Prop where
 ex : ∃ μ, HRel A μ st.heap F w /\ ∀ t, t < st.nt -> AZ (Ad A μ st.heap) μ w (a.tmps.getD t undef) (Bj st.slots t)
 nt : a.tmps.size = st.nt
 defers : a.defers = []
theorem R.toRF {A : BF} {st : St} {a : Act} {w : World} (h : R A st a w) : RF A (Fr st.ctr) st a w := ⟨h.ex, h.nt, h.defers⟩
theorem RF.put' {A : BF} {F F' : Nat -> Prop} {st : St} {a : Act} {w w' : World} {h' : AN} {ctr' : Nat} {μ' : Nat -> Option BX} (hR : RF A F st a w)
  (hs : ∀ t, t < st.nt -> AZ (Ad A μ' h') μ' w' (a.tmps.getD t undef) (Bj st.slots t))
  (hh : HRel A μ' h' F' w') {dst : Option Tmp} {v : Value} {l : LV} (hv : AZ (Ad A μ' h') μ' w' v l) :
  RF A F' (({ st with heap := h', ctr := ctr' } : St).put dst l) (a.put dst v) w' := by
 cases dst with
 | none => exact ⟨⟨μ', hh, hs⟩, hR.nt, hR.defers⟩
 | some d =>
  refine ⟨⟨μ', hh, fun t ht => ?_⟩, by simpa [Act.put, St.put] using hR.nt, hR.defers⟩
  have hn : t < a.tmps.size := by rw [hR.nt]; exact ht
  simp only [Act.put, St.put, Bj, AF]
  by_cases e : t = d
  .subst e
   simp only [if_true]
   rw [Array.getD_eq_getD_getElem?, Array.getElem?_setIfInBounds_self_of_lt hn]
   exact hv
  simp only [e, if_false]
  rw [Array.getD_eq_getD_getElem?, Array.getElem?_setIfInBounds_ne (by omega), <- Array.getD_eq_getD_getElem?]
  exact hs t ht
section
variable {P : Program} {A : BF} {AB : Ax} {F : Nat -> Prop} {st : St} {a : Act} {w : World}
theorem Vs {μ : Nat -> Option BX} {h : AN} {F : Nat -> Prop} {w w' : World} {v : Value} {ctr e sz : Nat} {elems : List (List DV)} (hh : HRel A μ h F w) (hc : F ctr) (hn : J1 w w' (Ad A μ h) v e sz elems) (hb : Below w.heap.size w w') :
  ∃ μ', HRel A μ' ((ctr, .row e sz elems) :: h) (fun id => F id /\ id ≠ ctr) w' /\ AZ (Ad A μ' ((ctr, .row e sz elems) :: h)) μ' w' v (.lsl ctr sz 0 elems.length) /\ ∀ v x, AZ (Ad A μ h) μ w v x -> AZ (Ad A μ' ((ctr, .row e sz elems) :: h)) μ' w' v x := by
 have hno : μ ctr = none := hh.fresh ctr hc
 obtain ⟨hlen, hn⟩ := hn
 have hkm : BT (B3 μ h) w w' := ⟨hb.size, fun b hb' _ => hb.block b hb'⟩
 have hsub : ∀ id x, AF id ((ctr, A1.row e sz elems) :: h) = some x -> (id = ctr /\ x = .row e sz elems) \/ AF id h = some x := by
  intro id x hx
  simp only [AF] at hx
  split at hx
  .cases hx; exact .inl ⟨‹_›, rfl⟩
  exact .inr hx
 have hold : ∀ id x lc, AF id ((ctr, A1.row e sz elems) :: h) = some x -> id ≠ ctr -> μ id = some lc -> lc.nil = false -> w'.heap[lc.b]? = w.heap[lc.b]? := by
  intro id x lc hx hne hm hnl
  rcases hsub id x hx with ⟨rfl, _⟩ | hx
  .exact absurd rfl hne
  exact hb.block _ (hh.base id x lc hx hm hnl).1
 have fin : ∀ (loc : BX), (loc.nil = false -> loc.b < w'.heap.size /\ w.heap.size <= loc.b) ->
   (∀ O' : Nat -> Prop, (∀ b, O' b -> Ad A μ h b \/ (loc.nil = false /\ b = loc.b)) -> (∀ b, Ad A μ h b -> b < w.heap.size -> O' b \/ True) -> (∀ b, Ad A (Bz μ ctr loc) ((ctr, A1.row e sz elems) :: h) b ↔ O' b) -> Df O' (Bz μ ctr loc) w' loc (.row e sz elems)) ->
   (∀ O', AZ O' (Bz μ ctr loc) w' v (.lsl ctr sz 0 elems.length)) ->
   ∃ μ', HRel A μ' ((ctr, .row e sz elems) :: h) (fun id => F id /\ id ≠ ctr) w' /\ AZ (Ad A μ' ((ctr, .row e sz elems) :: h)) μ' w' v (.lsl ctr sz 0 elems.length) /\ ∀ v x, AZ (Ad A μ h) μ w v x -> AZ (Ad A μ' ((ctr, .row e sz elems) :: h)) μ' w' v x := by
  intro loc hloc ho hu
  have hfr : Lg μ h ((ctr, A1.row e sz elems) :: h) w loc := fun hn => .inl (hloc hn).2
  have hown := hh.sub_add loc (.row e sz elems) ((ctr, .row e sz elems) :: h) hfr hsub
  have hcov : ∀ b, Ad A (Bz μ ctr loc) ((ctr, .row e sz elems) :: h) b -> Ad A μ h b \/ (loc.nil = false /\ b = loc.b) := by
   rintro b (hb' | ⟨id, x, lc, h1, h2, h3, h4⟩)
   .exact .inl (.inl hb')
   by_cases e' : id = ctr
   .subst e'
    simp only [Bz, if_true, Option.some.injEq] at h2
    subst h2; exact .inr ⟨h3, h4.symm⟩
   rcases hsub id x h1 with ⟨e'', _⟩ | h1
   .exact absurd e'' e'
   simp only [Bz, e', if_false] at h2
   exact .inl (.inr ⟨id, x, lc, h1, h2, h3, h4⟩)
  have hadd := hh.add (w' := w') hno loc (.row e sz elems) ((ctr, .row e sz elems) :: h) (fun hn => (hloc hn).1) hfr hsub hkm hold hb.os hb.tape hb.output (ho _ hcov (fun _ _ _ => .inr trivial) (fun _ => Iff.rfl))
  exact ⟨_, hadd, hu _, fun v x hv => hv.mono hkm.own hown (Iq hno loc)⟩
 rcases hn with ⟨rfl, rfl⟩ | ⟨a, b, o, cap, c, rfl, h1, h2, h3, h4, h5, h6, h7, h8, h9, h10⟩
 .exact fin ⟨true, 0, 0, sz, 0⟩ (fun hn => by cases hn) (fun O' _ _ _ => ⟨rfl, hlen, .inl ⟨rfl, rfl⟩⟩) (fun O' => .lsln ctr ⟨true, 0, 0, sz, 0⟩ (by simp [Bz]) rfl)
 refine fin ⟨false, b, o, sz, cap⟩ (fun _ => ⟨h2, h1⟩) (fun O' hO' _ _ => ⟨rfl, hlen, .inr ⟨rfl, c, h6, h7, h8, h9, fun i j x d u hx hd hu => ?_⟩⟩) (fun O' => ?_)
 .refine (h10 i j x d u hx hd hu).mono (BT.refl _ _) fun q _ hq => ?_
  rcases hO' q hq with hq | ⟨_, hq⟩
  .exact .inl hq
  exact .inr hq
 exact .lsl ctr 0 elems.length cap a ⟨false, b, o, sz, cap⟩ (by simp [Bz]) rfl (by simp) h8 (fun hc => by rw [h3 hc]; simp) h4 h5
theorem QN (hE : Ay P AB) {o : Oper} {l : LV} {e : Ds} (hR : RF A F st a w) (hc : F st.ctr) (hF : ∃ c0, ∀ q, c0 <= q -> F q) (h : CG P AB st o.op l e) {next : Act -> World -> Prop} {Q : Exit -> Act -> World -> Prop}
  (hK : ∀ a' w', RF A (fun id => F id /\ id ≠ st.ctr) (apS st st.ctr o l e) a' w' -> next a' w') : o.wp P a w next Q := by
 obtain ⟨⟨μ, hh, hs0⟩, hnt, hdef⟩ := id hR
 have hs := fun x => F9 hs0 x
 have less : ∀ {μ h w} (c' : Nat), HRel A μ h (fun id => F id /\ (st.ctr < c' -> id ≠ st.ctr)) w -> HRel A μ h (fun id => F id /\ id ≠ st.ctr) w := fun _ h => h.less fun _ h => ⟨h.1, fun _ => h.2⟩
 have nCase : e = .keep -> nW AB st o.op (· = l) -> o.wp P a w next Q := by
  rintro rfl h
  obtain ⟨u, v, rfl, hv, hg⟩ := IS hE hs h
  unfold Oper.wp
  rw [hg o rfl w]
  exact hK _ _ (hR.put' (ctr' := st.ctr) hs0 (hh.less fun _ h => h.1) hv)
 have mCase : mW AB st o.op (fun r h _ => r = l /\ h = e.ap st.ctr st.heap) -> o.wp P a w next Q := by
  intro h
  obtain ⟨l', h', c', u, w', μ', ⟨rfl, rfl⟩, ⟨_, hh'⟩, hl, hmono, hrun⟩ := OH (a := a) (F := F) hE hs ⟨hh, hc⟩ h
  have := hK _ _ (hR.put' (ctr' := st.ctr) (fun t ht => hmono _ _ (hs0 t ht)) (less c' hh') hl)
  unfold Oper.wp
  rcases hrun o rfl with hr | ⟨hr, rfl⟩ <;> rw [hr] <;> exact this
 obtain ⟨dst, op, type, pos, after, guard⟩ := o
 simp only at h nCase mCase
 cases op <;> simp only [CG] at h <;> (try exact nCase h.1 h.2)
 case load t x =>
  obtain ⟨rfl, _, ti, h1, h2⟩ := h
  refine mCase ?_
  simp only [mW, Ds.ap]
  exact ⟨ti, h1, by
   unfold Fx at *
   split at h2
   .obtain ⟨r, g1, g2⟩ := h2; exact ⟨r, g1, g2, trivial⟩
   .obtain ⟨c, r, g1, g2, g3⟩ := h2; exact ⟨c, r, g1, g2, g3, trivial⟩
   .obtain ⟨c1, c2, c3, c4, r, g1, g2, g3, g4⟩ := h2; exact ⟨c1, c2, c3, c4, r, g1, g2, g3, g4, trivial⟩
   exact h2⟩
 case lookup t x i ok =>
  obtain ⟨rfl, ti, kt, et, te, m, kd, h1, h2, h3, h4, h5, h6, h7, h8⟩ := h
  refine mCase ?_
  simp only [mW, Ds.ap]
  exact ⟨ti, kt, et, te, m, kd, h1, h2, h3, h4, h5, h6, h7, h8, trivial⟩
 case store => obtain ⟨_, h', rfl, h⟩ := h; exact mCase h
 case mapUpdate => obtain ⟨h', rfl, h⟩ := h; exact mCase h
 case mapEntry => obtain ⟨h', rfl, h⟩ := h; exact mCase h
 case entryStore => obtain ⟨h', rfl, h⟩ := h; exact mCase h
 case alloc t => obtain ⟨ti, h1, rfl, rfl⟩ := h; exact mCase (by simp only [mW]; exact ⟨ti, h1, trivial, rfl⟩)
 case box t x => obtain ⟨ls, h1, rfl, rfl⟩ := h; exact mCase (by simp only [mW]; exact ⟨ls, h1, trivial, rfl⟩)
 case buildSlice t n ps =>
  obtain ⟨ti, e', te, l', h1, h2, h3, h4, h5, h6, h7, ⟨rfl, rfl⟩ | ⟨rfl, rfl⟩⟩ := h
  .exact mCase (by simp only [mW]; exact ⟨ti, e', te, l', h1, h2, h3, h4, h5, h6, h7, .inl ⟨rfl, rfl⟩⟩)
  exact mCase (by simp only [mW]; exact ⟨ti, e', te, l', h1, h2, h3, h4, h5, h6, h7, .inr ⟨rfl, rfl⟩⟩)
 case makeSlice t x y =>
  obtain ⟨ti, e', te, n, k1, k2, h1, h2, h3, h4, h5, h6, h7, h8, ⟨rfl, rfl⟩ | ⟨rfl, rfl⟩⟩ := h
  .exact mCase (by simp only [mW]; exact ⟨ti, e', te, n, k1, k2, h1, h2, h3, h4, h5, h6, h7, h8, .inl ⟨rfl, rfl⟩⟩)
  exact mCase (by simp only [mW]; exact ⟨ti, e', te, n, k1, k2, h1, h2, h3, h4, h5, h6, h7, h8, .inr ⟨rfl, rfl⟩⟩)
 case makeMap t r => obtain ⟨rfl, rfl, rfl⟩ := h; exact mCase (by simp only [mW]; exact ⟨trivial, trivial, rfl⟩)
 case call c =>
  obtain ⟨callee, args, ats⟩ := c
  cases callee with
  | value f =>
   simp only at h
   split at h
   .obtain ⟨h', rfl, f', k, caps, g1, g2, g3, _, _⟩ := h
    simp only [Callee.value.injEq] at g1
    subst g1
    have hfv := hs f
    rw [g2] at hfv
    generalize hv : a.eval f = v at hfv
    cases hfv with
    | fn _ cs _ hsz hr =>
     have hx : (execOp a.eval ⟨dst, .call ⟨.value f, args, ats⟩, type, pos, after, guard⟩).run P w = .ok (.enter k (args.map a.eval ++ cs)) w := by
      simp [execOp, resolve, Deferred.ofValue, hv, invoke]
      exact g3.1 _ _
     unfold Oper.wp
     rw [hx, Oper.upon_enter]
     refine (g3.2 A F μ w _ hh hc hF (by simp [hsz]) fun i v x hvi hx => ?_).mono fun en w' ⟨u, μ', he, hh', hl, hmono⟩ => ?_
     .rw [List.getElem?_append] at hx
      rw [Array.getElem?_append] at hvi
      by_cases hi' : i < args.size
      .rw [if_pos (by simpa using hi')] at hvi hx
       exact Hi hs args.toList i v _ (by simpa using hvi) hx
      rw [if_neg (by simpa using hi')] at hvi hx
      exact hr _ v _ (by simpa using hvi) (by simpa using hx)
     subst he
     exact hK _ _ (hR.put' (ctr' := st.ctr) (fun t ht => hmono _ _ (hs0 t ht)) hh' hl)
   rcases h with ⟨rfl, k, caps, ds, r, h1, h2, h3, h4, rfl⟩ | ⟨_, k, caps, ds, tt, sz, elems, h1, h2, h3, h4, rfl, rfl⟩
   .have hfv := hs f
    rw [h1] at hfv
    generalize hv : a.eval f = v at hfv
    cases hfv with
    | fn _ cs _ hsz hr =>
     have hx : (execOp a.eval ⟨dst, .call ⟨.value f, args, ats⟩, type, pos, after, guard⟩).run P w = .ok (.enter k (args.map a.eval ++ cs)) w := by
      simp [execOp, resolve, Deferred.ofValue, hv, invoke]
      exact h3.enters _ _
     unfold Oper.wp
     rw [hx, Oper.upon_enter]
     obtain ⟨g1, g2⟩ := EU hh (l := (args.toList.map st.eval ++ caps).flatMap (Dc st.heap)) h2 (fun id hid => hid)
     have hO : ∀ b, Ad A μ (B6 ((args.toList.map st.eval ++ caps).flatMap (Dc st.heap)) st.heap) b -> b < w.heap.size := by
      rintro b (hb | ⟨id, x, lc, h1, h2, h3, rfl⟩)
      .exact Nat.lt_of_lt_of_le (A.hO b hb).1 hh.size
      exact (hh.base id x lc (F8 h1).2 h2 h3).1
     refine (h3.run _ w _ hO (by rw [<- g1]; simp [hsz]) fun i v d hvi hdi => ?_).mono fun e w' ⟨v, r', he, hp, hq, hb⟩ => ?_
     .have hi := (List.getElem?_eq_some_iff.1 hdi).1
      have hx : (args.toList.map st.eval ++ caps)[i]? = some ((args.toList.map st.eval ++ caps)[i]'(by omega)) := List.getElem?_eq_getElem _
      refine g2 i v _ d hx hdi ?_
      rw [List.getElem?_append] at hx
      rw [Array.getElem?_append] at hvi
      by_cases hi' : i < args.size
      .rw [if_pos (by simpa using hi')] at hvi hx
       exact Hi hs args.toList i v _ (by simpa using hvi) hx
      rw [if_neg (by simpa using hi')] at hvi hx
      exact hr _ v _ (by simpa using hvi) (by simpa using hx)
     subst he hq
     obtain ⟨hh', hown⟩ := hh.keep (w' := w') (h' := st.heap) (μ' := μ) (fun _ _ h => h) hh.fresh (fun _ _ h => h) hb.block hb.size hb.os hb.tape hb.output
     have hp' : Ar (Ad A μ st.heap) w' v r' := by
      rcases h4 with h4 | h4
      .exact hp.scalar h4 _ _
      rw [h4] at hp; exact hp
     exact hK _ _ (hR.put' (ctr' := st.ctr) (fun t ht => (hs0 t ht).mono ⟨hb.size, fun b hb' _ => hb.block b hb'⟩ (fun b _ hb => hb) (fun _ _ h => h)) (hh'.less fun _ h => h.1) (.p _ _ hp'))
   have hfv := hs f
   rw [h1] at hfv
   generalize hv : a.eval f = v at hfv
   cases hfv with
   | fn _ cs _ hsz hr =>
    have hx : (execOp a.eval ⟨dst, .call ⟨.value f, args, ats⟩, type, pos, after, guard⟩).run P w = .ok (.enter k (args.map a.eval ++ cs)) w := by
     simp [execOp, resolve, Deferred.ofValue, hv, invoke]
     exact h3.enters _ _
    unfold Oper.wp
    rw [hx, Oper.upon_enter]
    obtain ⟨g1, g2⟩ := EU hh (l := (args.toList.map st.eval ++ caps).flatMap (Dc st.heap)) h2 (fun id hid => hid)
    have hO : ∀ b, Ad A μ (B6 ((args.toList.map st.eval ++ caps).flatMap (Dc st.heap)) st.heap) b -> b < w.heap.size := by
     rintro b (hb | ⟨id, x, lc, h1, h2, h3, rfl⟩)
     .exact Nat.lt_of_lt_of_le (A.hO b hb).1 hh.size
     exact (hh.base id x lc (F8 h1).2 h2 h3).1
    refine (h3.run _ w _ hO (by rw [<- g1]; simp [hsz]) fun i v d hvi hdi => ?_).mono fun e w' ⟨v, he, hn', hb⟩ => ?_
    .have hi := (List.getElem?_eq_some_iff.1 hdi).1
     have hx : (args.toList.map st.eval ++ caps)[i]? = some ((args.toList.map st.eval ++ caps)[i]'(by omega)) := List.getElem?_eq_getElem _
     refine g2 i v _ d hx hdi ?_
     rw [List.getElem?_append] at hx
     rw [Array.getElem?_append] at hvi
     by_cases hi' : i < args.size
     .rw [if_pos (by simpa using hi')] at hvi hx
      exact Hi hs args.toList i v _ (by simpa using hvi) hx
     rw [if_neg (by simpa using hi')] at hvi hx
     exact hr _ v _ (by simpa using hvi) (by simpa using hx)
    subst he
    have hn2 : J1 w w' (Ad A μ st.heap) v tt sz elems := by
     rcases h4 with h4 | h4
     .rw [h4] at hn'; exact hn'
     exact hn'.flat h4 _
    obtain ⟨μ', k1, k2, k3⟩ := Vs hh hc hn2 hb
    exact hK _ _ (hR.put' (ctr' := st.ctr) (fun t ht => k3 _ _ (hs0 t ht)) k1 k2)
  | builtin b =>
   cases b with
   | append => obtain ⟨h', rfl, h⟩ := h; exact mCase h
   | _ => exact nCase h.1 h.2
  | invoke r m => exact nCase h.1 h.2
theorem OK (hE : Ay P AB) {ops : Array Oper} {i : Nat} {o : Oper} (ho : ops[i]? = some o) {l : LV} {e : Ds} (hR : RF A F st a w) (hc : F st.ctr) (hF : ∃ c0, ∀ q, c0 <= q -> F q) (h : Cu P AB ops st o l e) {next : Act -> World -> Prop} {Q : Exit -> Act -> World -> Prop}
  (hK : ∀ a' w', RF A (fun id => F id /\ id ≠ st.ctr) (apS st st.ctr o l e) a' w' -> next a' w') : wpOp P ops Q i next a w := by
 obtain ⟨⟨μ, hh, hs0⟩, hnt, hdef⟩ := id hR
 have hs := fun x => F9 hs0 x
 unfold wpOp
 rw [ho]
 simp only
 unfold Cu at h
 have skip : l = .und /\ e = .keep -> next (a.put o.dst undef) w := by
  rintro ⟨rfl, rfl⟩
  exact hK _ _ (hR.put' (ctr' := st.ctr) hs0 (hh.less fun _ h => h.1) .und)
 split at h
 .rename_i hg
  rw [if_pos (by simp [Region.wanted, hg])]
  exact .inl (QN hE hR hc hF h hK)
 rename_i j want hg
 obtain ⟨g1, g2⟩ := Mm (ops := ops) (j := j) hs
 split at h
 .rename_i b hb
  have hy := g1 b hb
  split at h
  .rename_i e
   rw [if_pos (by simp [Region.wanted, hg, hy, e])]
   exact .inl (QN hE hR hc hF h hK)
  rename_i e
  rw [if_neg (by simp [Region.wanted, hg, hy, e])]
  exact skip h
 .rename_i hb
  have hy := g2 hb
  rw [if_neg (by simp [Region.wanted, hg, hy])]
  exact skip h
 exact h.elim
end
section
variable {P : Program} {AB : Ax} {md : Region.Mode} {ops : Array Oper} {base : Nat} {Q : St -> Prop}
def HW (P : Program) (AB : Ax) (md : Region.Mode) (ops : Array Oper) (base : Nat) (Q : St -> Prop) : Nat -> Array Bool -> St -> Prop
 | 0, listed, st => Region.ready md ops listed = [] /\ ∃ st', FZ st st' /\ Q st'
 | fuel + 1, listed, st => (Region.ready md ops listed = [] -> ∃ st', FZ st st' /\ Q st') /\
  ∀ i ∈ Region.ready md ops listed, ∃ o l e, ops[i]? = some o /\ Cu P AB ops (st.at (base + i)) o l e /\ HW P AB md ops base Q fuel (listed.setIfInBounds i true) (apS st (base + i) o l e)
theorem FZ.trans {a b c : St} (h : FZ a b) (h' : FZ b c) : FZ a c := ⟨h.nt.trans h'.nt, fun t => (h.slots t).trans (h'.slots t), fun i => (h.heap i).trans (h'.heap i)⟩
theorem FZ.symm {a b : St} (h : FZ a b) : FZ b a := ⟨h.nt.symm, fun t => (h.slots t).symm, fun i => (h.heap i).symm⟩
theorem Vt {st : St} {dst : Option Tmp} {l : LV} {t : Nat} : Bj (st.put dst l).slots t = if dst = some t then l else Bj st.slots t := by
 cases dst with
 | none => simp [St.put]
 | some d =>
  simp only [St.put, Bj, AF, Option.some.injEq]
  by_cases e : t = d
  .subst e; simp
  rw [if_neg e, if_neg (fun h => e h.symm)]
theorem Fa {st : St} {c : Nat} {o : Oper} {l : LV} {e : Ds} : (apS st c o l e).nt = st.nt := by
 unfold apS St.put; split <;> rfl
theorem Bm {st : St} {c : Nat} {o : Oper} {l : LV} {e : Ds} : (apS st c o l e).heap = e.ap c st.heap := by
 unfold apS St.put; split <;> rfl
theorem Cp {st : St} {c : Nat} {o : Oper} {l : LV} {e : Ds} {t : Nat} : Bj (apS st c o l e).slots t = if o.dst = some t then l else Bj st.slots t := by
 unfold apS; rw [Vt]
theorem FZ.at {st st' : St} (h : FZ st st') (c : Nat) : FZ (st.at c) (st'.at c) := ⟨h.nt, h.slots, h.heap⟩
theorem FZ.apS {st st' : St} (h : FZ st st') {c : Nat} {o : Oper} {l : LV} {e e' : Ds} (he : ∀ id, AF id (e.ap c st.heap) = AF id (e'.ap c st'.heap)) : FZ (apS st c o l e) (apS st' c o l e') :=
 ⟨by rw [Fa, Fa]; exact h.nt, fun t => by rw [Cp, Cp, h.slots], fun id => by rw [Bm, Bm]; exact he id⟩
theorem Ln : ∀ (fuel : Nat) (listed : Array Bool) (st st' : St), FZ st st' -> HW P AB md ops base Q fuel listed st -> HW P AB md ops base Q fuel listed st'
 | 0, _, _, _, he, ⟨h1, s, h2, h3⟩ => ⟨h1, s, he.symm.trans h2, h3⟩
 | fuel + 1, _, st, st', he, ⟨h1, h2⟩ => ⟨fun hr => by obtain ⟨s, a, b⟩ := h1 hr; exact ⟨s, he.symm.trans a, b⟩, fun i hi => by
   obtain ⟨o, l, e, g1, g2, g3⟩ := h2 i hi
   obtain ⟨e', k1, k2⟩ := Uw (he.at (base + i)) rfl g2
   exact ⟨o, l, e', g1, k1, Ln fuel _ _ _ (he.apS k2) g3⟩⟩
def Mt : X4 -> X4 -> Bool
 | .n, .w => true
 | .w, _ | _, .w => false
 | .a, .r => false
 | _, _ => true
def LF : Op -> Bool
 | .call c => match c.callee with
  | .value f => !(Cs f)
  | _ => false
 | _ => false
def Pp (a b : Op) : Bool := !(LF a) || decide (BQ b ≠ .r)
theorem Vu {st : St} {o : Oper} {l : LV} {e : Ds} (h : Cu P AB ops st o l e) (hc : BQ o.op = .n \/ BQ o.op = .r) (hw : AB.own = true -> LF o.op = false) : e = .keep := by
 have big : CG P AB st o.op l e -> e = .keep := by
  intro h
  generalize o.op = op at *
  cases op <;> simp only [BQ, reduceCtorEq, or_self] at hc <;> simp only [CG] at h <;> (try exact h.1)
  case call c =>
   obtain ⟨callee, args, ats⟩ := c
   cases callee with
   | builtin b => cases b <;> simp only [reduceCtorEq, or_self] at hc <;> exact h.1
   | value f =>
    have hnd : ¬ Cs f = true := fun hd => by simp [hd] at hc
    simp only [if_neg hnd] at h
    rcases h with h | ⟨h, _⟩
    .exact h.1
    have := hw h
    simp [LF, hnd] at this
   | _ => exact h.1
 unfold Cu at h
 split at h
 .exact big h
 split at h
 .split at h
  .exact big h
  exact h.2
 .exact h.2
 exact h.elim
theorem Ni {st : St} {o : Oper} {l : LV} {e : Ds} (h : Cu P AB ops st o l e) (hc : BQ o.op ≠ .w) : e = .keep \/ ∃ x, e = .new x := by
 have big : CG P AB st o.op l e -> e = .keep \/ ∃ x, e = .new x := by
  intro h
  generalize o.op = op at *
  cases op <;> simp only [CG] at h <;> (try exact .inl h.1)
  case store => exact absurd rfl hc
  case mapUpdate => exact absurd rfl hc
  case mapEntry => exact absurd rfl hc
  case entryStore => exact absurd rfl hc
  case alloc => obtain ⟨_, _, _, h⟩ := h; exact .inr ⟨_, h⟩
  case box => obtain ⟨_, _, _, h⟩ := h; exact .inr ⟨_, h⟩
  case buildSlice => obtain ⟨_, _, _, _, _, _, _, _, _, _, _, ⟨_, h⟩ | ⟨_, h⟩⟩ := h; exact .inr ⟨_, h⟩; exact .inl h
  case makeSlice => obtain ⟨_, _, _, _, _, _, _, _, _, _, _, _, _, _, ⟨_, h⟩ | ⟨_, h⟩⟩ := h; exact .inr ⟨_, h⟩; exact .inl h
  case makeMap => exact .inr ⟨_, h.2.2⟩
  case call c =>
   obtain ⟨callee, args, ats⟩ := c
   cases callee with
   | builtin b =>
    cases b with
    | append => exact absurd rfl hc
    | _ => exact .inl h.1
   | value f =>
    have hnd : ¬ Cs f = true := fun hd => hc (by simp [BQ, hd])
    simp only [if_neg hnd] at h
    rcases h with h | ⟨_, _, _, _, _, _, _, _, _, _, _, _, h⟩
    .exact .inl h.1
    exact .inr ⟨_, h⟩
   | _ => exact .inl h.1
 unfold Cu at h
 split at h
 .exact big h
 split at h
 .split at h
  .exact big h
  exact .inl h.2
 .exact .inl h.2
 exact h.elim
theorem KW {st : St} {o : Oper} {l : LV} {e : Ds} (h : Cu P AB ops st o l e) {k : Nat} (hk : k ≠ st.ctr) (hn : AF k st.heap = none) : AF k (e.ap st.ctr st.heap) = none := by
 by_cases hw : BQ o.op = .w
 .have big : CG P AB st o.op l e -> AF k (e.ap st.ctr st.heap) = none := by
   intro h
   have : ∃ h1, e = .set h1 /\ wW P AB st o.op l h1 := by
    generalize hq : o.op = op at *
    cases op <;> simp only [BQ, reduceCtorEq] at hw <;> simp only [CG] at h ⊢
    case store => exact h.2
    case mapUpdate => exact h
    case mapEntry => exact h
    case entryStore => exact h
    case call c =>
     obtain ⟨callee, args, ats⟩ := c
     cases callee with
     | builtin b =>
      cases b <;> simp only [reduceCtorEq] at hw
      exact h
     | value f =>
      have hd : Cs f = true := by simp only at hw; split at hw <;> first | assumption | cases hw
      simp only [hd, if_true] at h
      exact h
     | _ => simp only [reduceCtorEq] at hw
   obtain ⟨h1, rfl, g⟩ := this
   obtain ⟨_, _, _, g⟩ := T0 (st' := st) hw (fun _ _ => rfl) rfl (fun _ => rfl) g
   exact g k hk hn
  unfold Cu at h
  split at h
  .exact big h
  split at h
  .split at h
   .exact big h
   rw [h.2]; exact hn
  .rw [h.2]; exact hn
  exact h.elim
 rcases Ni h hw with rfl | ⟨x, rfl⟩
 .exact hn
 simp only [Ds.ap, AF, hk, if_false]; exact hn
def Pq : Op -> Op -> Bool
 | .load .., .mapUpdate .. | .load .., .mapEntry .. | .load .., .entryStore .. => true
 | _, _ => false
def OL : Op -> Op -> Bool
 | .load .., .store .. => true
 | .load .., .call c => match c.callee with
  | .builtin .append => true
  | .value f => Cs f
  | _ => false
 | _, _ => false
def Mu (q : Bool) (a b : Op) : Bool := Pq a b || (q && OL a b)
def Pr (q : Bool) (a b : Op) : Bool := Mt (BQ a) (BQ b) || Mu q a b
theorem T1 {o : Op} (h : LF o = true) : BQ o = .r := by
 unfold LF at h
 split at h
 .rename_i c
  unfold BQ
  split at h
  .rename_i f e
   simp only [Bool.not_eq_true'] at h
   simp only [e, h, Bool.false_eq_true, if_false]
  cases h
 cases h
theorem Q0 {a b : Op} (h : OL a b = true) : BQ a = .r /\ BQ b = .w /\ (∃ t x, a = .load t x) /\ ((∃ t x v, b = .store t x v) \/ ∃ c, b = .call c /\ (c.callee = .builtin .append \/ ∃ f, c.callee = .value f /\ Cs f = true)) := by
 unfold OL at h
 split at h
 .exact ⟨rfl, rfl, ⟨_, _, rfl⟩, .inl ⟨_, _, _, rfl⟩⟩
 .rename_i c
  split at h
  .rename_i e
   exact ⟨rfl, by simp [BQ, e], ⟨_, _, rfl⟩, .inr ⟨_, rfl, .inl e⟩⟩
  .rename_i f e
   exact ⟨rfl, by simp [BQ, e, h], ⟨_, _, rfl⟩, .inr ⟨_, rfl, .inr ⟨f, e, h⟩⟩⟩
  cases h
 cases h
theorem Re {a b : Op} (h : Pq a b = true) : BQ a = .r /\ BQ b = .w /\ (∃ t x, a = .load t x) /\ ((∃ t x i v, b = .mapUpdate t x i v) \/ (∃ t x i, b = .mapEntry t x i) \/ ∃ t x i v, b = .entryStore t x i v) := by
 unfold Pq at h
 split at h
 .exact ⟨rfl, rfl, ⟨_, _, rfl⟩, .inl ⟨_, _, _, _, rfl⟩⟩
 .exact ⟨rfl, rfl, ⟨_, _, rfl⟩, .inr (.inl ⟨_, _, _, rfl⟩)⟩
 .exact ⟨rfl, rfl, ⟨_, _, rfl⟩, .inr (.inr ⟨_, _, _, _, rfl⟩)⟩
 cases h
theorem Gx {q : Bool} {a b : Op} (h : Mu q a b = true) : BQ a = .r /\ BQ b = .w /\ (∃ t x, a = .load t x) /\
  (((∃ t x i v, b = .mapUpdate t x i v) \/ (∃ t x i, b = .mapEntry t x i) \/ ∃ t x i v, b = .entryStore t x i v) \/ (q = true /\ ((∃ t x v, b = .store t x v) \/ ∃ c, b = .call c /\ (c.callee = .builtin .append \/ ∃ f, c.callee = .value f /\ Cs f = true)))) := by
 simp only [Mu, Bool.or_eq_true, Bool.and_eq_true] at h
 rcases h with h | ⟨hq, h⟩
 .obtain ⟨h1, h2, h3, h4⟩ := Re h; exact ⟨h1, h2, h3, .inl h4⟩
 obtain ⟨h1, h2, h3, h4⟩ := Q0 h; exact ⟨h1, h2, h3, .inr ⟨hq, h4⟩⟩
theorem XO {st st' : St} {o : Oper} {l : LV} {e : Ds} (hld : ∃ t x, o.op = .load t x) (hnt : st.nt = st'.nt) (hs : ∀ t ∈ o.looksAt ops, Bj st.slots t = Bj st'.slots t)
  (hm : ∀ id x, AF id st.heap = some x -> (∀ m, x ≠ .map m) -> AF id st'.heap = some x) (h : Cu P AB ops st o l e) : Cu P AB ops st' o l e := by
 have hop := El hnt hs
 have key : CG P AB st o.op l e -> CG P AB st' o.op l e := by
  obtain ⟨t, x, ho⟩ := hld
  rw [ho] at hop ⊢
  simp only [CG]
  rintro ⟨h1, hc', ti, h2, h3⟩
  have he : st.eval x = st'.eval x := hop x (by simp [Op.operands])
  rw [<- he]
  refine ⟨h1, hc', ti, h2, ?_⟩
  unfold Fx at h3 ⊢
  split at h3
  .rename_i hx; simp only [hx]; exact h3
  .rename_i id off hx
   obtain ⟨cells, r, g1, g2⟩ := h3
   simp only [hx]
   exact ⟨cells, r, hm _ _ g1 (by simp), g2⟩
  .rename_i id i off hx
   obtain ⟨e', sz, elems, y, r, g1, g2⟩ := h3
   simp only [hx]
   exact ⟨e', sz, elems, y, r, hm _ _ g1 (by simp), g2⟩
  exact h3.elim
 unfold Cu at *
 split at h
 .exact key h
 rename_i j want hg
 rw [<- Gw hnt hs hg]
 split at h
 .rename_i hb
  split at h
  .rw [if_pos ‹_›]; exact key h
  rw [if_neg ‹_›]; exact h
 .exact h
 exact h.elim
theorem X5 {st : St} {o : Oper} {l : LV} {e : Ds} {c : Nat} (hmu : (∃ t x i v, o.op = .mapUpdate t x i v) \/ (∃ t x i, o.op = .mapEntry t x i) \/ ∃ t x i v, o.op = .entryStore t x i v) (h : Cu P AB ops st o l e) : ∀ id x, AF id st.heap = some x -> (∀ m, x ≠ .map m) -> AF id (e.ap c st.heap) = some x := by
 have key : CG P AB st o.op l e -> ∀ id x, AF id st.heap = some x -> (∀ m, x ≠ .map m) -> AF id (e.ap c st.heap) = some x := by
  have fin : ∀ (id' : Nat) (m m' : List (DV × DV)), AF id' st.heap = some (.map m) -> ∀ id y, AF id st.heap = some y -> (∀ m, y ≠ .map m) -> AF id (Bo id' (.map m') st.heap) = some y := by
   intro id' m m' h4 id y hy hne
   by_cases hii : id = id'
   .subst hii; rw [h4] at hy; cases hy; exact absurd rfl (hne _)
   rw [DN hii]; exact hy
  rcases hmu with ⟨t, x, i, v, ho⟩ | ⟨t, x, i, ho⟩ | ⟨t, x, i, v, ho⟩
  .rw [ho]
   simp only [CG]
   rintro ⟨h', rfl, hmw⟩ id y hy hne
   obtain ⟨ti, kt, et, id', m, kd, vd, h1, h2, h3, h4, h5, h6, h7, h8, _, rfl⟩ := hmw
   exact fin id' m _ h4 id y hy hne
  .rw [ho]
   simp only [CG]
   rintro ⟨h', rfl, hmw⟩ id y hy hne
   obtain ⟨ti, kt, et, te, id', m, kd, h1, h2, h3, h4, h5, h6, h7, h8, _, rfl⟩ := hmw
   show AF id (match C3 kd m with | some _ => st.heap | none => _) = some y
   split
   .exact hy
   exact fin id' m _ h5 id y hy hne
  rw [ho]
  simp only [CG]
  rintro ⟨h', rfl, hmw⟩ id y hy hne
  obtain ⟨id', m, k1, n, vd, p, h1, h2, h3, h4, h5, h6, _, rfl⟩ := hmw
  exact fin id' m _ h2 id y hy hne
 unfold Cu at h
 split at h
 .exact key h
 split at h
 .split at h
  .exact key h
  obtain ⟨_, rfl⟩ := h; exact fun id x hx _ => hx
 .obtain ⟨_, rfl⟩ := h; exact fun id x hx _ => hx
 exact h.elim
theorem Vv {b : Nat -> Bool} (hb0 : AB.calm = some b) {st st' : St} {o : Oper} {l : LV} {e : Ds} (hld : ∃ t x, o.op = .load t x) (hnt : st.nt = st'.nt) (hs : ∀ t ∈ o.looksAt ops, Bj st.slots t = Bj st'.slots t)
  (hm : ∀ id cells, b id = false -> AF id st.heap = some (.box cells) -> AF id st'.heap = some (.box cells)) (h : Cu P AB ops st o l e) : Cu P AB ops st' o l e := by
 have hop := El hnt hs
 have key : CG P AB st o.op l e -> CG P AB st' o.op l e := by
  obtain ⟨t, x, ho⟩ := hld
  rw [ho] at hop ⊢
  simp only [CG]
  rintro ⟨h1, hc', ti, h2, h3⟩
  have he : st.eval x = st'.eval x := hop x (by simp [Op.operands])
  rw [<- he]
  refine ⟨h1, hc', ti, h2, ?_⟩
  rw [hb0] at hc'
  unfold Fx at h3 ⊢
  split at h3
  .rename_i hx; simp only [hx]; exact h3
  .rename_i id off hx
   obtain ⟨cells, r, g1, g2⟩ := h3
   simp only [hx]
   simp only [hx, LA] at hc'
   exact ⟨cells, r, hm _ _ (by simpa using hc') g1, g2⟩
  .rename_i id i off hx
   simp only [hx, LA, Bool.false_eq_true] at hc'
  exact h3.elim
 unfold Cu at *
 split at h
 .exact key h
 rename_i j want hg
 rw [<- Gw hnt hs hg]
 split at h
 .rename_i hb
  split at h
  .rw [if_pos ‹_›]; exact key h
  rw [if_neg ‹_›]; exact h
 .exact h
 exact h.elim
theorem XP {b : Nat -> Bool} (hb0 : AB.calm = some b) {st : St} {o : Oper} {l : LV} {e : Ds} (hfr : AF st.ctr st.heap = none) (hmu : (∃ t x v, o.op = .store t x v) \/ ∃ c, o.op = .call c /\ (c.callee = .builtin .append \/ ∃ f, c.callee = .value f /\ Cs f = true)) (h : Cu P AB ops st o l e) :
  ∀ id cells, b id = false -> AF id st.heap = some (.box cells) -> AF id (e.ap st.ctr st.heap) = some (.box cells) := by
 have key : CG P AB st o.op l e -> ∀ id cells, b id = false -> AF id st.heap = some (.box cells) -> AF id (e.ap st.ctr st.heap) = some (.box cells) := by
  intro h id cells hid hl
  rcases hmu with ⟨t, x, v, ho⟩ | ⟨c, ho, hcal⟩
  .rw [ho] at h
   simp only [CG] at h
   obtain ⟨hc', h', rfl, ti, h1, hs⟩ := h
   rw [hb0] at hc'
   unfold JD at hs
   obtain ⟨ls, g1, g2, g3, hs⟩ := hs
   split at hs
   .rename_i id' off hx
    obtain ⟨cells', q1, q2, _, rfl⟩ := hs
    rw [hx] at hc'
    simp only [J2] at hc'
    show AF id (Bo id' _ st.heap) = _
    rw [DN (fun e2 => by rw [e2, hc'] at hid; cases hid)]; exact hl
   .rename_i hx
    first
    | exact hs.elim
    | (simp only [hx, J2, Bool.false_eq_true] at hc')
   all_goals first
    | exact hs.elim
    | (rename_i hx; simp only [hx, J2, Bool.false_eq_true] at hc')
  obtain ⟨callee, args, ats⟩ := c
  simp only at hcal
  rcases hcal with hcal | ⟨f, hcal, hd⟩
  rotate_left
  .subst hcal
   rw [ho] at h
   simp only [CG, hd, if_true] at h
   obtain ⟨h', rfl, f', k, caps, _, _, _, _, g5⟩ := h
   have hne : id ≠ st.ctr := fun e2 => by rw [e2, hfr] at hl; cases hl
   exact g5 b hb0 id cells hne hid hl
  subst hcal
  rw [ho] at h
  simp only [CG, mW] at h
  obtain ⟨h', rfl, _, s, x, t, g1, g2, ti, e', te, q1, q2, q3, q4, new, q5, q6, hs⟩ := h
  have hne : id ≠ st.ctr := fun e2 => by rw [e2, hfr] at hl; cases hl
  show AF id h' = _
  split at hs
  .obtain ⟨_, _, _, rfl⟩ := hs
   simp only [AF, if_neg hne]; exact hl
  .rename_i id' sz off len hx
   obtain ⟨elems, _, hrow, _, _, _, _, rfl⟩ := hs
   have hne2 : id ≠ id' := fun e2 => by rw [e2, hrow] at hl; cases hl
   simp only [AF, if_neg hne]
   rw [DL hne2]; exact hl
  exact hs.elim
 unfold Cu at h
 split at h
 .exact key h
 split at h
 .split at h
  .exact key h
  obtain ⟨_, rfl⟩ := h; exact fun id x _ hx => hx
 .obtain ⟨_, rfl⟩ := h; exact fun id x _ hx => hx
 exact h.elim
theorem Oz (q : Bool) (hq : q = true -> ∃ b, AB.calm = some b) {i : Nat} {oi : Oper} {l : LV} {e : Ds} (hi : ops[i]? = some oi) (B : Nat -> Bool)
  (hB : ∀ j, B j = true -> j ≠ i /\ ∀ oj, ops[j]? = some oj -> ∃ x ∈ oj.after, Region.binds md x = true /\ (x.on = i \/ B x.on = true)) :
  ∀ (fuel : Nat) (listed : Array Bool) (st : St), (∀ j, B j = true -> listed.getD j false = false) ->
   (∀ j oj, ops[j]? = some oj -> j ≠ i -> listed.getD j true = false -> B j = false -> oi.apart ops oj = true /\ Pr q oi.op oj.op = true /\ (AB.own = true -> Pp oi.op oj.op = true)) ->
   (∀ k, listed.getD k true = false -> AF (base + k) st.heap = none) ->
   i ∈ Region.ready md ops listed -> Cu P AB ops (st.at (base + i)) oi l e ->
   HW P AB md ops base Q fuel (listed.setIfInBounds i true) (apS st (base + i) oi l e) -> HW P AB md ops base Q (fuel + 1) listed st := by
 intro fuel
 induction fuel with
 | zero =>
  intro listed st _ _ _ hr hy H
  refine ⟨fun h => (by rw [h] at hr; cases hr), fun j hj => ?_⟩
  by_cases hji : j = i
  .subst hji; exact ⟨oi, l, e, hi, hy, H⟩
  have := ready_mono hj hji
  rw [H.1] at this
  cases this
 | succ fuel ih =>
  intro listed st hBl hfree hfresh hr hy H
  refine ⟨fun h => (by rw [h] at hr; cases hr), fun j hj => ?_⟩
  by_cases hji : j = i
  .subst hji; exact ⟨oi, l, e, hi, hy, H⟩
  obtain ⟨oj, lj, ej, hoj, h1, h2⟩ := H.2 j (ready_mono hj hji)
  obtain ⟨hjun, oj', hoj', hall⟩ := mem_ready.1 hj
  rw [hoj] at hoj'; cases hoj'
  have hiun : listed.getD i true = false := (mem_ready.1 hr).1
  have hiF : listed.getD i false = false := by
   rcases Nat.lt_or_ge i listed.size with h' | h'
   .simp [h'] at hiun ⊢; exact hiun
   simp [Array.getElem?_eq_none h']
  have hjB : B j = false := by
   rcases hb : B j with _ | _
   .rfl
   obtain ⟨_, hb2⟩ := hB j hb
   obtain ⟨x, hx, hxb, hxo⟩ := hb2 oj hoj
   have := hall x hx hxb
   rcases hxo with hxo | hxo
   .rw [hxo, hiF] at this; cases this
   rw [hBl _ hxo] at this; cases this
  obtain ⟨hap, hcp, hwp⟩ := hfree j oj hoj hji hjun hjB
  obtain ⟨a1, a2, a3⟩ := Oper.apart_spec hap
  simp only [Pr, Bool.or_eq_true] at hcp
  have hwi : BQ oi.op ≠ .w := by
   rcases hcp with hcp | hcp
   .intro e; rw [e] at hcp; simp [Mt] at hcp
   rw [(Gx hcp).1]; simp
  have hwj : BQ oj.op = .w -> BQ oi.op = .n \/ Mu q oi.op oj.op = true := by
   intro e
   rcases hcp with hcp | hcp
   .rw [e] at hcp; cases hq : BQ oi.op <;> rw [hq] at hcp <;> simp [Mt] at hcp ⊢
   exact .inr hcp
  have hnr : BQ oj.op = .w -> BQ oi.op = .n \/ BQ oi.op = .r := fun e => (hwj e).imp id fun h => (Gx h).1
  have hcp : BQ oj.op ≠ .w -> Mt (BQ oi.op) (BQ oj.op) = true := fun e => hcp.resolve_right fun h => e (Gx h).2.1
  have hkp : BQ oi.op = .n \/ BQ oi.op = .r -> BQ oj.op = .r \/ BQ oj.op = .w -> e = .keep := fun hc hj => Vu hy hc fun ho => by
   rcases hj with hj | hj
   .have := hwp ho
    simp only [Pp, hj, ne_eq, not_true_eq_false, decide_false, Bool.or_false, Bool.not_eq_true'] at this
    exact this
   rcases hwj hj with h | h
   .cases hq : LF oi.op with
    | false => rfl
    | true =>
     rw [T1 hq] at h
     cases h
   obtain ⟨_, _, ⟨t, x, h⟩, _⟩ := Gx h
   rw [h]; rfl
  have back : ∃ ej', Cu P AB ops (st.at (base + j)) oj lj ej' /\ (∀ id, AF id (ej.ap (base + j) (apS st (base + i) oi l e).heap) = AF id (ej'.ap (base + j) (apS st (base + i) oi l e).heap)) /\ (BQ oj.op ≠ .w -> ej' = ej) := by
   have hsl : ∀ t ∈ oj.looksAt ops, Bj ((apS st (base + i) oi l e).at (base + j)).slots t = Bj (st.at (base + j)).slots t := fun t ht => by
    show Bj (apS st (base + i) oi l e).slots t = Bj st.slots t
    rw [Cp, if_neg]
    intro e'; exact a1 t e' ht
   by_cases hcw : BQ oj.op = .w
   .have : e = .keep := hkp (hnr hcw) (.inr hcw)
    subst this
    have heq : FZ ((apS st (base + i) oi l .keep).at (base + j)) { (st.at (base + j)) with slots := (apS st (base + i) oi l .keep).slots } := ⟨by simp [St.at, Fa], fun _ => rfl, fun id => by simp [St.at, Bm, Ds.ap]⟩
    obtain ⟨ej', k1, k2⟩ := Uw heq rfl h1
    have h3 : ∃ e3, Cu P AB ops (st.at (base + j)) oj lj e3 /\ ∀ id, AF id (ej'.ap (base + j) st.heap) = AF id (e3.ap (base + j) st.heap) :=
     Ux (st := { (st.at (base + j)) with slots := (apS st (base + i) oi l .keep).slots }) (st' := st.at (base + j)) hcw rfl hsl rfl (fun _ => rfl) k1
    obtain ⟨e3, g1, g2⟩ := h3
    refine ⟨e3, g1, fun id => ?_, fun hne => absurd hcw hne⟩
    have e1 : (apS st (base + i) oi l .keep).heap = st.heap := by rw [Bm]; rfl
    have k : AF id (ej.ap (base + j) (apS st (base + i) oi l .keep).heap) = AF id (ej'.ap (base + j) st.heap) := k2 id
    rw [k, e1]; exact g2 id
   refine ⟨ej, ?_, fun _ => rfl, fun _ => rfl⟩
   refine Ll (st := (apS st (base + i) oi l e).at (base + j)) (st' := st.at (base + j)) hcw (by simp [St.at, Fa]) hsl rfl (fun hcr => ?_) h1
   have : e = .keep := by
    refine hkp ?_ (.inl hcr)
    have hcp := hcp hcw
    rw [hcr] at hcp
    cases hq : BQ oi.op <;> rw [hq] at hcp <;> simp [Mt] at hcp ⊢
   subst this
   intro id o ho
   have ho' : AF id (apS st (base + i) oi l .keep).heap = some o := ho
   rw [Bm] at ho'; exact ho'
  obtain ⟨ej', back, hej, hsame⟩ := back
  have keep : Cu P AB ops ((apS st (base + j) oj lj ej').at (base + i)) oi l e := by
   by_cases hsp : Mu q oi.op oj.op = true
   .obtain ⟨_, _, hld, hmu⟩ := Gx hsp
    rcases hmu with hmu | ⟨hqt, hmu⟩
    rotate_left
    .obtain ⟨b, hb0⟩ := hq hqt
     refine Vv hb0 (st := st.at (base + i)) (st' := (apS st (base + j) oj lj ej').at (base + i)) hld (by simp [St.at, Fa]) (fun t ht => ?_) (fun id cells hid hx => ?_) hy
     .show Bj st.slots t = Bj (apS st (base + j) oj lj ej').slots t
      rw [Cp, if_neg]
      intro e'; exact a3 t e' ht
     show AF id (apS st (base + j) oj lj ej').heap = some _
     rw [Bm]
     exact XP hb0 (hfresh j hjun) hmu back id cells hid hx
    refine XO (st := st.at (base + i)) (st' := (apS st (base + j) oj lj ej').at (base + i)) hld (by simp [St.at, Fa]) (fun t ht => ?_) (fun id x hx hne => ?_) hy
    .show Bj st.slots t = Bj (apS st (base + j) oj lj ej').slots t
     rw [Cp, if_neg]
     intro e'; exact a3 t e' ht
    show AF id (apS st (base + j) oj lj ej').heap = some x
    rw [Bm]
    exact X5 hmu back id x hx hne
   refine Ll (st := st.at (base + i)) (st' := (apS st (base + j) oj lj ej').at (base + i)) hwi (by simp [St.at, Fa]) (fun t ht => ?_) rfl (fun hcr => ?_) hy
   .show Bj st.slots t = Bj (apS st (base + j) oj lj ej').slots t
    rw [Cp, if_neg]
    intro e'; exact a3 t e' ht
   intro id o ho
   show AF id (apS st (base + j) oj lj ej').heap = some o
   rw [Bm]
   have hnw : BQ oj.op ≠ .w := fun hc => by rw [(hwj hc).resolve_right hsp] at hcr; cases hcr
   rcases Ni back hnw with rfl | ⟨x, rfl⟩
   .exact ho
   simp only [Ds.ap, AF]
   rw [if_neg]
   .exact ho
   intro e'; subst e'
   have := hfresh j hjun
   have ho' : AF (base + j) st.heap = some o := ho
   rw [this] at ho'; cases ho'
  have swap : FZ (apS (apS st (base + i) oi l e) (base + j) oj lj ej) (apS (apS st (base + j) oj lj ej') (base + i) oi l e) := by
   refine ⟨by simp [Fa], fun t => ?_, fun id => ?_⟩
   .rw [Cp, Cp, Cp, Cp]
    by_cases c1 : oi.dst = some t
    .have := a2 t c1
     simp [c1, this]
    rw [if_neg c1]; split <;> simp [c1]
   by_cases hcw : BQ oj.op = .w
   .have : e = .keep := hkp (hnr hcw) (.inr hcw)
    subst this
    have := hej id
    rw [Bm] at this
    rw [Bm, Bm, Bm, Bm]
    exact this
   have hs2 := hsame hcw
   subst hs2
   rw [Bm, Bm, Bm, Bm]
   rcases Ni back hcw with rfl | ⟨x, rfl⟩ <;> rcases Ni hy hwi with rfl | ⟨y, rfl⟩ <;> simp only [Ds.ap, AF]
   by_cases c1 : id = base + j
   .subst c1; simp [hji]
   simp [c1]
  refine ⟨oj, lj, ej', hoj, back, ?_⟩
  refine ih (listed.setIfInBounds j true) _ (fun k hk => ?_) (fun k ok hk hki hun hkB => ?_) (fun k hk => ?_) (ready_mono hr (Ne.symm hji)) keep ?_
  .rw [getD_set_ne false (fun e' => by subst e'; rw [hjB] at hk; cases hk)]; exact hBl k hk
  .refine hfree k ok hk hki ?_ hkB
   by_cases hjk : j = k
   .subst hjk; exact hjun
   rw [getD_set_ne true hjk] at hun; exact hun
  .have hjk : j ≠ k := by
    rintro rfl
    rcases Nat.lt_or_ge j listed.size with h' | h'
    .simp [h'] at hk
    simp [Array.getElem?_eq_none h'] at hk
   rw [Bm]
   have hk' : listed.getD k true = false := by rw [getD_set_ne true hjk] at hk; exact hk
   exact KW back (by simp only [St.at]; omega) (hfresh k hk')
  rw [Array.setIfInBounds_comm _ _ hji]
  exact Ln fuel _ _ _ swap h2
end
end Go.E
/- Drawn regions, the rule (Ge). Condition: the checks GC and mixedOrders, by kernel. -/
namespace Go.E
open Go Go.RowKit
def Lo (md : Region.Mode) (ops : Array Oper) (listed : Array Bool) (i : Nat) : List Nat :=
 (List.range ops.size).foldl (fun acc j => if !(j == i) && !(listed.getD j false) && (match ops[j]? with
  | some oj => oj.after.any fun x => Region.binds md x && (x.on == i || acc.contains x.on)
  | none => false) then j :: acc else acc) []
def Nj (q w : Bool) (md : Region.Mode) (ops : Array Oper) (listed : Array Bool) (i : Nat) (oi : Oper) (B : List Nat) : Bool :=
  (B.all fun j => !(j == i) && !(listed.getD j false) && match ops[j]? with
    | some oj => oj.after.any fun x => Region.binds md x && (x.on == i || B.contains x.on)
    | none => false) &&
  ((List.range ops.size).all fun j => j == i || listed.getD j true || B.contains j || match ops[j]? with
    | some oj => oi.apart ops oj && (Pr q oi.op oj.op && (!w || Pp oi.op oj.op))
    | none => true)
def GC (q w : Bool) (md : Region.Mode) (ops : Array Oper) : List Nat -> Array Bool -> Bool
 | [], listed => (Region.ready md ops listed).isEmpty
 | i :: rest, listed => (match ops[i]? with
  | none => false
  | some oi => (Region.ready md ops listed == [i]) || ((Region.ready md ops listed).contains i && Nj q w md ops listed i oi (Lo md ops listed i))) &&
  GC q w md ops rest (listed.setIfInBounds i true)
def Fy (P : Program) (AB : Ax) (ops : Array Oper) (base : Nat) (K : St -> Prop) : List Nat -> St -> Prop
 | [], st => K st
 | i :: rest, st => match ops[i]? with
  | none => False
  | some o => match o.guard with
   | none => ∃ l e, CG P AB (st.at (base + i)) o.op l e /\ Fy P AB ops base K rest (apS st (base + i) o l e)
   | some (j, want) => match DM st ops j with
    | .p (.bool b) => (b = want -> ∃ l e, CG P AB (st.at (base + i)) o.op l e /\ Fy P AB ops base K rest (apS st (base + i) o l e)) /\
      (b = !want -> Fy P AB ops base K rest (apS st (base + i) o .und .keep))
    | .und => Fy P AB ops base K rest (apS st (base + i) o .und .keep)
    | _ => False
section
variable {P : Program} {A : BF} {AB : Ax} {md : Region.Mode} {ops : Array Oper} {base : Nat} {K : St -> Prop}
theorem Lp {i : Nat} {rest : List Nat} {st : St} (h : Fy P AB ops base K (i :: rest) st) :
  ∃ o l e, ops[i]? = some o /\ Cu P AB ops (st.at (base + i)) o l e /\ Fy P AB ops base K rest (apS st (base + i) o l e) := by
 simp only [Fy] at h
 split at h
 .exact h.elim
 rename_i o ho
 split at h
 .rename_i hg
  obtain ⟨l, e, h1, h2⟩ := h
  exact ⟨o, l, e, ho, by unfold Cu; rw [hg]; exact h1, h2⟩
 rename_i j want hg
 have hgl : DM (st.at (base + i)) ops j = DM st ops j := rfl
 split at h
 .rename_i b hb
  by_cases e : b = want
  .obtain ⟨l, e', h1, h2⟩ := h.1 e
   exact ⟨o, l, e', ho, by unfold Cu; rw [hg]; simp only [hgl, hb]; rw [if_pos e]; exact h1, h2⟩
  exact ⟨o, .und, .keep, ho, by unfold Cu; rw [hg]; simp only [hgl, hb]; rw [if_neg e]; simp, h.2 (by cases b <;> cases want <;> simp_all)⟩
 .rename_i hb
  exact ⟨o, .und, .keep, ho, by unfold Cu; rw [hg]; simp [hgl, hb], h⟩
 exact h.elim
theorem HH (q : Bool) (hq : q = true -> ∃ b, AB.calm = some b) : ∀ (order : List Nat) (listed : Array Bool) (st : St), GC q AB.own md ops order listed = true -> (∀ k, listed.getD k true = false -> AF (base + k) st.heap = none) ->
  Fy P AB ops base K order st -> HW P AB md ops base K order.length listed st
 | [], listed, st, hok, _, h => ⟨by simpa [GC] using hok, st, FZ.refl st, h⟩
 | i :: rest, listed, st, hok, hfresh, h => by
  obtain ⟨o, l, e, ho, hd, hrest⟩ := Lp h
  simp only [GC, ho, Bool.and_eq_true, Bool.or_eq_true] at hok
  have hrec : HW P AB md ops base K rest.length (listed.setIfInBounds i true) (apS st (base + i) o l e) := by
   refine HH q hq rest _ _ hok.2 (fun k hk => ?_) hrest
   have hik : i ≠ k := by
    rintro rfl
    rcases Nat.lt_or_ge i listed.size with h' | h'
    .simp [h'] at hk
    simp [Array.getElem?_eq_none h'] at hk
   rw [Bm]
   exact KW hd (by simp only [St.at]; omega) (hfresh k (by rw [getD_set_ne true hik] at hk; exact hk))
  rcases hok.1 with h1 | h1
  .have hr : Region.ready md ops listed = [i] := by simpa using h1
   refine ⟨fun h0 => (by rw [hr] at h0; cases h0), fun j hj => ?_⟩
   rw [hr] at hj
   simp at hj
   subst hj
   exact ⟨o, l, e, ho, hd, hrec⟩
  obtain ⟨h1, h2⟩ := h1
  simp only [Nj, Bool.and_eq_true, List.all_eq_true, List.mem_range] at h2
  obtain ⟨h2, h3⟩ := h2
  generalize hBe : Lo md ops listed i = B at h2 h3
  refine Oz q hq ho (fun j => B.contains j) (fun j hj => ?_) rest.length listed st (fun j hj => ?_) (fun j oj hoj hji hun hBj => ?_) hfresh (by simpa using h1) hd hrec
  .have := h2 j (by simpa using hj)
   obtain ⟨⟨a1, a2⟩, a3⟩ := this
   refine ⟨by simpa using a1, fun oj hoj => ?_⟩
   rw [hoj] at a3
   obtain ⟨x, hx, hx2⟩ := Array.any_eq_true'.1 a3
   simp only [Bool.and_eq_true, Bool.or_eq_true, beq_iff_eq] at hx2
   exact ⟨x, hx, hx2.1, hx2.2⟩
  .have := (h2 j (by simpa using hj)).1.2
   simpa using this
  have := h3 j (Array.getElem?_eq_some_iff.1 hoj).1
  simp only [Bool.or_eq_true, beq_iff_eq, hji, false_or, hun, Bool.false_eq_true] at this
  rw [hBj] at this
  simp only [Bool.false_eq_true, false_or, hoj, Bool.and_eq_true] at this
  refine ⟨this.1, this.2.1, fun ho => ?_⟩
  have := this.2.2
  rw [ho] at this; simpa using this
theorem Vw {μ : Nat -> Option BX} {h h' : AN} (he : ∀ id, AF id h = AF id h') : B3 μ h = B3 μ h' := by
 funext b; simp only [B3, he]
theorem RF.eqv {F : Nat -> Prop} {st st' : St} {a : Act} {w : World} (h : RF A F st a w) (he : FZ st st') : RF A F st' a w := by
 obtain ⟨⟨μ, hh, hs⟩, hnt, hdef⟩ := h
 have hm : B3 μ st.heap = B3 μ st'.heap := Vw he.heap
 have ho : Ad A μ st.heap = Ad A μ st'.heap := by funext b; simp only [Ad, hm]
 refine ⟨⟨μ, ⟨?_, ?_, hh.fresh, ?_, hh.size, hh.block, hh.os, hh.tape, hh.output, hh.ext⟩, fun t ht => ?_⟩, by rw [<- he.nt]; exact hnt, hdef⟩
 .rw [<- ho]; intro id o; rw [<- he.heap]; exact hh.obj id o
 .intro id id' o o' loc loc'; rw [<- he.heap, <- he.heap]; exact hh.inj id id' o o' loc loc'
 .intro id o loc; rw [<- he.heap]; exact hh.base id o loc
 rw [<- ho, <- he.slots]; exact hs t (by rw [he.nt]; exact ht)
def Fl (base n : Nat) (listed : Array Bool) (id : Nat) : Prop := base + n <= id \/ ∃ i, i < n /\ listed.getD i true = false /\ id = base + i
theorem HI (hE : Ay P AB) {n : Nat} (hn : n = ops.size) {Q' : Exit -> Act -> World -> Prop} (hQ : ∀ st a w listed, K st -> RF A (Fl base n listed) st a w -> Q' .normal a w) :
  ∀ (fuel : Nat) (listed : Array Bool) (st : St) (a : Act) (w : World), listed.size = n -> HW P AB md ops base K fuel listed st -> RF A (Fl base n listed) st a w -> wpAny P md ops Q' fuel listed a w
 | 0, listed, st, a, w, _, ⟨h1, st', he, hk⟩, hR => ⟨h1, hQ st' a w listed hk (hR.eqv he)⟩
 | fuel + 1, listed, st, a, w, hsz, ⟨h1, h2⟩, hR => by
  refine ⟨fun h0 => ?_, fun i hi => ?_⟩
  .obtain ⟨st', he, hk⟩ := h1 h0
   exact hQ st' a w listed hk (hR.eqv he)
  obtain ⟨o, l, e, ho, hd, hrec⟩ := h2 i hi
  have hun := (mem_ready.1 hi).1
  have hlt : i < n := by rw [hn]; exact (Array.getElem?_eq_some_iff.1 ho).1
  refine OK (st := st.at (base + i)) hE ho ⟨hR.ex, hR.nt, hR.defers⟩ (.inr ⟨i, hlt, hun, rfl⟩) ⟨base + n, fun q hq => .inl hq⟩ hd fun a' w' hR' => ?_
  refine HI hE hn hQ fuel _ _ _ _ (by simpa using hsz) hrec ?_
  have hR'' : RF A (fun id => Fl base n listed id /\ id ≠ base + i) (apS st (base + i) o l e) a' w' := by
   obtain ⟨⟨μ, x1, x2⟩, x3, x4⟩ := hR'
   refine ⟨⟨μ, ?_, fun t ht => ?_⟩, ?_, x4⟩
   .rw [Bm] at x1 ⊢; exact x1
   .have := x2 t (by rw [Fa] at ht ⊢; exact ht)
    rw [Bm, Cp] at this
    rw [Bm, Cp]; exact this
   rw [Fa] at x3 ⊢; exact x3
  obtain ⟨⟨μ, x1, x2⟩, x3, x4⟩ := hR''
  refine ⟨⟨μ, x1.less fun id hid => ?_, x2⟩, x3, x4⟩
  rcases hid with hid | ⟨k, hk1, hk2, rfl⟩
  .exact ⟨.inl hid, by omega⟩
  have hik : i ≠ k := by
   rintro rfl
   simp [show i < listed.size by omega] at hk2
  exact ⟨.inr ⟨k, hk1, by rw [getD_set_ne true hik] at hk2; exact hk2, rfl⟩, by omega⟩
theorem AZ.drawn {O : Nat -> Prop} {μ : Nat -> Option BX} {w : World} {v : Value} {l : LV} (n : Nat) (h : AZ O μ w v l) : AZ O μ { w with drawn := n } v l :=
 AZ.mono (w := w) (w' := { w with drawn := n }) ⟨Nat.le_refl _, fun _ _ _ => rfl⟩ (fun _ _ hb => hb) (fun _ _ h => h) h
theorem R.drawn {st : St} {a : Act} {w : World} (n : Nat) (h : R A st a w) : R A st a { w with drawn := n } := by
 obtain ⟨⟨μ, hh, hs⟩, hnt, hdef⟩ := h
 refine ⟨⟨μ, ⟨fun id o ho => ?_, hh.inj, hh.fresh, hh.base, hh.size, hh.block, hh.os, hh.tape, hh.output, hh.ext⟩, fun t ht => (hs t ht).drawn n⟩, hnt, hdef⟩
 obtain ⟨loc, h1, h2⟩ := hh.obj id o ho
 exact ⟨loc, h1, Df.mono (w := w) (w' := { w with drawn := n }) ⟨Nat.le_refl _, fun _ _ _ => rfl⟩ (fun _ _ hb => hb) (fun _ _ h => h) (fun _ => rfl) h2⟩
theorem Ge (q : Bool) (hq : q = true -> ∃ b, AB.calm = some b) (hE : Ay P AB) (hm : P.follows .mixedOrders = true) {id : Nat} {l : List Oper} {order : List Nat} (hok : GC q AB.own .any l.toArray order (Array.replicate l.length false) = true)
  (hlen : order.length = l.length) {st : St} {Q : Exit -> St -> Prop} (h : Fy P AB l.toArray st.ctr (fun st' => Q .normal { st' with ctr := st.ctr + l.length }) order st) :
  B2 P A (.region id l.toArray true) Q st := fun a w hR => by
 refine wp_region_any hm ?_
 have hR' := (hR.drawn (w.drawn + 1)).toRF
 have hfr : ∀ k, AF (st.ctr + k) st.heap = none := by
  intro k
  cases hx : AF (st.ctr + k) st.heap with
  | none => rfl
  | some o =>
   obtain ⟨⟨μ, hh, _⟩, _, _⟩ := hR
   obtain ⟨loc, h1, _⟩ := hh.obj _ _ hx
   rw [hh.fresh _ (by simp [Fr])] at h1; cases h1
 have hD := HH q hq order (Array.replicate l.length false) st hok (fun k _ => hfr k) h
 have hsz : l.toArray.size = order.length := by simp [hlen]
 rw [hsz]
 have hrep : Array.replicate order.length false = Array.replicate l.length false := by rw [hlen]
 rw [hrep]
 refine HI (A := A) (n := l.length) hE (by simp) (fun st' a' w' listed hk hR'' => ?_) order.length _ st a _ (by simp) hD ?_
 .refine ⟨_, ?_, hk⟩
  obtain ⟨⟨μ, x1, x2⟩, x3, x4⟩ := hR''
  exact ⟨⟨μ, x1.less fun id hid => .inl hid, x2⟩, x3, x4⟩
 obtain ⟨⟨μ, x1, x2⟩, x3, x4⟩ := hR'
 refine ⟨⟨μ, x1.less fun id hid => ?_, x2⟩, x3, x4⟩
 rcases hid with hid | ⟨k, _, _, rfl⟩
 .simp only [Fr]; omega
 simp [Fr]
end
end Go.E
/- Equality and keys of flat structs; operations in a short form, for the walk of a function. No condition. -/
namespace Go.E
open Go Go.RowKit
def FA : Option TypeDesc -> Sh -> Bool
 | some (.int j), .int j' => j == j'
 | some .string, .str => true
 | some .bool, .bool => true
 | _, _ => false
def Em (P : Program) : List Field -> Nat -> List Sh -> Bool
 | [], _, [] => true
 | f :: fs, off, k :: ks => f.name != "_" && f.offset == off && FA (P.underlying f.type) k && Em P fs (off + 1) ks
 | _, _, _ => false
section
variable {P : Program}
theorem JY {t : TypeId} {k : Sh} (h : FA (P.underlying t) k = true) {xs : Array Value} {off : Nat} {v : Value} (hx : xs[off]? = some v) (w : World) : (part t xs off).run P w = .ok v w := by
 cases hu : P.underlying t with
 | none => rw [hu] at h; simp [FA] at h
 | some d =>
  rw [hu] at h
  cases d <;> simp [FA] at h <;> simp [part, isAgg, run_underlying hu, hx]
theorem Ps {t : TypeId} {k : Sh} {a b : DV} (h : FA (P.underlying t) k = true) (ha : Cl k a = true) (hb : Cl k b = true) (d : Nat) (w : World) :
  (Op.equalIn (d + 1) t (flatV a) (flatV b)).run P w = .ok (Di a b) w := by
 cases hu : P.underlying t with
 | none => rw [hu] at h; simp [FA] at h
 | some dd =>
  rw [hu] at h
  cases dd <;> cases k <;> simp [FA] at h <;> cases a <;> simp only [Cl, Bool.false_eq_true] at ha <;> cases b <;> simp only [Cl, Bool.false_eq_true] at hb
  .simp [flatV, Di, Op.equalIn, run_underlying hu]
  .simp only [beq_iff_eq] at ha hb
   subst ha; subst hb
   simp [flatV, Di, Op.equalIn, run_underlying hu]
  simp [flatV, Di, Op.equalIn, run_underlying hu, beq_toListBytes]
theorem Ji (d : Nat) (w : World) (xs ys : List DV) : ∀ (fs : List Field) (off : Nat) (ks : List Sh) (xa bs : List DV), Em P fs off ks = true -> xs.drop off = xa -> ys.drop off = bs -> fits ks xa = true -> fits ks bs = true ->
  (Op.eqFields (d + 1) (xs.map flatV).toArray (ys.map flatV).toArray fs).run P w = .ok (Ci xa bs) w
 | [], off, [], [], [], _, _, _, _, _ => by simp [Op.eqFields, Ci]
 | f :: fs, off, k :: ks, a :: xa, b :: bs, hB, hx, hy, ha, hb => by
  simp only [Em, Bool.and_eq_true, bne_iff_ne, ne_eq, beq_iff_eq] at hB
  simp only [fits, Bool.and_eq_true] at ha hb
  obtain ⟨⟨⟨h1, h2⟩, h3⟩, h4⟩ := hB
  have ex : xs[off]? = some a := by
   have := congrArg List.head? hx
   rw [List.head?_drop] at this; exact this
  have ey : ys[off]? = some b := by
   have := congrArg List.head? hy
   rw [List.head?_drop] at this; exact this
  have hx' : xs.drop (off + 1) = xa := by rw [<- List.tail_drop, hx]; rfl
  have hy' : ys.drop (off + 1) = bs := by rw [<- List.tail_drop, hy]; rfl
  have ih := Ji d w xs ys fs (off + 1) ks xa bs h4 hx' hy' ha.2 hb.2
  have px := JY (w := w) h3 (xs := (xs.map flatV).toArray) (off := off) (v := flatV a) (by simp [ex])
  have py := JY (w := w) h3 (xs := (ys.map flatV).toArray) (off := off) (v := flatV b) (by simp [ey])
  have pe := Ps h3 ha.1 hb.1 d w
  simp only [Op.eqFields, h1, h2, ne_eq, not_false_eq_true, if_true, Sem.run_bind, px, py, pe, Result.andThen_ok, Ci]
  cases Di a b with
  | true => simpa using ih
  | false => simp
 | [], _, _ :: _, _, _, hB, _, _, _, _ => by simp [Em] at hB
 | _ :: _, _, [], _, _, hB, _, _, _, _ => by simp [Em] at hB
 | [], _, [], _ :: _, _, _, _, _, ha, _ => by simp [fits] at ha
 | [], _, [], [], _ :: _, _, _, _, _, hb => by simp [fits] at hb
 | _ :: _, _, _ :: _, [], _, _, _, _, ha, _ => by simp [fits] at ha
 | _ :: _, _, _ :: _, _ :: _, [], _, _, _, _, hb => by simp [fits] at hb
theorem Mv {t : TypeId} {ks : List Sh} (hu : P.underlying t = some (.struct (P.fieldsOf t))) (hp : P.stoodInHeld t = false) (hg : P.eqGuardType P.depth t = false)
  (hf : Em P (P.fieldsOf t).toList 0 ks = true) : OM P t ks :=
 ⟨hg, fun w ds es h1 h2 => by
  show (Op.equalIn (9999 + 1) t _ _).run P w = _
  rw [run_equalIn_struct w 9999 t _ _ hu hp]
  exact Ji 9998 w ds es _ 0 ks ds es hf rfl rfl h1 h2⟩
theorem J4 (em : Bool) (d : Nat) (w : World) (xs : List DV) : ∀ (fs : List Field) (off : Nat) (ks : List Sh) (xa : List DV), Em P fs off ks = true -> xs.drop off = xa -> fits ks xa = true ->
  (forIn fs PUnit.unit fun f (_ : PUnit) => (do
   if f.name ≠ "_" then Instr.checkKey em (d + 1) f.type (<- part f.type (xs.map flatV).toArray f.offset)
   pure (ForInStep.yield PUnit.unit) : Sem (ForInStep PUnit))).run P w = .ok PUnit.unit w
 | [], off, [], [], _, _, _ => by simp
 | f :: fs, off, k :: ks, a :: xa, hB, hx, ha => by
  simp only [Em, Bool.and_eq_true, bne_iff_ne, ne_eq, beq_iff_eq] at hB
  simp only [fits, Bool.and_eq_true] at ha
  obtain ⟨⟨⟨h1, h2⟩, h3⟩, h4⟩ := hB
  have ex : xs[off]? = some a := by
   have := congrArg List.head? hx
   rw [List.head?_drop] at this; exact this
  have hx' : xs.drop (off + 1) = xa := by rw [<- List.tail_drop, hx]; rfl
  have ih := J4 em d w xs fs (off + 1) ks xa h4 hx' ha.2
  have px := JY (w := w) h3 (xs := (xs.map flatV).toArray) (off := off) (v := flatV a) (by simp [ex])
  have pc : (Instr.checkKey em (d + 1) f.type (flatV a)).run P w = .ok () w := by
   cases hu : P.underlying f.type with
   | none => rw [hu] at h3; simp [FA] at h3
   | some dd =>
    rw [hu] at h3
    cases dd <;> simp [FA] at h3 <;> simp [Instr.checkKey, run_underlying hu]
  simp only [List.forIn_cons, Sem.run_bind, h1, ne_eq, not_false_eq_true, if_true, h2, px, pc, Result.andThen_ok, Sem.run_pure]
  exact ih
 | [], _, _ :: _, _, hB, _, _ => by simp [Em] at hB
 | _ :: _, _, [], _, hB, _, _ => by simp [Em] at hB
 | [], _, [], _ :: _, _, _, ha => by simp [fits] at ha
 | _ :: _, _, _ :: _, [], _, _, ha => by simp [fits] at ha
theorem T2 {t : TypeId} {ks : List Sh} (hu : P.underlying t = some (.struct (P.fieldsOf t))) (he : OM P t ks) (hf : Em P (P.fieldsOf t).toList 0 ks = true) : O0 P t ks := by
 refine ⟨he, by rw [hu]; trivial, fun em w ds h => ?_⟩
 show (Instr.checkKey em (9999 + 1) t _).run P w = _
 unfold Instr.checkKey
 simp only [Sem.run_bind, run_underlying hu, Result.andThen_ok]
 have := J4 (P := P) em 9998 w ds (P.fieldsOf t).toList 0 ks ds hf rfl h
 simp only [Array.forIn_toList] at this
 simp at this ⊢
 rw [this]; rfl
end
def St.keep (ts : List Nat) (st : St) : St := { st with slots := ts.map fun t => (t, Bj st.slots t) }
theorem QO {st : St} {t : Nat} : ∀ (ts : List Nat), AF t (ts.map fun t => (t, Bj st.slots t)) = if t ∈ ts then some (Bj st.slots t) else none
 | [] => by simp [AF]
 | u :: ts => by
  simp only [List.map_cons, AF]
  by_cases e : t = u
  .subst e; simp
  rw [if_neg e, QO ts]; simp [e]
theorem R.keep {A : BF} {st : St} {a : Act} {w : World} (ts : List Nat) (h : R A st a w) : R A (st.keep ts) a w := by
 obtain ⟨⟨μ, hh, hs⟩, hnt, hdef⟩ := h
 refine ⟨⟨μ, hh, fun t ht => ?_⟩, hnt, hdef⟩
 have : Bj (st.keep ts).slots t = if t ∈ ts then Bj st.slots t else .any := by
  show (match AF t (ts.map fun t => (t, Bj st.slots t)) with | some v => v | none => LV.any) = _
  rw [QO]
  by_cases e : t ∈ ts <;> simp [e]
 rw [this]
 split
 .exact hs t ht
 exact .any _
end Go.E
/- The walk of a function: operations in a short form (Dr), rules for the parts of a body, states made weaker (A6). No condition. -/
namespace Go.E
open Go Go.RowKit
structure Gy where
 dst : Option Tmp
 op : Op
 g : Option (Option Tmp × Bool)
def T4 (ops : List Oper) (j : Nat) : Option Tmp :=
 match ops[j]? with
 | some o => o.dst
 | none => none
def Mw (ops : List Oper) (o : Oper) : Gy :=
 ⟨o.dst, o.op, match o.guard with
  | none => none
  | some (j, w) => some (T4 ops j, w)⟩
structure Hq {α : Sort _} (a : α) : Type where
structure A0 (α : Type) where
 f : α -> Prop
 h : Hq f
def CM {α : Type} (o : Option α) (k : A0 α) : Prop :=
 match o with
 | some a => k.f a
 | none => False
def Q9 (x : LV) (k : A0 Bool) : Prop :=
 match x with
 | .p (.bool b) => k.f b
 | _ => False
def Lq (x : LV) (k : A0 (IntKind × Int)) : Prop :=
 match x with
 | .p (.int kk n) => k.f (kk, n)
 | _ => False
def QP (x : LV) (k : A0 DV) : Prop :=
 match x with
 | .p d => k.f d
 | _ => False
def Kx (s : Sh) (k : A0 Nat) : Prop :=
 match s with
 | .slc e => k.f e
 | _ => False
def Nl (s : Sh) (k : A0 (List (Nat × Nat))) : Prop :=
 match s with
 | .struct fs => k.f fs
 | _ => False
def Rf (s : Sh) (k : A0 (Nat × Nat)) : Prop :=
 match s with
 | .mp a b => k.f (a, b)
 | _ => False
def Cm (AB : Ax) (t : Nat) (k : A0 TI) : Prop := CM (AB.tt t) k
def Vx (x : LV) (k : A0 LV) : Prop :=
 match x with
 | .lpb i o => k.f (.lpb i o)
 | .lpe i j o => k.f (.lpe i j o)
 | .p (.place l o) => k.f (.p (.place l o))
 | _ => False
def LG (op : BinOp) (kk : IntKind) (a b : Int) (k : A0 LV) : Prop :=
 match op with
 | .quo | .rem => b ≠ 0 /\ CM (Hr op kk a b) ⟨fun v => k.f (.p v), ⟨⟩⟩
 | _ => CM (Hr op kk a b) ⟨fun v => k.f (.p v), ⟨⟩⟩
def Uy (neg : Bool) (empty : Prop) (k : A0 LV) : Prop := ∀ r, (¬ empty -> r = false) -> k.f (Hs neg r)
def TH (AB : Ax) (neg : Bool) (t : Nat) (x y : LV) (k : A0 LV) : Prop :=
 match x, y with
 | .p (.str a), .p (.str b) => k.f (Hs neg (a.toList == b.toList))
 | .p (.bool a), .p (.bool b) => Cm AB t ⟨fun ti => ti.sh = .bool /\ k.f (Hs neg (a == b)), ⟨⟩⟩
 | .p (.agg xs), .p (.agg ys) => CM (AB.eqk t) ⟨fun ks => fits ks xs = true /\ fits ks ys = true /\ k.f (Hs neg (Ci xs ys)), ⟨⟩⟩
 | .p (.slice _ l), .p .nils => Cm AB t ⟨fun ti => Kx ti.sh ⟨fun _ => Uy neg (l = []) k, ⟨⟩⟩, ⟨⟩⟩
 | .p .nils, .p .nils => Cm AB t ⟨fun ti => Kx ti.sh ⟨fun _ => k.f (Hs neg true), ⟨⟩⟩, ⟨⟩⟩
 | .lsl _ _ _ len, .p .nils => Cm AB t ⟨fun ti => Kx ti.sh ⟨fun _ => Uy neg (len = 0) k, ⟨⟩⟩, ⟨⟩⟩
 | .p (.place _ _), .p .nilp => AB.ptr t = true /\ k.f (Hs neg false)
 | .p .nilp, .p .nilp => AB.ptr t = true /\ k.f (Hs neg true)
 | .lpb _ _, .p .nilp => AB.ptr t = true /\ k.f (Hs neg false)
 | _, _ => False
def Pt (AB : Ax) (op : BinOp) (t : Nat) (x y : LV) (k : A0 LV) : Prop :=
 match x, y with
 | .p (.int k1 a), .p (.int k2 b) => k1 = k2 /\ LG op k1 a b k
 | x, y => match op with
  | .eql => TH AB false t x y k
  | .neq => TH AB true t x y k
  | _ => False
def Vy (x : LV) (i : Nat) (k : A0 LV) : Prop :=
 match x with
 | .tup l => CM l[i]? k
 | .p (.tup l) => CM l[i]? ⟨fun v => k.f (.p v), ⟨⟩⟩
 | _ => False
def Vz (x : LV) (k : A0 (List LV)) : Prop :=
 match x with
 | .agg l => k.f l
 | .p (.agg l) => k.f (l.map .p)
 | _ => False
def T5 (off : Nat) (x : LV) (k : A0 LV) : Prop :=
 match x with
 | .lpb id o => k.f (.lpb id (o + off))
 | .lpe id j o => k.f (.lpe id j (o + off))
 | .p (.place l o) => k.f (.p (.place l (o + off)))
 | _ => False
def J5 (AB : Ax) (place : Nat -> Option (Nat × Nat)) : List LV -> List (Nat × LV) -> A0 (List LV) -> Prop
 | cells, [], k => k.f cells
 | cells, (i, v) :: rest, k => CM (place i) ⟨fun p => Cm AB p.2 ⟨fun ti => CM v.cells ⟨fun ls => (ls.length = ti.size /\ p.1 + ls.length <= cells.length) /\
   J5 AB place (Ch cells p.1 ls) rest k, ⟨⟩⟩, ⟨⟩⟩, ⟨⟩⟩
def Mx (AB : Ax) (sh : Sh) (zero : List LV) (ps : List (Nat × LV)) (k : A0 (List LV)) : Prop :=
 match sh with
 | .struct fs => (fs.all fun p => (AB.tt p.2).isSome) = true /\ J5 AB (fun i => fs[i]?) zero ps k
 | .arr _ e => Cm AB e ⟨fun te => J5 AB (fun i => some (i * te.size, e)) zero ps k, ⟨⟩⟩
 | _ => False
def X6 (AB : Ax) (sh : Sh) (x : LV) (n : Int) (k : A0 LV) : Prop :=
 match sh, x with
 | .slc e, .p (.slice sz l) => Cm AB e ⟨fun te => te.size = sz /\ 0 <= n /\ CM l[n.toNat]? ⟨fun c => k.f (.p (.place c 0)), ⟨⟩⟩, ⟨⟩⟩
 | .slc e, .lsl id sz off len => Cm AB e ⟨fun te => te.size = sz /\ (0 <= n /\ n < len) /\ k.f (.lpe id (off + n.toNat) 0), ⟨⟩⟩
 | .arr m e, .lpb id o => Cm AB e ⟨fun te => (0 <= n /\ n < m) /\ k.f (.lpb id (o + n.toNat * te.size)), ⟨⟩⟩
 | .arr m e, .p (.place l o) => Cm AB e ⟨fun te => (0 <= n /\ n < m) /\ k.f (.p (.place l (o + n.toNat * te.size))), ⟨⟩⟩
 | _, _ => False
def X7 (AB : Ax) (sh : Sh) (x : LV) (n : Int) (k : A0 LV) : Prop :=
 match sh, x with
 | .arr m e, .agg l => Cm AB e ⟨fun te => n < m /\ CM (DT te (n.toNat * te.size) l) k, ⟨⟩⟩
 | .arr m e, .p (.agg l) => Cm AB e ⟨fun te => n < m /\ CM (DT te (n.toNat * te.size) (l.map .p)) k, ⟨⟩⟩
 | .str, .p (.str s) => CM s[n.toNat]? ⟨fun c => k.f (.p (.int .u8 c.toNat)), ⟨⟩⟩
 | _, _ => False
def Ky (dflt : Int) (x : Option LV) (k : A0 Int) : Prop :=
 match x with
 | none => k.f dflt
 | some (.p (.int _ n)) => k.f n
 | some _ => False
def My (AB : Ax) (t : Nat) (x : LV) (lo hi : Option LV) (k : A0 LV) : Prop :=
 match x with
 | .p (.slice sz l) => Cm AB t ⟨fun ti => Kx ti.sh ⟨fun e => Cm AB e ⟨fun te => te.size = sz /\ Ky l.length hi ⟨fun h => Ky 0 lo ⟨fun lw => (0 <= lw /\ lw <= h /\ h <= l.length) /\ k.f (.p (.slice sz ((l.take h.toNat).drop lw.toNat))), ⟨⟩⟩, ⟨⟩⟩, ⟨⟩⟩, ⟨⟩⟩, ⟨⟩⟩
 | .lsl id sz off len => Cm AB t ⟨fun ti => Kx ti.sh ⟨fun e => Cm AB e ⟨fun te => te.size = sz /\ len ≠ 0 /\ Ky len hi ⟨fun h => Ky 0 lo ⟨fun lw => (0 <= lw /\ lw <= h /\ h <= len) /\ k.f (.lsl id sz (off + lw.toNat) (h - lw).toNat), ⟨⟩⟩, ⟨⟩⟩, ⟨⟩⟩, ⟨⟩⟩, ⟨⟩⟩
 | .p (.str s) => Cm AB t ⟨fun ti => ti.sh = .str /\ Ky s.size hi ⟨fun h => Ky 0 lo ⟨fun lw => (0 <= lw /\ lw <= h /\ h <= s.size) /\ k.f (.p (.str (s.extract lw.toNat h.toNat))), ⟨⟩⟩, ⟨⟩⟩, ⟨⟩⟩
 | _ => False
def V0 (sh : Sh) (x : LV) (k : A0 LV) : Prop :=
 match sh, x with
 | .arr n _, _ => k.f (.p (.int .i64 n))
 | .slc _, .p (.slice _ l) => l.length <= maxLen -> k.f (.p (.int .i64 l.length))
 | .slc _, .p .nils => k.f (.p (.int .i64 0))
 | .slc _, .lsl _ _ _ len => k.f (.p (.int .i64 len))
 | .str, .p (.str s) => k.f (.p (.int .i64 s.size))
 | _, _ => False
def T6 (o : A1) (k : A0 (List LV)) : Prop :=
 match o with
 | .box cells => k.f cells
 | _ => False
def Rg (o : A1) (k : A0 (Nat × Nat × List (List DV))) : Prop :=
 match o with
 | .row e sz l => k.f (e, sz, l)
 | _ => False
def Pu (o : A1) (k : A0 (List (DV × DV))) : Prop :=
 match o with
 | .map m => k.f m
 | _ => False
def O2 (h : AN) (ti : TI) (p : LV) (k : A0 LV) : Prop :=
 match p with
 | .p (.place l off) => CM (DT ti off (l.map .p)) k
 | .lpb id off => CM (AF id h) ⟨fun o => T6 o ⟨fun cells => CM (DT ti off cells) k, ⟨⟩⟩, ⟨⟩⟩
 | .lpe id i off => CM (AF id h) ⟨fun o => Rg o ⟨fun r => CM r.2.2[i]? ⟨fun x => CM (DT ti off (x.map .p)) k, ⟨⟩⟩, ⟨⟩⟩, ⟨⟩⟩
 | _ => False
def Rh (h : AN) (ti : TI) (p : LV) (ls : List LV) (k : A0 AN) : Prop :=
 match p with
 | .lpb id off => CM (AF id h) ⟨fun o => T6 o ⟨fun cells => off + ls.length <= cells.length /\ k.f (Bo id (.box (Ch cells off ls)) h), ⟨⟩⟩, ⟨⟩⟩
 | .lpe id i off => CM (AF id h) ⟨fun o => Rg o ⟨fun r => CM r.2.2[i]? ⟨fun x => CM (GD ls) ⟨fun ds => off + ls.length <= x.length /\ k.f (Bo id (.row r.1 r.2.1 (r.2.2.set i (Ch x off ds))) h), ⟨⟩⟩, ⟨⟩⟩, ⟨⟩⟩, ⟨⟩⟩
 | _ => False
def St.go (st : St) (dst : Option Tmp) (l : LV) (h : AN) (c : Nat) : St := ({ st with heap := h, ctr := c } : St).put dst l
def Ri (st : St) (dst : Option Tmp) (e : Nat) (te : TI) (s : LV) (new : List (List DV)) (K : A0 St) : Prop :=
  match s with
  | .p .nils => (new.length * te.bytes <= 140737488355328 /\ new.length <= maxLen) /\ K.f (st.go dst (.lsl st.ctr te.size 0 new.length) ((st.ctr, .row e te.size new) :: st.heap) (st.ctr + 1))
  | .lsl id sz off len => sz = te.size /\ CM (AF id st.heap) ⟨fun o => Rg o ⟨fun r => (r.1 = e /\ r.2.1 = te.size /\ off + len <= r.2.2.length /\
        (len + new.length) * te.bytes <= 140737488355328 /\ len + new.length <= maxLen) /\ K.f (st.go dst (.lsl st.ctr te.size 0 (len + new.length)) ((st.ctr, .row e te.size ((r.2.2.drop off).take len ++ new)) :: Dy id st.heap) (st.ctr + 1)), ⟨⟩⟩, ⟨⟩⟩
  | _ => False
def Nm (x : LV) (k : A0 Nat) : Prop :=
 match x with
 | .lmap id => k.f id
 | _ => False
def LH (x : LV) (k : A0 (FuncId × List LV)) : Prop :=
 match x with
 | .fn f caps => k.f (f, caps)
 | _ => False
def Ht (P : Program) (A : BF) (h : AN) (ctr k : Nat) (args : List LV) (K : A0 (LV × AN × Nat)) : Prop := C2 P A h ctr k args fun l h c => K.f (l, h, c)
def Lr (P : Program) (A : BF) (AB : Ax) (st : St) (dst : Option Tmp) (c : Call) (K : A0 St) : Prop :=
 match c.callee, c.args.toList, c.argTypes.toList with
 | .value f, args, _ => LH (st.eval f) ⟨fun g => Ht P A st.heap st.ctr g.1 (args.map st.eval ++ g.2) ⟨fun r => K.f (st.go dst r.1 r.2.1 r.2.2), ⟨⟩⟩, ⟨⟩⟩
 | .builtin .append, [s, x], [t, t'] => t' = t /\ Cm AB t ⟨fun ti => Kx ti.sh ⟨fun e => Cm AB e ⟨fun te => 0 < te.size /\ CM (Jk st.heap (st.eval x)) ⟨fun new =>
   (∀ y ∈ new, y.length = te.size /\ y.all DV.cell = true) /\ Ri st dst e te (st.eval s) new K, ⟨⟩⟩, ⟨⟩⟩, ⟨⟩⟩, ⟨⟩⟩
 | .builtin .delete, [x, i], t :: _ => Cm AB t ⟨fun ti => Rf ti.sh ⟨fun m => Nm (st.eval x) ⟨fun id => CM (AF id st.heap) ⟨fun o => Pu o ⟨fun l => QP (st.eval i) ⟨fun kd =>
   (Bg AB m.1 kd = true /\ (l.all fun p => Bg AB m.1 p.1) = true) /\ K.f (st.go dst (.tup []) (Bo id (.map (Ls kd l)) st.heap) st.ctr), ⟨⟩⟩, ⟨⟩⟩, ⟨⟩⟩, ⟨⟩⟩, ⟨⟩⟩, ⟨⟩⟩
 | .builtin .len, [x], [t] => Cm AB t ⟨fun ti => V0 ti.sh (st.eval x) ⟨fun l => K.f (st.put dst l), ⟨⟩⟩, ⟨⟩⟩
 | .builtin .max, args, _ => CM (B0 (fun x y => if y > x then y else x) (args.map st.eval)) ⟨fun r => K.f (st.put dst (.p (.int r.1 r.2))), ⟨⟩⟩
 | .builtin .min, args, _ => CM (B0 (fun x y => if y < x then y else x) (args.map st.eval)) ⟨fun r => K.f (st.put dst (.p (.int r.1 r.2))), ⟨⟩⟩
 | _, _, _ => False
def T7 : Sh -> Option IntKind
 | .int k => some k
 | _ => none
def V1 (l : LV) (k : A0 (List (DV × DV))) : Prop := match l with
 | .p .nilm => k.f []
 | .p (.map m) => k.f m
 | _ => False
def T8 (h : AN) (l : LV) (k0 : Unit -> Prop) (k : Nat -> List (DV × DV) -> Nat -> DV × DV -> Prop) : Prop := match l with
 | .lpb id 0 => match AF id h with
  | some (.iter _ left) => (left = [] -> k0 ()) /\ ∀ j p, left[j]? = some p -> k id left j p
  | _ => False
 | _ => False
def T9 (h : AN) (l : LV) (k : Nat -> DV × DV -> List (DV × DV) -> Prop) : Prop := match l with
 | .lpb id 0 => match AF id h with
  | some (.iter (some p) left) => k id p left
  | _ => False
 | _ => False
def BH (P : Program) (A : BF) (AB : Ax) (st : St) (dst : Option Tmp) (op : Op) (K : A0 St) : Prop :=
 match op with
 | .move x | .assign x => K.f (st.put dst (st.eval x))
 | .pick c a b => Q9 (st.eval c) ⟨fun t => K.f (st.put dst (if t then st.eval a else st.eval b)), ⟨⟩⟩
 | .nilCheck x => Vx (st.eval x) ⟨fun l => K.f (st.put dst l), ⟨⟩⟩
 | .binOp op t x y _ => Pt AB op t (st.eval x) (st.eval y) ⟨fun l => K.f (st.put dst l), ⟨⟩⟩
 | .unOp .neg _ x => Lq (st.eval x) ⟨fun n => K.f (st.put dst (.p (.int n.1 (n.1.wrap (0 - n.2))))), ⟨⟩⟩
 | .unOp .not _ x => Q9 (st.eval x) ⟨fun b => K.f (st.put dst (.p (.bool !b))), ⟨⟩⟩
 | .convert s d x => Lq (st.eval x) ⟨fun n => Cm AB s ⟨fun _ => Cm AB d ⟨fun ti => CM (T7 ti.sh) ⟨fun kd => K.f (st.put dst (.p (.int kd (kd.wrap n.2)))), ⟨⟩⟩, ⟨⟩⟩, ⟨⟩⟩, ⟨⟩⟩
 | .extract t i => Vy (st.eval t) i ⟨fun l => K.f (st.put dst l), ⟨⟩⟩
 | .field t x i => Cm AB t ⟨fun ti => Nl ti.sh ⟨fun fs => CM fs[i]? ⟨fun f => Cm AB f.2 ⟨fun tf => Vz (st.eval x) ⟨fun ls => CM (DT tf f.1 ls) ⟨fun l => K.f (st.put dst l), ⟨⟩⟩, ⟨⟩⟩, ⟨⟩⟩, ⟨⟩⟩, ⟨⟩⟩, ⟨⟩⟩
 | .build t ps => Cm AB t ⟨fun ti => Mx AB ti.sh (ti.zero.map .p) (ps.toList.map fun p => (p.1, st.eval p.2)) ⟨fun cells => K.f (st.put dst (Ee cells)), ⟨⟩⟩, ⟨⟩⟩
 | .fieldAddr t x i => Cm AB t ⟨fun ti => Nl ti.sh ⟨fun fs => CM fs[i]? ⟨fun f => Cm AB f.2 ⟨fun tf => tf.size ≠ 0 /\ T5 f.1 (st.eval x) ⟨fun l => K.f (st.put dst l), ⟨⟩⟩, ⟨⟩⟩, ⟨⟩⟩, ⟨⟩⟩, ⟨⟩⟩
 | .indexAddr t x i => Lq (st.eval i) ⟨fun n => Cm AB t ⟨fun ti => X6 AB ti.sh (st.eval x) n.2 ⟨fun l => K.f (st.put dst l), ⟨⟩⟩, ⟨⟩⟩, ⟨⟩⟩
 | .index t x i => Lq (st.eval i) ⟨fun n => Cm AB t ⟨fun ti => 0 <= n.2 /\ X7 AB ti.sh (st.eval x) n.2 ⟨fun l => K.f (st.put dst l), ⟨⟩⟩, ⟨⟩⟩, ⟨⟩⟩
 | .makeFunc (.func f) first caps => first.toList = [] /\ K.f (st.put dst (.fn f (caps.toList.map st.eval)))
 | .slice t x lo hi none => My AB t (st.eval x) (lo.map st.eval) (hi.map st.eval) ⟨fun l => K.f (st.put dst l), ⟨⟩⟩
 | .load t x => Cm AB t ⟨fun ti => O2 st.heap ti (st.eval x) ⟨fun l => K.f (st.put dst l), ⟨⟩⟩, ⟨⟩⟩
 | .store t x v => Cm AB t ⟨fun ti => CM (st.eval v).cells ⟨fun ls => (ls.length = ti.size /\ ls.all LV.one = true) /\ Rh st.heap ti (st.eval x) ls ⟨fun h => K.f (st.go dst .any h st.ctr), ⟨⟩⟩, ⟨⟩⟩, ⟨⟩⟩
 | .alloc t => Cm AB t ⟨fun ti => K.f (st.go dst (.lpb st.ctr 0) ((st.ctr, .box (ti.zero.map .p)) :: st.heap) (st.ctr + 1)), ⟨⟩⟩
 | .box _ x => CM (st.eval x).cells ⟨fun ls => K.f (st.go dst (.lpb st.ctr 0) ((st.ctr, .box ls) :: st.heap) (st.ctr + 1)), ⟨⟩⟩
 | .buildSlice t n ps => Cm AB t ⟨fun ti => Kx ti.sh ⟨fun e => Cm AB e ⟨fun te => (0 < te.size /\ n * te.size <= 16777216) /\ CM (F6 te.size 0 (ps.toList.map fun p => (p.1, st.eval p.2))) ⟨fun l =>
   l.length = n /\ (K.f (st.go dst (.lsl st.ctr te.size 0 n) ((st.ctr, .row e te.size l) :: st.heap) (st.ctr + 1)) \/ K.f (st.put dst (.p (.slice te.size l)))), ⟨⟩⟩, ⟨⟩⟩, ⟨⟩⟩, ⟨⟩⟩
 | .makeSlice t l c => Cm AB t ⟨fun ti => Kx ti.sh ⟨fun e => Cm AB e ⟨fun te => Lq (st.eval l) ⟨fun n => Lq (st.eval c) ⟨fun n' => (n'.2 = n.2 /\ 0 <= n.2 /\ te.bytes * n.2.toNat <= 281474976710656 /\ n.2.toNat <= maxLen) /\
   (K.f (st.go dst (.lsl st.ctr te.size 0 n.2.toNat) ((st.ctr, .row e te.size (List.replicate n.2.toNat te.zero)) :: st.heap) (st.ctr + 1)) \/ K.f (st.put dst (.p (.slice te.size (List.replicate n.2.toNat te.zero))))), ⟨⟩⟩, ⟨⟩⟩, ⟨⟩⟩, ⟨⟩⟩, ⟨⟩⟩
 | .makeMap _ none => K.f (st.go dst (.lmap st.ctr) ((st.ctr, .map []) :: st.heap) (st.ctr + 1))
 | .lookup t x i ok => Cm AB t ⟨fun ti => Rf ti.sh ⟨fun m => Cm AB m.2 ⟨fun te => CM (Jl st.heap (st.eval x)) ⟨fun l => QP (st.eval i) ⟨fun kd => (Bg AB m.1 kd = true /\ (l.all fun p => Bg AB m.1 p.1) = true) /\
   K.f (st.put dst (if ok then .tup [.p ((Gs kd l).getD (zV AB te)), .p (.bool (Gs kd l).isSome)] else .p ((Gs kd l).getD (zV AB te)))), ⟨⟩⟩, ⟨⟩⟩, ⟨⟩⟩, ⟨⟩⟩, ⟨⟩⟩
 | .mapUpdate t x i v => Cm AB t ⟨fun ti => Rf ti.sh ⟨fun m => Nm (st.eval x) ⟨fun id => CM (AF id st.heap) ⟨fun o => Pu o ⟨fun l => QP (st.eval i) ⟨fun kd => QP (st.eval v) ⟨fun vd =>
   (Bg AB m.1 kd = true /\ (l.all fun p => Bg AB m.1 p.1) = true) /\ K.f (st.go dst .any (Bo id (.map (Kw kd vd l)) st.heap) st.ctr), ⟨⟩⟩, ⟨⟩⟩, ⟨⟩⟩, ⟨⟩⟩, ⟨⟩⟩, ⟨⟩⟩, ⟨⟩⟩
 | .mapEntry t x i => Cm AB t ⟨fun ti => Rf ti.sh ⟨fun m => Cm AB m.2 ⟨fun te => Nm (st.eval x) ⟨fun id => CM (AF id st.heap) ⟨fun o => Pu o ⟨fun l => QP (st.eval i) ⟨fun kd =>
   ((false && Bg AB m.1 kd) = true /\ (l.all fun p => Bg AB m.1 p.1) = true) /\
   K.f (st.go dst (.tup [.p ((Gs kd l).getD te.zeroDV), .p (.int .i64 (((C3 kd l).map (·.1)).getD l.length))]) (match C3 kd l with
    | some _ => st.heap
    | none => Bo id (.map (l ++ [(kd, te.zeroDV)])) st.heap) st.ctr), ⟨⟩⟩, ⟨⟩⟩, ⟨⟩⟩, ⟨⟩⟩, ⟨⟩⟩, ⟨⟩⟩, ⟨⟩⟩
 | .entryStore _ x s v => Nm (st.eval x) ⟨fun id => CM (AF id st.heap) ⟨fun o => Pu o ⟨fun m => Lq (st.eval s) ⟨fun n => QP (st.eval v) ⟨fun vd => (0 <= n.2 /\ False) /\ CM m[n.2.toNat]? ⟨fun p =>
   K.f (st.go dst .any (Bo id (.map (m.set n.2.toNat (p.1, vd))) st.heap) st.ctr), ⟨⟩⟩, ⟨⟩⟩, ⟨⟩⟩, ⟨⟩⟩, ⟨⟩⟩, ⟨⟩⟩
 | .range t x => Cm AB t ⟨fun ti => Rf ti.sh ⟨fun _ => V1 (st.eval x) ⟨fun m => K.f (st.go dst (.lpb st.ctr 0) ((st.ctr, .iter none m) :: st.heap) (st.ctr + 1)), ⟨⟩⟩, ⟨⟩⟩, ⟨⟩⟩
 | .next x false => T8 st.heap (st.eval x) (fun _ => K.f (st.go dst (.tup [.p (.bool false)]) st.heap st.ctr)) fun id left j p => ∃ cur', (cur' = none \/ cur' = some p) /\ K.f (st.go dst (.tup [.p (.bool true), .p p.1, .p p.2]) (Bo id (.iter cur' (left.eraseIdx j)) st.heap) st.ctr)
 | .entry x => T9 st.heap (st.eval x) fun id p left => K.f (st.go dst (.tup [.p p.1, .p p.2]) (Bo id (.iter none left) st.heap) st.ctr)
 | .call c => Lr P A AB st dst c K
 | _ => False
def gW (b want : Bool) (X Y : A0 Unit) : Prop := (b = want -> X.f ()) /\ (b = !want -> Y.f ())
def gM (v : LV) (want : Bool) (X Y : A0 Unit) : Prop :=
 match v with
 | .p (.bool b) => gW b want X Y
 | .und => Y.f ()
 | _ => False
def Fb (st : St) (d : Option Tmp) : LV :=
 match d with
 | some t => st.eval (.tmp t)
 | none => .any
structure X8 (K : A0 St) (st : St) : Prop where
 h : K.f st
def Dr (P : Program) (A : BF) (AB : Ax) (K : A0 St) : List Gy -> St -> Prop
 | [], st => X8 K st
 | ⟨dst, op, none⟩ :: rest, st => BH P A AB st dst op ⟨Dr P A AB K rest, ⟨⟩⟩
 | ⟨dst, op, some (d, want)⟩ :: rest, st => gM (Fb st d) want ⟨fun _ => BH P A AB st dst op ⟨Dr P A AB K rest, ⟨⟩⟩, ⟨⟩⟩ ⟨fun _ => Dr P A AB K rest (st.put dst .und), ⟨⟩⟩
section
variable {P : Program} {A : BF} {AB : Ax}
theorem AR {α : Type} {o : Option α} {k : A0 α} : CM o k ↔ ∃ a, o = some a /\ k.f a := by cases o <;> simp [CM]
theorem AS {t : Nat} {k : A0 TI} : Cm AB t k ↔ ∃ a, AB.tt t = some a /\ k.f a := AR
theorem KX {x : LV} {k : A0 Bool} : Q9 x k ↔ ∃ b, x = .p (.bool b) /\ k.f b := by
 unfold Q9; split <;> simp_all
theorem Ca {x : LV} {k : A0 (IntKind × Int)} : Lq x k ↔ ∃ kk n, x = .p (.int kk n) /\ k.f (kk, n) := by
 unfold Lq; split
 .exact ⟨fun h => ⟨_, _, rfl, h⟩, fun ⟨_, _, e, h⟩ => by cases e; exact h⟩
 simp_all
theorem C8 {x : LV} {k : A0 DV} : QP x k ↔ ∃ d, x = .p d /\ k.f d := by
 unfold QP; split <;> simp_all
theorem Cb {x : Sh} {k : A0 Nat} : Kx x k ↔ ∃ e, x = .slc e /\ k.f e := by
 unfold Kx; split <;> simp_all
theorem EV {x : Sh} {k : A0 (List (Nat × Nat))} : Nl x k ↔ ∃ e, x = .struct e /\ k.f e := by
 unfold Nl; split <;> simp_all
theorem Dv {x : Sh} {k : A0 (Nat × Nat)} : Rf x k ↔ ∃ a b, x = .mp a b /\ k.f (a, b) := by
 unfold Rf; split
 .exact ⟨fun h => ⟨_, _, rfl, h⟩, fun ⟨_, _, e, h⟩ => by cases e; exact h⟩
 simp_all
theorem EH {x : LV} {k : A0 Nat} : Nm x k ↔ ∃ id, x = .lmap id /\ k.f id := by
 unfold Nm; split <;> simp_all
theorem TJ {x : LV} {k : A0 (FuncId × List LV)} : LH x k ↔ ∃ f c, x = .fn f c /\ k.f (f, c) := by
 unfold LH; split
 .exact ⟨fun h => ⟨_, _, rfl, h⟩, fun ⟨_, _, e, h⟩ => by cases e; exact h⟩
 simp_all
theorem FB {x : A1} {k : A0 (List (DV × DV))} : Pu x k ↔ ∃ m, x = .map m /\ k.f m := by
 unfold Pu; split <;> simp_all
theorem IT {x : A1} {k : A0 (List LV)} : T6 x k ↔ ∃ m, x = .box m /\ k.f m := by
 unfold T6; split <;> simp_all
theorem FC {x : A1} {k : A0 (Nat × Nat × List (List DV))} : Rg x k ↔ ∃ a b c, x = .row a b c /\ k.f (a, b, c) := by
 unfold Rg; split
 .exact ⟨fun h => ⟨_, _, _, rfl, h⟩, fun ⟨_, _, _, e, h⟩ => by cases e; exact h⟩
 simp_all
theorem IU {d : Int} {x : Option LV} {k : A0 Int} {k' : Int -> Prop} (hk : ∀ n, k.f n -> k' n) (h : Ky d x k) : Fc d x k' := by
 unfold Ky at h; unfold Fc
 split at h <;> first | exact hk _ h | exact h.elim
theorem TK {neg : Bool} {t : Nat} {x y : LV} {k : A0 LV} (h : TH AB neg t x y k) : QQ AB neg t x y k.f := by
 unfold TH at h
 unfold QQ
 split at h
 .exact h
 .obtain ⟨ti, h1, h2, h3⟩ := AS.1 h; exact ⟨⟨ti, h1, h2⟩, h3⟩
 .obtain ⟨ks, h1, h2⟩ := AR.1 h; exact ⟨ks, h1, h2⟩
 .obtain ⟨ti, h1, h2⟩ := AS.1 h
  obtain ⟨e, h3, h4⟩ := Cb.1 h2
  exact ⟨⟨ti, e, h1, h3⟩, h4⟩
 .obtain ⟨ti, h1, h2⟩ := AS.1 h
  obtain ⟨e, h3, h4⟩ := Cb.1 h2
  exact ⟨⟨ti, e, h1, h3⟩, h4⟩
 .obtain ⟨ti, h1, h2⟩ := AS.1 h
  obtain ⟨e, h3, h4⟩ := Cb.1 h2
  exact ⟨⟨ti, e, h1, h3⟩, h4⟩
 .exact h
 .exact h
 .exact h
 exact h.elim
theorem N6 {op : BinOp} {kk : IntKind} {a b : Int} {k : A0 LV} (h : LG op kk a b k) : ∃ v, Hr op kk a b = some v /\ k.f (.p v) := by
 unfold LG at h
 split at h
 .exact AR.1 h.2
 .exact AR.1 h.2
 exact AR.1 h
theorem V2 {op : BinOp} {t : Nat} {x y : LV} {k : A0 LV} (h : Pt AB op t x y k) : Pv AB op t x y k.f := by
 unfold Pt at h
 unfold Pv
 split at h
 .exact ⟨h.1, N6 h.2⟩
 rename_i hne
 split
 .exact absurd rfl (hne _ _ _ _ rfl)
 split at h
 .exact TK h
 .exact TK h
 exact h.elim
theorem Lt {place : Nat -> Option (Nat × Nat)} {k : A0 (List LV)} : ∀ {ps : List (Nat × LV)} {cells : List LV}, J5 AB place cells ps k -> Hu AB place cells ps k.f
 | [], _, h => h
 | (i, v) :: rest, cells, h => by
  obtain ⟨p, h1, h⟩ := AR.1 h
  obtain ⟨ti, h2, h⟩ := AS.1 h
  obtain ⟨ls, h3, ⟨h4, h5⟩, h⟩ := AR.1 h
  exact ⟨p.1, p.2, ti, ls, h1, h2, h3, h4, h5, Lt h⟩
theorem Uz {h : AN} {ti : TI} {p : LV} {k : A0 LV} (hl : O2 h ti p k) : Fx h ti p k.f := by
 unfold O2 at hl
 unfold Fx
 split at hl
 .exact AR.1 hl
 .obtain ⟨o, h1, hl⟩ := AR.1 hl
  obtain ⟨cells, rfl, hl⟩ := IT.1 hl
  obtain ⟨r, h2, h3⟩ := AR.1 hl
  exact ⟨cells, r, h1, h2, h3⟩
 .obtain ⟨o, h1, hl⟩ := AR.1 hl
  obtain ⟨e, sz, elems, rfl, hl⟩ := FC.1 hl
  obtain ⟨x, h2, hl⟩ := AR.1 hl
  obtain ⟨r, h3, h4⟩ := AR.1 hl
  exact ⟨e, sz, elems, x, r, h1, h2, h3, h4⟩
 exact hl.elim
theorem V3 {a b c d : Prop} (h : (a /\ b /\ c) /\ d) : a /\ b /\ c /\ d := ⟨h.1.1, h.1.2.1, h.1.2.2, h.2⟩
theorem UA {t : Nat} {x : LV} {lo hi : Option LV} {k : A0 LV} (h : My AB t x lo hi k) : J6 AB t x lo hi k.f := by
 unfold My at h
 unfold J6
 split at h
 .obtain ⟨ti, h1, h⟩ := AS.1 h
  obtain ⟨e, h2, h⟩ := Cb.1 h
  obtain ⟨te, h3, h4, h⟩ := AS.1 h
  exact ⟨⟨ti, e, h1, h2, te, h3, h4⟩, IU (fun n hn => IU (fun m hm => V3 hm) hn) h⟩
 .obtain ⟨ti, h1, h⟩ := AS.1 h
  obtain ⟨e, h2, h⟩ := Cb.1 h
  obtain ⟨te, h3, h4, h5, h⟩ := AS.1 h
  exact ⟨⟨ti, e, h1, h2, te, h3, h4⟩, h5, IU (fun n hn => IU (fun m hm => V3 hm) hn) h⟩
 .obtain ⟨ti, h1, h2, h⟩ := AS.1 h
  exact ⟨⟨ti, h1, h2⟩, IU (fun n hn => IU (fun m hm => V3 hm) hn) h⟩
 exact h.elim
end
end Go.E
/- The walk of a function: the short form holds what the long one says (Ng); rules for the parts of a body, states made weaker (A6). No condition. -/
namespace Go.E
open Go Go.RowKit
section
variable {P : Program} {A : BF} {AB : Ax} {K : St -> Prop}
theorem Ng {st : St} {o : Oper} {K : A0 St} (h : BH P A AB st o.dst o.op K) : Wz P A AB st o K.f := by
 obtain ⟨dst, op, type, pos, after, guard⟩ := o
 simp only at h
 cases op <;> simp only [BH] at h <;> simp only [Wz]
 case move x => exact h
 case assign x => exact h
 case pick c a b => obtain ⟨t, h1, h2⟩ := KX.1 h; exact ⟨t, h1, h2⟩
 case nilCheck x =>
  try dsimp only at h
  unfold Vx at h
  simp only [nW]
  split at h <;> first | (rename_i e; simp only [e]; exact ⟨trivial, h⟩) | exact h.elim
 case binOp op t x y z => exact V2 h
 case unOp op t x =>
  cases op <;> simp only [BH] at h
  case neg => obtain ⟨kk, n, h1, h2⟩ := Ca.1 h; simp only [nW, TL, h1]; exact h2
  case not => obtain ⟨b, h1, h2⟩ := KX.1 h; simp only [nW, TL, h1]; exact h2
 case convert s d x =>
  obtain ⟨kk, n, h1, h⟩ := Ca.1 h
  obtain ⟨tj, h2, h⟩ := AS.1 h
  obtain ⟨ti, h3, h⟩ := AS.1 h
  obtain ⟨kd, h4, h⟩ := AR.1 h
  refine ⟨kk, n, ti, tj, h1, h2, h3, kd, ?_, h⟩
  generalize ti.sh = q at h4
  cases q <;> simp [T7] at h4
  rw [h4]
 case extract t i =>
  try dsimp only at h
  unfold Vy at h
  simp only [nW]
  split at h
  .rename_i l hl; simp only [hl]; exact AR.1 h
  .rename_i l hl; simp only [hl]; exact AR.1 h
  exact h.elim
 case field t x i =>
  obtain ⟨ti, h1, h⟩ := AS.1 h
  obtain ⟨fs, h2, h⟩ := EV.1 h
  obtain ⟨f, h3, h⟩ := AR.1 h
  obtain ⟨tf, h4, h⟩ := AS.1 h
  try dsimp only at h
  unfold Vz at h
  split at h
  .rename_i l hl
   obtain ⟨v, h5, h6⟩ := AR.1 h
   exact ⟨ti, fs, f.1, f.2, tf, l, v, h1, h2, h3, h4, by rw [hl]; rfl, by rw [hl]; trivial, h5, h6⟩
  .rename_i l hl
   obtain ⟨v, h5, h6⟩ := AR.1 h
   exact ⟨ti, fs, f.1, f.2, tf, l.map .p, v, h1, h2, h3, h4, by rw [hl]; rfl, by rw [hl]; trivial, h5, h6⟩
  exact h.elim
 case build t ps =>
  obtain ⟨ti, h1, h⟩ := AS.1 h
  refine ⟨ti, h1, ?_⟩
  try dsimp only at h
  unfold Mx at h
  split at h
  .rename_i fs hsh; simp only [hsh]; exact ⟨h.1, Lt h.2⟩
  .rename_i n e hsh
   obtain ⟨te, h2, h⟩ := AS.1 h
   simp only [hsh]
   exact ⟨te, h2, Lt h⟩
  exact h.elim
 case fieldAddr t x i =>
  obtain ⟨ti, h1, h⟩ := AS.1 h
  obtain ⟨fs, h2, h⟩ := EV.1 h
  obtain ⟨f, h3, h⟩ := AR.1 h
  obtain ⟨tf, h4, h5, h⟩ := AS.1 h
  refine ⟨ti, fs, f.1, f.2, tf, h1, h2, h3, h4, h5, ?_⟩
  try dsimp only at h
  unfold T5 at h
  split at h <;> first | (rename_i e; simp only [e]; exact h) | exact h.elim
 case indexAddr t x i =>
  obtain ⟨kk, n, h1, h⟩ := Ca.1 h
  obtain ⟨ti, h2, h⟩ := AS.1 h
  refine ⟨kk, n, ti, h1, h2, ?_⟩
  try dsimp only at h
  unfold X6 at h
  split at h
  .rename_i e1 e2
   obtain ⟨te, g1, g2, g3, h⟩ := AS.1 h
   simp only [e1, e2]
   exact ⟨⟨te, g1, g2⟩, g3, AR.1 h⟩
  .rename_i e1 e2
   obtain ⟨te, g1, g2, ⟨g3, g4⟩, h⟩ := AS.1 h
   simp only [e1, e2]
   exact ⟨⟨te, g1, g2⟩, g3, g4, h⟩
  .rename_i e1 e2
   obtain ⟨te, g1, ⟨g2, g3⟩, h⟩ := AS.1 h
   simp only [e1, e2]
   exact ⟨te, g1, g2, g3, h⟩
  .rename_i e1 e2
   obtain ⟨te, g1, ⟨g2, g3⟩, h⟩ := AS.1 h
   simp only [e1, e2]
   exact ⟨te, g1, g2, g3, h⟩
  exact h.elim
 case index t x i =>
  obtain ⟨kk, n, h1, h⟩ := Ca.1 h
  obtain ⟨ti, h2, h0, h⟩ := AS.1 h
  refine ⟨kk, n, ti, h1, h2, h0, ?_⟩
  try dsimp only at h
  unfold X7 at h
  split at h
  .rename_i e1 e2
   obtain ⟨te, g1, g2, h⟩ := AS.1 h
   obtain ⟨v, g3, g4⟩ := AR.1 h
   simp only [e1, e2]
   exact ⟨te, v, g1, g2, g3, g4⟩
  .rename_i e1 e2
   obtain ⟨te, g1, g2, h⟩ := AS.1 h
   obtain ⟨v, g3, g4⟩ := AR.1 h
   simp only [e1, e2]
   exact ⟨te, v, g1, g2, g3, g4⟩
  .rename_i e1 e2
   simp only [e1, e2]
   exact AR.1 h
  exact h.elim
 case makeFunc fn first caps =>
  cases fn <;> simp only [BH] at h
  rename_i f
  exact ⟨by simpa using h.1, f, rfl, h.2⟩
 case slice t x lo hi mx =>
  cases mx with
  | some m => exact h.elim
  | none => exact ⟨rfl, UA h⟩
 case load t x => obtain ⟨ti, h1, h2⟩ := AS.1 h; exact ⟨ti, h1, Uz h2⟩
 case store t x v =>
  obtain ⟨ti, h1, h⟩ := AS.1 h
  obtain ⟨ls, h2, ⟨h3, h4⟩, h⟩ := AR.1 h
  refine ⟨ti, h1, ls, h2, h3, h4, ?_⟩
  try dsimp only at h
  unfold Rh at h
  split at h
  .rename_i id off e
   obtain ⟨o, g1, h⟩ := AR.1 h
   obtain ⟨cells, rfl, g2, h⟩ := IT.1 h
   try simp only [e]
   exact ⟨cells, g1, g2, h⟩
  .rename_i id i off e
   obtain ⟨o, g1, h⟩ := AR.1 h
   obtain ⟨e', sz, elems, rfl, h⟩ := FC.1 h
   obtain ⟨x, g2, h⟩ := AR.1 h
   obtain ⟨ds, g3, g4, h⟩ := AR.1 h
   try simp only [e]
   exact ⟨e', sz, elems, x, ds, g1, g2, g4, g3, h⟩
  exact h.elim
 case alloc t => obtain ⟨ti, h1, h2⟩ := AS.1 h; exact ⟨ti, h1, h2⟩
 case box t x => obtain ⟨ls, h1, h2⟩ := AR.1 h; exact ⟨ls, h1, h2⟩
 case buildSlice t n ps =>
  obtain ⟨ti, h1, h⟩ := AS.1 h
  obtain ⟨e, h2, h⟩ := Cb.1 h
  obtain ⟨te, h3, ⟨h4, h5⟩, h⟩ := AS.1 h
  obtain ⟨l, h6, h7, h⟩ := AR.1 h
  exact ⟨ti, e, te, l, h1, h2, h3, h4, h5, h6, h7, h⟩
 case makeSlice t l c =>
  obtain ⟨ti, h1, h⟩ := AS.1 h
  obtain ⟨e, h2, h⟩ := Cb.1 h
  obtain ⟨te, h3, h⟩ := AS.1 h
  obtain ⟨k1, n, h4, h⟩ := Ca.1 h
  obtain ⟨k2, n', h5, ⟨h9, h6, h7, h8⟩, h⟩ := Ca.1 h
  simp only at h9
  subst h9
  exact ⟨ti, e, te, n', k1, k2, h1, h2, h3, h4, h5, h6, h7, h8, h⟩
 case makeMap t r =>
  cases r with
  | some r => exact h.elim
  | none => exact ⟨rfl, h⟩
 case lookup t x i ok =>
  obtain ⟨ti, h1, h⟩ := AS.1 h
  obtain ⟨kt, et, h2, h⟩ := Dv.1 h
  obtain ⟨te, h3, h⟩ := AS.1 h
  obtain ⟨m, h4, h⟩ := AR.1 h
  obtain ⟨kd, h5, ⟨h6, h7⟩, h⟩ := C8.1 h
  exact ⟨ti, kt, et, te, m, kd, h1, h2, h3, h4, h5, h6, h7, h⟩
 case mapUpdate t x i v =>
  obtain ⟨ti, h1, h⟩ := AS.1 h
  obtain ⟨kt, et, h2, h⟩ := Dv.1 h
  obtain ⟨id, h3, h⟩ := EH.1 h
  obtain ⟨o, h4, h⟩ := AR.1 h
  obtain ⟨m, rfl, h⟩ := FB.1 h
  obtain ⟨kd, h5, h⟩ := C8.1 h
  obtain ⟨vd, h6, ⟨h7, h8⟩, h⟩ := C8.1 h
  exact ⟨ti, kt, et, id, m, kd, vd, h1, h2, h3, h4, h5, h6, h7, h8, h⟩
 case mapEntry t x i =>
  obtain ⟨ti, h1, h⟩ := AS.1 h
  obtain ⟨kt, et, h2, h⟩ := Dv.1 h
  obtain ⟨te, h3, h⟩ := AS.1 h
  obtain ⟨id, h4, h⟩ := EH.1 h
  obtain ⟨o, h5, h⟩ := AR.1 h
  obtain ⟨m, rfl, h⟩ := FB.1 h
  obtain ⟨kd, h6, ⟨h7, h8⟩, h⟩ := C8.1 h
  exact ⟨ti, kt, et, te, id, m, kd, h1, h2, h3, h4, h5, h6, h7, h8, h⟩
 case entryStore t x s v =>
  obtain ⟨id, h1, h⟩ := EH.1 h
  obtain ⟨o, h2, h⟩ := AR.1 h
  obtain ⟨m, rfl, h⟩ := FB.1 h
  obtain ⟨kk, n, h3, h⟩ := Ca.1 h
  obtain ⟨vd, h4, h0, h⟩ := C8.1 h
  obtain ⟨p, h5, h⟩ := AR.1 h
  exact ⟨id, m, kk, n, vd, p, h1, h2, h3, h0, h5, h4, h⟩
 case range t x =>
  obtain ⟨ti, h1, h⟩ := AS.1 h
  obtain ⟨kt, et, h2, h⟩ := Dv.1 h
  try dsimp only at h
  unfold V1 at h
  split at h
  .rename_i e; exact ⟨ti, kt, et, [], h1, h2, .inl ⟨e, rfl⟩, h⟩
  .rename_i m e; exact ⟨ti, kt, et, m, h1, h2, .inr e, h⟩
  exact h.elim
 case next x s =>
  cases s with
  | true => exact h.elim
  | false =>
   simp only [BH] at h
   unfold T8 at h
   split at h
   .rename_i id e
    split at h
    .rename_i cur left hl
     exact ⟨rfl, id, cur, left, e, hl, h.1, h.2⟩
    exact h.elim
   exact h.elim
 case entry x =>
  unfold T9 at h
  split at h
  .rename_i id e
   split at h
   .rename_i p left hl
    exact ⟨id, p, left, e, hl, h⟩
   exact h.elim
  exact h.elim
 case call c =>
  obtain ⟨callee, args, ats⟩ := c
  try dsimp only at h
  unfold Lr at h
  simp only at h
  split at h
  .rename_i f
   obtain ⟨k, caps, g1, g2⟩ := TJ.1 h
   simp only [g1]
   exact g2
  .rename_i s x t t' e2 e3
   obtain ⟨rfl, h⟩ := h
   obtain ⟨ti, h1, h⟩ := AS.1 h
   obtain ⟨e, h2, h⟩ := Cb.1 h
   obtain ⟨te, h3, h4, h⟩ := AS.1 h
   obtain ⟨new, h5, h6, h⟩ := AR.1 h
   have ha : args = #[s, x] := by rw [<- Array.toList_inj, e2]
   have hb : ats = #[t', t'] := by rw [<- Array.toList_inj, e3]
   simp only [mW]
   refine ⟨trivial, s, x, t', ha, hb, ti, e, te, h1, h2, h3, h4, new, h5, h6, ?_⟩
   try dsimp only at h
   unfold Ri at h
   split at h
   .rename_i e; simp only [e]; exact ⟨h.1.1, h.1.2, h.2⟩
   .rename_i id sz off len e
    obtain ⟨hsz, h⟩ := h
    obtain ⟨o, g1, h⟩ := AR.1 h
    obtain ⟨e', sz', elems, rfl, ⟨k1, k2, g2, g3, g4⟩, h9⟩ := FC.1 h
    subst k1; subst k2
    try simp only [e]
    exact ⟨elems, hsz, g1, g2, g3, g4, h9⟩
   exact h.elim
  .rename_i x i t r e2 e3
   obtain ⟨ti, h1, h⟩ := AS.1 h
   obtain ⟨kt, et, h2, h⟩ := Dv.1 h
   obtain ⟨id, h3, h⟩ := EH.1 h
   obtain ⟨o, h4, h⟩ := AR.1 h
   obtain ⟨m, rfl, h⟩ := FB.1 h
   obtain ⟨kd, h5, ⟨h6, h7⟩, h⟩ := C8.1 h
   exact ⟨x, i, t, r, by rw [<- Array.toList_inj, e2], e3, ti, kt, et, id, m, kd, h1, h2, h3, h4, h5, h6, h7, h⟩
  .rename_i x t e2 e3
   obtain ⟨ti, h1, h⟩ := AS.1 h
   have ha : args = #[x] := by rw [<- Array.toList_inj, e2]
   have hb : ats = #[t] := by rw [<- Array.toList_inj, e3]
   simp only [nW]
   refine ⟨x, t, ti, ha, hb, h1, ?_⟩
   try dsimp only at h
   unfold V0 at h
   split at h
   .rename_i g; simp only [g]; exact h
   .rename_i g1 g2; simp only [g1, g2, J7]; exact h
   .rename_i g1 g2; simp only [g1, g2, J7]; exact h
   .rename_i g1 g2; simp only [g1, g2, J7]; exact h
   .rename_i g1 g2; simp only [g1, g2, J7]; exact h
   exact h.elim
  .obtain ⟨r, h1, h⟩ := AR.1 h
   simp only [nW]
   exact ⟨r, h1, h⟩
  .obtain ⟨r, h1, h⟩ := AR.1 h
   simp only [nW]
   exact ⟨r, h1, h⟩
  exact h.elim
 all_goals exact h.elim
theorem QR (st : St) (ops : List Oper) (j : Nat) : Fb st (T4 ops j) = DM st ops.toArray j := by
 unfold Fb DM T4
 simp only [List.getElem?_toArray]
 cases ops[j]? with
 | none => rfl
 | some o => cases hd : o.dst <;> simp [hd]
theorem KY (hE : Ay P AB) {ops : List Oper} {K : A0 St} {Q : Exit -> Act -> World -> Prop} (hQ : ∀ st a w, K.f st -> R A st a w -> Q .normal a w) :
  ∀ (l : List Oper) (st : St) (a : Act) (w : World), Dr P A AB K (l.map (Mw ops)) st -> R A st a w -> wpList P ops.toArray Q l a w
 | [], st, a, w, h, hR => hQ st a w h.h hR
 | o :: rest, st, a, w, h, hR => by
  have run : BH P A AB st o.dst o.op ⟨Dr P A AB K (rest.map (Mw ops)), ⟨⟩⟩ -> o.wp P a w (wpList P ops.toArray Q rest) Q := fun h =>
   Mj hE (Ng h) hR fun st' a' w' hk hR' => KY hE hQ rest st' a' w' hk hR'
  have skip : Dr P A AB K (rest.map (Mw ops)) (st.put o.dst .und) -> wpList P ops.toArray Q rest (a.put o.dst undef) w := fun h => by
   obtain ⟨μ, hh, hs⟩ := hR.ex
   exact KY hE hQ rest _ _ _ h (hR.put hs hh .und)
  unfold wpList
  simp only [List.map_cons, Mw] at h
  cases hg : o.guard with
  | none =>
   rw [hg] at h
   rw [if_pos (by simp [Region.wanted, hg])]
   exact .inl (run h)
  | some g =>
   obtain ⟨j, want⟩ := g
   rw [hg] at h
   simp only [Dr, QR] at h
   obtain ⟨μ, hh, hs⟩ := hR.ex
   obtain ⟨g1, g2⟩ := Mm (ops := ops.toArray) (j := j) (fun x => F9 hs x)
   unfold gM at h
   split at h
   .rename_i b hb
    have hy := g1 b hb
    by_cases e : b = want
    .rw [if_pos (by simp [Region.wanted, hg, hy, e])]
     exact .inl (run (h.1 e))
    rw [if_neg (by simp [Region.wanted, hg, hy, e])]
    exact skip (h.2 (by cases b <;> cases want <;> simp_all))
   .rename_i hb
    have hy := g2 hb
    rw [if_neg (by simp [Region.wanted, hg, hy])]
    exact skip h
   exact h.elim
theorem XQ (hE : Ay P AB) {id : Nat} {ops : List Oper} {ms : List Gy} {y : Code} {Q : Exit -> St -> Prop} {st : St} (hm : ops.map (Mw ops) = ms) (h : Dr P A AB ⟨fun st' => B2 P A y Q st', ⟨⟩⟩ ms st) :
  B2 P A (.seq (.region id ops.toArray false) y) Q st :=
 AD fun a w hR => wp_region_lit (KY hE (fun st' _ _ hk hR' => ⟨st', hR', hk⟩) ops st a w (by rw [hm]; exact h) hR)
theorem V4 (hE : Ay P AB) {id : Nat} {ops : List Oper} {ms : List Gy} {Q : Exit -> St -> Prop} {st : St} (hm : ops.map (Mw ops) = ms) (h : Dr P A AB ⟨fun st' => Q .normal st', ⟨⟩⟩ ms st) :
  B2 P A (.region id ops.toArray false) Q st :=
 fun a w hR => wp_region_lit (KY hE (fun st' _ _ hk hR' => ⟨st', hR', hk⟩) ops st a w (by rw [hm]; exact h) hR)
def A6 (A : BF) (st st' : St) : Prop := ∀ a w, R A st a w -> R A st' a w
theorem A6.refl (st : St) : A6 A st st := fun _ _ h => h
theorem A6.trans {a b c : St} (h : A6 A a b) (h' : A6 A b c) : A6 A a c := fun x w hR => h' x w (h x w hR)
theorem GE {c : Code} {Q : Exit -> St -> Prop} {st st' : St} (hw : A6 A st st') (h : B2 P A c Q st') : B2 P A c Q st := fun a w hR => h a w (hw a w hR)
def EW (gl : List (Nat × Nat)) : LV -> LV
 | .lsl id sz off len => .lsl ((AF id gl).getD 0) sz off len
 | .lpb id off => .lpb ((AF id gl).getD 0) off
 | .lpe id i off => .lpe ((AF id gl).getD 0) i off
 | .lmap id => .lmap ((AF id gl).getD 0)
 | .agg l => .agg (renLs gl l)
 | .tup l => .tup (renLs gl l)
 | .fn f l => .fn f (renLs gl l)
 | l => l
where renLs (gl : List (Nat × Nat)) : List LV -> List LV
 | [] => []
 | x :: l => EW gl x :: renLs gl l
def DX (gl : List (Nat × Nat)) : LV -> Bool
 | .lsl id _ _ _ | .lpb id _ | .lpe id _ _ | .lmap id => (AF id gl).isSome
 | .agg l | .tup l | .fn _ l => namesLs gl l
 | _ => true
where namesLs (gl : List (Nat × Nat)) : List LV -> Bool
 | [] => true
 | x :: l => DX gl x && namesLs gl l
theorem JE {gl : List (Nat × Nat)} : ∀ {ls : List LV} {i : Nat}, (EW.renLs gl ls)[i]? = (ls[i]?).map (EW gl)
 | [], i => by simp [EW.renLs]
 | x :: l, 0 => by simp [EW.renLs]
 | x :: l, i + 1 => by simpa [EW.renLs] using JE (ls := l)
theorem JF {gl : List (Nat × Nat)} : ∀ {ls : List LV}, (EW.renLs gl ls).length = ls.length
 | [] => rfl
 | x :: l => by simp [EW.renLs, JF (ls := l)]
theorem Gz {gl : List (Nat × Nat)} : ∀ {ls : List LV} {i : Nat} {x : LV}, DX.namesLs gl ls = true -> ls[i]? = some x -> DX gl x = true
 | [], i, x, _, h => by simp at h
 | y :: l, 0, x, hn, h => by simp at h; subst h; simp only [DX.namesLs, Bool.and_eq_true] at hn; exact hn.1
 | y :: l, i + 1, x, hn, h => by simp only [DX.namesLs, Bool.and_eq_true] at hn; exact Gz hn.2 (by simpa using h)
def FD (gl : List (Nat × Nat)) (μ : Nat -> Option BX) (id : Nat) : Option BX :=
 match AF id gl with
 | some old => μ old
 | none => none
theorem J8 {O O' : Nat -> Prop} {μ : Nat -> Option BX} {w : World} {gl : List (Nat × Nat)} (hO : ∀ b, b < w.heap.size -> O' b -> O b) :
  ∀ (l : LV) (v : Value), DX gl l = true -> AZ O μ w v (EW gl l) -> AZ O' (FD gl μ) w v l
 | .p d, v, _, h => .p _ _ (h.p_inv.mono (BT.refl _ _) hO)
 | .und, v, _, h => by cases h; exact .und
 | .any, v, _, h => .any _
 | .lsl id sz off len, v, hn, h => by
  simp only [DX] at hn
  cases hl : AF id gl with
  | none => rw [hl] at hn; cases hn
  | some old =>
   simp only [EW, hl, Option.getD_some] at h
   have hm : ∀ loc, μ old = some loc -> FD gl μ id = some loc := fun loc h => by simp [FD, hl, h]
   cases h with
   | lsln _ loc h1 h2 => exact .lsln id loc (hm _ h1) h2
   | lsl _ _ _ cap a loc h1 h2 h3 h4 h5 h6 h7 => exact .lsl id _ _ cap a loc (hm _ h1) h2 h3 h4 h5 h6 h7
 | .lpb id off, v, hn, h => by
  simp only [DX] at hn
  cases hl : AF id gl with
  | none => rw [hl] at hn; cases hn
  | some old =>
   simp only [EW, hl, Option.getD_some] at h
   have hm : ∀ loc, μ old = some loc -> FD gl μ id = some loc := fun loc h => by simp [FD, hl, h]
   cases h with
   | lpb _ _ loc h1 h2 => exact .lpb id _ loc (hm _ h1) h2
 | .lpe id i off, v, hn, h => by
  simp only [DX] at hn
  cases hl : AF id gl with
  | none => rw [hl] at hn; cases hn
  | some old =>
   simp only [EW, hl, Option.getD_some] at h
   have hm : ∀ loc, μ old = some loc -> FD gl μ id = some loc := fun loc h => by simp [FD, hl, h]
   cases h with
   | lpe _ _ _ loc h1 h2 => exact .lpe id _ _ loc (hm _ h1) h2
 | .lmap id, v, hn, h => by
  simp only [DX] at hn
  cases hl : AF id gl with
  | none => rw [hl] at hn; cases hn
  | some old =>
   simp only [EW, hl, Option.getD_some] at h
   have hm : ∀ loc, μ old = some loc -> FD gl μ id = some loc := fun loc h => by simp [FD, hl, h]
   cases h with
   | lmap _ loc h1 h2 => exact .lmap id loc (hm _ h1) h2
 | .agg ls, v, hn, h => by
  simp only [EW] at h
  simp only [DX] at hn
  cases h with
  | agg vs _ hsz hr =>
   rw [JF] at hsz
   refine .agg vs ls hsz fun i u x h1 h2 => ?_
   have : SizeOf.sizeOf x < SizeOf.sizeOf ls := List.sizeOf_lt_of_mem (List.mem_of_getElem? h2)
   exact J8 hO x u (Gz hn h2) (hr i u _ h1 (by rw [JE, h2]; rfl))
 | .tup ls, v, hn, h => by
  simp only [EW] at h
  simp only [DX] at hn
  cases h with
  | tup vs _ hsz hr =>
   rw [JF] at hsz
   refine .tup vs ls hsz fun i u x h1 h2 => ?_
   have : SizeOf.sizeOf x < SizeOf.sizeOf ls := List.sizeOf_lt_of_mem (List.mem_of_getElem? h2)
   exact J8 hO x u (Gz hn h2) (hr i u _ h1 (by rw [JE, h2]; rfl))
 | .fn f ls, v, hn, h => by
  simp only [EW] at h
  simp only [DX] at hn
  cases h with
  | fn _ vs _ hsz hr =>
   rw [JF] at hsz
   refine .fn f vs ls hsz fun i u x h1 h2 => ?_
   have : SizeOf.sizeOf x < SizeOf.sizeOf ls := List.sizeOf_lt_of_mem (List.mem_of_getElem? h2)
   exact J8 hO x u (Gz hn h2) (hr i u _ h1 (by rw [JE, h2]; rfl))
def UB (gl : List (Nat × Nat)) : A1 -> A1
 | .box cells => .box (EW.renLs gl cells)
 | o => o
def Rj (gl : List (Nat × Nat)) : A1 -> Bool
 | .box cells => DX.namesLs gl cells
 | _ => true
def RA (gl : List (Nat × Nat)) (sl : List (Nat × LV)) : List (Nat × LV) -> Prop
 | [] => True
 | (t, l) :: rest => (DX gl l = true /\ Bj sl t = EW gl l) /\ RA gl sl rest
def RB (gl : List (Nat × Nat)) (h : AN) : AN -> Prop
 | [] => True
 | (id, o) :: rest => (Rj gl o = true /\ ∃ old, AF id gl = some old /\ AF old h = some (UB gl o)) /\ RB gl h rest
theorem O3 {gl : List (Nat × Nat)} {sl : List (Nat × LV)} : ∀ {sl' : List (Nat × LV)}, RA gl sl sl' -> ∀ t l, AF t sl' = some l -> DX gl l = true /\ Bj sl t = EW gl l
 | [], _, t, l, h => by simp [AF] at h
 | (u, x) :: rest, ⟨h1, h2⟩, t, l, h => by
  simp only [AF] at h
  split at h
  .cases h; subst_vars; exact h1
  exact O3 h2 t l h
theorem Gf {gl : List (Nat × Nat)} {hp : AN} : ∀ {h' : AN}, RB gl hp h' -> ∀ id o, AF id h' = some o -> Rj gl o = true /\ ∃ old, AF id gl = some old /\ AF old hp = some (UB gl o)
 | [], _, id, o, h => by simp [AF] at h
 | (u, x) :: rest, ⟨h1, h2⟩, id, o, h => by
  simp only [AF] at h
  split at h
  .cases h; subst_vars; exact h1
  exact Gf h2 id o h
theorem Lu {α : Type} {t : Nat} {v : α} : ∀ {l : List (Nat × α)}, AF t l = some v -> (t, v) ∈ l
 | [], h => by simp [AF] at h
 | (k, u) :: l, h => by
  simp only [AF] at h
  split at h
  .cases h; subst_vars; simp
  exact List.mem_cons_of_mem _ (Lu h)
def O4 (gl : List (Nat × Nat)) (h : AN) (c : Nat) : Bool := decide (h.map fun p => (AF p.1 gl).getD 0).Nodup && gl.all fun p => decide (p.1 < c)
theorem V5 {gl : List (Nat × Nat)} {h : AN} (hn : (h.map fun p => (AF p.1 gl).getD 0).Nodup) {a b : Nat × A1} (ha : a ∈ h) (hb : b ∈ h) (e : (AF a.1 gl).getD 0 = (AF b.1 gl).getD 0) : a = b := by
 induction h with
 | nil => simp at ha
 | cons x l ih =>
  simp only [List.map_cons, List.nodup_cons, List.mem_map, not_exists, not_and] at hn
  rcases List.mem_cons.1 ha with e1 | ha' <;> rcases List.mem_cons.1 hb with e2 | hb'
  .rw [e1, e2]
  .subst e1; exact absurd e.symm (hn.1 b hb')
  .subst e2; exact absurd e (hn.1 a ha')
  exact ih hn.2 ha' hb'
theorem V6 (gl : List (Nat × Nat)) {nt : Nat} {sl sl' : List (Nat × LV)} {h h' : AN} {c c' : Nat} (hext : ∀ id, A.μ0 id ≠ none -> AF id gl = some id) (ho : O4 gl h' c' = true)
  (hs : RA gl sl sl') (hh' : RB gl h h') : A6 A ⟨nt, sl, h, c⟩ ⟨nt, sl', h', c'⟩ := fun a w ⟨⟨μ, hh, hr⟩, hnt, hdef⟩ => by
 simp only [O4, Bool.and_eq_true, decide_eq_true_eq, List.all_eq_true] at ho
 have hmine : ∀ b, B3 (FD gl μ) h' b -> B3 μ h b := by
  rintro b ⟨id, o, loc, h1, h2, h3, h4⟩
  obtain ⟨_, old, g1, g2⟩ := Gf hh' id o h1
  simp only [FD, g1] at h2
  exact ⟨old, _, loc, g2, h2, h3, h4⟩
 have hown : ∀ b, b < w.heap.size -> Ad A (FD gl μ) h' b -> Ad A μ h b := fun b _ hb => hb.imp id (hmine b)
 refine ⟨⟨FD gl μ, ⟨?_, ?_, ?_, ?_, hh.size, hh.block, hh.os, hh.tape, hh.output, ?_⟩, fun t ht => ?_⟩, hnt, hdef⟩
 .intro id o hid
  obtain ⟨hn, old, g1, g2⟩ := Gf hh' id o hid
  obtain ⟨loc, k1, k2⟩ := hh.obj old _ g2
  refine ⟨loc, by simp only [FD, g1]; exact k1, ?_⟩
  cases o with
  | box cells =>
   obtain ⟨a1, cs, ty, a2, a3, a4⟩ := k2
   rw [JF] at a3
   refine ⟨a1, cs, ty, a2, a3, fun i v l hv hl => J8 hown l v (Gz hn hl) (a4 i v _ hv (by rw [JE, hl]; rfl))⟩
  | row e sz elems =>
   obtain ⟨a1, a2, a3⟩ := k2
   refine ⟨a1, a2, ?_⟩
   rcases a3 with a3 | ⟨b1, cs, b2, b3, b4, b5, b6⟩
   .exact .inl a3
   exact .inr ⟨b1, cs, b2, b3, b4, b5, fun i j x d v hx hd hv => (b6 i j x d v hx hd hv).mono (BT.refl _ _) hown⟩
  | map m =>
   obtain ⟨a1, es, clock, a2, a3, a4, a5⟩ := k2
   exact ⟨a1, es, clock, a2, a3, a4, fun i e p he hp => ⟨(a5 i e p he hp).1.mono (BT.refl _ _) hown, (a5 i e p he hp).2.mono (BT.refl _ _) hown⟩⟩
  | iter cur left => exact ⟨k2.1, k2.2.mono (BT.refl _ _) hown rfl⟩
 .intro id id' o o' loc loc' h1 h2 m1 m2 n1 n2 hb
  obtain ⟨_, old, g1, g2⟩ := Gf hh' id o h1
  obtain ⟨_, old', g1', g2'⟩ := Gf hh' id' o' h2
  simp only [FD, g1] at m1
  simp only [FD, g1'] at m2
  have := hh.inj _ _ _ _ _ _ g2 g2' m1 m2 n1 n2 hb
  have := V5 ho.1 (Lu h1) (Lu h2) (by simp only [g1, g1', Option.getD_some]; exact this)
  exact congrArg (·.1) this
 .intro id hid
  simp only [FD]
  cases hl : AF id gl with
  | none => rfl
  | some old =>
   have := ho.2 _ (Lu hl)
   simp only [Fr] at hid
   omega
 .intro id o loc h1 m1 n1
  obtain ⟨_, old, g1, g2⟩ := Gf hh' id o h1
  simp only [FD, g1] at m1
  exact hh.base _ _ _ g2 m1 n1
 .intro id loc hm
  have := hext id (by rw [hm]; simp)
  simp only [FD, this]
  exact hh.ext _ _ hm
 show AZ _ _ _ _ (match AF t sl' with | some v => v | none => .any)
 cases hl : AF t sl' with
 | none => exact .any _
 | some l =>
  obtain ⟨g1, g2⟩ := O3 hs t l hl
  have := hr t ht
  simp only at this
  rw [g2] at this
  exact J8 hown l _ g1 this
theorem CO {nt : Nat} {sl : List (Nat × LV)} {h : AN} {c : Nat} (t e sz : Nat) (ht : Bj sl t = .p .nils) : A6 A ⟨nt, sl, h, c⟩ ⟨nt, (t, .lsl c sz 0 0) :: sl, (c, .row e sz []) :: h, c + 1⟩ := fun a w ⟨⟨μ, hh, hr⟩, hnt, hdef⟩ => by
 have hno := hh.fresh c (Nat.le_refl _)
 let loc : BX := ⟨true, 0, 0, sz, 0⟩
 have hsub : ∀ id x, AF id ((c, A1.row e sz []) :: h) = some x -> (id = c /\ x = .row e sz []) \/ AF id h = some x := by
  intro id x hx
  simp only [AF] at hx
  split at hx
  .cases hx; exact .inl ⟨‹_›, rfl⟩
  exact .inr hx
 have hadd := hh.add hno loc (.row e sz []) ((c, .row e sz []) :: h) (fun hn => by cases hn) (fun hn => by cases hn) hsub (BT.refl _ _) (fun _ _ _ _ _ _ _ => rfl) rfl rfl rfl ⟨rfl, by simp, .inl ⟨rfl, rfl⟩⟩
 have hown := hh.sub_add loc (.row e sz []) ((c, .row e sz []) :: h) (fun hn => by cases hn) hsub
 refine ⟨⟨_, hadd.less (F' := Fr (c + 1)) fun id hid => ?_, fun u hu => ?_⟩, hnt, hdef⟩
 .simp only [Fr] at hid ⊢; omega
 show AZ _ _ _ _ (match AF u ((t, LV.lsl c sz 0 0) :: sl) with | some v => v | none => .any)
 simp only [AF]
 by_cases hut : u = t
 .subst hut
  rw [if_pos rfl]
  have := hr u hu
  simp only at this
  rw [ht] at this
  rw [this.nils_inv]
  exact .lsln c loc (by simp [Bz]) rfl
 rw [if_neg hut]
 exact (hr u hu).mono (BT.refl _ _) hown (Iq hno loc)
end
end Go.E
/- Loops whose states are told outright; parts of a body. No condition. -/
namespace Go.E
open Go Go.RowKit
section
variable {P : Program} {A : BF} {AB : Ax} {Q : Exit -> St -> Prop} {st : St}
theorem AE {next : St -> Prop} (h : next st) : Nh next Q .normal st := h
theorem AO {next : St -> Prop} (h : Q .ret st) : Nh next Q .ret st := h
theorem Ap {next : St -> Prop} {id : Nat} (h : Q (.exit id) st) : Nh next Q (.exit id) st := h
theorem Av {id : Nat} (h : Q .normal st) : GA id Q .normal st := h
theorem Ak {id : Nat} (h : Q .ret st) : GA id Q .ret st := h
theorem BA {id : Nat} (h : Q .normal st) : GA id Q (.exit id) st := by simp only [GA, if_true]; exact h
theorem Y7 {id id' : Nat} (hne : (id' == id) = false) (h : Q (.exit id') st) : GA id Q (.exit id') st := by
 simp only [GA]
 rw [if_neg (by simpa using hne)]; exact h
theorem X9 {P : Program} {AB : Ax} (hE : Ay P AB) {k : Nat} {fn : Func} {c : Code} (hf : P.funcs[k]? = some fn) (hb : fn.body = some c) (hn : (fn.name == "runtime.NumGoroutine") = false) (nt : Nat) (hnt : fn.ntmps = nt)
  (rs : List ResultVar) (hrs : fn.results.toList = rs) {ds : List DV} (hlen : ds.length <= nt) {Q : DV -> Prop}
  (h : ∀ A : BF, (∀ id, A.μ0 id = none) -> B2 P A c (Lk fun st => ∃ r, E8 AB.tt rs st = some r /\ Q r) ⟨nt, DA 0 ds, [], 0⟩) : Bk P k ds Q := by
 subst hnt hrs
 exact Ow hE hf hb hn hlen h
theorem Y8 {h : AN} {c k : Nat} {args : List LV} {ds : List DV} {r : DV} {f : LV × AN × Nat -> Prop} {hf : Hq f} (hds : Bt h args = some ds) (hF : Bk P k ds (· = r))
  (hs : r.scalar = true \/ args.flatMap (Dc h) = []) (hK : f (.p r, h, c)) : Ht P A h c k args ⟨f, hf⟩ :=
 C2.pure hds hF fun q hq => by
  subst hq
  split
  .exact hK
  rcases hs with hs | hs
  .exact absurd hs ‹_›
  rw [hs]; exact hK
theorem Y9 {h h' : AN} {c k : Nat} {args : List LV} {ds : List DV} {r : DV} {f : LV × AN × Nat -> Prop} {hf : Hq f} (hds : Bt h args = some ds) (hF : Bk P k ds (· = r))
  (hs : r.scalar = false) (hd : B6 (args.flatMap (Dc h)) h = h') (hK : f (.p r, h', c)) : Ht P A h c k args ⟨f, hf⟩ :=
 C2.pure hds hF fun q hq => by
  subst hq
  rw [if_neg (by simp [hs]), hd]; exact hK
def Le (r d : DV) : Prop := ∀ (O : Nat -> Prop) (w : World) (v : Value), Ar O w v r -> Ar O w v d
theorem Le.of_eq {r d : DV} (h : r = d) : Le r d := fun _ _ _ hv => h ▸ hv
theorem Le.nil (sz : Nat) : Le .nils (.slice sz []) := fun _ _ _ hv => by cases hv; exact .snil sz
theorem Le.tup {l m : List DV} (hl : l.length = m.length) (h : ∀ (i : Nat) (a b : DV), l[i]? = some a -> m[i]? = some b -> Le a b) : Le (.tup l) (.tup m) := fun O w v hv => by
 cases hv with
 | tup vs _ hsz hr =>
  refine .tup vs m (by omega) fun i u d h1 h2 => ?_
  have hi := (List.getElem?_eq_some_iff.1 h2).1
  have hx : l[i]? = some (l[i]'(by omega)) := List.getElem?_eq_getElem _
  exact h i _ d hx h2 O w u (hr i u _ h1 hx)
theorem Le.agg {l m : List DV} (hl : l.length = m.length) (h : ∀ (i : Nat) (a b : DV), l[i]? = some a -> m[i]? = some b -> Le a b) : Le (.agg l) (.agg m) := fun O w v hv => by
 cases hv with
 | agg vs _ hsz hr =>
  refine .agg vs m (by omega) fun i u d h1 h2 => ?_
  have hi := (List.getElem?_eq_some_iff.1 h2).1
  have hx : l[i]? = some (l[i]'(by omega)) := List.getElem?_eq_getElem _
  exact h i _ d hx h2 O w u (hr i u _ h1 hx)
theorem Le.cons {a b : DV} {l m : List DV} (h : Le a b) (hr : ∀ (i : Nat) (a b : DV), l[i]? = some a -> m[i]? = some b -> Le a b) : ∀ (i : Nat) (x y : DV), (a :: l)[i]? = some x -> (b :: m)[i]? = some y -> Le x y := fun i x y h1 h2 => by
 cases i with
 | zero => simp at h1 h2; subst h1 h2; exact h
 | succ i => exact hr i x y (by simpa using h1) (by simpa using h2)
theorem YA {P : Program} {AB : Ax} (hE : Ay P AB) {k : Nat} {fn : Func} {c : Code} (hf : P.funcs[k]? = some fn) (hb : fn.body = some c) (hn : (fn.name == "runtime.NumGoroutine") = false) (nt : Nat) (hnt : fn.ntmps = nt)
  (rs : List ResultVar) (hrs : fn.results.toList = rs) {ds : List DV} (hlen : ds.length <= nt) {d : DV}
  (h : ∀ A : BF, (∀ id, A.μ0 id = none) -> B2 P A c (Lk fun st => ∃ r, E8 AB.tt rs st = some r /\ Le r d) ⟨nt, DA 0 ds, [], 0⟩) : Bk P k ds (· = d) := by
 have := X9 hE hf hb hn nt hnt rs hrs hlen h
 exact ⟨this.enters, fun O w vs h1 h2 h3 => (this.run O w vs h1 h2 h3).mono fun _ _ ⟨v, r, e, hr, q, hb⟩ => ⟨v, d, e, q _ _ _ hr, rfl, hb⟩⟩
end
end Go.E
/- The equations by which a walk is reckoned. Written by a program (mkev.py). No condition. -/
namespace Go.E
open Go Go.RowKit
theorem Rk : ∀ l : List DV, GD (l.map .p) = some l
 | [] => rfl
 | x :: l => by simp [GD, Rk l]
end Go.E
/- Drawn regions in short form. Conditions: GC and mixedOrders, by kernel. -/
namespace Go.E
open Go Go.RowKit
def V7 (P : Program) (h : AN) (k : Nat) (args : List LV) (K : A0 DV) : Prop :=
 ∃ ds r, Bt h args = some ds /\ Bk P k ds (· = r) /\ (r.scalar = true \/ args.flatMap (Dc h) = []) /\ K.f r
def Zg (P : Program) (AB : Ax) (h : AN) (k : Nat) (args : List LV) (K : A0 (Nat × Nat × List (List DV))) : Prop :=
 AB.own = true /\ ∃ ds t sz elems, Bt h args = some ds /\ E9 P k ds t sz elems /\ Tz (args.flatMap (Dc h)) elems /\ K.f (t, sz, elems)
def W0 (AB : Ax) (neg : Bool) (t : Nat) (x y : LV) (k : A0 LV) : Prop :=
 match y with
 | .p .nils => False
 | y => TH AB neg t x y k
def Rl (AB : Ax) (op : BinOp) (t : Nat) (x y : LV) (k : A0 LV) : Prop :=
 match x, y with
 | .p (.int k1 a), .p (.int k2 b) => k1 = k2 /\ LG op k1 a b k
 | x, y => match op with
  | .eql => W0 AB false t x y k
  | .neq => W0 AB true t x y k
  | _ => False
def UC (sh : Sh) (x : LV) (k : A0 LV) : Prop :=
 match sh, x with
 | .arr n _, _ => k.f (.p (.int .i64 n))
 | .slc _, .p (.slice _ l) => k.f (.p (.int .i64 l.length))
 | .slc _, .p .nils => k.f (.p (.int .i64 0))
 | .slc _, .lsl _ _ _ len => k.f (.p (.int .i64 len))
 | .str, .p (.str s) => k.f (.p (.int .i64 s.size))
 | _, _ => False
def Hv (P : Program) (A : BF) (AB : Ax) (st : St) (dst : Option Tmp) (op : Op) (K : A0 St) : Prop :=
 match op with
 | .binOp op t x y _ => Rl AB op t (st.eval x) (st.eval y) ⟨fun l => K.f (st.put dst l), ⟨⟩⟩
 | .call c => match c.callee, c.args.toList, c.argTypes.toList with
  | .builtin .len, [x], [t] => Cm AB t ⟨fun ti => UC ti.sh (st.eval x) ⟨fun l => K.f (st.put dst l), ⟨⟩⟩, ⟨⟩⟩
  | .builtin .len, _, _ => False
  | .builtin .delete, _, _ => False
  | .value f, args, _ => if Cs f = true then ∃ l h', Q8 P AB st c l h' /\ K.f (st.go dst l h' (st.ctr + 1)) else LH (st.eval f) ⟨fun g => V7 P st.heap g.1 (args.map st.eval ++ g.2) ⟨fun r => K.f (st.put dst (.p r)), ⟨⟩⟩ \/
    Zg P AB st.heap g.1 (args.map st.eval ++ g.2) ⟨fun r => K.f (({ st with heap := (st.ctr, .row r.1 r.2.1 r.2.2) :: st.heap, ctr := st.ctr + 1 } : St).put dst (.lsl st.ctr r.2.1 0 r.2.2.length)), ⟨⟩⟩, ⟨⟩⟩
  | _, _, _ => BH P A AB st dst (.call c) K
 | .range _ _ => False
 | .next _ _ => False
 | .entry _ => False
 | .load t x => LA AB.calm (st.eval x) = true /\ BH P A AB st dst (.load t x) K
 | .store t x v => J2 AB.calm (st.eval x) = true /\ BH P A AB st dst (.store t x v) K
 | op => BH P A AB st dst op K
def C4 (P : Program) (A : BF) (AB : Ax) (base n : Nat) (K : A0 St) : List (Nat × Gy) -> St -> Prop
 | [], st => X8 K (st.at (base + n))
 | (i, ⟨dst, op, none⟩) :: rest, st => Hv P A AB (st.at (base + i)) dst op ⟨C4 P A AB base n K rest, ⟨⟩⟩
 | (i, ⟨dst, op, some (d, want)⟩) :: rest, st => gM (Fb st d) want ⟨fun _ => Hv P A AB (st.at (base + i)) dst op ⟨C4 P A AB base n K rest, ⟨⟩⟩, ⟨⟩⟩ ⟨fun _ => C4 P A AB base n K rest (st.put dst .und), ⟨⟩⟩
section
variable {P : Program} {A : BF} {AB : Ax}
theorem St.at_at (st : St) (c d : Nat) : (st.at c).at d = st.at d := rfl
theorem XR {v : LV} {want : Bool} {f f' g g' : Unit -> Prop} (h1 : f () = f' ()) (h2 : g () = g' ()) : gM v want ⟨f, ⟨⟩⟩ ⟨g, ⟨⟩⟩ = gM v want ⟨f', ⟨⟩⟩ ⟨g', ⟨⟩⟩ := by
 unfold gM
 split
 .simp only [gW, h1, h2]
 .exact h2
 rfl
theorem O5 (base n : Nat) (K : A0 St) (l : List (Nat × Gy)) : ∀ (st : St) (c : Nat), C4 P A AB base n K l (st.at c) = C4 P A AB base n K l st := by
 induction l with
 | nil => intro st c; rfl
 | cons p l ih =>
  intro st c
  obtain ⟨i, dst, op, g⟩ := p
  cases g with
  | none => rfl
  | some g =>
   obtain ⟨d, want⟩ := g
   have e1 : Fb (st.at c) d = Fb st d := by cases d <;> rfl
   have e2 : C4 P A AB base n K l ((st.at c).put dst .und) = C4 P A AB base n K l (st.put dst .und) := by
    have : (st.at c).put dst .und = (st.put dst .und).at c := by cases dst <;> rfl
    rw [this, ih]
   simp only [C4, e1, St.at_at]
   exact XR rfl e2
theorem TM {neg : Bool} {t : Nat} {x y : LV} {k : A0 LV} (h : W0 AB neg t x y k) : ∃ l, QQ AB neg t x y (· = l) /\ k.f l := by
 unfold W0 at h
 split at h
 .exact h.elim
 rename_i hne
 unfold TH at h
 unfold QQ
 split at h
 .exact ⟨_, rfl, h⟩
 .obtain ⟨ti, h1, h2, h3⟩ := AS.1 h; exact ⟨_, ⟨⟨ti, h1, h2⟩, rfl⟩, h3⟩
 .obtain ⟨ks, h1, h2, h3, h4⟩ := AR.1 h; exact ⟨_, ⟨ks, h1, h2, h3, rfl⟩, h4⟩
 .exact absurd rfl hne
 .exact absurd rfl hne
 .exact absurd rfl hne
 .exact ⟨_, ⟨h.1, rfl⟩, h.2⟩
 .exact ⟨_, ⟨h.1, rfl⟩, h.2⟩
 .exact ⟨_, ⟨h.1, rfl⟩, h.2⟩
 exact h.elim
theorem V8 {op : BinOp} {t : Nat} {x y : LV} {k : A0 LV} (h : Rl AB op t x y k) : ∃ l, Pv AB op t x y (· = l) /\ k.f l := by
 unfold Rl at h
 unfold Pv
 split at h
 .obtain ⟨v, h1, h2⟩ := N6 h.2
  exact ⟨_, ⟨h.1, v, h1, rfl⟩, h2⟩
 rename_i hne
 split
 .exact absurd rfl (hne _ _ _ _ rfl)
 split at h
 .exact TM h
 .exact TM h
 exact h.elim
theorem Lv {place : Nat -> Option (Nat × Nat)} {k : A0 (List LV)} : ∀ {ps : List (Nat × LV)} {cells : List LV}, J5 AB place cells ps k -> ∃ l, Hu AB place cells ps (· = l) /\ k.f l
 | [], _, h => ⟨_, rfl, h⟩
 | (i, v) :: rest, cells, h => by
  obtain ⟨p, h1, h⟩ := AR.1 h
  obtain ⟨ti, h2, h⟩ := AS.1 h
  obtain ⟨ls, h3, ⟨h4, h5⟩, h⟩ := AR.1 h
  obtain ⟨l, h6, h7⟩ := Lv h
  exact ⟨l, ⟨p.1, p.2, ti, ls, h1, h2, h3, h4, h5, h6⟩, h7⟩
theorem Lw {place : Nat -> Option (Nat × Nat)} {f : List LV -> LV} {l : List LV} : ∀ {ps : List (Nat × LV)} {cells : List LV}, Hu AB place cells ps (· = l) -> Hu AB place cells ps fun c => f c = f l
 | [], _, h => congrArg f h
 | (i, v) :: rest, cells, ⟨off, t, ti, ls, h1, h2, h3, h4, h5, h6⟩ => ⟨off, t, ti, ls, h1, h2, h3, h4, h5, Lw h6⟩
theorem IV {d : Int} {x : Option LV} {k : A0 Int} (h : Ky d x k) : ∃ n, (∀ k' : Int -> Prop, k' n -> Fc d x k') /\ k.f n := by
 unfold Ky at h; unfold Fc
 split at h
 .exact ⟨_, fun _ h => h, h⟩
 .exact ⟨_, fun _ h => h, h⟩
 exact h.elim
theorem U0 {h : AN} {ti : TI} {p : LV} {k : A0 LV} (hl : O2 h ti p k) : ∃ l, Fx h ti p (· = l) /\ k.f l := by
 unfold O2 at hl
 unfold Fx
 split at hl
 .obtain ⟨r, h1, h2⟩ := AR.1 hl
  exact ⟨r, ⟨r, h1, rfl⟩, h2⟩
 .obtain ⟨o, h1, hl⟩ := AR.1 hl
  obtain ⟨cells, rfl, hl⟩ := IT.1 hl
  obtain ⟨r, h2, h3⟩ := AR.1 hl
  exact ⟨r, ⟨cells, r, h1, h2, rfl⟩, h3⟩
 .obtain ⟨o, h1, hl⟩ := AR.1 hl
  obtain ⟨e, sz, elems, rfl, hl⟩ := FC.1 hl
  obtain ⟨x, h2, hl⟩ := AR.1 hl
  obtain ⟨r, h3, h4⟩ := AR.1 hl
  exact ⟨r, ⟨e, sz, elems, x, r, h1, h2, h3, rfl⟩, h4⟩
 exact hl.elim
theorem UD {t : Nat} {x : LV} {lo hi : Option LV} {k : A0 LV} (h : My AB t x lo hi k) : ∃ l, J6 AB t x lo hi (· = l) /\ k.f l := by
 unfold My at h
 unfold J6
 split at h
 .obtain ⟨ti, h1, h⟩ := AS.1 h
  obtain ⟨e, h2, h⟩ := Cb.1 h
  obtain ⟨te, h3, h4, h⟩ := AS.1 h
  obtain ⟨a, ka, h⟩ := IV h
  obtain ⟨b, kb, h5, h⟩ := IV h
  exact ⟨_, ⟨⟨ti, e, h1, h2, te, h3, h4⟩, ka _ (kb _ ⟨h5.1, h5.2.1, h5.2.2, rfl⟩)⟩, h⟩
 .obtain ⟨ti, h1, h⟩ := AS.1 h
  obtain ⟨e, h2, h⟩ := Cb.1 h
  obtain ⟨te, h3, h4, h6, h⟩ := AS.1 h
  obtain ⟨a, ka, h⟩ := IV h
  obtain ⟨b, kb, h5, h⟩ := IV h
  exact ⟨_, ⟨⟨ti, e, h1, h2, te, h3, h4⟩, h6, ka _ (kb _ ⟨h5.1, h5.2.1, h5.2.2, rfl⟩)⟩, h⟩
 .obtain ⟨ti, h1, h2, h⟩ := AS.1 h
  obtain ⟨a, ka, h⟩ := IV h
  obtain ⟨b, kb, h5, h⟩ := IV h
  exact ⟨_, ⟨⟨ti, h1, h2⟩, ka _ (kb _ ⟨h5.1, h5.2.1, h5.2.2, rfl⟩)⟩, h⟩
 exact h.elim
theorem XS {st : St} {dst : Option Tmp} {op : Op} {K : A0 St} (hK : ∀ (s : St) (c : Nat), K.f (s.at c) -> K.f s) (h : Hv P A AB st dst op K) {o : Oper} (ho : o.dst = dst) :
  ∃ l e, CG P AB st op l e /\ K.f (apS st st.ctr o l e) := by
 subst ho
 have keep : ∀ l, K.f (st.put o.dst l) -> K.f (apS st st.ctr o l .keep) := fun l h => by
  have : apS st st.ctr o l .keep = st.put o.dst l := rfl
  rw [this]; exact h
 have goes : ∀ l e h' c, e.ap st.ctr st.heap = h' -> K.f (st.go o.dst l h' c) -> K.f (apS st st.ctr o l e) := fun l e h' c he hk => by
  refine hK _ c ?_
  have : (apS st st.ctr o l e).at c = st.go o.dst l h' c := by
   unfold apS St.go St.at St.put
   rw [he]
   cases o.dst <;> rfl
  rw [this]; exact hk
 have nC : ∀ l, nW AB st op (· = l) -> (CG P AB st op l .keep ↔ (Ds.keep = Ds.keep /\ nW AB st op (· = l))) -> K.f (st.put o.dst l) -> ∃ l e, CG P AB st op l e /\ K.f (apS st st.ctr o l e) :=
  fun l h1 h2 h3 => ⟨l, .keep, h2.2 ⟨rfl, h1⟩, keep l h3⟩
 cases op <;> simp only [Hv, BH] at h
 case move x => exact nC _ rfl Iff.rfl h
 case assign x => exact nC _ rfl Iff.rfl h
 case pick c a b => obtain ⟨t, h1, h2⟩ := KX.1 h; exact nC _ ⟨t, h1, rfl⟩ Iff.rfl h2
 case nilCheck x =>
  unfold Vx at h
  split at h <;> first | exact h.elim | (rename_i e; refine nC _ ?_ Iff.rfl h; simp only [nW, e]; exact ⟨trivial, trivial⟩)
 case binOp op t x y z => obtain ⟨l, h1, h2⟩ := V8 h; exact nC l h1 Iff.rfl h2
 case unOp op t x =>
  cases op <;> simp only at h
  case neg => obtain ⟨kk, n, h1, h2⟩ := Ca.1 h; exact nC _ (by simp only [nW, TL, h1]) Iff.rfl h2
  case not => obtain ⟨b, h1, h2⟩ := KX.1 h; exact nC _ (by simp only [nW, TL, h1]) Iff.rfl h2
 case convert s d x =>
  obtain ⟨kk, n, h1, h⟩ := Ca.1 h
  obtain ⟨tj, h2, h⟩ := AS.1 h
  obtain ⟨ti, h3, h⟩ := AS.1 h
  obtain ⟨kd, h4, h⟩ := AR.1 h
  refine nC _ ⟨kk, n, ti, tj, h1, h2, h3, kd, ?_, rfl⟩ Iff.rfl h
  generalize ti.sh = q at h4
  cases q <;> simp [T7] at h4
  rw [h4]
 case extract t i =>
  unfold Vy at h
  split at h
  .rename_i l hl; obtain ⟨v, h1, h2⟩ := AR.1 h; exact nC v (by simp only [nW, hl]; exact ⟨v, h1, rfl⟩) Iff.rfl h2
  .rename_i l hl; obtain ⟨v, h1, h2⟩ := AR.1 h; exact nC _ (by simp only [nW, hl]; exact ⟨v, h1, rfl⟩) Iff.rfl h2
  exact h.elim
 case field t x i =>
  obtain ⟨ti, h1, h⟩ := AS.1 h
  obtain ⟨fs, h2, h⟩ := EV.1 h
  obtain ⟨f, h3, h⟩ := AR.1 h
  obtain ⟨tf, h4, h⟩ := AS.1 h
  try dsimp only at h
  unfold Vz at h
  split at h
  .rename_i l hl
   obtain ⟨v, h5, h6⟩ := AR.1 h
   exact nC v ⟨ti, fs, f.1, f.2, tf, l, v, h1, h2, h3, h4, by rw [hl]; rfl, by rw [hl]; trivial, h5, rfl⟩ Iff.rfl h6
  .rename_i l hl
   obtain ⟨v, h5, h6⟩ := AR.1 h
   exact nC v ⟨ti, fs, f.1, f.2, tf, l.map .p, v, h1, h2, h3, h4, by rw [hl]; rfl, by rw [hl]; trivial, h5, rfl⟩ Iff.rfl h6
  exact h.elim
 case build t ps =>
  obtain ⟨ti, h1, h⟩ := AS.1 h
  try dsimp only at h
  unfold Mx at h
  split at h
  .rename_i fs hsh
   obtain ⟨l, h2, h3⟩ := Lv h.2
   exact nC _ ⟨ti, h1, by simp only [hsh]; exact ⟨h.1, Lw h2⟩⟩ Iff.rfl h3
  .rename_i n e hsh
   obtain ⟨te, h2, h⟩ := AS.1 h
   obtain ⟨l, h3, h4⟩ := Lv h
   exact nC _ ⟨ti, h1, by simp only [hsh]; exact ⟨te, h2, Lw h3⟩⟩ Iff.rfl h4
  exact h.elim
 case fieldAddr t x i =>
  obtain ⟨ti, h1, h⟩ := AS.1 h
  obtain ⟨fs, h2, h⟩ := EV.1 h
  obtain ⟨f, h3, h⟩ := AR.1 h
  obtain ⟨tf, h4, h5, h⟩ := AS.1 h
  try dsimp only at h
  unfold T5 at h
  split at h <;> first | exact h.elim | (rename_i e; exact nC _ ⟨ti, fs, f.1, f.2, tf, h1, h2, h3, h4, h5, by simp only [e]⟩ Iff.rfl h)
 case indexAddr t x i =>
  obtain ⟨kk, n, h1, h⟩ := Ca.1 h
  obtain ⟨ti, h2, h⟩ := AS.1 h
  try dsimp only at h
  unfold X6 at h
  split at h
  .rename_i e1 e2
   obtain ⟨te, g1, g2, g3, h⟩ := AS.1 h
   obtain ⟨c, g4, g5⟩ := AR.1 h
   exact nC _ ⟨kk, n, ti, h1, h2, by simp only [e1, e2]; exact ⟨⟨te, g1, g2⟩, g3, c, g4, rfl⟩⟩ Iff.rfl g5
  .rename_i e1 e2
   obtain ⟨te, g1, g2, ⟨g3, g4⟩, h⟩ := AS.1 h
   exact nC _ ⟨kk, n, ti, h1, h2, by simp only [e1, e2]; exact ⟨⟨te, g1, g2⟩, g3, g4, trivial⟩⟩ Iff.rfl h
  .rename_i e1 e2
   obtain ⟨te, g1, ⟨g2, g3⟩, h⟩ := AS.1 h
   exact nC _ ⟨kk, n, ti, h1, h2, by simp only [e1, e2]; exact ⟨te, g1, g2, g3, rfl⟩⟩ Iff.rfl h
  .rename_i e1 e2
   obtain ⟨te, g1, ⟨g2, g3⟩, h⟩ := AS.1 h
   exact nC _ ⟨kk, n, ti, h1, h2, by simp only [e1, e2]; exact ⟨te, g1, g2, g3, rfl⟩⟩ Iff.rfl h
  exact h.elim
 case index t x i =>
  obtain ⟨kk, n, h1, h⟩ := Ca.1 h
  obtain ⟨ti, h2, h0, h⟩ := AS.1 h
  try dsimp only at h
  unfold X7 at h
  split at h
  .rename_i e1 e2
   obtain ⟨te, g1, g2, h⟩ := AS.1 h
   obtain ⟨v, g3, g4⟩ := AR.1 h
   exact nC v ⟨kk, n, ti, h1, h2, h0, by simp only [e1, e2]; exact ⟨te, v, g1, g2, g3, rfl⟩⟩ Iff.rfl g4
  .rename_i e1 e2
   obtain ⟨te, g1, g2, h⟩ := AS.1 h
   obtain ⟨v, g3, g4⟩ := AR.1 h
   exact nC v ⟨kk, n, ti, h1, h2, h0, by simp only [e1, e2]; exact ⟨te, v, g1, g2, g3, rfl⟩⟩ Iff.rfl g4
  .rename_i e1 e2
   obtain ⟨c, g1, g2⟩ := AR.1 h
   exact nC _ ⟨kk, n, ti, h1, h2, h0, by simp only [e1, e2]; exact ⟨c, g1, rfl⟩⟩ Iff.rfl g2
  exact h.elim
 case makeFunc fn first caps =>
  cases fn <;> simp only at h
  rename_i f
  exact nC _ ⟨by simpa using h.1, f, rfl, rfl⟩ Iff.rfl h.2
 case slice t x lo hi mx =>
  cases mx with
  | some m => exact h.elim
  | none => obtain ⟨l, h1, h2⟩ := UD h; exact nC l ⟨rfl, h1⟩ Iff.rfl h2
 case load t x =>
  obtain ⟨hc', h⟩ := h
  obtain ⟨ti, h1, h2⟩ := AS.1 h
  obtain ⟨l, h3, h4⟩ := U0 h2
  exact ⟨l, .keep, ⟨rfl, hc', ti, h1, h3⟩, keep l h4⟩
 case store t x v =>
  obtain ⟨hc', h⟩ := h
  obtain ⟨ti, h1, h⟩ := AS.1 h
  obtain ⟨ls, h2, ⟨h3, h4⟩, h⟩ := AR.1 h
  try dsimp only at h
  unfold Rh at h
  split at h
  .rename_i id off e
   obtain ⟨o', g1, h⟩ := AR.1 h
   obtain ⟨cells, rfl, g2, h⟩ := IT.1 h
   refine ⟨.any, .set _, ⟨hc', _, rfl, ?_⟩, goes _ _ _ _ rfl h⟩
   simp only [mW, JD]
   exact ⟨ti, h1, ls, h2, h3, h4, by simp only [e]; exact ⟨cells, g1, g2, trivial, rfl⟩⟩
  .rename_i id i off e
   obtain ⟨o', g1, h⟩ := AR.1 h
   obtain ⟨e', sz, elems, rfl, h⟩ := FC.1 h
   obtain ⟨x, g2, h⟩ := AR.1 h
   obtain ⟨ds, g3, g4, h⟩ := AR.1 h
   refine ⟨.any, .set _, ⟨hc', _, rfl, ?_⟩, goes _ _ _ _ rfl h⟩
   simp only [mW, JD]
   exact ⟨ti, h1, ls, h2, h3, h4, by simp only [e]; exact ⟨e', sz, elems, x, ds, g1, g2, g4, g3, trivial, rfl⟩⟩
  exact h.elim
 case alloc t => obtain ⟨ti, h1, h2⟩ := AS.1 h; exact ⟨_, .new _, ⟨ti, h1, rfl, rfl⟩, goes _ _ _ _ rfl h2⟩
 case box t x => obtain ⟨ls, h1, h2⟩ := AR.1 h; exact ⟨_, .new _, ⟨ls, h1, rfl, rfl⟩, goes _ _ _ _ rfl h2⟩
 case buildSlice t n ps =>
  obtain ⟨ti, h1, h⟩ := AS.1 h
  obtain ⟨e, h2, h⟩ := Cb.1 h
  obtain ⟨te, h3, ⟨h4, h5⟩, h⟩ := AS.1 h
  obtain ⟨l, h6, h7, h⟩ := AR.1 h
  rcases h with h | h
  .exact ⟨_, .new _, ⟨ti, e, te, l, h1, h2, h3, h4, h5, h6, h7, .inl ⟨rfl, rfl⟩⟩, goes _ _ _ _ rfl h⟩
  exact ⟨_, .keep, ⟨ti, e, te, l, h1, h2, h3, h4, h5, h6, h7, .inr ⟨rfl, rfl⟩⟩, keep _ h⟩
 case makeSlice t l c =>
  obtain ⟨ti, h1, h⟩ := AS.1 h
  obtain ⟨e, h2, h⟩ := Cb.1 h
  obtain ⟨te, h3, h⟩ := AS.1 h
  obtain ⟨k1, n, h4, h⟩ := Ca.1 h
  obtain ⟨k2, n', h5, ⟨h9, h6, h7, h8⟩, h⟩ := Ca.1 h
  simp only at h9
  subst h9
  rcases h with h | h
  .exact ⟨_, .new _, ⟨ti, e, te, n', k1, k2, h1, h2, h3, h4, h5, h6, h7, h8, .inl ⟨rfl, rfl⟩⟩, goes _ _ _ _ rfl h⟩
  exact ⟨_, .keep, ⟨ti, e, te, n', k1, k2, h1, h2, h3, h4, h5, h6, h7, h8, .inr ⟨rfl, rfl⟩⟩, keep _ h⟩
 case makeMap t r =>
  cases r with
  | some r => exact h.elim
  | none => exact ⟨_, .new _, ⟨rfl, rfl, rfl⟩, goes _ _ _ _ rfl h⟩
 case lookup t x i ok =>
  obtain ⟨ti, h1, h⟩ := AS.1 h
  obtain ⟨kt, et, h2, h⟩ := Dv.1 h
  obtain ⟨te, h3, h⟩ := AS.1 h
  obtain ⟨m, h4, h⟩ := AR.1 h
  obtain ⟨kd, h5, ⟨h6, h7⟩, h⟩ := C8.1 h
  exact ⟨_, .keep, ⟨rfl, ti, kt, et, te, m, kd, h1, h2, h3, h4, h5, h6, h7, rfl⟩, keep _ h⟩
 case mapUpdate t x i v =>
  obtain ⟨ti, h1, h⟩ := AS.1 h
  obtain ⟨kt, et, h2, h⟩ := Dv.1 h
  obtain ⟨id, h3, h⟩ := EH.1 h
  obtain ⟨o', h4, h⟩ := AR.1 h
  obtain ⟨m, rfl, h⟩ := FB.1 h
  obtain ⟨kd, h5, h⟩ := C8.1 h
  obtain ⟨vd, h6, ⟨h7, h8⟩, h⟩ := C8.1 h
  refine ⟨.any, .set _, ⟨_, rfl, ?_⟩, goes _ _ _ _ rfl h⟩
  simp only [mW, LC]
  exact ⟨ti, kt, et, id, m, kd, vd, h1, h2, h3, h4, h5, h6, h7, h8, trivial, rfl⟩
 case mapEntry t x i =>
  obtain ⟨ti, h1, h⟩ := AS.1 h
  obtain ⟨kt, et, h2, h⟩ := Dv.1 h
  obtain ⟨te, h3, h⟩ := AS.1 h
  obtain ⟨id, h4, h⟩ := EH.1 h
  obtain ⟨o', h5, h⟩ := AR.1 h
  obtain ⟨m, rfl, h⟩ := FB.1 h
  obtain ⟨kd, h6, ⟨h7, h8⟩, h⟩ := C8.1 h
  refine ⟨_, .set _, ⟨_, rfl, ?_⟩, goes _ _ _ _ rfl h⟩
  simp only [mW, LD]
  exact ⟨ti, kt, et, te, id, m, kd, h1, h2, h3, h4, h5, h6, h7, h8, rfl, rfl⟩
 case entryStore t x s v =>
  obtain ⟨id, h1, h⟩ := EH.1 h
  obtain ⟨o', h2, h⟩ := AR.1 h
  obtain ⟨m, rfl, h⟩ := FB.1 h
  obtain ⟨kk, n, h3, h⟩ := Ca.1 h
  obtain ⟨vd, h4, h0, h⟩ := C8.1 h
  obtain ⟨p, h5, h⟩ := AR.1 h
  refine ⟨.any, .set _, ⟨_, rfl, ?_⟩, goes _ _ _ _ rfl h⟩
  simp only [mW, Ms]
  exact ⟨id, m, kk, n, vd, p, h1, h2, h3, h0, h5, h4, trivial, rfl⟩
 case call c =>
  obtain ⟨callee, args, ats⟩ := c
  simp only at h
  split at h
  .rename_i x t e2 e3
   obtain ⟨ti, h1, h⟩ := AS.1 h
   have ha : args = #[x] := by rw [<- Array.toList_inj, e2]
   have hb : ats = #[t] := by rw [<- Array.toList_inj, e3]
   try dsimp only at h
   unfold UC at h
   split at h
   .rename_i g; exact nC _ (by simp only [nW]; exact ⟨x, t, ti, ha, hb, h1, by simp only [g]⟩) Iff.rfl h
   .rename_i g1 g2; exact nC _ (by simp only [nW]; exact ⟨x, t, ti, ha, hb, h1, by simp only [g1, g2, J7]; try (intros; trivial)⟩) Iff.rfl h
   .rename_i g1 g2; exact nC _ (by simp only [nW]; exact ⟨x, t, ti, ha, hb, h1, by simp only [g1, g2, J7]; try (intros; trivial)⟩) Iff.rfl h
   .rename_i g1 g2; exact nC _ (by simp only [nW]; exact ⟨x, t, ti, ha, hb, h1, by simp only [g1, g2, J7]; try (intros; trivial)⟩) Iff.rfl h
   .rename_i g1 g2; exact nC _ (by simp only [nW]; exact ⟨x, t, ti, ha, hb, h1, by simp only [g1, g2, J7]; try (intros; trivial)⟩) Iff.rfl h
   exact h.elim
  .exact h.elim
  .exact h.elim
  .rename_i f
   split at h
   .rename_i hd
    obtain ⟨l, h', g1, g2⟩ := h
    exact ⟨l, .set h', by show (if Cs f = true then _ else _); rw [if_pos hd]; exact ⟨h', rfl, g1⟩, goes _ _ _ _ rfl g2⟩
   rename_i hnd
   obtain ⟨k, caps, g1, g2⟩ := TJ.1 h
   rcases g2 with ⟨ds, r, g3, g4, g5, g6⟩ | ⟨g0, ds, t, sz, elems, g3, g4, g5, g6⟩
   .exact ⟨_, .keep, by show (if Cs f = true then _ else _); rw [if_neg hnd]; exact .inl ⟨rfl, k, caps, ds, r, g1, g3, g4, g5, rfl⟩, keep _ g6⟩
   exact ⟨_, .new _, by show (if Cs f = true then _ else _); rw [if_neg hnd]; exact .inr ⟨g0, k, caps, ds, t, sz, elems, g1, g3, g4, g5, rfl, rfl⟩, goes _ _ _ _ rfl g6⟩
  rename_i hne
  unfold Lr at h
  simp only at h
  split at h
  .rename_i g; exact (g _ rfl).elim
  .rename_i s x t t' e2 e3 _ _ _
   obtain ⟨rfl, h⟩ := h
   obtain ⟨ti, h1, h⟩ := AS.1 h
   obtain ⟨e, h2, h⟩ := Cb.1 h
   obtain ⟨te, h3, h4, h⟩ := AS.1 h
   obtain ⟨new, h5, h6, h⟩ := AR.1 h
   have ha : args = #[s, x] := by rw [<- Array.toList_inj, e2]
   have hb : ats = #[t', t'] := by rw [<- Array.toList_inj, e3]
   try dsimp only at h
   unfold Ri at h
   split at h
   .rename_i e9
    refine ⟨_, .set _, ⟨_, rfl, ?_⟩, goes _ _ _ _ rfl h.2⟩
    simp only [mW]
    exact ⟨trivial, s, x, t', ha, hb, ti, e, te, h1, h2, h3, h4, new, h5, h6, by simp only [e9]; exact ⟨h.1.1, h.1.2, trivial, trivial⟩⟩
   .rename_i id sz off len e9
    obtain ⟨hsz, h⟩ := h
    obtain ⟨o', g1, h⟩ := AR.1 h
    obtain ⟨e', sz', elems, rfl, ⟨k1, k2, g2, g3, g4⟩, h9⟩ := FC.1 h
    subst k1; subst k2
    refine ⟨_, .set _, ⟨_, rfl, ?_⟩, goes _ _ _ _ rfl h9⟩
    simp only [mW]
    exact ⟨trivial, s, x, t', ha, hb, ti, e', te, h1, h2, h3, h4, new, h5, h6, by simp only [e9]; exact ⟨elems, hsz, g1, g2, g3, g4, trivial, rfl⟩⟩
   exact h.elim
  .simp_all
  .rename_i x t e2 e3
   simp_all
  .obtain ⟨r, h1, h⟩ := AR.1 h
   exact nC _ (by simp only [nW]; exact ⟨r, h1, rfl⟩) Iff.rfl h
  .obtain ⟨r, h1, h⟩ := AR.1 h
   exact nC _ (by simp only [nW]; exact ⟨r, h1, rfl⟩) Iff.rfl h
  exact h.elim
 all_goals exact h.elim
def Ef (ops : List Oper) (order : List Nat) : List (Nat × Gy) :=
 match order with
 | [] => []
 | i :: rest => match ops[i]? with
  | some o => (i, Mw ops o) :: Ef ops rest
  | none => []
theorem GF {ops : List Oper} {base : Nat} {K : A0 St} : ∀ (order : List Nat) (st : St), (order.all fun i => decide (i < ops.length)) = true -> C4 P A AB base ops.length K (Ef ops order) st ->
  Fy P AB ops.toArray base (fun st' => K.f { st' with ctr := base + ops.length }) order st
 | [], st, _, h => h.h
 | i :: rest, st, hb, h => by
  simp only [List.all_cons, Bool.and_eq_true, decide_eq_true_eq] at hb
  obtain ⟨o, ho⟩ : ∃ o, ops[i]? = some o := ⟨_, List.getElem?_eq_getElem hb.1⟩
  have ih := GF (ops := ops) (base := base) (K := K) rest
  have hp : Ef ops (i :: rest) = (i, Mw ops o) :: Ef ops rest := by simp [Ef, ho]
  rw [hp] at h
  have ho' : ops.toArray[i]? = some o := by simpa using ho
  have step : Hv P A AB (st.at (base + i)) o.dst o.op ⟨C4 P A AB base ops.length K (Ef ops rest), ⟨⟩⟩ ->
    ∃ l e, CG P AB (st.at (base + i)) o.op l e /\ Fy P AB ops.toArray base (fun st' => K.f { st' with ctr := base + ops.length }) rest (apS st (base + i) o l e) := fun h => by
   obtain ⟨l, e, h1, h2⟩ := XS (fun s c hk => by
    have := O5 (P := P) (A := A) (AB := AB) base ops.length K (Ef ops rest) s c
    simp only at hk ⊢
    rw [<- this]; exact hk) h (o := o) rfl
   refine ⟨l, e, h1, ih _ hb.2 ?_⟩
   have e1 : apS (st.at (base + i)) (st.at (base + i)).ctr o l e = (apS st (base + i) o l e).at (base + i) := by
    unfold apS St.at St.put
    cases o.dst <;> rfl
   simp only at h2
   rw [e1, O5] at h2
   exact h2
  simp only [Fy, ho']
  simp only [Mw] at h
  cases hg : o.guard with
  | none =>
   rw [hg] at h
   exact step h
  | some g =>
   obtain ⟨j, want⟩ := g
   rw [hg] at h
   simp only [C4, QR] at h
   unfold gM at h
   have sk : C4 P A AB base ops.length K (Ef ops rest) (st.put o.dst .und) -> Fy P AB ops.toArray base (fun st' => K.f { st' with ctr := base + ops.length }) rest (apS st (base + i) o .und .keep) := fun h => by
    have e1 : apS st (base + i) o .und .keep = st.put o.dst .und := rfl
    rw [e1]; exact ih _ hb.2 h
   simp only
   split at h
   .rename_i b e
    try simp only [e]
    exact ⟨fun hb => step (h.1 hb), fun hb => sk (h.2 hb)⟩
   .rename_i e
    try simp only [e]
    exact sk h
   exact h.elim
end
end Go.E
/- The equations by which a drawn region is reckoned. Written by a program (mkev.py). No condition. -/
namespace Go.E
open Go Go.RowKit
section
variable {P : Program}
theorem Zh {h : AN} {k : Nat} {args : List LV} {ds : List DV} {r : DV} {f : DV -> Prop} {hf : Hq f} (hds : Bt h args = some ds) (hF : Bk P k ds (· = r))
  (hs : r.scalar = true \/ args.flatMap (Dc h) = []) (hK : f r) : V7 P h k args ⟨f, hf⟩ := ⟨ds, r, hds, hF, hs, hK⟩
end
end Go.E
/- Functions that hand back a slice of their own: the caller may write into it. No condition. -/
namespace Go.E
open Go Go.RowKit
section
variable {P : Program} {A : BF} {AB : Ax}
theorem C2.own {h : AN} {ctr k : Nat} {args : List LV} {ds : List DV} {e sz : Nat} {elems : List (List DV)} {K : LV -> AN -> Nat -> Prop} (hds : Bt h args = some ds) (hf : E9 P k ds e sz elems)
  (hl : args.flatMap (Dc h) = []) (hK : K (.lsl ctr sz 0 elems.length) ((ctr, .row e sz elems) :: h) (ctr + 1)) : C2 P A h ctr k args K := by
 refine ⟨hf.enters, fun μ w vs hh hsz hr => ?_⟩
 obtain ⟨g1, g2⟩ := EU hh (l := args.flatMap (Dc h)) hds (fun id hid => hid)
 rw [hl] at g2
 have hO : ∀ b, Ad A μ h b -> b < w.heap.size := by
  rintro b (hb | ⟨id, x, lc, h1, h2, h3, rfl⟩)
  .exact Nat.lt_of_lt_of_le (A.hO b hb).1 hh.size
  exact (hh.base id x lc h1 h2 h3).1
 refine (hf.run (Ad A μ h) w vs hO (by omega) fun i v d hv hd => ?_).mono fun en w' ⟨v, he, hn, hb⟩ => ?_
 .have hi := (List.getElem?_eq_some_iff.1 hd).1
  have hx : args[i]? = some (args[i]'(by omega)) := List.getElem?_eq_getElem _
  exact g2 i v _ d hx hd (hr i v _ hv hx)
 have hno : μ ctr = none := hh.fresh ctr (Nat.le_refl _)
 obtain ⟨hlen, hn⟩ := hn
 have hkm : BT (B3 μ h) w w' := ⟨hb.size, fun b hb' _ => hb.block b hb'⟩
 have hsub : ∀ id x, AF id ((ctr, A1.row e sz elems) :: h) = some x -> (id = ctr /\ x = .row e sz elems) \/ AF id h = some x := by
  intro id x hx
  simp only [AF] at hx
  split at hx
  .cases hx; exact .inl ⟨‹_›, rfl⟩
  exact .inr hx
 have hold : ∀ id x lc, AF id ((ctr, A1.row e sz elems) :: h) = some x -> id ≠ ctr -> μ id = some lc -> lc.nil = false -> w'.heap[lc.b]? = w.heap[lc.b]? := by
  intro id x lc hx hne hm hnl
  rcases hsub id x hx with ⟨rfl, _⟩ | hx
  .exact absurd rfl hne
  exact hb.block _ (hh.base id x lc hx hm hnl).1
 have fin : ∀ (loc : BX), (loc.nil = false -> loc.b < w'.heap.size /\ w.heap.size <= loc.b) ->
   (∀ O' : Nat -> Prop, (∀ b, O' b -> Ad A μ h b \/ (loc.nil = false /\ b = loc.b)) -> Df O' (Bz μ ctr loc) w' loc (.row e sz elems)) ->
   (∀ O', AZ O' (Bz μ ctr loc) w' v (.lsl ctr sz 0 elems.length)) ->
   ∃ u l h' c' μ', en = .returned u /\ K l h' c' /\ HRel A μ' h' (Fr c') w' /\ AZ (Ad A μ' h') μ' w' u l /\ ∀ v x, AZ (Ad A μ h) μ w v x -> AZ (Ad A μ' h') μ' w' v x := by
  intro loc hloc ho hu
  have hfr : Lg μ h ((ctr, A1.row e sz elems) :: h) w loc := fun hn => .inl (hloc hn).2
  have hown := hh.sub_add loc (.row e sz elems) ((ctr, .row e sz elems) :: h) hfr hsub
  have hcov : ∀ b, Ad A (Bz μ ctr loc) ((ctr, .row e sz elems) :: h) b -> Ad A μ h b \/ (loc.nil = false /\ b = loc.b) := by
   rintro b (hb' | ⟨id, x, lc, h1, h2, h3, h4⟩)
   .exact .inl (.inl hb')
   by_cases e' : id = ctr
   .subst e'
    simp only [Bz, if_true, Option.some.injEq] at h2
    subst h2; exact .inr ⟨h3, h4.symm⟩
   rcases hsub id x h1 with ⟨e'', _⟩ | h1
   .exact absurd e'' e'
   simp only [Bz, e', if_false] at h2
   exact .inl (.inr ⟨id, x, lc, h1, h2, h3, h4⟩)
  have hadd := hh.add (w' := w') hno loc (.row e sz elems) ((ctr, .row e sz elems) :: h) (fun hn => (hloc hn).1) hfr hsub hkm hold hb.os hb.tape hb.output (ho _ hcov)
  exact ⟨v, _, _, _, _, he, hK, hadd.less (fun id hid => by simp only [Fr] at hid ⊢; omega), hu _, fun v x hv => hv.mono hkm.own hown (Iq hno loc)⟩
 rcases hn with ⟨rfl, rfl⟩ | ⟨a, b, o, cap, c, rfl, h1, h2, h3, h4, h5, h6, h7, h8, h9, h10⟩
 .exact fin ⟨true, 0, 0, sz, 0⟩ (fun hn => by cases hn) (fun O' _ => ⟨rfl, hlen, .inl ⟨rfl, rfl⟩⟩) (fun O' => .lsln ctr ⟨true, 0, 0, sz, 0⟩ (by simp [Bz]) rfl)
 refine fin ⟨false, b, o, sz, cap⟩ (fun _ => ⟨h2, h1⟩) (fun O' hO' => ⟨rfl, hlen, .inr ⟨rfl, c, h6, h7, h8, h9, fun i j x d u hx hd hu => ?_⟩⟩) (fun O' => ?_)
 .refine (h10 i j x d u hx hd hu).mono (BT.refl _ _) fun q _ hq => ?_
  rcases hO' q hq with hq | ⟨_, hq⟩
  .exact .inl hq
  exact .inr hq
 exact .lsl ctr 0 elems.length cap a ⟨false, b, o, sz, cap⟩ (by simp [Bz]) rfl (by simp) h8 (fun hc => by rw [h3 hc]; simp) h4 h5
def UE (t e sz : Nat) (elems : List (List DV)) : Exit -> St -> Prop := Lk fun st =>
 (∃ id, st.eval (.tmp t) = .lsl id sz 0 elems.length /\ AF id st.heap = some (.row e sz elems)) \/ (st.eval (.tmp t) = .p .nils /\ elems = [])
theorem XT {k : Nat} {fn : Func} {c : Code} (hf : P.funcs[k]? = some fn) (hb : fn.body = some c) (hn : (fn.name == "runtime.NumGoroutine") = false) (nt : Nat) (hnt : fn.ntmps = nt) (t : Nat) (hrs : fn.results.toList = [.tmp t]) {ds : List DV} (hlen : ds.length <= nt)
  {e sz : Nat} {elems : List (List DV)} (hel : ∀ x ∈ elems, x.length = sz)
  (h : ∀ A : BF, (∀ id, A.μ0 id = none) -> B2 P A c (UE t e sz elems) ⟨nt, DA 0 ds, [], 0⟩) : E9 P k ds e sz elems := by
 subst hnt
 refine ⟨JA hf hb hn, fun O w vs hO hsz hrel => ?_⟩
 let A : BF := ⟨w, O, fun _ => False, fun _ => none, fun b hb => ⟨hO b hb, id⟩⟩
 have hR : R A ⟨fn.ntmps, DA 0 ds, [], 0⟩ { tmps := vs ++ Array.replicate (fn.ntmps - vs.size) undef, defers := [] } w := by
  refine ⟨⟨fun _ => none, ⟨by simp [AF], by simp [AF], fun _ _ => rfl, by simp [AF], Nat.le_refl _, fun _ _ _ => rfl, rfl, rfl, rfl, by simp [A]⟩, fun t ht => ?_⟩, by simp; omega, rfl⟩
  have hown : ∀ b, Ad A (fun _ => none) [] b -> O b := by
   rintro b (hb | ⟨id, x, lc, h1, _⟩)
   .exact hb
   simp [AF] at h1
  simp only [Bj, Mn, Nat.zero_le, if_true, Nat.sub_zero]
  by_cases hlt : t < ds.length
  .have hv : t < vs.size := by omega
   have e : ds[t]? = some ds[t] := by simp [hlt]
   rw [e]
   simp only [Option.map_some]
   have e2 : (vs ++ Array.replicate (fn.ntmps - vs.size) undef).getD t undef = vs[t] := by
    rw [Array.getD_eq_getD_getElem?, Array.getElem?_append_left hv]; simp [hv]
   rw [e2]
   exact .p _ _ ((hrel t _ _ (by simp [hv]) e).mono (BT.refl _ _) (fun b _ hb => hown b hb))
  have e : ds[t]? = none := by simp; omega
  rw [e]; exact .any _
 refine calls_of_wp hf hb (wp_mono (h A (fun _ => rfl) _ _ hR) ?_)
 rintro en a' w' ⟨st', ⟨⟨μ, hh, hs⟩, hnt, hdef⟩, hq⟩
 have hres : (results fn a'.tmps).run P w' = .ok (a'.eval (.tmp t)) w' := by
  have : (fn.results.toList.mapM (Ks P a'.tmps)).run P w' = .ok [a'.eval (.tmp t)] w' := by
   rw [hrs]; simp [List.mapM_cons, Ks, Act.eval]
  exact Ku this
 have hbel : Below w.heap.size w w' := ⟨hh.os, hh.tape, hh.output, hh.size, fun b hb => hh.block b hb id⟩
 have fin : ((∃ id, st'.eval (.tmp t) = .lsl id sz 0 elems.length /\ AF id st'.heap = some (.row e sz elems)) \/ (st'.eval (.tmp t) = .p .nils /\ elems = [])) ->
   a'.defers = [] /\ ∃ v, (results fn a'.tmps).run P w' = .ok v w' /\ ∃ u, Ending.returned v = .returned u /\ J1 w w' O u e sz elems /\ Below w.heap.size w w' := by
  intro hc
  refine ⟨hdef, _, hres, _, rfl, ?_, hbel⟩
  have hv := F9 hs (.tmp t)
  rcases hc with ⟨id, h1, h2⟩ | ⟨h1, rfl⟩
  .rw [h1] at hv
   generalize a'.eval (.tmp t) = v at hv
   obtain ⟨loc, m1, ⟨_, m2, m3⟩⟩ := hh.obj id _ h2
   refine ⟨hel, ?_⟩
   generalize hq0 : (0 : Nat) = off at hv
   generalize hq1 : elems.length = n at hv
   cases hv with
   | lsln _ loc' k1 k2 => exact .inl ⟨rfl, by cases elems <;> simp_all⟩
   | lsl _ _ _ cap ad loc' k1 k2 k3 k4 k5 k6 k7 =>
    subst hq0; subst hq1
    rw [m1] at k1; cases k1
    rcases m3 with ⟨m4, _⟩ | ⟨m4, c, m5, m6, m7, m8, m9⟩
    .rw [k2] at m4; cases m4
    have hbase := hh.base id _ loc h2 m1 k2
    refine .inr ⟨ad, loc.b, loc.o, cap, c, rfl, ?_, hbase.1, fun hc => by simpa using k5 hc, k6, k7, m5, by rw [show cap = loc.cap by omega]; exact m6, k4, by omega, fun i j x d u hx hd hu => ?_⟩
    .rcases hbase.2.2 with hb | hb
     .exact hb
     exact hb.elim
    refine (m9 i j x d u hx hd hu).mono (BT.refl _ _) fun q _ hq => ?_
    rcases hq with hq | rfl
    .exact .inl hq
    exact .inr ⟨id, _, loc, h2, m1, k2, rfl⟩
  rw [h1] at hv
  exact ⟨by simp, .inl ⟨hv.nils_inv, rfl⟩⟩
 cases en with
 | normal => exact fin hq
 | ret => exact fin hq
 | _ => exact hq.elim
theorem ZA {h : AN} {c k : Nat} {args : List LV} {ds : List DV} {e sz : Nat} {elems : List (List DV)} {f : LV × AN × Nat -> Prop} {hf : Hq f} (hds : Bt h args = some ds) (hF : E9 P k ds e sz elems)
  (hs : args.flatMap (Dc h) = []) (hK : f (.lsl c sz 0 elems.length, (c, .row e sz elems) :: h, c + 1)) : Ht P A h c k args ⟨f, hf⟩ :=
 C2.own hds hF hs hK
end
end Go.E
/- Operations reckoned by unfolding alone (FE, FF, FG): a run of operations of which each gives its value at once. No condition. -/
namespace Go.E
open Go Go.RowKit
def Ba {α : Type} (t : Nat) : List (Nat × α) -> Option α
 | [] => none
 | p :: l => match Nat.beq t p.1 with
  | true => some p.2
  | false => Ba t l
theorem Be {α : Type} {t : Nat} : ∀ {l : List (Nat × α)}, Ba t l = AF t l
 | [] => rfl
 | (k, v) :: l => by
  simp only [Ba, AF]
  by_cases h : t = k
  .subst h; simp
  rw [if_neg h]
  have : Nat.beq t k = false := by
   cases hb : Nat.beq t k with
   | false => rfl
   | true => exact absurd (Nat.eq_of_beq_eq_true hb) h
  rw [this]
  exact Be
def BI (nt : Nat) (sl : List (Nat × LV)) (x : Operand) : LV :=
 match x with
 | .tmp t => match Nat.blt t nt with
  | true => match Ba t sl with
   | some v => v
   | none => .any
  | false => .any
 | .const v => Nk v
 | .func f => .fn f []
 | .global _ => .any
theorem BO {nt : Nat} {sl : List (Nat × LV)} {h : AN} {c : Nat} {x : Operand} : BI nt sl x = (⟨nt, sl, h, c⟩ : St).eval x := by
 cases x with
 | tmp t =>
  simp only [BI, St.eval, Bj, Be]
  by_cases hb : t < nt
  .rw [if_pos hb]
   have : Nat.blt t nt = true := Nat.ble_eq_true_of_le hb
   rw [this]; rfl
  rw [if_neg hb]
  have : Nat.blt t nt = false := by
   cases hq : Nat.blt t nt with
   | false => rfl
   | true => exact absurd (Nat.le_of_ble_eq_true hq) hb
  rw [this]
 | const v => rfl
 | func f => rfl
 | global g => rfl
section
variable {α β γ : Type}
def EA : List α -> Nat -> List α
 | l, 0 => l
 | [], _ + 1 => []
 | _ :: l, n + 1 => EA l n
theorem IX : ∀ {l : List α} {n : Nat}, EA l n = l.drop n
 | l, 0 => by simp [EA]
 | [], _ + 1 => by simp [EA]
 | _ :: l, n + 1 => by simp only [EA, List.drop_succ_cons]; exact IX
def Jm : List α -> Nat -> (List α -> Option β) -> Option β
 | _, 0, k => k []
 | x :: l, n + 1, k => Jm l n (fun r => k (x :: r))
 | [], _ + 1, _ => none
theorem ON : ∀ {l : List α} {n : Nat} {k : List α -> Option β}, Jm l n k = (DU l n).bind k
 | _, 0, k => by simp [Jm, DU]
 | x :: l, n + 1, k => by
  simp only [Jm, DU]
  rw [ON]
  cases DU l n <;> rfl
 | [], _ + 1, _ => by simp [Jm, DU]
def Pw : List LV -> (List DV -> Option β) -> Option β -> Option β
 | [], k, _ => k []
 | .p d :: l, k, e => Pw l (fun ds => k (d :: ds)) e
 | _ :: _, _, e => e
theorem Px : ∀ {l : List LV} {k : List DV -> Option β} {e : Option β}, Pw l k e = match GD l with | some ds => k ds | none => e
 | [], k, e => by simp [Pw, GD]
 | x :: l, k, e => by
  cases x with
  | p d =>
   simp only [Pw, GD]
   rw [Px]
   cases GD l <;> rfl
  | _ => rfl
def Py (l : List LV) (k : LV -> Option β) : Option β := Pw l (fun ds => k (.p (.agg ds))) (k (.agg l))
theorem Pz {l : List LV} {k : LV -> Option β} : Py l k = k (Ee l) := by
 unfold Py Ee
 rw [Px]
 cases GD l <;> rfl
def RC (ti : TI) (off : Nat) (l : List LV) (k : LV -> Option β) : Option β :=
 match ti.sh with
 | .struct _ | .arr _ _ => Jm (EA l off) ti.size (fun r => Py r k)
 | _ => match EA l off with
  | v :: _ => k v
  | [] => none
theorem Ro {ti : TI} {off : Nat} {l : List LV} {k : LV -> Option β} : RC ti off l k = (DT ti off l).bind k := by
 have hd : (match EA l off with
  | v :: _ => k v
  | [] => none) = l[off]?.bind k := by
  rw [IX]
  cases hq : l.drop off with
  | nil => simp at hq; simp [List.getElem?_eq_none hq]
  | cons v r =>
   have : l[off]? = some v := by
    have := congrArg (·[0]?) hq
    simpa [List.getElem?_drop] using this
   simp [this]
 have ha : Jm (EA l off) ti.size (fun r => Py r k) = ((DU (l.drop off) ti.size).map Ee).bind k := by
  rw [ON, IX]
  cases DU (l.drop off) ti.size with
  | none => rfl
  | some r => simp [Pz]
 unfold RC DT
 cases hsh : ti.sh <;> simp only [Sh.isAgg] <;> first | exact ha | exact hd
def O6 (ti : TI) (off : Nat) (l : List DV) (k : LV -> Option β) : Option β :=
 match ti.sh with
 | .struct _ | .arr _ _ => Jm (EA l off) ti.size (fun r => k (.p (.agg r)))
 | _ => match EA l off with
  | v :: _ => k (.p v)
  | [] => none
theorem QS {f : α -> γ} : ∀ {l : List α} {n : Nat}, DU (l.map f) n = (DU l n).map (List.map f)
 | _, 0 => by simp [DU]
 | x :: l, n + 1 => by
  simp only [List.map_cons, DU]
  rw [QS]
  cases DU l n <;> rfl
 | [], _ + 1 => by simp [DU]
theorem U1 {l : List DV} : Ee (l.map .p) = .p (.agg l) := by simp [Ee, Rk]
theorem OO {ti : TI} {off : Nat} {l : List DV} {k : LV -> Option β} : O6 ti off l k = (DT ti off (l.map .p)).bind k := by
 have hd : (match EA l off with
  | v :: _ => k (.p v)
  | [] => none) = (l.map LV.p)[off]?.bind k := by
  rw [IX, List.getElem?_map]
  cases hq : l.drop off with
  | nil => simp at hq; simp [List.getElem?_eq_none hq]
  | cons v r =>
   have : l[off]? = some v := by
    have := congrArg (·[0]?) hq
    simpa [List.getElem?_drop] using this
   simp [this]
 have ha : Jm (EA l off) ti.size (fun r => k (.p (.agg r))) = ((DU ((l.map LV.p).drop off) ti.size).map Ee).bind k := by
  rw [ON, IX, <- List.map_drop, QS]
  cases DU (l.drop off) ti.size with
  | none => rfl
  | some r => simp [U1]
 unfold O6 DT
 cases hsh : ti.sh <;> simp only [Sh.isAgg] <;> first | exact ha | exact hd
def Ly : List DV -> (List LV -> Option β) -> Option β
 | [], k => k []
 | d :: l, k => Ly l (fun r => k (.p d :: r))
theorem J9 : ∀ {l : List DV} {k : List LV -> Option β}, Ly l k = k (l.map .p)
 | [], k => rfl
 | d :: l, k => by simp only [Ly, List.map_cons]; rw [J9]
def KA (v : LV) (k : List LV -> Option β) : Option β :=
 match v with
 | .p (.agg l) => Ly l k
 | .agg l => k l
 | .p (.tup _) | .tup _ | .any | .und => none
 | v => k [v]
theorem JH {v : LV} {k : List LV -> Option β} : KA v k = v.cells.bind k := by
 cases v with
 | p d => cases d <;> first | rfl | (simp only [KA, LV.cells]; rw [J9]; rfl)
 | _ => rfl
def Nn : List LV -> List LV -> (List LV -> Option β) -> Option β
 | l, [], k => k l
 | [], _ :: _, _ => none
 | _ :: l, v :: vs, k => Nn l vs (fun r => k (v :: r))
def OP : List LV -> Nat -> List LV -> (List LV -> Option β) -> Option β
 | l, 0, vs, k => Nn l vs k
 | [], _ + 1, _, _ => none
 | x :: l, n + 1, vs, k => OP l n vs (fun r => k (x :: r))
theorem Rp : ∀ {l vs : List LV} {k : List LV -> Option β} {y : β}, Nn l vs k = some y -> vs.length <= l.length /\ k (Ch.over l vs) = some y
 | l, [], k, y, h => by simp only [Nn] at h; exact ⟨by simp, by simpa [Ch.over] using h⟩
 | [], _ :: _, _, _, h => by simp [Nn] at h
 | _ :: l, v :: vs, k, y, h => by
  simp only [Nn] at h
  obtain ⟨h1, h2⟩ := Rp h
  exact ⟨by simpa using h1, h2⟩
theorem P0 : ∀ {l : List LV} {n : Nat} {vs : List LV} {k : List LV -> Option β} {y : β}, OP l n vs k = some y -> n + vs.length <= l.length /\ k (Ch l n vs) = some y
 | l, 0, vs, k, y, h => by
  obtain ⟨h1, h2⟩ := Rp (by simpa only [OP] using h)
  cases l <;> exact ⟨by simpa using h1, h2⟩
 | [], _ + 1, _, _, _, h => by simp [OP] at h
 | x :: l, n + 1, vs, k, y, h => by
  simp only [OP] at h
  obtain ⟨h1, h2⟩ := P0 h
  exact ⟨by simp only [List.length_cons]; omega, h2⟩
def JZ (t : Nat) (v : A1) : AN -> (AN -> Option β) -> Option β
 | [], k => k []
 | (q, u) :: l, k => match Nat.beq t q with
  | true => k ((q, v) :: l)
  | false => JZ t v l (fun r => k ((q, u) :: r))
theorem Gg {t : Nat} {v : A1} : ∀ {l : AN} {k : AN -> Option β}, JZ t v l k = k (Bo t v l)
 | [], k => rfl
 | (q, u) :: l, k => by
  simp only [JZ, Bo]
  by_cases h : t = q
  .subst h; simp
  have : Nat.beq t q = false := by
   cases hb : Nat.beq t q with
   | false => rfl
   | true => exact absurd (Nat.eq_of_beq_eq_true hb) h
  rw [this, if_neg h]
  exact Gg
def M0 : List LV -> Bool
 | [] => true
 | v :: l => match v.one with
  | true => M0 l
  | false => false
theorem M1 : ∀ {l : List LV}, M0 l = l.all LV.one
 | [] => rfl
 | v :: l => by
  simp only [M0, List.all_cons]
  cases v.one with
  | true => rw [M1]; rfl
  | false => rfl
def O7 (sz : Nat) : Nat -> List (Nat × LV) -> (List (List DV) -> Option β) -> Option β
 | _, [], k => k []
 | n, p :: rest, k => match Nat.beq p.1 n with
  | true => KA p.2 fun ls => Pw ls (fun ds => match Nat.beq ds.length sz with
   | true => O7 sz (n + 1) rest (fun r => k (ds :: r))
   | false => none) none
  | false => none
theorem QT {sz : Nat} : ∀ {ps : List (Nat × LV)} {n : Nat} {k : List (List DV) -> Option β} {y : β}, O7 sz n ps k = some y -> ∃ l, F6 sz n ps = some l /\ k l = some y
 | [], n, k, y, h => ⟨[], by simp [F6], h⟩
 | (i, v) :: rest, n, k, y, h => by
  simp only [O7] at h
  split at h
  .rename_i hb
   have hi : i = n := Nat.eq_of_beq_eq_true hb
   subst hi
   rw [JH] at h
   cases hc : v.cells with
   | none => rw [hc] at h; simp at h
   | some ls =>
    rw [hc] at h
    simp only [Option.bind_some] at h
    rw [Px] at h
    cases ha : GD ls with
    | none => rw [ha] at h; simp at h
    | some ds =>
     rw [ha] at h
     simp only at h
     split at h
     .rename_i hl
      obtain ⟨r, h1, h2⟩ := QT h
      refine ⟨ds :: r, ?_, h2⟩
      simp only [F6, if_true, hc, ha, h1]
      rw [if_pos (Nat.eq_of_beq_eq_true hl)]
     cases h
  cases h
def P1 (v : LV) (k : LV -> Option β) : Option β :=
 match v with
 | .p d => k (.p d)
 | .lsl a b c d => k (.lsl a b c d)
 | .lpb a b => k (.lpb a b)
 | .lpe a b c => k (.lpe a b c)
 | .lmap a => k (.lmap a)
 | .agg l => k (.agg l)
 | .tup l => k (.tup l)
 | .fn g l => k (.fn g l)
 | .und => k .und
 | .any => k .any
theorem LI {v : LV} {k : LV -> Option β} : P1 v k = k v := by cases v <;> rfl
def Np (nt : Nat) (sl : List (Nat × LV)) : List (Nat × Operand) -> (List (Nat × LV) -> Option β) -> Option β
 | [], k => k []
 | (i, x) :: l, k => P1 (BI nt sl x) fun v => Np nt sl l (fun r => k ((i, v) :: r))
theorem Lz {nt : Nat} {sl : List (Nat × LV)} : ∀ {l : List (Nat × Operand)} {k : List (Nat × LV) -> Option β}, Np nt sl l k = k (l.map fun p => (p.1, BI nt sl p.2))
 | [], k => rfl
 | (i, x) :: l, k => by simp only [Np, List.map_cons]; rw [LI, Lz]
def DY (nt : Nat) (sl : List (Nat × LV)) : List Operand -> (List LV -> Option β) -> Option β
 | [], k => k []
 | p :: l, k => P1 (BI nt sl p) fun v => DY nt sl l (fun r => k (v :: r))
theorem JI {nt : Nat} {sl : List (Nat × LV)} : ∀ {l : List Operand} {k : List LV -> Option β}, DY nt sl l k = k (l.map fun p => BI nt sl p)
 | [], k => rfl
 | p :: l, k => by simp only [DY, List.map_cons]; rw [LI, JI]
def M2 (AB : Ax) (pl : Nat -> Option (Nat × Nat)) : List LV -> List (Nat × LV) -> (List LV -> Option β) -> Option β
 | cells, [], k => k cells
 | cells, (i, v) :: rest, k => match pl i with
  | some (o, ft) => match AB.tt ft with
   | some ti => KA v fun ls => match Nat.beq ls.length ti.size with
    | true => OP cells o ls fun cells' => M2 AB pl cells' rest k
    | false => none
   | none => none
  | none => none
theorem M3 {AB : Ax} {pl : Nat -> Option (Nat × Nat)} : ∀ {ps : List (Nat × LV)} {cells : List LV} {k : List LV -> Option β} {y : β}, M2 AB pl cells ps k = some y ->
  ∃ l, k l = some y /\ ∀ K : A0 (List LV), K.f l -> J5 AB pl cells ps K
 | [], cells, k, y, h => ⟨cells, h, fun _ => id⟩
 | (i, v) :: rest, cells, k, y, h => by
  simp only [M2] at h
  split at h
  .rename_i o ft hq
   split at h
   .rename_i ti hti
    rw [JH] at h
    cases hc : v.cells with
    | none => rw [hc] at h; simp at h
    | some ls =>
     rw [hc] at h
     simp only [Option.bind_some] at h
     split at h
     .rename_i hl
      obtain ⟨h1, h2⟩ := P0 h
      obtain ⟨l, h3, h4⟩ := M3 h2
      refine ⟨l, h3, fun K hk => ?_⟩
      simp only [J5]
      exact AR.2 ⟨(o, ft), hq, AS.2 ⟨ti, hti, AR.2 ⟨ls, hc, ⟨Nat.eq_of_beq_eq_true hl, h1⟩, h4 K hk⟩⟩⟩
     cases h
   cases h
  cases h
def RD (AB : Ax) : List (Nat × Nat) -> Bool
 | [] => true
 | p :: l => match AB.tt p.2 with
  | some _ => RD AB l
  | none => false
theorem Rq {AB : Ax} : ∀ {l : List (Nat × Nat)}, RD AB l = l.all fun p => (AB.tt p.2).isSome
 | [] => rfl
 | p :: l => by
  simp only [RD, List.all_cons]
  cases AB.tt p.2 with
  | some _ => simp [Rq]
  | none => simp
def V9 (op : BinOp) (kk : IntKind) (a b : Int) (k : LV -> Option β) : Option β :=
 match op with
 | .add => k (.p (.int kk (kk.wrap (a + b))))
 | .sub => k (.p (.int kk (kk.wrap (a - b))))
 | .mul => k (.p (.int kk (kk.wrap (a * b))))
 | .eql => k (.p (.bool (a == b)))
 | .neq => k (.p (.bool (a != b)))
 | .lss => k (.p (.bool (decide (a < b))))
 | .leq => k (.p (.bool (decide (a <= b))))
 | .gtr => k (.p (.bool (decide (b < a))))
 | .geq => k (.p (.bool (decide (b <= a))))
 | .xor => k (.p (.int kk (kk.wrap (BitVec.ofInt kk.bits a ^^^ BitVec.ofInt kk.bits b).toNat)))
 | .or => k (.p (.int kk (kk.wrap (BitVec.ofInt kk.bits a ||| BitVec.ofInt kk.bits b).toNat)))
 | _ => none
def P2 (AB : Ax) (t : Nat) : Bool :=
 match AB.tt t with
 | some ti => match ti.sh with
  | .bool => true
  | _ => false
 | none => false
def M4 : IntKind -> IntKind -> Bool
 | .i8, .i8 | .i16, .i16 | .i32, .i32 | .i64, .i64 | .u8, .u8 | .u16, .u16 | .u32, .u32 | .u64, .u64 => true
 | _, _ => false
theorem M5 {a b : IntKind} (h : M4 a b = true) : a = b := by cases a <;> cases b <;> first | rfl | simp [M4] at h
def WA (AB : Ax) (op : BinOp) (t : Nat) (x y : LV) (k : LV -> Option β) : Option β :=
 match x, y with
 | .p (.int k1 a), .p (.int k2 b) => match M4 k1 k2 with
  | true => V9 op k1 a b k
  | false => none
 | .p (.str a), .p (.str b) => match op with
  | .eql => k (.p (.bool (a.toList == b.toList)))
  | .neq => k (.p (.bool (!(a.toList == b.toList))))
  | _ => none
 | .p (.bool a), .p (.bool b) => match P2 AB t with
  | true => match op with
   | .eql => k (.p (.bool (a == b)))
   | .neq => k (.p (.bool (!(a == b))))
   | _ => none
  | false => none
 | .p (.place _ _), .p .nilp => match AB.ptr t with
  | true => match op with
   | .eql => k (.p (.bool false))
   | .neq => k (.p (.bool true))
   | _ => none
  | false => none
 | .lpb _ _, .p .nilp => match AB.ptr t with
  | true => match op with
   | .eql => k (.p (.bool false))
   | .neq => k (.p (.bool true))
   | _ => none
  | false => none
 | .p .nilp, .p .nilp => match AB.ptr t with
  | true => match op with
   | .eql => k (.p (.bool true))
   | .neq => k (.p (.bool false))
   | _ => none
  | false => none
 | _, _ => none
def WB (off : Nat) (x : LV) (k : LV -> Option β) : Option β :=
 match x with
 | .lpb id o => k (.lpb id (o + off))
 | .lpe id j o => k (.lpe id j (o + off))
 | .p (.place l o) => k (.p (.place l (o + off)))
 | _ => none
def Rr : IntKind -> Int -> List LV -> (Int -> Option β) -> Option β
 | _, n, [], k => k n
 | kk, n, .p (.int j m) :: rest, k => match M4 j kk with
  | true => Rr kk (if m > n then m else n) rest k
  | false => none
 | _, _, _ :: _, _ => none
def Rs : IntKind -> Int -> List LV -> (Int -> Option β) -> Option β
 | _, n, [], k => k n
 | kk, n, .p (.int j m) :: rest, k => match M4 j kk with
  | true => Rs kk (if m < n then m else n) rest k
  | false => none
 | _, _, _ :: _, _ => none
def FE (AB : Ax) (nt : Nat) (sl : List (Nat × LV)) (h : AN) (c : Nat) (op : Op) (k : LV -> AN -> Nat -> Option β) : Option β :=
  match op with
  | .move x | .assign x => P1 (BI nt sl x) fun v => k v h c
  | .pick b x y => match BI nt sl b with
    | .p (.bool b) => match b with
      | true => P1 (BI nt sl x) fun v => k v h c
      | false => P1 (BI nt sl y) fun v => k v h c
    | _ => none
  | .nilCheck x => match BI nt sl x with
    | .lpb i o => k (.lpb i o) h c
    | .lpe i j o => k (.lpe i j o) h c
    | .p (.place l o) => k (.p (.place l o)) h c
    | _ => none
  | .binOp op t x y _ => WA AB op t (BI nt sl x) (BI nt sl y) fun l => k l h c
  | .unOp op _ x => match op with
    | .not => match BI nt sl x with
      | .p (.bool b) => k (.p (.bool !b)) h c
      | _ => none
    | .neg => match BI nt sl x with
      | .p (.int kk n) => k (.p (.int kk (kk.wrap (0 - n)))) h c
      | _ => none
    | _ => none
  | .convert s d x => match BI nt sl x with
    | .p (.int _ n) => match AB.tt s with
      | some _ => match AB.tt d with
        | some ti => match ti.sh with
          | .int kd => k (.p (.int kd (kd.wrap n))) h c
          | _ => none
        | none => none
      | none => none
    | _ => none
  | .extract t i => match BI nt sl t with
    | .tup l => match EA l i with
      | v :: _ => k v h c
      | [] => none
    | .p (.tup l) => match EA l i with
      | v :: _ => k (.p v) h c
      | [] => none
    | _ => none
  | .field t x i => match AB.tt t with
    | some ti => match ti.sh with
      | .struct fs => match EA fs i with
        | (o, ft) :: _ => match AB.tt ft with
          | some tf => match BI nt sl x with
            | .agg ls => RC tf o ls fun l => k l h c
            | .p (.agg ds) => O6 tf o ds fun l => k l h c
            | _ => none
          | none => none
        | [] => none
      | _ => none
    | none => none
  | .build t ps => match AB.tt t with
    | some ti => match ti.sh with
      | .struct fs => match RD AB fs with
        | true => Ly ti.zero fun z => Np nt sl ps.toList fun ps' => M2 AB (fun i => fs[i]?) z ps' fun cells => Py cells fun l => k l h c
        | false => none
      | .arr _ e => match AB.tt e with
        | some te => Ly ti.zero fun z => Np nt sl ps.toList fun ps' => M2 AB (fun i => some (i * te.size, e)) z ps' fun cells => Py cells fun l => k l h c
        | none => none
      | _ => none
    | none => none
  | .fieldAddr t x i => match AB.tt t with
    | some ti => match ti.sh with
      | .struct fs => match EA fs i with
        | (o, ft) :: _ => match AB.tt ft with
          | some tf => match Nat.blt 0 tf.size with
            | true => WB o (BI nt sl x) fun l => k l h c
            | false => none
          | none => none
        | [] => none
      | _ => none
    | none => none
  | .makeFunc (.func f) first caps => match first.toList with
    | [] => DY nt sl caps.toList fun l => k (.fn f l) h c
    | _ => none
  | .load t x => match LA AB.calm (BI nt sl x) with
   | false => none
   | true => match AB.tt t with
    | some ti => match BI nt sl x with
      | .p (.place l off) => O6 ti off l fun v => k v h c
      | .lpb id off => match Ba id h with
        | some (.box cells) => RC ti off cells fun v => k v h c
        | _ => none
      | _ => none
    | none => none
  | .store t x v => match J2 AB.calm (BI nt sl x) with
   | false => none
   | true => match AB.tt t with
    | some ti => match BI nt sl x with
      | .lpb id off => KA (BI nt sl v) fun ls => match Nat.beq ls.length ti.size with
        | true => match M0 ls with
          | true => match Ba id h with
            | some (.box cells) => OP cells off ls fun cells' => JZ id (.box cells') h fun h' => k .any h' c
            | _ => none
          | false => none
        | false => none
      | _ => none
    | none => none
  | .alloc t => match AB.tt t with
    | some ti => Ly ti.zero fun z => k (.lpb c 0) ((c, .box z) :: h) (c + 1)
    | none => none
  | .box _ x => KA (BI nt sl x) fun ls => k (.lpb c 0) ((c, .box ls) :: h) (c + 1)
  | .buildSlice t n ps => match AB.tt t with
    | some ti => match ti.sh with
      | .slc e => match AB.tt e with
        | some te => match Nat.blt 0 te.size && Nat.ble (n * te.size) 16777216 with
          | true => Np nt sl ps.toList fun ps' => O7 te.size 0 ps' fun l => match Nat.beq l.length n with
            | true => k (.lsl c te.size 0 n) ((c, .row e te.size l) :: h) (c + 1)
            | false => none
          | false => none
        | none => none
      | _ => none
    | none => none
  | .makeMap _ none => k (.lmap c) ((c, .map []) :: h) (c + 1)
  | .call ⟨.builtin .len, args, ts⟩ => match args.toList, ts.toList with
    | [x], [t] => match AB.tt t with
      | some ti => match ti.sh, BI nt sl x with
        | .arr n _, _ => k (.p (.int .i64 n)) h c
        | .slc _, .p .nils => k (.p (.int .i64 0)) h c
        | .slc _, .lsl _ _ _ len => k (.p (.int .i64 len)) h c
        | .str, .p (.str s) => k (.p (.int .i64 s.size)) h c
        | _, _ => none
      | none => none
    | _, _ => none
  | .call ⟨.builtin .max, args, _⟩ => DY nt sl args.toList fun l => match l with
    | .p (.int kk n) :: rest => Rr kk n rest fun m => k (.p (.int kk m)) h c
    | _ => none
  | .call ⟨.builtin .min, args, _⟩ => DY nt sl args.toList fun l => match l with
    | .p (.int kk n) :: rest => Rs kk n rest fun m => k (.p (.int kk m)) h c
    | _ => none
  | _ => none
end
end Go.E
/- Operations reckoned by unfolding alone: they are sound (G0); runs of operations (FF, FG). No condition. -/
namespace Go.E
open Go Go.RowKit
section
variable {β : Type} {AB : Ax} {nt : Nat} {sl : List (Nat × LV)} {hp : AN} {c : Nat}
theorem XV {op : BinOp} {kk : IntKind} {a b : Int} {k : LV -> Option β} {y : β} (h : V9 op kk a b k = some y) : ∃ l, k l = some y /\ ∀ K : A0 LV, K.f l -> LG op kk a b K := by
 cases op <;> simp only [V9] at h <;> first | cases h | exact ⟨_, h, fun K hk => hk⟩
theorem UG {t : Nat} (h : P2 AB t = true) : ∃ ti, AB.tt t = some ti /\ ti.sh = .bool := by
 unfold P2 at h
 split at h
 .rename_i ti hti
  split at h
  .exact ⟨ti, hti, ‹_›⟩
  cases h
 cases h
theorem XW {op : BinOp} {t : Nat} {x y : LV} {k : LV -> Option β} {z : β} (h : WA AB op t x y k = some z) : ∃ l, k l = some z /\ ∀ K : A0 LV, K.f l -> Pt AB op t x y K /\ Rl AB op t x y K := by
 unfold WA at h
 split at h
 .rename_i k1 a k2 b
  split at h
  .rename_i hk
   have := M5 hk
   subst this
   obtain ⟨l, h1, h2⟩ := XV h
   exact ⟨l, h1, fun K hk => ⟨⟨rfl, h2 K hk⟩, ⟨rfl, h2 K hk⟩⟩⟩
  cases h
 .rename_i a b
  split at h
  .exact ⟨_, h, fun K hk => ⟨hk, hk⟩⟩
  .exact ⟨_, h, fun K hk => ⟨hk, hk⟩⟩
  cases h
 .rename_i a b
  split at h
  .rename_i hb
   obtain ⟨ti, hti, hsh⟩ := UG hb
   split at h
   .exact ⟨_, h, fun K hk => ⟨AS.2 ⟨ti, hti, hsh, hk⟩, AS.2 ⟨ti, hti, hsh, hk⟩⟩⟩
   .exact ⟨_, h, fun K hk => ⟨AS.2 ⟨ti, hti, hsh, hk⟩, AS.2 ⟨ti, hti, hsh, hk⟩⟩⟩
   cases h
  cases h
 .split at h
  .rename_i hb
   split at h
   .exact ⟨_, h, fun K hk => ⟨⟨hb, hk⟩, ⟨hb, hk⟩⟩⟩
   .exact ⟨_, h, fun K hk => ⟨⟨hb, hk⟩, ⟨hb, hk⟩⟩⟩
   cases h
  cases h
 .split at h
  .rename_i hb
   split at h
   .exact ⟨_, h, fun K hk => ⟨⟨hb, hk⟩, ⟨hb, hk⟩⟩⟩
   .exact ⟨_, h, fun K hk => ⟨⟨hb, hk⟩, ⟨hb, hk⟩⟩⟩
   cases h
  cases h
 .split at h
  .rename_i hb
   split at h
   .exact ⟨_, h, fun K hk => ⟨⟨hb, hk⟩, ⟨hb, hk⟩⟩⟩
   .exact ⟨_, h, fun K hk => ⟨⟨hb, hk⟩, ⟨hb, hk⟩⟩⟩
   cases h
  cases h
 cases h
theorem XX {off : Nat} {x : LV} {k : LV -> Option β} {y : β} (h : WB off x k = some y) : ∃ l, k l = some y /\ ∀ K : A0 LV, K.f l -> T5 off x K := by
 unfold WB at h
 split at h
 .exact ⟨_, h, fun K hk => hk⟩
 .exact ⟨_, h, fun K hk => hk⟩
 .exact ⟨_, h, fun K hk => hk⟩
 cases h
theorem Hw {α : Type} {l r : List α} {n : Nat} {x : α} (h : EA l n = x :: r) : l[n]? = some x := by
 rw [IX] at h
 have := congrArg (·[0]?) h
 simpa [List.getElem?_drop] using this
theorem TN {kk : IntKind} : ∀ {l : List LV} {n : Int} {k : Int -> Option β} {y : β}, Rr kk n l k = some y -> ∃ m, k m = some y /\ B0.go (fun x y => if y > x then y else x) kk n l = some m
 | [], n, k, y, h => ⟨n, h, rfl⟩
 | .p (.int j m) :: rest, n, k, y, h => by
  simp only [Rr] at h
  split at h
  .rename_i hj
   have := M5 hj
   subst this
   obtain ⟨r, h1, h2⟩ := TN h
   exact ⟨r, h1, by simp only [B0.go, if_true]; exact h2⟩
  cases h
 | .p .nils :: _, _, _, _, h | .p .nilp :: _, _, _, _, h | .p .nilm :: _, _, _, _, h | .p (.bool _) :: _, _, _, _, h | .p (.str _) :: _, _, _, _, h | .p (.agg _) :: _, _, _, _, h | .p (.tup _) :: _, _, _, _, h
 | .p (.slice _ _) :: _, _, _, _, h | .p (.place _ _) :: _, _, _, _, h | .p (.map _) :: _, _, _, _, h | .lsl .. :: _, _, _, _, h | .lpb .. :: _, _, _, _, h | .lpe .. :: _, _, _, _, h | .lmap _ :: _, _, _, _, h | .p (.fn _ _) :: _, _, _, _, h
 | .agg _ :: _, _, _, _, h | .tup _ :: _, _, _, _, h | .fn .. :: _, _, _, _, h | .und :: _, _, _, _, h | .any :: _, _, _, _, h => by simp [Rr] at h
theorem TO {kk : IntKind} : ∀ {l : List LV} {n : Int} {k : Int -> Option β} {y : β}, Rs kk n l k = some y -> ∃ m, k m = some y /\ B0.go (fun x y => if y < x then y else x) kk n l = some m
 | [], n, k, y, h => ⟨n, h, rfl⟩
 | .p (.int j m) :: rest, n, k, y, h => by
  simp only [Rs] at h
  split at h
  .rename_i hj
   have := M5 hj
   subst this
   obtain ⟨r, h1, h2⟩ := TO h
   exact ⟨r, h1, by simp only [B0.go, if_true]; exact h2⟩
  cases h
 | .p .nils :: _, _, _, _, h | .p .nilp :: _, _, _, _, h | .p .nilm :: _, _, _, _, h | .p (.bool _) :: _, _, _, _, h | .p (.str _) :: _, _, _, _, h | .p (.agg _) :: _, _, _, _, h | .p (.tup _) :: _, _, _, _, h
 | .p (.slice _ _) :: _, _, _, _, h | .p (.place _ _) :: _, _, _, _, h | .p (.map _) :: _, _, _, _, h | .lsl .. :: _, _, _, _, h | .lpb .. :: _, _, _, _, h | .lpe .. :: _, _, _, _, h | .lmap _ :: _, _, _, _, h | .p (.fn _ _) :: _, _, _, _, h
 | .agg _ :: _, _, _, _, h | .tup _ :: _, _, _, _, h | .fn .. :: _, _, _, _, h | .und :: _, _, _, _, h | .any :: _, _, _, _, h => by simp [Rs] at h
def U2 (AB : Ax) (st : St) (op : Op) (l : LV) (h' : AN) (c' : Nat) : Prop :=
 ∀ (P : Program) (A : BF) (dst : Option Tmp) (K : A0 St), K.f (st.go dst l h' c') -> BH P A AB st dst op K /\ Hv P A AB st dst op K
theorem G0 {op : Op} {k : LV -> AN -> Nat -> Option β} {y : β} (h : FE AB nt sl hp c op k = some y) : ∃ l h' c', k l h' c' = some y /\ U2 AB ⟨nt, sl, hp, c⟩ op l h' c' := by
 have hev : ∀ x, BI nt sl x = (⟨nt, sl, hp, c⟩ : St).eval x := fun x => BO
 cases op <;> simp only [FE] at h <;> try (cases h; done)
 case move x => rw [LI] at h; exact ⟨_, _, _, h, fun P A dst K hk => by rw [hev] at hk; exact ⟨hk, hk⟩⟩
 case assign x => rw [LI] at h; exact ⟨_, _, _, h, fun P A dst K hk => by rw [hev] at hk; exact ⟨hk, hk⟩⟩
 case pick b x z =>
  split at h
  .rename_i b' hb
   rw [hev] at hb
   simp only [LI] at h
   split at h
   .exact ⟨_, _, _, h, fun P A dst K hk => by
     rw [hev] at hk
     have : BH P A AB ⟨nt, sl, hp, c⟩ dst (.pick b x z) K := by simp only [BH]; rw [hb]; exact hk
     exact ⟨this, this⟩⟩
   exact ⟨_, _, _, h, fun P A dst K hk => by
    rw [hev] at hk
    have : BH P A AB ⟨nt, sl, hp, c⟩ dst (.pick b x z) K := by simp only [BH]; rw [hb]; exact hk
    exact ⟨this, this⟩⟩
  cases h
 case nilCheck x =>
  split at h
  .rename_i hx; rw [hev] at hx
   exact ⟨_, _, _, h, fun P A dst K hk => by
    have : BH P A AB ⟨nt, sl, hp, c⟩ dst (.nilCheck x) K := by simp only [BH]; rw [hx]; exact hk
    exact ⟨this, this⟩⟩
  .rename_i hx; rw [hev] at hx
   exact ⟨_, _, _, h, fun P A dst K hk => by
    have : BH P A AB ⟨nt, sl, hp, c⟩ dst (.nilCheck x) K := by simp only [BH]; rw [hx]; exact hk
    exact ⟨this, this⟩⟩
  .rename_i hx; rw [hev] at hx
   exact ⟨_, _, _, h, fun P A dst K hk => by
    have : BH P A AB ⟨nt, sl, hp, c⟩ dst (.nilCheck x) K := by simp only [BH]; rw [hx]; exact hk
    exact ⟨this, this⟩⟩
  cases h
 case binOp op t x z w =>
  obtain ⟨l, h1, h2⟩ := XW h
  refine ⟨l, _, _, h1, fun P A dst K hk => ?_⟩
  rw [hev, hev] at h2
  exact ⟨(h2 ⟨fun l => K.f (St.put ⟨nt, sl, hp, c⟩ dst l), ⟨⟩⟩ hk).1, (h2 ⟨fun l => K.f (St.put ⟨nt, sl, hp, c⟩ dst l), ⟨⟩⟩ hk).2⟩
 case unOp op t x =>
  split at h
  .split at h
   .rename_i hx; rw [hev] at hx
    exact ⟨_, _, _, h, fun P A dst K hk => by
     have : BH P A AB ⟨nt, sl, hp, c⟩ dst (.unOp .not t x) K := by simp only [BH]; rw [hx]; exact hk
     exact ⟨this, this⟩⟩
   cases h
  .split at h
   .rename_i hx; rw [hev] at hx
    exact ⟨_, _, _, h, fun P A dst K hk => by
     have : BH P A AB ⟨nt, sl, hp, c⟩ dst (.unOp .neg t x) K := by simp only [BH]; rw [hx]; exact hk
     exact ⟨this, this⟩⟩
   cases h
  cases h
 case convert s d x =>
  split at h
  .rename_i kk n hx; rw [hev] at hx
   split at h
   .rename_i ts hs
    split at h
    .rename_i ti ht
     split at h
     .rename_i kd hsh
      exact ⟨_, _, _, h, fun P A dst K hk => by
       have : BH P A AB ⟨nt, sl, hp, c⟩ dst (.convert s d x) K := by
        simp only [BH]; rw [hx]
        exact AS.2 ⟨ts, hs, AS.2 ⟨ti, ht, AR.2 ⟨kd, by rw [hsh]; rfl, hk⟩⟩⟩
       exact ⟨this, this⟩⟩
     cases h
    cases h
   cases h
  cases h
 case extract t i =>
  split at h
  .rename_i l hx; rw [hev] at hx
   split at h
   .rename_i v r hd
    exact ⟨_, _, _, h, fun P A dst K hk => by
     have : BH P A AB ⟨nt, sl, hp, c⟩ dst (.extract t i) K := by
      simp only [BH]; rw [hx]
      exact AR.2 ⟨v, Hw hd, hk⟩
     exact ⟨this, this⟩⟩
   cases h
  .rename_i l hx; rw [hev] at hx
   split at h
   .rename_i v r hd
    exact ⟨_, _, _, h, fun P A dst K hk => by
     have : BH P A AB ⟨nt, sl, hp, c⟩ dst (.extract t i) K := by
      simp only [BH]; rw [hx]
      exact AR.2 ⟨v, Hw hd, hk⟩
     exact ⟨this, this⟩⟩
   cases h
  cases h
 case field t x i =>
  split at h
  .rename_i ti ht
   split at h
   .rename_i fs hsh
    split at h
    .rename_i o ft r hd
     split at h
     .rename_i tf htf
      split at h
      .rename_i ls hx; rw [hev] at hx
       rw [Ro, Option.bind_eq_some_iff] at h
       obtain ⟨v, hv, h⟩ := h
       exact ⟨_, _, _, h, fun P A dst K hk => by
        have : BH P A AB ⟨nt, sl, hp, c⟩ dst (.field t x i) K := by
         simp only [BH]; rw [hx]
         exact AS.2 ⟨ti, ht, EV.2 ⟨fs, hsh, AR.2 ⟨(o, ft), Hw hd, AS.2 ⟨tf, htf, AR.2 ⟨v, hv, hk⟩⟩⟩⟩⟩
        exact ⟨this, this⟩⟩
      .rename_i ds hx; rw [hev] at hx
       rw [OO, Option.bind_eq_some_iff] at h
       obtain ⟨v, hv, h⟩ := h
       exact ⟨_, _, _, h, fun P A dst K hk => by
        have : BH P A AB ⟨nt, sl, hp, c⟩ dst (.field t x i) K := by
         simp only [BH]; rw [hx]
         exact AS.2 ⟨ti, ht, EV.2 ⟨fs, hsh, AR.2 ⟨(o, ft), Hw hd, AS.2 ⟨tf, htf, AR.2 ⟨v, hv, hk⟩⟩⟩⟩⟩
        exact ⟨this, this⟩⟩
      cases h
     cases h
    cases h
   cases h
  cases h
 case build t ps =>
  split at h
  .rename_i ti ht
   split at h
   .rename_i fs hsh
    split at h
    .rename_i hall
     rw [J9, Lz] at h
     obtain ⟨l, h1, h2⟩ := M3 h
     rw [Pz] at h1
     exact ⟨_, _, _, h1, fun P A dst K hk => by
      have : BH P A AB ⟨nt, sl, hp, c⟩ dst (.build t ps) K := by
       simp only [BH]
       refine AS.2 ⟨ti, ht, ?_⟩
       simp only [Mx, hsh]
       rw [Rq] at hall
       refine ⟨hall, ?_⟩
       have := h2 ⟨fun cells => K.f (St.put ⟨nt, sl, hp, c⟩ dst (Ee cells)), ⟨⟩⟩ hk
       simpa only [hev] using this
      exact ⟨this, this⟩⟩
    cases h
   .rename_i n e hsh
    split at h
    .rename_i te hte
     rw [J9, Lz] at h
     obtain ⟨l, h1, h2⟩ := M3 h
     rw [Pz] at h1
     exact ⟨_, _, _, h1, fun P A dst K hk => by
      have : BH P A AB ⟨nt, sl, hp, c⟩ dst (.build t ps) K := by
       simp only [BH]
       refine AS.2 ⟨ti, ht, ?_⟩
       simp only [Mx, hsh]
       refine AS.2 ⟨te, hte, ?_⟩
       have := h2 ⟨fun cells => K.f (St.put ⟨nt, sl, hp, c⟩ dst (Ee cells)), ⟨⟩⟩ hk
       simpa only [hev] using this
      exact ⟨this, this⟩⟩
    cases h
   cases h
  cases h
 case fieldAddr t x i =>
  split at h
  .rename_i ti ht
   split at h
   .rename_i fs hsh
    split at h
    .rename_i o ft r hd
     split at h
     .rename_i tf htf
      split at h
      .rename_i hsz
       obtain ⟨l, h1, h2⟩ := XX h
       rw [hev] at h2
       exact ⟨_, _, _, h1, fun P A dst K hk => by
        have : BH P A AB ⟨nt, sl, hp, c⟩ dst (.fieldAddr t x i) K := by
         simp only [BH]
         refine AS.2 ⟨ti, ht, EV.2 ⟨fs, hsh, AR.2 ⟨(o, ft), Hw hd, AS.2 ⟨tf, htf, ?_, h2 ⟨fun l => K.f (St.put ⟨nt, sl, hp, c⟩ dst l), ⟨⟩⟩ hk⟩⟩⟩⟩
         have := Nat.le_of_ble_eq_true hsz
         omega
        exact ⟨this, this⟩⟩
      cases h
     cases h
    cases h
   cases h
  cases h
 case makeFunc fn first caps =>
  cases fn <;> simp only at h <;> try (cases h; done)
  rename_i f
  split at h
  .rename_i hf
   rw [JI] at h
   exact ⟨_, _, _, h, fun P A dst K hk => by
    have : BH P A AB ⟨nt, sl, hp, c⟩ dst (.makeFunc (.func f) first caps) K := by
     simp only [BH]
     refine ⟨hf, ?_⟩
     have e : (caps.toList.map fun p => BI nt sl p) = caps.toList.map (St.eval ⟨nt, sl, hp, c⟩) := List.map_congr_left fun x _ => hev x
     rw [e] at hk
     exact hk
    exact ⟨this, this⟩⟩
  cases h
 case load t x =>
  split at h
  .cases h
  rename_i hc'
  rw [hev] at hc'
  split at h
  .rename_i ti ht
   split at h
   .rename_i l off hx; rw [hev] at hx
    rw [OO, Option.bind_eq_some_iff] at h
    obtain ⟨v, hv, h⟩ := h
    exact ⟨_, _, _, h, fun P A dst K hk => by
     have : BH P A AB ⟨nt, sl, hp, c⟩ dst (.load t x) K := by
      simp only [BH]; rw [hx]
      exact AS.2 ⟨ti, ht, AR.2 ⟨v, hv, hk⟩⟩
     exact ⟨this, hc', this⟩⟩
   .rename_i id off hx; rw [hev] at hx
    split at h
    .rename_i cells hl
     rw [Be] at hl
     rw [Ro, Option.bind_eq_some_iff] at h
     obtain ⟨v, hv, h⟩ := h
     exact ⟨_, _, _, h, fun P A dst K hk => by
      have : BH P A AB ⟨nt, sl, hp, c⟩ dst (.load t x) K := by
       simp only [BH]; rw [hx]
       exact AS.2 ⟨ti, ht, AR.2 ⟨_, hl, by dsimp only; refine IT.2 ⟨cells, rfl, ?_⟩; exact AR.2 ⟨v, hv, hk⟩⟩⟩
      exact ⟨this, hc', this⟩⟩
    cases h
   cases h
  cases h
 case store t x v =>
  split at h
  .cases h
  rename_i hc'
  rw [hev] at hc'
  split at h
  .rename_i ti ht
   split at h
   .rename_i id off hx; rw [hev] at hx
    rw [JH, Option.bind_eq_some_iff] at h
    obtain ⟨ls, hls, h⟩ := h
    rw [hev] at hls
    split at h
    .rename_i hlen
     split at h
     .rename_i hone
      rw [M1] at hone
      split at h
      .rename_i cells hl
       rw [Be] at hl
       obtain ⟨h1, h2⟩ := P0 h
       rw [Gg] at h2
       exact ⟨_, _, _, h2, fun P A dst K hk => by
        have : BH P A AB ⟨nt, sl, hp, c⟩ dst (.store t x v) K := by
         simp only [BH]; rw [hx]
         exact AS.2 ⟨ti, ht, AR.2 ⟨ls, hls, ⟨Nat.eq_of_beq_eq_true hlen, hone⟩, AR.2 ⟨_, hl, by dsimp only; refine IT.2 ⟨cells, rfl, ?_⟩; exact ⟨h1, hk⟩⟩⟩⟩
        exact ⟨this, hc', this⟩⟩
      cases h
     cases h
    cases h
   cases h
  cases h
 case alloc t =>
  split at h
  .rename_i ti ht
   rw [J9] at h
   exact ⟨_, _, _, h, fun P A dst K hk => by
    have : BH P A AB ⟨nt, sl, hp, c⟩ dst (.alloc t) K := by
     simp only [BH]
     exact AS.2 ⟨ti, ht, hk⟩
    exact ⟨this, this⟩⟩
  cases h
 case box t x =>
  rw [JH, Option.bind_eq_some_iff] at h
  obtain ⟨ls, hls, h⟩ := h
  rw [hev] at hls
  exact ⟨_, _, _, h, fun P A dst K hk => by
   have : BH P A AB ⟨nt, sl, hp, c⟩ dst (.box t x) K := by
    simp only [BH]
    exact AR.2 ⟨ls, hls, hk⟩
   exact ⟨this, this⟩⟩
 case buildSlice t n ps =>
  split at h
  .rename_i ti ht
   split at h
   .rename_i e hsh
    split at h
    .rename_i te hte
     split at h
     .rename_i hb
      rw [Lz] at h
      obtain ⟨l, h1, h2⟩ := QT h
      split at h2
      .rename_i hlen
       simp only [Bool.and_eq_true] at hb
       exact ⟨_, _, _, h2, fun P A dst K hk => by
        have : BH P A AB ⟨nt, sl, hp, c⟩ dst (.buildSlice t n ps) K := by
         simp only [BH]
         simp only [hev] at h1
         exact AS.2 ⟨ti, ht, Cb.2 ⟨e, hsh, AS.2 ⟨te, hte, ⟨Nat.le_of_ble_eq_true hb.1, Nat.le_of_ble_eq_true hb.2⟩, AR.2 ⟨l, h1, Nat.eq_of_beq_eq_true hlen, .inl hk⟩⟩⟩⟩
        exact ⟨this, this⟩⟩
      cases h2
     cases h
    cases h
   cases h
  cases h
 case makeMap t r =>
  cases r with
  | some r => cases h
  | none => exact ⟨_, _, _, h, fun P A dst K hk => ⟨hk, hk⟩⟩
 case call cl =>
  obtain ⟨callee, args, ts⟩ := cl
  cases callee with
  | value f => cases h
  | invoke r m => cases h
  | builtin b =>
   cases b <;> simp only at h <;> try (cases h; done)
   case len =>
    split at h
    .rename_i x t hargs hts
     split at h
     .rename_i ti ht
      have ha : args = #[x] := by cases args; simpa using hargs
      have ht' : ts = #[t] := by cases ts; simpa using hts
      subst ha ht'
      have fin : ∀ l, k l hp c = some y -> (∀ K : A0 LV, K.f l -> V0 ti.sh ((⟨nt, sl, hp, c⟩ : St).eval x) K /\ UC ti.sh ((⟨nt, sl, hp, c⟩ : St).eval x) K) ->
        ∃ l h' c', k l h' c' = some y /\ U2 AB ⟨nt, sl, hp, c⟩ (.call ⟨.builtin .len, #[x], #[t]⟩) l h' c' := fun l h1 h2 => ⟨l, hp, c, h1, fun P A dst K hk => by
       have := h2 ⟨fun l => K.f (St.put ⟨nt, sl, hp, c⟩ dst l), ⟨⟩⟩ hk
       exact ⟨AS.2 ⟨ti, ht, this.1⟩, AS.2 ⟨ti, ht, this.2⟩⟩⟩
      split at h
      .rename_i hsh
       exact fin _ h fun K hk => by rw [hsh]; exact ⟨hk, hk⟩
      .rename_i hsh hx; rw [hev] at hx
       exact fin _ h fun K hk => by rw [hsh, hx]; exact ⟨hk, hk⟩
      .rename_i hsh hx; rw [hev] at hx
       exact fin _ h fun K hk => by rw [hsh, hx]; exact ⟨hk, hk⟩
      .rename_i hsh hx; rw [hev] at hx
       exact fin _ h fun K hk => by rw [hsh, hx]; exact ⟨hk, hk⟩
      cases h
     cases h
    cases h
   case max =>
    rw [JI] at h
    split at h
    .rename_i kk n rest hl
     obtain ⟨m, h1, h2⟩ := TN h
     exact ⟨_, _, _, h1, fun P A dst K hk => by
      have : BH P A AB ⟨nt, sl, hp, c⟩ dst (.call ⟨.builtin .max, args, ts⟩) K := by
       simp only [BH, Lr]
       simp only [hev] at hl
       refine AR.2 ⟨(kk, m), ?_, hk⟩
       show B0 _ (args.toList.map fun x => St.eval _ x) = _
       rw [hl]
       simp only [B0, h2]; rfl
      exact ⟨this, this⟩⟩
    cases h
   case min =>
    rw [JI] at h
    split at h
    .rename_i kk n rest hl
     obtain ⟨m, h1, h2⟩ := TO h
     exact ⟨_, _, _, h1, fun P A dst K hk => by
      have : BH P A AB ⟨nt, sl, hp, c⟩ dst (.call ⟨.builtin .min, args, ts⟩) K := by
       simp only [BH, Lr]
       simp only [hev] at hl
       refine AR.2 ⟨(kk, m), ?_, hk⟩
       show B0 _ (args.toList.map fun x => St.eval _ x) = _
       rw [hl]
       simp only [B0, h2]; rfl
      exact ⟨this, this⟩⟩
    cases h
end
end Go.E
/- Runs of operations (FF, FG), loops and joins told by plain Lean (AQ, Ja), rules for a walk in step with a plain function. No condition. -/
namespace Go.E
open Go Go.RowKit
section
variable {β : Type}
def KB : Bool -> Bool -> Bool
 | true, true | false, false => true
 | _, _ => false
theorem KC {a b : Bool} (h : KB a b = true) : a = b := by cases a <;> cases b <;> first | rfl | cases h
theorem L0 {a b : Bool} (h : KB a b = false) : a = !b := by cases a <;> cases b <;> first | rfl | cases h
def FF (AB : Ax) : Nat -> List Gy -> Nat -> List (Nat × LV) -> AN -> Nat -> Option (List Gy × St)
 | 0, ms, nt, sl, h, c => some (ms, ⟨nt, sl, h, c⟩)
 | _ + 1, [], _, _, _, _ => none
 | n + 1, m :: ms, nt, sl, h, c => match m with
  | ⟨dst, op, g⟩ => match g with
   | none => FE AB nt sl h c op fun l h' c' => match dst with
    | some t => FF AB n ms nt ((t, l) :: sl) h' c'
    | none => FF AB n ms nt sl h' c'
   | some (some d, want) => match BI nt sl (.tmp d) with
    | .p (.bool b) => match KB b want with
     | true => FE AB nt sl h c op fun l h' c' => match dst with
      | some t => FF AB n ms nt ((t, l) :: sl) h' c'
      | none => FF AB n ms nt sl h' c'
     | false => match dst with
      | some t => FF AB n ms nt ((t, .und) :: sl) h c
      | none => FF AB n ms nt sl h c
    | .und => match dst with
     | some t => FF AB n ms nt ((t, .und) :: sl) h c
     | none => FF AB n ms nt sl h c
    | _ => none
   | some (none, _) => none
def HX (AB : Ax) : List Gy -> Nat -> List (Nat × LV) -> AN -> Nat -> Option St
 | [], nt, sl, h, c => some ⟨nt, sl, h, c⟩
 | m :: ms, nt, sl, h, c => match m with
  | ⟨dst, op, g⟩ => match g with
   | none => FE AB nt sl h c op fun l h' c' => match dst with
    | some t => HX AB ms nt ((t, l) :: sl) h' c'
    | none => HX AB ms nt sl h' c'
   | some (some d, want) => match BI nt sl (.tmp d) with
    | .p (.bool b) => match KB b want with
     | true => FE AB nt sl h c op fun l h' c' => match dst with
      | some t => HX AB ms nt ((t, l) :: sl) h' c'
      | none => HX AB ms nt sl h' c'
     | false => match dst with
      | some t => HX AB ms nt ((t, .und) :: sl) h c
      | none => HX AB ms nt sl h c
    | .und => match dst with
     | some t => HX AB ms nt ((t, .und) :: sl) h c
     | none => HX AB ms nt sl h c
    | _ => none
   | some (none, _) => none
def FG (AB : Ax) (base : Nat) : Nat -> List (Nat × Gy) -> Nat -> List (Nat × LV) -> AN -> Option (List (Nat × Gy) × List (Nat × LV) × AN)
 | 0, ms, _, sl, h => some (ms, sl, h)
 | _ + 1, [], _, _, _ => none
 | n + 1, m :: ms, nt, sl, h => match m with
  | (i, ⟨dst, op, g⟩) => match g with
   | none => FE AB nt sl h (base + i) op fun l h' _ => match dst with
    | some t => FG AB base n ms nt ((t, l) :: sl) h'
    | none => FG AB base n ms nt sl h'
   | some (some d, want) => match BI nt sl (.tmp d) with
    | .p (.bool b) => match KB b want with
     | true => FE AB nt sl h (base + i) op fun l h' _ => match dst with
      | some t => FG AB base n ms nt ((t, l) :: sl) h'
      | none => FG AB base n ms nt sl h'
     | false => match dst with
      | some t => FG AB base n ms nt ((t, .und) :: sl) h
      | none => FG AB base n ms nt sl h
    | .und => match dst with
     | some t => FG AB base n ms nt ((t, .und) :: sl) h
     | none => FG AB base n ms nt sl h
    | _ => none
   | some (none, _) => none
def FH (AB : Ax) (base : Nat) : List (Nat × Gy) -> Nat -> List (Nat × LV) -> AN -> Option (List (Nat × LV) × AN)
 | [], _, sl, h => some (sl, h)
 | m :: ms, nt, sl, h => match m with
  | (i, ⟨dst, op, g⟩) => match g with
   | none => FE AB nt sl h (base + i) op fun l h' _ => match dst with
    | some t => FH AB base ms nt ((t, l) :: sl) h'
    | none => FH AB base ms nt sl h'
   | some (some d, want) => match BI nt sl (.tmp d) with
    | .p (.bool b) => match KB b want with
     | true => FE AB nt sl h (base + i) op fun l h' _ => match dst with
      | some t => FH AB base ms nt ((t, l) :: sl) h'
      | none => FH AB base ms nt sl h'
     | false => match dst with
      | some t => FH AB base ms nt ((t, .und) :: sl) h
      | none => FH AB base ms nt sl h
    | .und => match dst with
     | some t => FH AB base ms nt ((t, .und) :: sl) h
     | none => FH AB base ms nt sl h
    | _ => none
   | some (none, _) => none
end
section
variable {P : Program} {A : BF} {AB : Ax} {f : St -> Prop} {hf : Hq f} {nt : Nat} {sl : List (Nat × LV)} {h : AN} {c : Nat}
theorem L1 {dst : Option Tmp} {l : LV} {h' : AN} {c' : Nat} : (⟨nt, sl, h, c⟩ : St).go dst l h' c' = match dst with | some t => ⟨nt, (t, l) :: sl, h', c'⟩ | none => ⟨nt, sl, h', c'⟩ := by
 cases dst <;> rfl
theorem rn (n : Nat) {ms ms' : List Gy} {st' : St} (hr : FF AB n ms nt sl h c = some (ms', st')) (k : Dr P A AB ⟨f, hf⟩ ms' st') : Dr P A AB ⟨f, hf⟩ ms ⟨nt, sl, h, c⟩ := by
  induction n generalizing ms nt sl h c with
  | zero =>
    have : (ms, (⟨nt, sl, h, c⟩ : St)) = (ms', st') := by simpa [FF] using hr
    cases this; exact k
  | succ n ih =>
    cases ms with
    | nil => simp [FF] at hr
    | cons m ms =>
      obtain ⟨dst, op, g⟩ := m
      have run : (FE AB nt sl h c op fun l h' c' => match (generalizing := false) dst with
            | some t => FF AB n ms nt ((t, l) :: sl) h' c'
            | none => FF AB n ms nt sl h' c') = some (ms', st') -> BH P A AB ⟨nt, sl, h, c⟩ dst op ⟨Dr P A AB ⟨f, hf⟩ ms, ⟨⟩⟩ := fun hs => by
        obtain ⟨l, h', c', h1, h2⟩ := G0 hs
        refine (h2 P A dst _ ?_).1
        rw [L1]
        cases dst with
        | some t => exact ih h1
        | none => exact ih h1
      have skip : (match (generalizing := false) dst with
          | some t => FF AB n ms nt ((t, .und) :: sl) h c
          | none => FF AB n ms nt sl h c) = some (ms', st') -> Dr P A AB ⟨f, hf⟩ ms ((⟨nt, sl, h, c⟩ : St).put dst .und) := fun hs => by
        cases dst with
        | some t => exact ih hs
        | none => exact ih hs
      simp only [FF] at hr
      cases g with
      | none => exact run hr
      | some g =>
        obtain ⟨d, want⟩ := g
        cases d with
        | none => simp at hr
        | some d =>
          simp only at hr
          simp only [Dr, Fb, <- BO (h := h) (c := c)]
          generalize BI nt sl (.tmp d) = v at hr ⊢
          split at hr
          . rename_i b
            split at hr
            . rename_i hb
              refine ⟨fun _ => run hr, fun e => ?_⟩
              rw [KC hb] at e; cases want <;> cases e
            rename_i hb
            refine ⟨fun e => ?_, fun _ => skip hr⟩
            rw [L0 hb] at e; cases want <;> cases e
          . exact skip hr
          cases hr
theorem rl {ms : List Gy} {st' : St} (hr : HX AB ms nt sl h c = some st') (k : f st') : Dr P A AB ⟨f, hf⟩ ms ⟨nt, sl, h, c⟩ := by
  induction ms generalizing nt sl h c with
  | nil =>
    have : (⟨nt, sl, h, c⟩ : St) = st' := by simpa [HX] using hr
    subst this; exact ⟨k⟩
  | cons m ms ih =>
      obtain ⟨dst, op, g⟩ := m
      have run : (FE AB nt sl h c op fun l h' c' => match (generalizing := false) dst with
            | some t => HX AB ms nt ((t, l) :: sl) h' c'
            | none => HX AB ms nt sl h' c') = some st' -> BH P A AB ⟨nt, sl, h, c⟩ dst op ⟨Dr P A AB ⟨f, hf⟩ ms, ⟨⟩⟩ := fun hs => by
        obtain ⟨l, h', c', h1, h2⟩ := G0 hs
        refine (h2 P A dst _ ?_).1
        rw [L1]
        cases dst with
        | some t => exact ih h1
        | none => exact ih h1
      have skip : (match (generalizing := false) dst with
          | some t => HX AB ms nt ((t, .und) :: sl) h c
          | none => HX AB ms nt sl h c) = some st' -> Dr P A AB ⟨f, hf⟩ ms ((⟨nt, sl, h, c⟩ : St).put dst .und) := fun hs => by
        cases dst with
        | some t => exact ih hs
        | none => exact ih hs
      simp only [HX] at hr
      cases g with
      | none => exact run hr
      | some g =>
        obtain ⟨d, want⟩ := g
        cases d with
        | none => simp at hr
        | some d =>
          simp only at hr
          simp only [Dr, Fb, <- BO (h := h) (c := c)]
          generalize BI nt sl (.tmp d) = v at hr ⊢
          split at hr
          . rename_i b
            split at hr
            . rename_i hb
              refine ⟨fun _ => run hr, fun e => ?_⟩
              rw [KC hb] at e; cases want <;> cases e
            rename_i hb
            refine ⟨fun e => ?_, fun _ => skip hr⟩
            rw [L0 hb] at e; cases want <;> cases e
          . exact skip hr
          cases hr
theorem A8 (n : Nat) {base m : Nat} {ms ms' : List (Nat × Gy)} {sl' : List (Nat × LV)} {h' : AN} (hr : FG AB base n ms nt sl h = some (ms', sl', h')) (k : C4 P A AB base m ⟨f, hf⟩ ms' ⟨nt, sl', h', c⟩) : C4 P A AB base m ⟨f, hf⟩ ms ⟨nt, sl, h, c⟩ := by
  induction n generalizing ms sl h with
  | zero =>
    have : (ms, sl, h) = (ms', sl', h') := by simpa [FG] using hr
    cases this; exact k
  | succ n ih =>
    cases ms with
    | nil => simp [FG] at hr
    | cons p ms =>
      obtain ⟨i, dst, op, g⟩ := p
      have at_ : ∀ {sl h c'} , C4 P A AB base m ⟨f, hf⟩ ms ⟨nt, sl, h, c⟩ -> C4 P A AB base m ⟨f, hf⟩ ms ⟨nt, sl, h, c'⟩ := fun {sl h c'} hd => by
        have := O5 (P := P) (A := A) (AB := AB) base m ⟨f, hf⟩ ms ⟨nt, sl, h, c⟩ c'
        rw [<- this] at hd; exact hd
      have run : (FE AB nt sl h (base + i) op fun l h' c' => match (generalizing := false) dst with
            | some t => FG AB base n ms nt ((t, l) :: sl) h'
            | none => FG AB base n ms nt sl h') = some (ms', sl', h') -> Hv P A AB ((⟨nt, sl, h, c⟩ : St).at (base + i)) dst op ⟨C4 P A AB base m ⟨f, hf⟩ ms, ⟨⟩⟩ := fun hs => by
        obtain ⟨l, h', c', h1, h2⟩ := G0 hs
        refine (h2 P A dst _ ?_).2
        rw [L1]
        cases dst with
        | some t => exact at_ (ih h1)
        | none => exact at_ (ih h1)
      have skip : (match (generalizing := false) dst with
          | some t => FG AB base n ms nt ((t, .und) :: sl) h
          | none => FG AB base n ms nt sl h) = some (ms', sl', h') -> C4 P A AB base m ⟨f, hf⟩ ms ((⟨nt, sl, h, c⟩ : St).put dst .und) := fun hs => by
        cases dst with
        | some t => exact ih hs
        | none => exact ih hs
      simp only [FG] at hr
      cases g with
      | none => exact run hr
      | some g =>
        obtain ⟨d, want⟩ := g
        cases d with
        | none => simp at hr
        | some d =>
          simp only at hr
          simp only [C4, Fb, <- BO (h := h) (c := c)]
          generalize BI nt sl (.tmp d) = v at hr ⊢
          split at hr
          . rename_i b
            split at hr
            . rename_i hb
              refine ⟨fun _ => run hr, fun e => ?_⟩
              rw [KC hb] at e; cases want <;> cases e
            rename_i hb
            refine ⟨fun e => ?_, fun _ => skip hr⟩
            rw [L0 hb] at e; cases want <;> cases e
          . exact skip hr
          cases hr
theorem BB {base m : Nat} {ms : List (Nat × Gy)} {sl' : List (Nat × LV)} {h' : AN} (hr : FH AB base ms nt sl h = some (sl', h')) (k : f ⟨nt, sl', h', base + m⟩) : C4 P A AB base m ⟨f, hf⟩ ms ⟨nt, sl, h, c⟩ := by
  induction ms generalizing sl h with
  | nil =>
    have : (sl, h) = (sl', h') := by simpa [FH] using hr
    cases this; exact ⟨k⟩
  | cons p ms ih =>
      obtain ⟨i, dst, op, g⟩ := p
      have at_ : ∀ {sl h c'} , C4 P A AB base m ⟨f, hf⟩ ms ⟨nt, sl, h, c⟩ -> C4 P A AB base m ⟨f, hf⟩ ms ⟨nt, sl, h, c'⟩ := fun {sl h c'} hd => by
        have := O5 (P := P) (A := A) (AB := AB) base m ⟨f, hf⟩ ms ⟨nt, sl, h, c⟩ c'
        rw [<- this] at hd; exact hd
      have run : (FE AB nt sl h (base + i) op fun l h' c' => match (generalizing := false) dst with
            | some t => FH AB base ms nt ((t, l) :: sl) h'
            | none => FH AB base ms nt sl h') = some (sl', h') -> Hv P A AB ((⟨nt, sl, h, c⟩ : St).at (base + i)) dst op ⟨C4 P A AB base m ⟨f, hf⟩ ms, ⟨⟩⟩ := fun hs => by
        obtain ⟨l, h', c', h1, h2⟩ := G0 hs
        refine (h2 P A dst _ ?_).2
        rw [L1]
        cases dst with
        | some t => exact at_ (ih h1)
        | none => exact at_ (ih h1)
      have skip : (match (generalizing := false) dst with
          | some t => FH AB base ms nt ((t, .und) :: sl) h
          | none => FH AB base ms nt sl h) = some (sl', h') -> C4 P A AB base m ⟨f, hf⟩ ms ((⟨nt, sl, h, c⟩ : St).put dst .und) := fun hs => by
        cases dst with
        | some t => exact ih hs
        | none => exact ih hs
      simp only [FH] at hr
      cases g with
      | none => exact run hr
      | some g =>
        obtain ⟨d, want⟩ := g
        cases d with
        | none => simp at hr
        | some d =>
          simp only at hr
          simp only [C4, Fb, <- BO (h := h) (c := c)]
          generalize BI nt sl (.tmp d) = v at hr ⊢
          split at hr
          . rename_i b
            split at hr
            . rename_i hb
              refine ⟨fun _ => run hr, fun e => ?_⟩
              rw [KC hb] at e; cases want <;> cases e
            rename_i hb
            refine ⟨fun e => ?_, fun _ => skip hr⟩
            rw [L0 hb] at e; cases want <;> cases e
          . exact skip hr
          cases hr
end
end Go.E
/- Rules for a walk in step with a plain function. No condition. -/
namespace Go.E
open Go Go.RowKit
def Kz : List Nat -> Nat -> Bool
 | [], _ => false
 | x :: l, t => match Nat.beq t x with
  | true => true
  | false => Kz l t
theorem TP : ∀ {l : List Nat} {t : Nat}, Kz l t = true ↔ t ∈ l
 | [], t => by simp [Kz]
 | x :: l, t => by
  simp only [Kz, List.mem_cons]
  split
  .rename_i h; have := Nat.eq_of_beq_eq_true h; subst this; simp
  rename_i h
  have hne : t ≠ x := by rintro rfl; simp at h
  rw [TP]; simp [hne]
theorem WC {P : Program} {l : List (Nat × TI)} (h : (l.map fun p => UF P p.1) = l.map fun p => some p.2) : Mz P (fun t => Ba t l) := by
 have := Rn h
 intro t ti ht
 exact this t ti (by simpa only [Be] using ht)
section
variable {α β γ : Type}
theorem bd {o : Option α} {f : α -> Option β} {b : β} (h : o.bind f = some b) : ∃ a, o = some a /\ f a = some b := Option.bind_eq_some_iff.1 h
def Aj (l : List α) (n : Int) : Option α := match n with
 | .ofNat k => l[k]?
 | .negSucc _ => none
theorem IY {l : List α} {n : Int} {y : α} (h : Aj l n = some y) : 0 <= n /\ n.toNat < l.length /\ l[n.toNat]? = some y := by
 cases n with
 | ofNat k => exact ⟨Int.natCast_nonneg k, (List.getElem?_eq_some_iff.1 h).1, h⟩
 | negSucc k => cases h
def L2 (s : ByteArray) (n : Int) : Option UInt8 := match n with
 | .ofNat k => s[k]?
 | .negSucc _ => none
def YC (l : List α) (lo hi : Int) : Option (List α) := if 0 <= lo /\ lo <= hi /\ hi <= l.length then some ((l.take hi.toNat).drop lo.toNat) else none
def BP (l m : List α) : Option (List α) := if l.length + m.length <= 4294967296 then some (l ++ m) else none
def KD (l : List α) (n : Int) (z : α) : List α := l.set n.toNat z
def OQ (a b : Int) : Option Int := if b = 0 then none else some (a.tmod b)
def Eg (step : α -> Option (α ⊕ β)) : Nat -> α -> Option β
 | 0, _ => none
 | n + 1, s => match step s with
  | none => none
  | some (.inl s') => Eg step n s'
  | some (.inr b) => some b
theorem M6 {step : α -> Option (α ⊕ β)} : ∀ {n m : Nat} {s : α} {b : β}, Eg step n s = some b -> Eg step (n + m) s = some b
 | 0, _, _, _, h => by cases h
 | n + 1, m, s, b, h => by
  rw [show n + 1 + m = (n + m) + 1 by omega]
  simp only [Eg] at h ⊢
  split at h
  .cases h
  .exact M6 h
  exact h
open Classical in
noncomputable def O8 (step : α -> Option (α ⊕ β)) (s : α) : Option β := if h : ∃ b n, Eg step n s = some b then some h.choose else none
noncomputable def AQ (step : α -> Option (α ⊕ β)) (s : α) : Option β := match Eg step 18446744073709551616 s with
 | some b => some b
 | none => O8 step s
theorem Rt {step : α -> Option (α ⊕ β)} {n : Nat} {s : α} {b : β} (h : Eg step n s = some b) : O8 step s = some b := by
 have hex : ∃ b n, Eg step n s = some b := ⟨b, n, h⟩
 unfold O8
 rw [dif_pos hex]
 obtain ⟨m, hm⟩ := hex.choose_spec
 have h1 := M6 (m := m) h
 have h2 := M6 (m := n) hm
 rw [show m + n = n + m by omega, h1] at h2
 exact h2.symm
theorem TQ (step : α -> Option (α ⊕ β)) (s : α) : AQ step s = O8 step s := by
 unfold AQ
 split
 .rename_i h; exact (Rt h).symm
 rfl
theorem OR {step : α -> Option (α ⊕ β)} {n : Nat} {s : α} {b : β} (h : Eg step n s = some b) : AQ step s = some b := by
 rw [TQ]; exact Rt h
theorem Jn {step : α -> Option (α ⊕ β)} {s : α} {b : β} (h : AQ step s = some b) : ∃ n, Eg step n s = some b := by
 rw [TQ] at h
 unfold O8 at h
 split at h
 .rename_i hex
  obtain ⟨m, hm⟩ := hex.choose_spec
  simp only [Option.some.injEq] at h
  rw [h] at hm
  exact ⟨m, hm⟩
 cases h
theorem HY (step : α -> Option (α ⊕ β)) (s : α) : AQ step s = match step s with
  | none => none
  | some (.inl s') => AQ step s'
  | some (.inr b) => some b := by
 cases hs : step s with
 | none =>
  cases hl : AQ step s with
  | none => rfl
  | some b =>
   obtain ⟨n, hn⟩ := Jn hl
   cases n with
   | zero => cases hn
   | succ n => simp [Eg, hs] at hn
 | some r =>
  cases r with
  | inl s' =>
   simp only
   cases hl : AQ step s' with
   | some b => obtain ⟨n, hn⟩ := Jn hl; exact OR (n := n + 1) (by simp only [Eg, hs]; exact hn)
   | none =>
    cases hl' : AQ step s with
    | none => rfl
    | some b =>
     obtain ⟨n, hn⟩ := Jn hl'
     cases n with
     | zero => cases hn
     | succ n =>
      simp only [Eg, hs] at hn
      rw [OR hn] at hl; cases hl
  | inr b => exact OR (n := 1) (by simp [Eg, hs])
def Ja (sp : Option (α ⊕ β)) (rest : α -> Option β) : Option β := match sp with
 | none => none
 | some (.inl t) => rest t
 | some (.inr b) => some b
end
section
variable {P : Program} {A : BF} {AB : Ax} {st : St} {σ Ans : Type}
def LP (A : BF) (S : σ -> St) (Q : Ans -> Exit -> St -> Prop) : σ ⊕ Ans -> Exit -> St -> Prop
 | .inl s, e, st => e = .normal /\ A6 A st (S s)
 | .inr a, e, st => e ≠ .normal /\ Q a e st
theorem lp {c : Code} {Q : Ans -> Exit -> St -> Prop} {a : Ans} (I : σ -> St) {step : σ -> Option (σ ⊕ Ans)} {s0 : σ} (h : AQ step s0 = some a) (hw : A6 A st (I s0))
  (hb : ∀ s b, step s = some b -> B2 P A c (LP A I Q b) (I s)) : B2 P A (.loop c) (Q a) st := by
 obtain ⟨n, hn⟩ := Jn h
 refine Rd (ι := Nat × σ) (fun i s => Eg step i.1 i.2 = some a /\ A6 A s (I i.2)) (fun i => i.1) (n, s0) ⟨hn, hw⟩ ?_
 rintro ⟨n, s⟩ st' ⟨hi, hws⟩
 refine GE hws ?_
 cases n with
 | zero => cases hi
 | succ n =>
  simp only [Eg] at hi
  cases hs : step s with
  | none => rw [hs] at hi; cases hi
  | some r =>
   rw [hs] at hi
   refine GB (hb s r hs) fun e st'' q => ?_
   cases r with
   | inl s' =>
    obtain ⟨he, hw'⟩ := q
    subst he
    exact ⟨(n, s'), ⟨hi, hw'⟩, Nat.lt_succ_self n⟩
   | inr a' =>
    obtain ⟨he, hq⟩ := q
    simp only [Option.some.injEq] at hi
    subst hi
    cases e <;> first | exact absurd rfl he | exact hq
theorem jn {x y : Code} {Q : Ans -> Exit -> St -> Prop} {a : Ans} (S : σ -> St) {sp : Option (σ ⊕ Ans)} {rest : σ -> Option Ans} (h : Ja sp rest = some a)
  (hx : ∀ b, sp = some b -> B2 P A x (LP A S Q b) st) (hy : ∀ t, rest t = some a -> B2 P A y (Q a) (S t)) : B2 P A (.seq x y) (Q a) st := by
 refine AD ?_
 cases hs : sp with
 | none => rw [hs] at h; cases h
 | some r =>
  rw [hs] at h
  refine GB (hx r hs) fun e st' q => ?_
  cases r with
  | inl t =>
   obtain ⟨he, hw⟩ := q
   subst he
   exact GE hw (hy t h)
  | inr a' =>
   obtain ⟨he, hq⟩ := q
   simp only [Ja, Option.some.injEq] at h
   subst h
   cases e <;> first | exact absurd rfl he | exact hq
def NP (A : BF) (S : σ -> St) (s : σ) (e : Exit) (st : St) : Prop := e = .normal /\ A6 A st (S s)
theorem jb {x y : Code} {Q : Exit -> St -> Prop} {a : Ans} (S : σ -> St) {sp : Option σ} {rest : σ -> Option Ans} (h : sp.bind rest = some a)
  (hx : ∀ t, sp = some t -> B2 P A x (NP A S t) st) (hy : ∀ t, rest t = some a -> B2 P A y Q (S t)) : B2 P A (.seq x y) Q st := by
 obtain ⟨t, h1, h2⟩ := bd h
 refine AD (GB (hx t h1) fun e st' q => ?_)
 obtain ⟨he, hw⟩ := q
 subst he
 exact GE hw (hy t h2)
theorem rg (hE : Ay P AB) {id : Nat} {ops : List Oper} {Q : Exit -> St -> Prop} (k : Dr P A AB ⟨Q .normal, ⟨⟩⟩ (ops.map (Mw ops)) st) : B2 P A (.region id ops.toArray false) Q st := V4 hE rfl k
theorem rs (hE : Ay P AB) {id : Nat} {ops : List Oper} {y : Code} {Q : Exit -> St -> Prop} (k : Dr P A AB ⟨B2 P A y Q, ⟨⟩⟩ (ops.map (Mw ops)) st) : B2 P A (.seq (.region id ops.toArray false) y) Q st := XQ hE rfl k
theorem C5 (hE : Ay P AB) (hm : P.follows .mixedOrders = true) {id : Nat} {ops : List Oper} {Q : Exit -> St -> Prop} {nt : Nat} {sl : List (Nat × LV)} {h : AN} {c : Nat} (order : List Nat) (n : Nat)
  (hok : GC false AB.own .any ops.toArray order (Array.replicate ops.length false) = true) (hl : Nat.beq order.length ops.length = true) (hb : (order.all fun i => Nat.blt i ops.length) = true) (hn : Nat.beq ops.length n = true)
  (k : C4 P A AB c n ⟨Q .normal, ⟨⟩⟩ (Ef ops order) ⟨nt, sl, h, c⟩) : B2 P A (.region id ops.toArray true) Q ⟨nt, sl, h, c⟩ := by
 have hb' : (order.all fun i => decide (i < ops.length)) = true := by
  rw [List.all_eq_true] at hb ⊢
  intro i hi
  have := Nat.le_of_ble_eq_true (hb i hi)
  simp only [decide_eq_true_eq]; omega
 have hn' := Nat.eq_of_beq_eq_true hn
 subst hn'
 exact Ge false (fun h => by cases h) hE hm hok (Nat.eq_of_beq_eq_true hl) (GF order _ hb' k)
theorem Zi (hE : Ay P AB) (hm : P.follows .mixedOrders = true) {id : Nat} {ops : List Oper} {Q : Exit -> St -> Prop} {nt : Nat} {sl : List (Nat × LV)} {h : AN} {c : Nat} (order : List Nat) (n : Nat)
  (hq : AB.calm.isSome = true) (hok : GC true AB.own .any ops.toArray order (Array.replicate ops.length false) = true) (hl : Nat.beq order.length ops.length = true) (hb : (order.all fun i => Nat.blt i ops.length) = true) (hn : Nat.beq ops.length n = true)
  (k : C4 P A AB c n ⟨Q .normal, ⟨⟩⟩ (Ef ops order) ⟨nt, sl, h, c⟩) : B2 P A (.region id ops.toArray true) Q ⟨nt, sl, h, c⟩ := by
 have hb' : (order.all fun i => decide (i < ops.length)) = true := by
  rw [List.all_eq_true] at hb ⊢
  intro i hi
  have := Nat.le_of_ble_eq_true (hb i hi)
  simp only [decide_eq_true_eq]; omega
 have hn' := Nat.eq_of_beq_eq_true hn
 subst hn'
 exact Ge true (fun _ => Option.isSome_iff_exists.1 hq) hE hm hok (Nat.eq_of_beq_eq_true hl) (GF order _ hb' k)
theorem cd {x : Operand} {cx cy : Code} {Q : Exit -> St -> Prop} {nt : Nat} {sl : List (Nat × LV)} {h : AN} {c : Nat} {b : Bool} {p q : Option Ans} {a : Ans} (hb : BI nt sl x = .p (.bool b)) (hh : cond b p q = some a)
  (hx : p = some a -> B2 P A cx Q ⟨nt, sl, h, c⟩) (hy : q = some a -> B2 P A cy Q ⟨nt, sl, h, c⟩) : B2 P A (.cond x cx cy) Q ⟨nt, sl, h, c⟩ := by
 refine OI (b := b) (by rw [<- BO]; exact hb) (fun e => ?_) (fun e => ?_)
 .subst e; exact hx hh
 subst e; exact hy hh
theorem QU {x : Operand} {cx cy : Code} {Q : Exit -> St -> Prop} {nt : Nat} {sl : List (Nat × LV)} {h : AN} {c : Nat} (hb : BI nt sl x = .p (.bool true)) (hx : B2 P A cx Q ⟨nt, sl, h, c⟩) : B2 P A (.cond x cx cy) Q ⟨nt, sl, h, c⟩ :=
 OI (b := true) (by rw [<- BO]; exact hb) (fun _ => hx) (fun e => by cases e)
theorem O9 {x : Operand} {cx cy : Code} {Q : Exit -> St -> Prop} {nt : Nat} {sl : List (Nat × LV)} {h : AN} {c : Nat} (hb : BI nt sl x = .p (.bool false)) (hx : B2 P A cy Q ⟨nt, sl, h, c⟩) : B2 P A (.cond x cx cy) Q ⟨nt, sl, h, c⟩ :=
 OI (b := false) (by rw [<- BO]; exact hb) (fun e => by cases e) (fun _ => hx)
end
end Go.E
/- Rules for single operations of a walk in step with a plain function. No condition. -/
namespace Go.E
open Go Go.RowKit
section
variable {β : Type}
def UH (t : Nat) (v : LV) : List (Nat × LV) -> (List (Nat × LV) -> Option β) -> Option β
 | [], _ => none
 | (q, u) :: l, k => match Nat.beq t q with
  | true => k ((q, v) :: l)
  | false => UH t v l (fun r => k ((q, u) :: r))
theorem TR {t : Nat} {v : LV} : ∀ {l : List (Nat × LV)} {k : List (Nat × LV) -> Option β} {y : β}, Ba t l = some v -> UH t v l k = some y -> k l = some y
 | [], _, _, h, _ => by simp [Ba] at h
 | (q, u) :: l, k, y, h, hr => by
  simp only [Ba] at h
  simp only [UH] at hr
  split at h
  .rename_i hb
   rw [hb] at hr
   simp only [Option.some.injEq] at h
   subst h; exact hr
  rename_i hb
  rw [hb] at hr
  exact TR (k := fun r => k ((q, u) :: r)) h hr
def U3 (t : Nat) (v : LV) (l : List (Nat × LV)) : Option (List (Nat × LV)) := UH t v l some
theorem PA {t : Nat} {v : LV} {l l' : List (Nat × LV)} (h : Ba t l = some v) (hr : U3 t v l = some l') : l = l' := by
 have := TR h hr
 simpa using this
theorem L3 {nt t : Nat} {sl : List (Nat × LV)} {d : DV} (h : BI nt sl (.tmp t) = .p d) : Ba t sl = some (.p d) := by
 simp only [BI] at h
 split at h
 .split at h
  .subst h; assumption
  cases h
 cases h
def W1 (nt : Nat) (sl : List (Nat × LV)) : Option (Option Tmp × Bool) -> Bool
 | none => true
 | some (some d, want) => match BI nt sl (.tmp d) with
  | .p (.bool b) => KB b want
  | _ => false
 | some (none, _) => false
theorem Ru {nt : Nat} {sl : List (Nat × LV)} {d : Tmp} {want : Bool} (h : W1 nt sl (some (some d, want)) = true) : BI nt sl (.tmp d) = .p (.bool want) := by
 simp only [W1] at h
 split at h
 .rename_i b hb; rw [hb, KC h]
 cases h
end
section
variable {P : Program} {A : BF} {AB : Ax} {f : St -> Prop} {hf : Hq f} {nt : Nat} {sl : List (Nat × LV)} {h : AN} {c : Nat} {Ans : Type}
theorem gs (t : Nat) {ms : List Gy} {b : Bool} {p q : Option Ans} {a : Ans} {slT slF : List (Nat × LV)} (hh : cond b p q = some a) (hv : BI nt sl (.tmp t) = .p (.bool b))
  (hT : U3 t (.p (.bool true)) sl = some slT) (hF : U3 t (.p (.bool false)) sl = some slF)
  (hx : p = some a -> Dr P A AB ⟨f, hf⟩ ms ⟨nt, slT, h, c⟩) (hy : q = some a -> Dr P A AB ⟨f, hf⟩ ms ⟨nt, slF, h, c⟩) : Dr P A AB ⟨f, hf⟩ ms ⟨nt, sl, h, c⟩ := by
 cases b with
 | true => rw [PA (L3 hv) hT]; exact hx hh
 | false => rw [PA (L3 hv) hF]; exact hy hh
theorem PB (t : Nat) {base m : Nat} {ms : List (Nat × Gy)} {b : Bool} {p q : Option Ans} {a : Ans} {slT slF : List (Nat × LV)} (hh : cond b p q = some a) (hv : BI nt sl (.tmp t) = .p (.bool b))
  (hT : U3 t (.p (.bool true)) sl = some slT) (hF : U3 t (.p (.bool false)) sl = some slF)
  (hx : p = some a -> C4 P A AB base m ⟨f, hf⟩ ms ⟨nt, slT, h, c⟩) (hy : q = some a -> C4 P A AB base m ⟨f, hf⟩ ms ⟨nt, slF, h, c⟩) : C4 P A AB base m ⟨f, hf⟩ ms ⟨nt, sl, h, c⟩ := by
 cases b with
 | true => rw [PA (L3 hv) hT]; exact hx hh
 | false => rw [PA (L3 hv) hF]; exact hy hh
theorem sx {dst : Option Tmp} {op : Op} {g : Option (Option Tmp × Bool)} {rest : List Gy} (hg : W1 nt sl g = true) (k : BH P A AB ⟨nt, sl, h, c⟩ dst op ⟨Dr P A AB ⟨f, hf⟩ rest, ⟨⟩⟩) :
  Dr P A AB ⟨f, hf⟩ (⟨dst, op, g⟩ :: rest) ⟨nt, sl, h, c⟩ := by
 cases g with
 | none => exact k
 | some g =>
  obtain ⟨d, want⟩ := g
  cases d with
  | none => cases hg
  | some d =>
   have := Ru hg
   simp only [Dr, Fb, <- BO (h := h) (c := c), this, gM, gW]
   exact ⟨fun _ => k, fun e => by cases want <;> cases e⟩
theorem Ae {base m i : Nat} {dst : Option Tmp} {op : Op} {g : Option (Option Tmp × Bool)} {rest : List (Nat × Gy)} (hg : W1 nt sl g = true) (k : Hv P A AB ⟨nt, sl, h, base + i⟩ dst op ⟨C4 P A AB base m ⟨f, hf⟩ rest, ⟨⟩⟩) :
  C4 P A AB base m ⟨f, hf⟩ ((i, ⟨dst, op, g⟩) :: rest) ⟨nt, sl, h, c⟩ := by
 cases g with
 | none => exact k
 | some g =>
  obtain ⟨d, want⟩ := g
  cases d with
  | none => cases hg
  | some d =>
   have := Ru hg
   simp only [C4, Fb, <- BO (h := h) (c := c), this, gM, gW]
   exact ⟨fun _ => k, fun e => by cases want <;> cases e⟩
def XY : Op -> Bool
 | .binOp .. | .call _ | .range .. | .next .. | .entry .. | .load .. | .store .. => false
 | _ => true
theorem Am {st : St} {dst : Option Tmp} {op : Op} {K : A0 St} (hp : XY op = true) (k : BH P A AB st dst op K) : Hv P A AB st dst op K := by
 cases op <;> first | exact k | cases hp
theorem Bp {nt : Nat} {sl : List (Nat × LV)} {h : AN} {c : Nat} {dst : Option Tmp} {t : TypeId} {x : Operand} {K : A0 St} (hc : LA AB.calm (BI nt sl x) = true) (k : BH P A AB ⟨nt, sl, h, c⟩ dst (.load t x) K) : Hv P A AB ⟨nt, sl, h, c⟩ dst (.load t x) K := ⟨by rw [<- BO (h := h) (c := c)]; exact hc, k⟩
theorem YD {nt : Nat} {sl : List (Nat × LV)} {h : AN} {c : Nat} {dst : Option Tmp} {t : TypeId} {x v : Operand} {K : A0 St} (hc : J2 AB.calm (BI nt sl x) = true) (k : BH P A AB ⟨nt, sl, h, c⟩ dst (.store t x v) K) : Hv P A AB ⟨nt, sl, h, c⟩ dst (.store t x v) K := ⟨by rw [<- BO (h := h) (c := c)]; exact hc, k⟩
theorem Bn {st : St} {dst : Option Tmp} {args : Array Operand} {ts : Array TypeId} {K : A0 St} (k : BH P A AB st dst (.call ⟨.builtin .append, args, ts⟩) K) : Hv P A AB st dst (.call ⟨.builtin .append, args, ts⟩) K := k
def PC (AB : Ax) (t : Nat) : Bool := match AB.tt t with
 | some ti => match ti.sh with
  | .slc _ => true
  | _ => false
 | none => false
def UI (AB : Ax) (t : Nat) : Bool := match AB.tt t with
 | some ti => match ti.sh with
  | .str => true
  | _ => false
 | none => false
theorem WD {t : Nat} (h : UI AB t = true) : ∃ ti, AB.tt t = some ti /\ ti.sh = .str := by
 unfold UI at h
 split at h
 .rename_i ti hti
  split at h
  .rename_i he; exact ⟨ti, hti, he⟩
  cases h
 cases h
theorem OT {t : Nat} (h : PC AB t = true) : ∃ ti e, AB.tt t = some ti /\ ti.sh = .slc e := by
 unfold PC at h
 split at h
 .rename_i ti hti
  split at h
  .rename_i e he; exact ⟨ti, e, hti, he⟩
  cases h
 cases h
def RE (AB : Ax) (t sz : Nat) : Bool := match AB.tt t with
 | some ti => match ti.sh with
  | .slc e => match AB.tt e with
   | some te => Nat.beq te.size sz
   | none => false
  | _ => false
 | none => false
theorem Rv {t sz : Nat} (h : RE AB t sz = true) : ∃ ti e te, AB.tt t = some ti /\ ti.sh = .slc e /\ AB.tt e = some te /\ te.size = sz := by
 unfold RE at h
 split at h
 .rename_i ti hti
  split at h
  .rename_i e he
   split at h
   .rename_i te hte; exact ⟨ti, e, te, hti, he, hte, Nat.eq_of_beq_eq_true h⟩
   cases h
  cases h
 cases h
variable {α : Type} {enc : α -> List DV} {l : List α} {d : Tmp} {t sz : Nat} {x : Operand}
theorem Aw (ht : PC AB t = true) (hx : BI nt sl x = .p (.slice sz (l.map enc))) (k : f ⟨nt, (d, .p (.int .i64 l.length)) :: sl, h, c⟩) : BH P A AB ⟨nt, sl, h, c⟩ (some d) (.call ⟨.builtin .len, #[x], #[t]⟩) ⟨f, hf⟩ := by
 obtain ⟨ti, e, h1, h2⟩ := OT ht
 refine AS.2 ⟨ti, h1, ?_⟩
 rw [BO (h := h) (c := c)] at hx
 dsimp only
 rw [h2, hx]
 intro _
 simp only [List.length_map]
 exact k
theorem PD (ht : PC AB t = true) (hx : BI nt sl x = .p (.slice sz (l.map enc))) (k : f ⟨nt, (d, .p (.int .i64 l.length)) :: sl, h, c⟩) : Hv P A AB ⟨nt, sl, h, c⟩ (some d) (.call ⟨.builtin .len, #[x], #[t]⟩) ⟨f, hf⟩ := by
 obtain ⟨ti, e, h1, h2⟩ := OT ht
 refine AS.2 ⟨ti, h1, ?_⟩
 rw [BO (h := h) (c := c)] at hx
 dsimp only
 rw [h2, hx]
 simp only [UC, List.length_map]
 exact k
theorem A3 {i : Operand} {kk : IntKind} {n : Int} {y : α} (hy : Aj l n = some y) (ht : RE AB t sz = true) (hx : BI nt sl x = .p (.slice sz (l.map enc))) (hi : BI nt sl i = .p (.int kk n))
  (k : f ⟨nt, (d, .p (.place (enc y) 0)) :: sl, h, c⟩) : BH P A AB ⟨nt, sl, h, c⟩ (some d) (.indexAddr t x i) ⟨f, hf⟩ := by
 obtain ⟨ti, e, te, h1, h2, h3, h4⟩ := Rv ht
 obtain ⟨g1, g2, g3⟩ := IY hy
 rw [BO (h := h) (c := c)] at hx hi
 refine Ca.2 ⟨kk, n, hi, AS.2 ⟨ti, h1, ?_⟩⟩
 dsimp only
 rw [h2, hx]
 exact AS.2 ⟨te, h3, h4, g1, AR.2 ⟨enc y, by rw [List.getElem?_map, g3]; rfl, k⟩⟩
theorem YE {s : ByteArray} {i : Operand} {kk : IntKind} {n : Int} {y : UInt8} (hy : L2 s n = some y) (ht : UI AB t = true) (hx : BI nt sl x = .p (.str s)) (hi : BI nt sl i = .p (.int kk n))
  (k : f ⟨nt, (d, .p (.int .u8 y.toNat)) :: sl, h, c⟩) : BH P A AB ⟨nt, sl, h, c⟩ (some d) (.index t x i) ⟨f, hf⟩ := by
 obtain ⟨ti, hti, hsh⟩ := WD ht
 rw [BO (h := h) (c := c)] at hx hi
 cases n with
 | negSucc n => cases hy
 | ofNat n =>
  refine Ca.2 ⟨kk, _, hi, AS.2 ⟨ti, hti, Int.natCast_nonneg n, ?_⟩⟩
  dsimp only
  rw [hsh, hx]
  exact AR.2 ⟨y, hy, k⟩
end
end Go.E
/- Rules for single operations: calls, what is appended, made, looked up, set against another. No condition. -/
namespace Go.E
open Go Go.RowKit
inductive KZ : List DV -> List DV -> Prop where
 | nil : KZ [] []
 | cons {a b : DV} {l m : List DV} (h : Le a b) (t : KZ l m) : KZ (a :: l) (b :: m)
theorem Le.rfl {d : DV} : Le d d := fun _ _ _ h => h
theorem KZ.rfl : ∀ {l : List DV}, KZ l l
 | [] => .nil
 | _ :: _ => .cons Le.rfl KZ.rfl
theorem KZ.len {l m : List DV} (h : KZ l m) : l.length = m.length := by induction h with
 | nil => exact Eq.refl _
 | cons _ _ ih => simp [ih]
theorem KZ.get {l m : List DV} (h : KZ l m) : ∀ (i : Nat) (a b : DV), l[i]? = some a -> m[i]? = some b -> Le a b := by
 induction h with
 | nil => intro i a b h1; simp at h1
 | cons h _ ih =>
  intro i x y h1 h2
  cases i with
  | zero => simp at h1 h2; subst h1 h2; exact h
  | succ i => exact ih i x y (by simpa using h1) (by simpa using h2)
theorem Le.tup' {l m : List DV} (h : KZ l m) : Le (.tup l) (.tup m) := Le.tup h.len h.get
theorem Le.agg' {l m : List DV} (h : KZ l m) : Le (.agg l) (.agg m) := Le.agg h.len h.get
theorem Le.nilm : Le .nilm (.map []) := fun _ _ _ hv => by cases hv; exact .mnil
theorem Le.own {α : Type} {enc : α -> List DV} {l : List α} {sz : Nat} : Le (.slice sz (((l.map enc).drop 0).take l.length)) (.slice sz (l.map enc)) := Le.of_eq (by rw [List.drop_zero, List.take_of_length_le (by simp)])
theorem Bk.le {P : Program} {k : Nat} {ds ds' : List DV} {Q : DV -> Prop} (h : Bk P k ds Q) (hl : KZ ds' ds) : Bk P k ds' Q :=
 ⟨h.enters, fun O w vs h1 h2 h3 => h.run O w vs h1 (by rw [h2, hl.len]) fun i v d hv hd => by
  have hi := (List.getElem?_eq_some_iff.1 hd).1
  have hlen := hl.len
  have hx : ds'[i]? = some (ds'[i]'(by omega)) := List.getElem?_eq_getElem _
  exact hl.get i _ d hx hd _ _ _ (h3 i v _ hv hx)⟩
theorem E9.le {P : Program} {k : Nat} {ds ds' : List DV} {e sz : Nat} {el : List (List DV)} (h : E9 P k ds e sz el) (hl : KZ ds' ds) : E9 P k ds' e sz el :=
 ⟨h.enters, fun O w vs h1 h2 h3 => h.run O w vs h1 (by rw [h2, hl.len]) fun i v d hv hd => by
  have hi := (List.getElem?_eq_some_iff.1 hd).1
  have hlen := hl.len
  have hx : ds'[i]? = some (ds'[i]'(by omega)) := List.getElem?_eq_getElem _
  exact hl.get i _ d hx hd _ _ _ (h3 i v _ hv hx)⟩
section
variable {κ υ : Type} [BEq κ]
def AV (m : List (κ × υ)) (x : κ) : Option υ := match m with
 | [] => none
 | p :: m => if x == p.1 then some p.2 else AV m x
def Au (x : κ) (v : υ) : List (κ × υ) -> List (κ × υ)
 | [] => [(x, v)]
 | p :: m => if x == p.1 then (p.1, v) :: m else p :: Au x v m
structure Jb (AB : Ax) (kt : Nat) (ke : κ -> DV) : Prop where
 eq : ∀ a b, DW (ke a) (ke b) = (a == b)
 fits : ∀ a, Bg AB kt (ke a) = true
theorem Jb.to {AB env' : Ax} {kt : Nat} {ke : κ -> DV} (h : Jb AB kt ke) (hf : ∀ a, Bg env' kt (ke a) = Bg AB kt (ke a)) : Jb env' kt ke := ⟨h.eq, fun a => (hf a).trans (h.fits a)⟩
def AP (ke : κ -> DV) (ve : υ -> DV) (m : List (κ × υ)) : List (DV × DV) := m.map fun p => (ke p.1, ve p.2)
variable {AB : Ax} {kt : Nat} {ke : κ -> DV} {ve : υ -> DV}
theorem M7 (hk : Jb AB kt ke) (x : κ) : ∀ m : List (κ × υ), Gs (ke x) (AP ke ve m) = (AV m x).map ve
 | [] => by simp [AP, Gs, C3, AV]
 | p :: m => by
  have ih := M7 hk x m
  simp only [AP, Gs] at ih
  simp only [AP, List.map_cons, Gs, C3, hk.eq, AV]
  by_cases h : (x == p.1) = true
  .simp [h]
  simp only [h]
  simp only [Bool.false_eq_true, if_false, Option.map_map]
  rw [<- ih]
  cases C3 (ke x) (m.map fun p => (ke p.1, ve p.2)) <;> simp
theorem QV (hk : Jb AB kt ke) (x : κ) (v : υ) : ∀ m : List (κ × υ), Kw (ke x) (ve v) (AP ke ve m) = AP ke ve (Au x v m)
 | [] => by simp [AP, Kw, Au]
 | p :: m => by
  have ih := QV hk x v m
  simp only [AP] at ih
  simp only [AP, List.map_cons, Kw, hk.eq, Au]
  by_cases h : (x == p.1) = true
  .simp [h]
  simp only [h]
  simp only [Bool.false_eq_true, if_false, List.map_cons, ih]
theorem Ka (hk : Jb AB kt ke) (m : List (κ × υ)) : ((AP ke ve m).all fun p => Bg AB kt p.1) = true := by
 simp only [AP, List.all_map, List.all_eq_true, Function.comp]
 intro p _; exact hk.fits _
end
section
variable {β : Type}
def OU (t : Nat) : AN -> (AN -> Option β) -> Option β
 | [], k => k []
 | (q, u) :: l, k => match Nat.beq t q with
  | true => OU t l k
  | false => OU t l (fun r => k ((q, u) :: r))
theorem LJ {t : Nat} : ∀ {l : AN} {k : AN -> Option β}, OU t l k = k (Dy t l)
 | [], k => rfl
 | (q, u) :: l, k => by
  simp only [OU, Dy]
  by_cases h : t = q
  .subst h; simp only [Nat.beq_refl, if_true]; exact LJ
  have : Nat.beq t q = false := by
   cases hb : Nat.beq t q with
   | false => rfl
   | true => exact absurd (Nat.eq_of_beq_eq_true hb) h
  rw [this, if_neg h]
  exact LJ
end
section
variable {P : Program} {A : BF} {AB : Ax} {f : St -> Prop} {hf : Hq f} {nt : Nat} {sl : List (Nat × LV)} {h : AN} {c : Nat} {d : Tmp}
theorem En {args : List Operand} {ls : List LV} (hl : DY nt sl args some = some ls) : args.map (St.eval ⟨nt, sl, h, c⟩) = ls := by
 rw [JI, Option.some.injEq] at hl
 rw [<- hl]
 exact List.map_congr_left fun x _ => (BO (h := h) (c := c)).symm
theorem Ah {fo : Operand} {args : Array Operand} {ts : Array TypeId} {k : Nat} {caps ls : List LV} {ds : List DV} {r : DV} (hF : Bk P k ds (· = r)) (hs : r.scalar = true \/ (ls ++ caps).flatMap (Dc h) = [])
  (hfn : BI nt sl fo = .fn k caps) (hl : DY nt sl args.toList some = some ls) (hds : Bt h (ls ++ caps) = some ds) (kk : f ⟨nt, (d, .p r) :: sl, h, c⟩) : BH P A AB ⟨nt, sl, h, c⟩ (some d) (.call ⟨.value fo, args, ts⟩) ⟨f, hf⟩ := by
 rw [BO (h := h) (c := c)] at hfn
 show LH _ _
 rw [hfn]
 show Ht P A h c k (args.toList.map _ ++ caps) _
 rw [En hl]
 exact Y8 hds hF hs kk
theorem XZ {fo : Operand} {args : Array Operand} {ts : Array TypeId} {k : Nat} {caps ls : List LV} {ds : List DV} {r : DV} {h' : AN} (hF : Bk P k ds (· = r)) (hs : r.scalar = false)
  (hfn : BI nt sl fo = .fn k caps) (hl : DY nt sl args.toList some = some ls) (hds : Bt h (ls ++ caps) = some ds) (hd : B6 ((ls ++ caps).flatMap (Dc h)) h = h') (kk : f ⟨nt, (d, .p r) :: sl, h', c⟩) : BH P A AB ⟨nt, sl, h, c⟩ (some d) (.call ⟨.value fo, args, ts⟩) ⟨f, hf⟩ := by
 rw [BO (h := h) (c := c)] at hfn
 show LH _ _
 rw [hfn]
 show Ht P A h c k (args.toList.map _ ++ caps) _
 rw [En hl]
 exact Y9 hds hF hs hd kk
theorem BC {fo : Operand} {args : Array Operand} {ts : Array TypeId} {k : Nat} {caps ls : List LV} {ds : List DV} {r : DV} (hF : Bk P k ds (· = r)) (hs : r.scalar = true \/ (ls ++ caps).flatMap (Dc h) = [])
  (hfn : (Cs fo, BI nt sl fo) = (false, .fn k caps)) (hl : DY nt sl args.toList some = some ls) (hds : Bt h (ls ++ caps) = some ds) (kk : f ⟨nt, (d, .p r) :: sl, h, c⟩) : Hv P A AB ⟨nt, sl, h, c⟩ (some d) (.call ⟨.value fo, args, ts⟩) ⟨f, hf⟩ := by
 obtain ⟨hnd, hfn⟩ := Prod.mk.inj hfn
 rw [BO (h := h) (c := c)] at hfn
 show (if Cs fo = true then _ else LH _ _)
 rw [if_neg (by rw [hnd]; decide)]
 rw [hfn]
 refine .inl ?_
 show V7 P h k (args.toList.map _ ++ caps) _
 rw [En hl]
 exact Zh hds hF hs kk
def P3 (AB : Ax) (t e sz : Nat) : Bool := match AB.tt t with
 | some ti => match ti.sh with
  | .slc e' => match AB.tt e with
   | some te => Nat.beq e' e && (Nat.beq te.size sz && (Nat.blt 0 sz && Nat.ble te.bytes 32768))
   | none => false
  | _ => false
 | none => false
theorem Nq {t e sz : Nat} (h : P3 AB t e sz = true) : ∃ ti te, AB.tt t = some ti /\ ti.sh = .slc e /\ AB.tt e = some te /\ te.size = sz /\ 0 < sz /\ te.bytes <= 32768 := by
 unfold P3 at h
 split at h
 .rename_i ti hti
  split at h
  .rename_i e' he
   split at h
   .rename_i te hte
    simp only [Bool.and_eq_true] at h
    obtain ⟨h1, h2, h3, h4⟩ := h
    have := Nat.eq_of_beq_eq_true h1
    subst this
    exact ⟨ti, te, hti, he, hte, Nat.eq_of_beq_eq_true h2, Nat.le_of_ble_eq_true h3, Nat.le_of_ble_eq_true h4⟩
   cases h
  cases h
 cases h
variable {α : Type} {enc : α -> List DV} {l m r : List α} {t e sz : Nat} {s x : Operand}
def RG (enc : α -> List DV) (sz : Nat) : Prop := ∀ a, (enc a).length = sz /\ (enc a).all DV.cell = true
theorem QW (hr : BP l m = some r) : r = l ++ m /\ l.length + m.length <= 4294967296 := by
 simp only [BP] at hr
 split at hr
 .simp only [Option.some.injEq] at hr; exact ⟨hr.symm, ‹_›⟩
 cases hr
theorem QX {n b : Nat} (hb : b <= 32768) (hn : n <= 4294967296) : n * b <= 140737488355328 :=
 Nat.le_trans (Nat.mul_le_mul hn hb) (by decide)
theorem TS {n : Nat} (hn : n <= 4294967296) : n <= maxLen := by unfold maxLen; omega
theorem U4 (hr : BP [] m = some r) (hen : RG enc sz) (hs : BI nt sl s = .p .nils) (hx : Jk h (BI nt sl x) = some (m.map enc)) (ht : P3 AB t e sz = true)
  (k : f ⟨nt, (d, .lsl c sz 0 r.length) :: sl, (c, .row e sz (r.map enc)) :: h, c + 1⟩) : BH P A AB ⟨nt, sl, h, c⟩ (some d) (.call ⟨.builtin .append, #[s, x], #[t, t]⟩) ⟨f, hf⟩ := by
 obtain ⟨ti, te, h1, h2, h3, h4, h5, h6⟩ := Nq ht
 obtain ⟨rfl, hn⟩ := QW hr
 simp only [List.length_nil, Nat.zero_add] at hn
 rw [BO (h := h) (c := c)] at hs hx
 subst h4
 refine ⟨rfl, AS.2 ⟨ti, h1, Cb.2 ⟨e, h2, AS.2 ⟨te, h3, h5, AR.2 ⟨_, hx, ?_, ?_⟩⟩⟩⟩⟩
 .intro y hy
  obtain ⟨a, _, rfl⟩ := List.mem_map.1 hy
  exact hen a
 rw [hs]
 simp only [Ri, List.length_map]
 exact ⟨⟨QX h6 hn, TS hn⟩, k⟩
theorem A7 {id n : Nat} {h' : AN} (hr : BP l m = some r) (hen : RG enc sz) (hs : BI nt sl s = .lsl id sz 0 n) (hl : Ba id h = some (.row e sz (l.map enc))) (hn : n = l.length) (hd : OU id h some = some h')
  (hx : Jk h (BI nt sl x) = some (m.map enc)) (ht : P3 AB t e sz = true)
  (k : f ⟨nt, (d, .lsl c sz 0 r.length) :: sl, (c, .row e sz (r.map enc)) :: h', c + 1⟩) : BH P A AB ⟨nt, sl, h, c⟩ (some d) (.call ⟨.builtin .append, #[s, x], #[t, t]⟩) ⟨f, hf⟩ := by
 obtain ⟨ti, te, h1, h2, h3, h4, h5, h6⟩ := Nq ht
 obtain ⟨rfl, hb⟩ := QW hr
 rw [BO (h := h) (c := c)] at hs hx
 rw [LJ, Option.some.injEq] at hd
 rw [Be] at hl
 subst h4 hn hd
 refine ⟨rfl, AS.2 ⟨ti, h1, Cb.2 ⟨e, h2, AS.2 ⟨te, h3, h5, AR.2 ⟨_, hx, ?_, ?_⟩⟩⟩⟩⟩
 .intro y hy
  obtain ⟨a, _, rfl⟩ := List.mem_map.1 hy
  exact hen a
 rw [hs]
 simp only [Ri]
 refine ⟨trivial, AR.2 ⟨_, hl, ?_⟩⟩
 dsimp only
 refine FC.2 ⟨e, te.size, l.map enc, rfl, ?_⟩
 refine ⟨⟨rfl, rfl, by simp, by rw [List.length_map]; exact QX h6 hb, by rw [List.length_map]; exact TS hb⟩, ?_⟩
 have e1 : ((l.map enc).drop 0).take l.length ++ m.map enc = (l ++ m).map enc := by rw [List.drop_zero, List.take_of_length_le (by simp), List.map_append]
 rw [List.length_append] at k
 simp only [e1, List.length_map]
 exact k
theorem Cc {i : Operand} {kk : IntKind} {n : Int} {id len : Nat} {y : α} (hy : Aj l n = some y) (ht : RE AB t sz = true) (hx : BI nt sl x = .lsl id sz 0 len) (hi : BI nt sl i = .p (.int kk n)) (hn : len = l.length)
  (k : f ⟨nt, (d, .lpe id n.toNat 0) :: sl, h, c⟩) : BH P A AB ⟨nt, sl, h, c⟩ (some d) (.indexAddr t x i) ⟨f, hf⟩ := by
 obtain ⟨ti, e, te, h1, h2, h3, h4⟩ := Rv ht
 obtain ⟨g1, g2, g3⟩ := IY hy
 rw [BO (h := h) (c := c)] at hx hi
 refine Ca.2 ⟨kk, n, hi, AS.2 ⟨ti, h1, ?_⟩⟩
 dsimp only
 rw [h2, hx]
 refine AS.2 ⟨te, h3, h4, ⟨g1, by omega⟩, ?_⟩
 simp only [Nat.zero_add]
 exact k
theorem Bx {n : Int} {id o : Nat} {y : α} {v : LV} (hy : Aj l n = some y) (hx : BI nt sl x = .lpe id n.toNat o) (hl : Ba id h = some (.row e sz (l.map enc)))
  (hv : (match AB.tt t with | some ti => O6 ti o (enc y) some | none => none) = some v) (k : f ⟨nt, (d, v) :: sl, h, c⟩) : BH P A AB ⟨nt, sl, h, c⟩ (some d) (.load t x) ⟨f, hf⟩ := by
 obtain ⟨g1, g2, g3⟩ := IY hy
 rw [BO (h := h) (c := c)] at hx
 rw [Be] at hl
 split at hv
 .rename_i ti hti
  rw [OO] at hv
  obtain ⟨u, h1, h2⟩ := Option.bind_eq_some_iff.1 hv
  simp only [Option.some.injEq] at h2
  subst h2
  refine AS.2 ⟨ti, hti, ?_⟩
  rw [hx]
  refine AR.2 ⟨_, hl, ?_⟩
  dsimp only
  refine FC.2 ⟨e, sz, l.map enc, rfl, ?_⟩
  exact AR.2 ⟨enc y, by rw [List.getElem?_map, g3]; rfl, AR.2 ⟨u, h1, k⟩⟩
 cases hv
theorem ZB {n : Int} {id o : Nat} {y z : α} {v : Operand} {ls : List LV} {ds : List DV} {h' : AN} (hy : Aj l n = some y) (hx : BI nt sl x = .lpe id n.toNat o) (hl : Ba id h = some (.row e sz (l.map enc)))
  (hc : KA (BI nt sl v) some = some ls) (hds : GD ls = some ds) (hsz : (match AB.tt t with | some ti => Nat.beq ls.length ti.size && M0 ls | none => false) = true) (hz : Ch (enc y) o ds = enc z) (hlen : Nat.ble (o + ls.length) (enc y).length = true)
  (hu : JZ id (.row e sz ((KD l n z).map enc)) h some = some h') (k : f ⟨nt, sl, h', c⟩) : BH P A AB ⟨nt, sl, h, c⟩ none (.store t x v) ⟨f, hf⟩ := by
 obtain ⟨g1, g2, g3⟩ := IY hy
 rw [BO (h := h) (c := c)] at hx hc
 rw [Be] at hl
 rw [Gg, Option.some.injEq] at hu
 subst hu
 split at hsz
 .rename_i ti hti
  simp only [Bool.and_eq_true] at hsz
  rw [JH, Option.bind_eq_some_iff] at hc
  obtain ⟨ls', h1, h2⟩ := hc
  simp only [Option.some.injEq] at h2
  subst h2
  refine AS.2 ⟨ti, hti, AR.2 ⟨ls', h1, ⟨Nat.eq_of_beq_eq_true hsz.1, by rw [<- M1]; exact hsz.2⟩, ?_⟩⟩
  rw [hx]
  refine AR.2 ⟨_, hl, ?_⟩
  dsimp only
  refine FC.2 ⟨e, sz, l.map enc, rfl, ?_⟩
  refine AR.2 ⟨enc y, by rw [List.getElem?_map, g3]; rfl, AR.2 ⟨ds, hds, Nat.le_of_ble_eq_true hlen, ?_⟩⟩
  dsimp only
  rw [hz]
  simp only [KD, List.map_set] at k
  exact k
 cases hsz
def TT (AB : Ax) (t kt et : Nat) : Bool := match AB.tt t with
 | some ti => match ti.sh with
  | .mp k e => Nat.beq k kt && Nat.beq e et
  | _ => false
 | none => false
theorem PE {kt et : Nat} (h : TT AB t kt et = true) : ∃ ti, AB.tt t = some ti /\ ti.sh = .mp kt et := by
 unfold TT at h
 split at h
 .rename_i ti hti
  split at h
  .rename_i k e he
   simp only [Bool.and_eq_true] at h
   have h1 := Nat.eq_of_beq_eq_true h.1; have h2 := Nat.eq_of_beq_eq_true h.2
   subst h1 h2
   exact ⟨ti, hti, he⟩
  cases h
 cases h
variable {κ υ : Type} [BEq κ] {ke : κ -> DV} {ve : υ -> DV} {mp : List (κ × υ)} {kt et : Nat} {i : Operand}
theorem Rw {o : Option υ} {z : υ} : (o.map ve).getD (ve z) = ve (o.getD z) := by cases o <;> rfl
theorem ZC {y : κ} (z : υ) (hk : Jb AB kt ke) (hm : Jl h (BI nt sl x) = some (AP ke ve mp)) (hi : BI nt sl i = .p (ke y)) (ht : TT AB t kt et = true) (hz : (AB.tt et).map (zV AB) = some (ve z))
  (k : f ⟨nt, (d, .tup [.p (ve ((AV mp y).getD z)), .p (.bool (AV mp y).isSome)]) :: sl, h, c⟩) : BH P A AB ⟨nt, sl, h, c⟩ (some d) (.lookup t x i true) ⟨f, hf⟩ := by
 obtain ⟨ti, h1, h2⟩ := PE ht
 rw [BO (h := h) (c := c)] at hm hi
 obtain ⟨te, h3, h4⟩ := Option.map_eq_some_iff.1 hz
 refine AS.2 ⟨ti, h1, Dv.2 ⟨kt, et, h2, AS.2 ⟨te, h3, AR.2 ⟨_, hm, C8.2 ⟨_, hi, ⟨hk.fits y, Ka hk mp⟩, ?_⟩⟩⟩⟩⟩
 simp only [if_true, M7 hk, h4, Rw, Option.isSome_map]
 exact k
theorem Iv {y : κ} (z : υ) (hk : Jb AB kt ke) (hm : Jl h (BI nt sl x) = some (AP ke ve mp)) (hi : BI nt sl i = .p (ke y)) (ht : TT AB t kt et = true) (hz : (AB.tt et).map (zV AB) = some (ve z))
  (k : f ⟨nt, (d, .p (ve ((AV mp y).getD z))) :: sl, h, c⟩) : BH P A AB ⟨nt, sl, h, c⟩ (some d) (.lookup t x i false) ⟨f, hf⟩ := by
 obtain ⟨ti, h1, h2⟩ := PE ht
 rw [BO (h := h) (c := c)] at hm hi
 obtain ⟨te, h3, h4⟩ := Option.map_eq_some_iff.1 hz
 refine AS.2 ⟨ti, h1, Dv.2 ⟨kt, et, h2, AS.2 ⟨te, h3, AR.2 ⟨_, hm, C8.2 ⟨_, hi, ⟨hk.fits y, Ka hk mp⟩, ?_⟩⟩⟩⟩⟩
 simp only [Bool.false_eq_true, if_false, M7 hk, h4, Rw]
 exact k
theorem Kb {y : κ} {z : υ} {id : Nat} {v : Operand} {h' : AN} (hk : Jb AB kt ke) (hx : BI nt sl x = .lmap id) (hm : Ba id h = some (.map (AP ke ve mp))) (hi : BI nt sl i = .p (ke y)) (hv : BI nt sl v = .p (ve z)) (ht : TT AB t kt et = true)
  (hu : JZ id (.map (AP ke ve (Au y z mp))) h some = some h') (k : f ⟨nt, sl, h', c⟩) : BH P A AB ⟨nt, sl, h, c⟩ none (.mapUpdate t x i v) ⟨f, hf⟩ := by
 obtain ⟨ti, h1, h2⟩ := PE ht
 rw [BO (h := h) (c := c)] at hx hi hv
 rw [Be] at hm
 rw [Gg, Option.some.injEq] at hu
 subst hu
 refine AS.2 ⟨ti, h1, Dv.2 ⟨kt, et, h2, EH.2 ⟨id, hx, AR.2 ⟨_, hm, ?_⟩⟩⟩⟩
 dsimp only
 refine FB.2 ⟨AP ke ve mp, rfl, ?_⟩
 refine C8.2 ⟨_, hi, C8.2 ⟨_, hv, ⟨hk.fits y, Ka hk mp⟩, ?_⟩⟩
 rw [QV hk]
 exact k
def Dz (y : κ) : List (κ × υ) -> List (κ × υ)
 | [] => []
 | p :: m => if y == p.1 then m else p :: Dz y m
theorem QY (hk : Jb AB kt ke) (x : κ) : ∀ m : List (κ × υ), Ls (ke x) (AP ke ve m) = AP ke ve (Dz x m)
 | [] => by simp [AP, Ls, Dz]
 | p :: m => by
  have ih := QY hk x m
  simp only [AP] at ih
  simp only [AP, List.map_cons, Ls, hk.eq, Dz]
  split
  .rfl
  simp only [List.map_cons, ih]
theorem Kc {y : κ} {id t : Nat} {r : List TypeId} {c0 : Call} {h' : AN} (hk : Jb AB kt ke) (hc : c0.callee = .builtin .delete) (ha : c0.args.toList = [x, i]) (hat : c0.argTypes.toList = t :: r) (hx : BI nt sl x = .lmap id) (hm : Ba id h = some (.map (AP ke ve mp))) (hi : BI nt sl i = .p (ke y)) (ht : TT AB t kt et = true)
  (hu : JZ id (.map (AP ke ve (Dz y mp))) h some = some h') (k : f ⟨nt, sl, h', c⟩) : BH P A AB ⟨nt, sl, h, c⟩ none (.call c0) ⟨f, hf⟩ := by
 obtain ⟨ti, h1, h2⟩ := PE ht
 rw [BO (h := h) (c := c)] at hx hi
 rw [Be] at hm
 rw [Gg, Option.some.injEq] at hu
 subst hu
 show Lr P A AB ⟨nt, sl, h, c⟩ none c0 ⟨f, hf⟩
 unfold Lr
 rw [hc, ha, hat]
 refine AS.2 ⟨ti, h1, Dv.2 ⟨kt, et, h2, EH.2 ⟨id, hx, AR.2 ⟨_, hm, ?_⟩⟩⟩⟩
 dsimp only
 refine FB.2 ⟨AP ke ve mp, rfl, ?_⟩
 refine C8.2 ⟨_, hi, ⟨hk.fits y, Ka hk mp⟩, ?_⟩
 rw [QY hk]
 exact k
theorem LK {ks : List Sh} {xs ys : List DV} {b : Bool} {y : Operand} {t' : Nat} (hb : Ci xs ys = b) (hx : BI nt sl x = .p (.agg xs)) (hy : BI nt sl y = .p (.agg ys)) (hk : AB.eqk t = some ks) (f1 : fits ks xs = true) (f2 : fits ks ys = true)
  (k : f ⟨nt, (d, .p (.bool b)) :: sl, h, c⟩) : Hv P A AB ⟨nt, sl, h, c⟩ (some d) (.binOp .eql t x y t') ⟨f, hf⟩ := by
 rw [BO (h := h) (c := c)] at hx hy
 show Rl AB .eql t _ _ _
 rw [hx, hy]
 exact AR.2 ⟨ks, hk, f1, f2, by rw [hb]; exact k⟩
end
end Go.E
/- Rules for a function's beginning and end, and for states that are made weaker, by unfolding alone. No condition. -/
namespace Go.E
open Go Go.RowKit
abbrev li (n : Int) : LV := .p (.int .i64 n)
abbrev lb (b : Bool) : LV := .p (.bool b)
abbrev lq (l : List DV) : LV := .p (.place l 0)
abbrev ls {α : Type} (sz : Nat) (enc : α -> List DV) (l : List α) : LV := .p (.slice sz (l.map enc))
section
variable {P : Program} {A : BF} {AB : Ax}
theorem fn (hE : Ay P AB) {k : Nat} {fn : Func} {c : Code} {ds : List DV} {d : DV} (hf : P.funcs[k]? = some fn) (hb : fn.body = some c) (hn : (fn.name == "runtime.NumGoroutine") = false) (nt : Nat) (hnt : Nat.beq fn.ntmps nt = true)
  (rs : List ResultVar) (hrs : fn.results.toList = rs) (sl : List (Nat × LV)) (hsl : DA 0 ds = sl) (hlen : Nat.ble ds.length nt = true)
  (h : ∀ A : BF, (∀ id, A.μ0 id = none) -> B2 P A c (Lk fun st => ∃ r, E8 AB.tt rs st = some r /\ Le r d) ⟨nt, sl, [], 0⟩) : Bk P k ds (· = d) := by
 subst hsl
 exact YA hE hf hb hn nt (Nat.eq_of_beq_eq_true hnt) rs hrs (Nat.le_of_ble_eq_true hlen) h
theorem er {rs : List ResultVar} {st : St} {r d : DV} (h : E8 AB.tt rs st = some r) (hle : Le r d) : Lk (fun st => ∃ r, E8 AB.tt rs st = some r /\ Le r d) .ret st := ⟨r, h, hle⟩
theorem en {rs : List ResultVar} {st : St} {r d : DV} (h : E8 AB.tt rs st = some r) (hle : Le r d) : Lk (fun st => ∃ r, E8 AB.tt rs st = some r /\ Le r d) .normal st := ⟨r, h, hle⟩
inductive Kd (h : AN) : LV -> DV -> Prop where
 | p (d : DV) : Kd h (.p d) d
 | own {α : Type} {enc : α -> List DV} (l : List α) {id e sz n : Nat} (hl : Ba id h = some (.row e sz (l.map enc))) (hn : n = l.length) : Kd h (.lsl id sz 0 n) (.slice sz (l.map enc))
 | map {id : Nat} {m : List (DV × DV)} (hl : Ba id h = some (.map m)) : Kd h (.lmap id) (.map m)
 | sub {α : Type} {enc : α -> List DV} (l r : List α) {id e sz off n : Nat} (hl : Ba id h = some (.row e sz (l.map enc))) (hr : off + n <= l.length /\ (l.drop off).take n = r) : Kd h (.lsl id sz off n) (.slice sz (r.map enc))
inductive PF (h : AN) : List LV -> List DV -> Prop where
 | nil : PF h [] []
 | cons {v : LV} {d : DV} {vs : List LV} {ds : List DV} (k : Kd h v d) (r : PF h vs ds) : PF h (v :: vs) (d :: ds)
inductive QZ (h : AN) : List LV -> List DV -> Prop where
 | nil : QZ h [] []
 | box {us : List LV} {es : List DV} {id off : Nat} {vs : List LV} {ds : List DV} (hl : Ba id h = some (.box us)) (k : PF h us es) (r : QZ h vs ds) : QZ h (.lpb id off :: vs) (.place es off :: ds)
 | cons {v : LV} {d : DV} {vs : List LV} {ds : List DV} (k : Kd h v d) (r : QZ h vs ds) : QZ h (v :: vs) (d :: ds)
inductive Ld (h : AN) : LV -> DV -> Prop where
 | one {v : LV} {d : DV} (k : Kd h v d) : Ld h v d
 | agg {vs : List LV} {ds : List DV} (k : PF h vs ds) : Ld h (.agg vs) (.agg ds)
 | tup {vs : List LV} {ds : List DV} (k : PF h vs ds) : Ld h (.tup vs) (.tup ds)
 | box {vs : List LV} {ds : List DV} {id off : Nat} (hl : Ba id h = some (.box vs)) (k : PF h vs ds) : Ld h (.lpb id off) (.place ds off)
 | fn {f : Nat} {vs : List LV} {ds : List DV} (k : QZ h vs ds) : Ld h (.fn f vs) (.fn f ds)
inductive CJ (h : AN) : List LV -> List DV -> Prop where
 | nil : CJ h [] []
 | cons {v : LV} {d : DV} {vs : List LV} {ds : List DV} (k : Ld h v d) (r : CJ h vs ds) : CJ h (v :: vs) (d :: ds)
theorem Kd.eq {h : AN} {v : LV} {d : DV} (k : Kd h v d) : E7 h v = some d := by
 cases k with
 | p => rfl
 | own l hl hn =>
  rw [Be] at hl
  subst hn
  simp only [E7, hl, Nat.zero_add, List.length_map, Nat.le_refl, and_self, if_true, List.drop_zero]
  rw [List.take_of_length_le (by simp)]
 | map hl => rw [Be] at hl; simp only [E7, hl]
 | sub l r hl hr =>
  rw [Be] at hl
  simp only [E7, hl, List.length_map]
  rw [if_pos ⟨trivial, hr.1⟩, <- List.map_drop, <- List.map_take, hr.2]
theorem PF.eq {h : AN} {vs : List LV} {ds : List DV} (k : PF h vs ds) : Fw h vs = some ds := by
 induction k with
 | nil => rfl
 | cons k _ ih => simp only [Fw, k.eq, ih]
theorem Kd.eqb {h : AN} {v : LV} {d : DV} (k : Kd h v d) : Is h v = some d := by
 have := k.eq
 cases k <;> exact this
theorem QZ.eq {h : AN} {vs : List LV} {ds : List DV} (k : QZ h vs ds) : FY h vs = some ds := by
 induction k with
 | nil => rfl
 | box hl k _ ih => rw [Be] at hl; simp only [FY, Is, hl, k.eq, ih, Option.map_some]
 | cons k _ ih => simp only [FY, k.eqb, ih]
theorem Ld.eq {h : AN} {v : LV} {d : DV} (k : Ld h v d) : Ek h v = some d := by
 cases k with
 | one k => cases k with
  | p => rfl
  | own l hl hn => exact Kd.eq (.own l hl hn)
  | map hl => exact Kd.eq (.map hl)
  | sub l r hl hr => exact Kd.eq (.sub l r hl hr)
 | agg k => simp only [Ek, k.eq, Option.map_some]
 | tup k => simp only [Ek, k.eq, Option.map_some]
 | box hl k => rw [Be] at hl; simp only [Ek, hl, k.eq, Option.map_some]
 | fn k => simp only [Ek, k.eq, Option.map_some]
theorem CJ.eq {h : AN} {vs : List LV} {ds : List DV} (k : CJ h vs ds) : Bt h vs = some ds := by
 induction k with
 | nil => rfl
 | cons k _ ih => simp only [Bt, k.eq, ih]
theorem MY {rs : List ResultVar} {st : St} {v : LV} {d : DV} (hr : It AB.tt st rs = some [v]) (k : Ld st.heap v d) : E8 AB.tt rs st = some d := by
 simp only [E8, hr, k.eq]
theorem W2 {rs : List ResultVar} {st : St} {v u : LV} {vs : List LV} {ds : List DV} (hr : It AB.tt st rs = some (v :: u :: vs)) (k : CJ st.heap (v :: u :: vs) ds) : E8 AB.tt rs st = some (.tup ds) := by
 simp only [E8, hr, k.eq, Option.map_some]
def UJ (sl : List (Nat × LV)) (t : Nat) : LV := match Ba t sl with
 | some v => v
 | none => .any
theorem Xa {sl : List (Nat × LV)} {t : Nat} : UJ sl t = Bj sl t := by simp only [UJ, Bj, Be]; rfl
inductive TU (gl : List (Nat × Nat)) (sl : List (Nat × LV)) : List (Nat × LV) -> Prop where
 | nil : TU gl sl []
 | cons {t : Nat} {l : LV} {r : List (Nat × LV)} (h : UJ sl t = EW gl l) (k : TU gl sl r) : TU gl sl ((t, l) :: r)
inductive TV (gl : List (Nat × Nat)) (h : AN) : AN -> Prop where
 | nil : TV gl h []
 | cons {id old : Nat} {o : A1} {r : AN} (h1 : Ba id gl = some old) (h2 : Ba old h = some (UB gl o)) (k : TV gl h r) : TV gl h ((id, o) :: r)
def LL (gl : List (Nat × Nat)) : List (Nat × LV) -> Bool
 | [] => true
 | (_, l) :: r => match DX gl l with
  | true => LL gl r
  | false => false
def LM (gl : List (Nat × Nat)) : AN -> Bool
 | [] => true
 | (_, o) :: r => match Rj gl o with
  | true => LM gl r
  | false => false
theorem WE {gl : List (Nat × Nat)} {sl sl' : List (Nat × LV)} (h : TU gl sl sl') : LL gl sl' = true -> RA gl sl sl' := by
 induction h with
 | nil => intro _; trivial
 | cons h _ ih =>
  intro hn
  simp only [LL] at hn
  split at hn
  .rename_i hq; exact ⟨⟨hq, by rw [<- Xa]; exact h⟩, ih hn⟩
  cases hn
theorem WF {gl : List (Nat × Nat)} {h h' : AN} (k : TV gl h h') : LM gl h' = true -> RB gl h h' := by
 induction k with
 | nil => intro _; trivial
 | cons h1 h2 _ ih =>
  intro hn
  simp only [LM] at hn
  split at hn
  .rename_i hq; exact ⟨⟨hq, _, by rw [<- Be]; exact h1, by rw [<- Be]; exact h2⟩, ih hn⟩
  cases hn
theorem wk (gl : List (Nat × Nat)) {nt : Nat} {sl sl' : List (Nat × LV)} {h h' : AN} {c c' : Nat} (hext : ∀ id, A.μ0 id ≠ none -> AF id gl = some id) (ho : O4 gl h' c' = true) (hn : LL gl sl' = true) (hm : LM gl h' = true)
  (hs : TU gl sl sl') (hh : TV gl h h') : A6 A ⟨nt, sl, h, c⟩ ⟨nt, sl', h', c'⟩ := V6 gl hext ho (WE hs hn) (WF hh hm)
def RH (sl : List (Nat × LV)) : List (Nat × LV) -> List LV
 | [] => []
 | (t, _) :: r => UJ sl t :: RH sl r
def RJ (gl : List (Nat × Nat)) : List (Nat × LV) -> List LV
 | [] => []
 | (_, l) :: r => EW gl l :: RJ gl r
def YF (gl : List (Nat × Nat)) (h : AN) (id : Nat) : Option A1 := match Ba id gl with
 | some old => Ba old h
 | none => none
def RK (gl : List (Nat × Nat)) (h : AN) : AN -> List (Option A1)
 | [] => []
 | (id, _) :: r => YF gl h id :: RK gl h r
def RL (gl : List (Nat × Nat)) : AN -> List (Option A1)
 | [] => []
 | (_, o) :: r => some (UB gl o) :: RL gl r
theorem Rx {gl : List (Nat × Nat)} {sl : List (Nat × LV)} : ∀ {sl' : List (Nat × LV)}, RH sl sl' = RJ gl sl' -> TU gl sl sl'
 | [], _ => .nil
 | (_, _) :: _, h => .cons (List.cons.inj h).1 (Rx (List.cons.inj h).2)
theorem Ry {gl : List (Nat × Nat)} {h : AN} : ∀ {h' : AN}, RK gl h h' = RL gl h' -> TV gl h h'
 | [], _ => .nil
 | (id, o) :: _, e => by
  have e1 := (List.cons.inj e).1
  unfold YF at e1
  split at e1
  .rename_i old hl; exact .cons hl e1 (Ry (List.cons.inj e).2)
  cases e1
def UK (gl : List (Nat × Nat)) (sl' : List (Nat × LV)) (h' : AN) (c' : Nat) : Bool := match O4 gl h' c' with
 | true => match LL gl sl' with
  | true => LM gl h'
  | false => false
 | false => false
theorem Jw {gl : List (Nat × Nat)} {sl' : List (Nat × LV)} {h' : AN} {c' : Nat} (h : UK gl sl' h' c' = true) : O4 gl h' c' = true /\ LL gl sl' = true /\ LM gl h' = true := by
 unfold UK at h
 split at h
 .split at h
  .exact ⟨‹_›, ‹_›, h⟩
  cases h
 cases h
def gi : Nat -> List (Nat × Nat) -> List (Nat × Nat)
 | 0, l => l
 | n + 1, l => gi n ((n, n) :: l)
theorem wf {nt : Nat} {sl sl' : List (Nat × LV)} {h h' : AN} {c c' : Nat} (hA : ∀ id, A.μ0 id = none) (gl : List (Nat × Nat)) (ha : UK gl sl' h' c' = true) (hs : RH sl sl' = RJ gl sl') (hh : RK gl h h' = RL gl h') : A6 A ⟨nt, sl, h, c⟩ ⟨nt, sl', h', c'⟩ :=
 wk gl (fun id h => absurd (hA id) h) (Jw ha).1 (Jw ha).2.1 (Jw ha).2.2 (Rx hs) (Ry hh)
section
variable {σ Ans : Type} {S : σ -> St} {Q : Ans -> Exit -> St -> Prop} {st : St}
theorem Zp {s : σ} (hw : A6 A st (S s)) : LP A S Q (.inl s) .normal st := ⟨rfl, hw⟩
theorem Za {a : Ans} {id : Nat} (k : Q a (.exit id) st) : LP A S Q (.inr a) (.exit id) st := ⟨nofun, k⟩
theorem Zb {a : Ans} (k : Q a .ret st) : LP A S Q (.inr a) .ret st := ⟨nofun, k⟩
theorem Zq {s : σ} (hw : A6 A st (S s)) : NP A S s .normal st := ⟨rfl, hw⟩
end
theorem mp {σ Ans : Type} {o : Option Ans} {b : σ ⊕ Ans} (h : o.map .inr = some b) : ∃ a, o = some a /\ b = .inr a := by
 cases o with
 | none => cases h
 | some a => exact ⟨a, rfl, (Option.some.inj h).symm⟩
theorem Zu {σ Ans : Type} {x : Ans} {b : σ ⊕ Ans} (h : some (.inr x) = some b) : ∃ a, some x = some a /\ b = .inr a := ⟨x, rfl, (Option.some.inj h).symm⟩
end
end Go.E
/- Scopes, slices set against nil, functions walked where they are called (GH), slices handed back (E9). No condition. -/
namespace Go.E
open Go Go.RowKit
section
variable {α : Type} [DecidableEq α]
def agree (a b : Option α) : Option α := if a = b then a else none
theorem UL {a b : Option α} {x : α} (h : agree a b = some x) : a = some x /\ b = some x := by
 unfold agree at h
 split at h
 .rename_i e; exact ⟨h, e ▸ h⟩
 cases h
def K0 {β : Type} (l : List β) (a b : Option α) : Option α := match l with
 | [] => agree a b
 | _ :: _ => b
end
section
variable {P : Program} {A : BF} {AB : Ax} {st : St}
section
variable {f : St -> Prop} {hf : Hq f} {nt : Nat} {sl : List (Nat × LV)} {h : AN} {c : Nat} {α Ans : Type} [DecidableEq Ans] {enc : α -> List DV} {l : List α} {d : Tmp} {t t' sz : Nat} {x y : Operand} {p q : Option Ans} {a : Ans}
theorem PG (hh : K0 l p q = some a) (ht : PC AB t = true) (hx : BI nt sl x = .p (.slice sz (l.map enc))) (hy : BI nt sl y = .p .nils)
  (k1 : p = some a -> f ⟨nt, (d, .p (.bool true)) :: sl, h, c⟩) (k2 : q = some a -> f ⟨nt, (d, .p (.bool false)) :: sl, h, c⟩) : BH P A AB ⟨nt, sl, h, c⟩ (some d) (.binOp .eql t x y t') ⟨f, hf⟩ := by
 obtain ⟨ti, e, h1, h2⟩ := OT ht
 rw [BO (h := h) (c := c)] at hx hy
 show Pt AB .eql t _ _ _
 rw [hx, hy]
 refine AS.2 ⟨ti, h1, Cb.2 ⟨e, h2, ?_⟩⟩
 intro r hr
 cases l with
 | nil =>
  obtain ⟨g1, g2⟩ := UL hh
  cases r with
  | true => exact k1 g1
  | false => exact k2 g2
 | cons z l => rw [hr (by simp)]; exact k2 hh
end
def Hx (tt : Nat -> Option TI) (rs : List ResultVar) (st : St) : Option LV :=
 match It tt st rs with
 | some [l] => some l
 | some ls => some (.tup ls)
 | none => none
def Ke : Nat -> List LV -> List (Nat × LV)
 | _, [] => []
 | n, d :: ds => (n, d) :: Ke (n + 1) ds
theorem PH : ∀ (ds : List LV) (n t : Nat), AF t (Ke n ds) = if n <= t then ds[t - n]? else none
 | [], n, t => by simp [Ke, AF]
 | d :: ds, n, t => by
  simp only [Ke, AF]
  by_cases e : t = n
  .subst e; simp
  rw [if_neg e, PH ds (n + 1) t]
  by_cases h : n + 1 <= t
  .rw [if_pos h, if_pos (by omega), show t - n = t - (n + 1) + 1 by omega, List.getElem?_cons_succ]
  rw [if_neg h, if_neg (by omega)]
theorem Sx (hE : Ay P AB) {A : BF} {μ : Nat -> Option BX} {F : Nat -> Prop} {st : St} {a : Act} {w : World} (hs : ∀ x, AZ (Ad A μ st.heap) μ w (a.eval x) (st.eval x)) (hh : HRel A μ st.heap F w) {fn : Func} {r : LV} (h : Hx AB.tt fn.results.toList st = some r) :
  ∃ v, (results fn a.tmps).run P w = .ok v w /\ AZ (Ad A μ st.heap) μ w v r := by
 unfold Hx at h
 cases hr : It AB.tt st fn.results.toList with
 | none => rw [hr] at h; cases h
 | some ls =>
  rw [hr] at h
  obtain ⟨vs, g1, g2, g3⟩ := Kt (P := P) hE hs hh hr
  have hrun := Ku g1
  match ls, vs, g2 with
  | [], [], _ => cases h; exact ⟨_, hrun, .tup _ _ rfl (by simp)⟩
  | [l], [v], _ => simp only [Option.some.injEq] at h; subst h; exact ⟨_, hrun, g3 0 v l rfl rfl⟩
  | l :: m :: ls, u :: v :: vs, g2 => simp only [Option.some.injEq] at h; subst h; exact ⟨_, hrun, .tup _ _ (by simpa using g2) fun i x d hx hd => g3 i x d (by simpa using hx) hd⟩
theorem TW {c : Code} {Q : Exit -> St -> Prop} (h : B2 P A c (fun e s => ∃ s', A6 A s s' /\ Q e s') st) : B2 P A c Q st := fun a w hR =>
 wp_mono (h a w hR) fun _ a' w' ⟨_, hR', s', hw, q⟩ => ⟨s', hw a' w' hR', q⟩
theorem Rz (hE : Ay P AB) {k : Nat} {fn : Func} {cd : Code} (hf : P.funcs[k]? = some fn) (hb : fn.body = some cd) (hn : (fn.name == "runtime.NumGoroutine") = false) (nt : Nat) (hnt : fn.ntmps = nt) (rs : List ResultVar) (hrs : fn.results.toList = rs)
  {h : AN} {ctr : Nat} {args : List LV} (hlen : args.length <= nt) {K : LV -> AN -> Nat -> Prop}
  (body : ∀ A' : BF, (∀ id, A'.μ0 id ≠ none -> id < ctr) -> B2 P A' cd (Lk fun st => ∃ l, Hx AB.tt rs st = some l /\ K l st.heap st.ctr) ⟨nt, Ke 0 args, h, ctr⟩) : C2 P A h ctr k args K := by
 subst hnt hrs
 refine ⟨JA hf hb hn, fun μ w vs hh hsz hr => ?_⟩
 have hlt : ∀ id loc, μ id = some loc -> id < ctr := by
  intro id loc hm
  by_cases hi : id < ctr
  .exact hi
  rw [hh.fresh id (by simp only [Fr]; omega)] at hm; cases hm
 let A' : BF := ⟨w, A.O, B3 μ h, fun id => if id < ctr then μ id else none, fun b hb' => ⟨Nat.lt_of_lt_of_le (A.hO b hb').1 hh.size, by
  rintro ⟨id, o, loc, h1, h2, h3, rfl⟩
  exact (hh.base id o loc h1 h2 h3).2.1 hb'⟩⟩
 have hA' : ∀ id, A'.μ0 id ≠ none -> id < ctr := by
  intro id hid
  by_cases hi : id < ctr
  .exact hi
  simp [A', hi] at hid
 have hown : ∀ b, Ad A' μ h b ↔ Ad A μ h b := fun b => Iff.rfl
 have hh' : HRel A' μ h (Fr ctr) w := ⟨hh.obj, hh.inj, hh.fresh, fun id o loc h1 h2 h3 => ⟨(hh.base id o loc h1 h2 h3).1, (hh.base id o loc h1 h2 h3).2.1, .inr ⟨id, o, loc, h1, h2, h3, rfl⟩⟩, Nat.le_refl _, fun _ _ _ => rfl, rfl, rfl, rfl, fun id loc hm => by
  simp only [A'] at hm
  split at hm
  .exact hm
  cases hm⟩
 have hR : R A' ⟨fn.ntmps, Ke 0 args, h, ctr⟩ { tmps := vs ++ Array.replicate (fn.ntmps - vs.size) undef, defers := [] } w := by
  refine ⟨⟨μ, hh', fun t ht => ?_⟩, by simp; omega, rfl⟩
  simp only [Bj, PH, Nat.zero_le, if_true, Nat.sub_zero]
  by_cases hlt' : t < args.length
  .have hv : t < vs.size := by omega
   have e : args[t]? = some args[t] := by simp [hlt']
   rw [e]
   have e2 : (vs ++ Array.replicate (fn.ntmps - vs.size) undef).getD t undef = vs[t] := by
    rw [Array.getD_eq_getD_getElem?, Array.getElem?_append_left hv]; simp [hv]
   rw [e2]
   exact hr t _ _ (by simp [hv]) e
  have e : args[t]? = none := by simp; omega
  rw [e]; exact .any _
 refine calls_of_wp hf hb (wp_mono (body A' hA' _ _ hR) ?_)
 rintro e a' w' ⟨st', ⟨⟨μ', hh2, hs⟩, hnt, hdef⟩, hq⟩
 have fin : (∃ l, Hx AB.tt fn.results.toList st' = some l /\ K l st'.heap st'.ctr) -> a'.defers = [] /\ ∃ v, (results fn a'.tmps).run P w' = .ok v w' /\
   ∃ u l h' c' μ', Ending.returned v = .returned u /\ K l h' c' /\ HRel A μ' h' (Fr c') w' /\ AZ (Ad A μ' h') μ' w' u l /\ ∀ v x, AZ (Ad A μ h) μ w v x -> AZ (Ad A μ' h') μ' w' v x := by
  rintro ⟨l, h1, h2⟩
  obtain ⟨v, g1, g2⟩ := Sx (P := P) hE (fun x => F9 hs x) hh2 h1
  have mineof : ∀ b, b < w.heap.size -> B3 μ' st'.heap b -> B3 μ h b := by
   rintro b hb' ⟨id, o, loc, k1, k2, k3, rfl⟩
   rcases (hh2.base id o loc k1 k2 k3).2.2 with hb2 | hb2
   .exact absurd hb2 (by show ¬ w.heap.size <= _; omega)
   exact hb2
  have keepμ' : ∀ id loc, μ id = some loc -> μ' id = some loc := fun id loc hm => hh2.ext id loc (by simp only [A']; rw [if_pos (hlt id loc hm)]; exact hm)
  refine ⟨hdef, v, g1, v, l, st'.heap, st'.ctr, μ', rfl, h2, ⟨hh2.obj, hh2.inj, hh2.fresh, fun id o loc k1 k2 k3 => ⟨(hh2.base id o loc k1 k2 k3).1, (hh2.base id o loc k1 k2 k3).2.1, ?_⟩, Nat.le_trans hh.size hh2.size, fun b hb' hnf => ?_, hh2.os.trans hh.os, hh2.tape.trans hh.tape, hh2.output.trans hh.output, fun id loc hm => keepμ' id loc (hh.ext id loc hm)⟩, g2, fun v x hv => hv.mono ⟨hh2.size, fun b hb' hno => hh2.block b hb' fun hm => hno (.inr hm)⟩ (fun b hb' ho => ?_) keepμ'⟩
  .rcases (hh2.base id o loc k1 k2 k3).2.2 with hb2 | ⟨id2, o2, loc2, m1, m2, m3, m4⟩
   .exact .inl (Nat.le_trans hh.size hb2)
   rw [<- m4]; exact (hh.base id2 o2 loc2 m1 m2 m3).2.2
  .have hnm : ¬ B3 μ h b := by
    rintro ⟨id2, o2, loc2, m1, m2, m3, rfl⟩
    rcases (hh.base id2 o2 loc2 m1 m2 m3).2.2 with hb2 | hb2
    .omega
    exact hnf hb2
   rw [hh2.block b (Nat.lt_of_lt_of_le hb' hh.size) hnm]
   exact hh.block b hb' hnf
  rcases ho with ho | ho
  .exact .inl ho
  exact .inr (mineof b hb' ho)
 cases e with
 | normal => exact fin hq
 | ret => exact fin hq
 | _ => exact hq.elim
def IP (tt : Nat -> Option TI) (rs : List ResultVar) (A : BF) (L : LV) (H : AN) (C : Nat) (e : Exit) (st : St) : Prop :=
 ∃ s', A6 A st s' /\ Lk (fun s => Hx tt rs s = some L /\ s.heap = H /\ s.ctr = C) e s'
theorem EB {rs : List ResultVar} {L : LV} {nt C : Nat} {sl : List (Nat × LV)} {H : AN} (hw : A6 A st ⟨nt, sl, H, C⟩) (hr : Hx AB.tt rs ⟨nt, sl, H, C⟩ = some L) : IP AB.tt rs A L H C .ret st := ⟨_, hw, hr, rfl, rfl⟩
theorem IM {rs : List ResultVar} {L : LV} {nt C : Nat} {sl : List (Nat × LV)} {H : AN} (hw : A6 A st ⟨nt, sl, H, C⟩) (hr : Hx AB.tt rs ⟨nt, sl, H, C⟩ = some L) : IP AB.tt rs A L H C .normal st := ⟨_, hw, hr, rfl, rfl⟩
section
variable {f : St -> Prop} {hf : Hq f} {nt : Nat} {sl : List (Nat × LV)} {h : AN} {c : Nat} {σ Ans : Type}
theorem GH (hE : Ay P AB) (L : σ -> LV) (H : σ -> AN) (C : Nat) {sp : Option σ} {rest : σ -> Option Ans} {a : Ans} {dst : Option Tmp} {fo : Operand} {args : Array Operand} {ts : Array TypeId} {k : Nat} {fn : Func} {cd : Code} {caps ls : List LV}
  (hh : sp.bind rest = some a) (hfun : P.funcs[k]? = some fn) (nt' : Nat) (rs : List ResultVar) (sl' : List (Nat × LV)) (hb : fn.body = some cd) (hn : (fn.name == "runtime.NumGoroutine") = false) (hnt : Nat.beq fn.ntmps nt' = true) (hrs : fn.results.toList = rs)
  (hfn : BI nt sl fo = .fn k caps) (hl : DY nt sl args.toList some = some ls) (hlen : Nat.ble (ls ++ caps).length nt' = true) (hsl : Ke 0 (ls ++ caps) = sl')
  (body : ∀ A : BF, (∀ id, A.μ0 id ≠ none -> id < c) -> ∀ t, sp = some t -> B2 P A cd (IP AB.tt rs A (L t) (H t) C) ⟨nt', sl', h, c⟩)
  (kk : ∀ t, rest t = some a -> f (match dst with | some d => ⟨nt, (d, L t) :: sl, H t, C⟩ | none => ⟨nt, sl, H t, C⟩)) : BH P A AB ⟨nt, sl, h, c⟩ dst (.call ⟨.value fo, args, ts⟩) ⟨f, hf⟩ := by
 obtain ⟨t, h1, h2⟩ := bd hh
 rw [BO (h := h) (c := c)] at hfn
 show LH _ _
 rw [hfn]
 show Ht P A h c k (args.toList.map _ ++ caps) _
 rw [En hl]
 subst hsl
 refine Rz hE hfun hb hn nt' (Nat.eq_of_beq_eq_true hnt) rs hrs (Nat.le_of_ble_eq_true hlen) fun A' hA' => ?_
 have := TW (body A' hA' t h1)
 refine GB this fun e s q => ?_
 have fin : (Hx AB.tt rs s = some (L t) /\ s.heap = H t /\ s.ctr = C) -> ∃ l, Hx AB.tt rs s = some l /\ f (St.go ⟨nt, sl, h, c⟩ dst l s.heap s.ctr) := by
  rintro ⟨q1, q2, q3⟩
  refine ⟨_, q1, ?_⟩
  rw [q2, q3, L1]
  have := kk t h2
  cases dst <;> exact this
 cases e <;> first | exact fin q | exact q.elim
end
def PI : Nat -> List (Nat × Nat) -> Bool
 | 0, _ => true
 | n + 1, gl => match Ba n gl with
  | some m => match Nat.beq n m with
   | true => PI n gl
   | false => false
  | none => false
theorem R3 : ∀ {n : Nat} {gl : List (Nat × Nat)}, PI n gl = true -> ∀ i, i < n -> AF i gl = some i
 | 0, _, _, i, h => by omega
 | n + 1, gl, hk, i, hi => by
  simp only [PI] at hk
  split at hk
  .rename_i m hm
   split at hk
   .rename_i hb
    have := Nat.eq_of_beq_eq_true hb
    subst this
    by_cases e : i = n
    .subst e; rw [<- Be]; exact hm
    exact R3 hk i (by omega)
   cases hk
  cases hk
theorem YG {n : Nat} (hA : ∀ id, A.μ0 id ≠ none -> id < n) (gl : List (Nat × Nat)) (hk : PI n gl = true) : ∀ id, A.μ0 id ≠ none -> AF id gl = some id := fun id h => R3 hk id (hA id h)
theorem wj {n nt : Nat} {sl sl' : List (Nat × LV)} {h h' : AN} {c c' : Nat} (hA : ∀ id, A.μ0 id ≠ none -> id < n) (gl : List (Nat × Nat)) (hk : PI n gl = true) (ha : UK gl sl' h' c' = true) (hs : RH sl sl' = RJ gl sl') (hh : RK gl h h' = RL gl h') : A6 A ⟨nt, sl, h, c⟩ ⟨nt, sl', h', c'⟩ :=
 wk gl (YG hA gl hk) (Jw ha).1 (Jw ha).2.1 (Jw ha).2.2 (Rx hs) (Ry hh)
section
variable {f : St -> Prop} {hf : Hq f} {nt : Nat} {sl : List (Nat × LV)} {h : AN} {c : Nat} {d : Tmp} {α : Type} {enc : α -> List DV}
theorem TX {fo : Operand} {args : Array Operand} {ts : Array TypeId} {k e sz : Nat} {caps ls : List LV} {ds : List DV} {r : List α} (hF : E9 P k ds e sz (r.map enc))
  (hs : (ls ++ caps).flatMap (Dc h) = []) (hfn : BI nt sl fo = .fn k caps) (hl : DY nt sl args.toList some = some ls) (hds : Bt h (ls ++ caps) = some ds)
  (kk : f ⟨nt, (d, .lsl c sz 0 r.length) :: sl, (c, .row e sz (r.map enc)) :: h, c + 1⟩) : BH P A AB ⟨nt, sl, h, c⟩ (some d) (.call ⟨.value fo, args, ts⟩) ⟨f, hf⟩ := by
 rw [BO (h := h) (c := c)] at hfn
 show LH _ _
 rw [hfn]
 show Ht P A h c k (args.toList.map _ ++ caps) _
 rw [En hl]
 refine ZA hds hF hs ?_
 rw [List.length_map]
 exact kk
theorem R5 {fo : Operand} {args : Array Operand} {ts : Array TypeId} {k e sz : Nat} {caps ls : List LV} {ds : List DV} {r : List α} (hF : E9 P k ds e sz (r.map enc)) (hw : AB.own = true)
  (hs : (ls ++ caps).flatMap (Dc h) = []) (hfn : (Cs fo, BI nt sl fo) = (false, .fn k caps)) (hl : DY nt sl args.toList some = some ls) (hds : Bt h (ls ++ caps) = some ds)
  (kk : f ⟨nt, (d, .lsl c sz 0 r.length) :: sl, (c, .row e sz (r.map enc)) :: h, c + 1⟩) : Hv P A AB ⟨nt, sl, h, c⟩ (some d) (.call ⟨.value fo, args, ts⟩) ⟨f, hf⟩ := by
 obtain ⟨hnd, hfn⟩ := Prod.mk.inj hfn
 rw [BO (h := h) (c := c)] at hfn
 show (if Cs fo = true then _ else LH _ _)
 rw [if_neg (by rw [hnd]; decide)]
 rw [hfn]
 refine .inr ⟨hw, ds, e, sz, r.map enc, ?_, hF, ?_, ?_⟩
 .show Bt h (args.toList.map _ ++ caps) = _
  rw [En hl]; exact hds
 .show Tz (List.flatMap _ (args.toList.map _ ++ caps)) _
  rw [En hl]; exact .inl hs
 show f ⟨nt, (d, .lsl c sz 0 (r.map enc).length) :: sl, _, _⟩
 rw [List.length_map]
 exact kk
theorem U5 {k : Nat} {fn : Func} {cd : Code} {ds : List DV} {e sz : Nat} {r : List α} (hen : RG enc sz) (hf : P.funcs[k]? = some fn) (hb : fn.body = some cd) (hn : (fn.name == "runtime.NumGoroutine") = false) (nt : Nat) (hnt : Nat.beq fn.ntmps nt = true)
  (t : Nat) (hrs : fn.results.toList = [.tmp t]) (sl : List (Nat × LV)) (hsl : DA 0 ds = sl) (hlen : Nat.ble ds.length nt = true)
  (h : ∀ A : BF, (∀ id, A.μ0 id = none) -> B2 P A cd (UE t e sz (r.map enc)) ⟨nt, sl, [], 0⟩) : E9 P k ds e sz (r.map enc) := by
 subst hsl
 refine XT hf hb hn nt (Nat.eq_of_beq_eq_true hnt) t hrs (Nat.le_of_ble_eq_true hlen) (fun x hx => ?_) h
 obtain ⟨a, _, rfl⟩ := List.mem_map.1 hx
 exact (hen a).1
theorem U6 {t e sz id n : Nat} {r : List α} (hv : BI nt sl (.tmp t) = .lsl id sz 0 n) (hl : Ba id h = some (.row e sz (r.map enc))) (hn : n = r.length) : UE t e sz (r.map enc) .ret ⟨nt, sl, h, c⟩ := by
 rw [BO (h := h) (c := c)] at hv
 rw [Be] at hl
 refine .inl ⟨id, ?_, hl⟩
 rw [hv, hn, List.length_map]
theorem YH {t e sz : Nat} (hv : BI nt sl (.tmp t) = .p .nils) : UE t e sz (([] : List α).map enc) .ret ⟨nt, sl, h, c⟩ := by
 rw [BO (h := h) (c := c)] at hv
 exact .inr ⟨hv, rfl⟩
end
end
end Go.E
/- Rules for single operations: arrays, division, a nil slice as an empty one. No condition. -/
namespace Go.E
open Go Go.RowKit
section
variable {P : Program} {A : BF} {AB : Ax} {f : St -> Prop} {hf : Hq f} {nt : Nat} {sl : List (Nat × LV)} {h : AN} {c : Nat} {d : Tmp} {α : Type} {l : List α} {t : Nat} {x i : Operand}
theorem WG {α : Type} (l : List α) (n : Int) (z : α) : (KD l n z).length = l.length := by simp [KD]
theorem W3 {kk : IntKind} {a b r : Int} {y : Operand} {t' : Nat} (hr : OQ a b = some r) (hx : BI nt sl x = .p (.int kk a)) (hy : BI nt sl y = .p (.int kk b)) (k : f ⟨nt, (d, .p (.int kk r)) :: sl, h, c⟩) :
  BH P A AB ⟨nt, sl, h, c⟩ (some d) (.binOp .rem t x y t') ⟨f, hf⟩ := by
 rw [BO (h := h) (c := c)] at hx hy
 simp only [OQ] at hr
 split at hr
 .cases hr
 rename_i hb
 simp only [Option.some.injEq] at hr
 subst hr
 show Pt AB .rem t _ _ _
 rw [hx, hy]
 exact ⟨rfl, hb, by rw [Hr, if_neg hb]; exact k⟩
section
variable {κ υ : Type} [BEq κ] {ke : κ -> DV} {ve : υ -> DV} {mp : List (κ × υ)} {kt et : Nat}
end
end
end Go.E
/- The types that the functions of this seat use, as plain data. Written by a program (mkenv.py). No condition. -/
namespace Go.E
open Go Go.RowKit Go.Proofs
def W4 : List (Nat × TI) := [
 (3, ⟨.int .i64, 1, 8, [.int .i64 0]⟩),
 (4, ⟨.bool, 1, 1, [.bool false]⟩),
 (5, ⟨.int .u8, 1, 1, [.int .u8 0]⟩),
 (9, ⟨.str, 1, 16, [.str .empty]⟩),
 (22, ⟨.slc 130, 1, 24, [.nils]⟩),
 (23, ⟨.slc 132, 1, 24, [.nils]⟩),
 (24, ⟨.slc 135, 1, 24, [.nils]⟩),
 (25, ⟨.slc 140, 1, 24, [.nils]⟩),
 (27, ⟨.struct [(0, 22), (1, 23), (2, 24), (3, 25), (4, 3), (5, 3), (6, 3), (7, 3), (8, 4)], 9, 136, [.nils, .nils, .nils, .nils, .int .i64 0, .int .i64 0, .int .i64 0, .int .i64 0, .bool false]⟩),
 (30, ⟨.other, 1, 8, [.nilp]⟩),
 (32, ⟨.slc 90, 1, 24, [.nils]⟩),
 (33, ⟨.slc 46, 1, 24, [.nils]⟩),
 (34, ⟨.slc 3, 1, 24, [.nils]⟩),
 (36, ⟨.struct [(0, 3), (1, 3), (2, 3), (3, 32), (4, 33), (5, 33), (6, 34), (7, 34), (8, 4)], 9, 152, [.int .i64 0, .int .i64 0, .int .i64 0, .nils, .nils, .nils, .nils, .nils, .bool false]⟩),
 (43, ⟨.slc 4, 1, 24, [.nils]⟩),
 (46, ⟨.struct [(0, 3), (1, 3)], 2, 16, [.int .i64 0, .int .i64 0]⟩),
 (51, ⟨.slc 5, 1, 24, [.nils]⟩),
 (52, ⟨.slc 36, 1, 24, [.nils]⟩),
 (55, ⟨.other, 1, 8, [.nilp]⟩),
 (57, ⟨.slc 34, 1, 24, [.nils]⟩),
 (58, ⟨.int .i64, 1, 8, [.int .i64 0]⟩),
 (75, ⟨.struct [(0, 27), (9, 52)], 10, 160, [.nils, .nils, .nils, .nils, .int .i64 0, .int .i64 0, .int .i64 0, .int .i64 0, .bool false, .nils]⟩),
 (90, ⟨.struct [(0, 3), (1, 3), (2, 3)], 3, 24, [.int .i64 0, .int .i64 0, .int .i64 0]⟩),
 (92, ⟨.mp 96 4, 1, 8, [.nilm]⟩),
 (93, ⟨.slc 96, 1, 24, [.nils]⟩),
 (96, ⟨.struct [(0, 3), (1, 3)], 2, 16, [.int .i64 0, .int .i64 0]⟩),
 (103, ⟨.other, 1, 8, [.nilp]⟩),
 (107, ⟨.other, 1, 8, [.nilp]⟩),
 (109, ⟨.struct [(0, 27), (9, 36), (18, 93)], 19, 312, [.nils, .nils, .nils, .nils, .int .i64 0, .int .i64 0, .int .i64 0, .int .i64 0, .bool false, .int .i64 0, .int .i64 0, .int .i64 0, .nils, .nils, .nils, .nils, .nils, .bool false, .nils]⟩),
 (111, ⟨.slc 33, 1, 24, [.nils]⟩),
 (115, ⟨.mp 3 34, 1, 8, [.nilm]⟩),
 (116, ⟨.mp 3 33, 1, 8, [.nilm]⟩),
 (118, ⟨.struct [(0, 3), (1, 115), (2, 115), (3, 116), (4, 116)], 5, 40, [.int .i64 0, .nilm, .nilm, .nilm, .nilm]⟩),
 (130, ⟨.struct [(0, 9), (1, 3), (2, 3)], 3, 32, [.str .empty, .int .i64 0, .int .i64 0]⟩),
 (132, ⟨.struct [(0, 96), (2, 96)], 4, 32, [.int .i64 0, .int .i64 0, .int .i64 0, .int .i64 0]⟩),
 (135, ⟨.struct [(0, 9), (1, 96), (3, 4)], 4, 40, [.str .empty, .int .i64 0, .int .i64 0, .bool false]⟩),
 (140, ⟨.struct [(0, 9), (1, 34)], 2, 40, [.str .empty, .nils]⟩),
 (141, ⟨.slc 9, 1, 24, [.nils]⟩),
 (146, ⟨.mp 96 96, 1, 8, [.nilm]⟩),
 (147, ⟨.mp 96 3, 1, 8, [.nilm]⟩),
 (148, ⟨.mp 3 152, 1, 8, [.nilm]⟩),
 (149, ⟨.mp 3 3, 1, 8, [.nilm]⟩),
 (151, ⟨.struct [(0, 27), (9, 146), (10, 147), (11, 148), (12, 149)], 13, 168, [.nils, .nils, .nils, .nils, .int .i64 0, .int .i64 0, .int .i64 0, .int .i64 0, .bool false, .nilm, .nilm, .nilm, .nilm]⟩),
 (152, ⟨.arr 2 3, 2, 16, [.int .i64 0, .int .i64 0]⟩),
 (164, ⟨.int .u64, 1, 8, [.int .u64 0]⟩),
 (169, ⟨.slc 171, 1, 24, [.nils]⟩),
 (171, ⟨.struct [(0, 3), (1, 3)], 2, 16, [.int .i64 0, .int .i64 0]⟩),
 (200, ⟨.mp 3 4, 1, 8, [.nilm]⟩),
 (202, ⟨.int .i64, 1, 8, [.int .i64 0]⟩),
 (209, ⟨.int .u32, 1, 4, [.int .u32 0]⟩),
 (211, ⟨.int .u64, 1, 8, [.int .u64 0]⟩),
 (212, ⟨.other, 1, 8, [.nilp]⟩),
 (213, ⟨.slc 169, 1, 24, [.nils]⟩),
 (215, ⟨.struct [(0, 3), (1, 32), (2, 34), (3, 213)], 4, 80, [.int .i64 0, .nils, .nils, .nils]⟩),
 (218, ⟨.arr 4 3, 4, 32, [.int .i64 0, .int .i64 0, .int .i64 0, .int .i64 0]⟩),
 (219, ⟨.arr 3 3, 3, 24, [.int .i64 0, .int .i64 0, .int .i64 0]⟩),
 (220, ⟨.mp 9 4, 1, 8, [.nilm]⟩),
 (222, ⟨.int .u64, 1, 8, [.int .u64 0]⟩),
 (226, ⟨.other, 1, 8, [.nilp]⟩)]
def U9 : List (Nat × List Sh) := [(46, [.int .i64, .int .i64]), (90, [.int .i64, .int .i64, .int .i64]), (96, [.int .i64, .int .i64])]
def R8 : List (Nat × List Sh) := [(96, [.int .i64, .int .i64])]
def R9 : List Nat := [30, 55]
def AB : Ax := ⟨fun t => Ba t W4, fun t => Ba t U9, fun t => Ba t R8, Kz R9, none, false⟩
def Zk (b : Nat) (l : List Nat) : Ax := ⟨fun t => Ba t W4, fun t => Ba t U9, fun t => Ba t R8, Kz R9, some fun id => Nat.ble b id || Kz l id, false⟩
def ZD (b : Nat) (l : List Nat) : Ax := ⟨fun t => Ba t W4, fun t => Ba t U9, fun t => Ba t R8, Kz R9, some fun id => Nat.ble b id || Kz l id, true⟩
def Zl : Ax := ⟨fun t => Ba t W4, fun t => Ba t U9, fun t => Ba t R8, Kz R9, none, true⟩
theorem YK : ∃ e, Try.prog.underlying 30 = some (.pointer e) := ⟨151, by kernel_rfl⟩
theorem YL : ∃ e, Try.prog.underlying 55 = some (.pointer e) := ⟨118, by kernel_rfl⟩
theorem PO : Mz Try.prog AB.tt := WC (by kernel_rfl)
theorem ZE : OM Try.prog 46 [.int .i64, .int .i64] := Mv (by kernel_rfl) (by kernel_rfl) (by kernel_rfl) (by kernel_rfl)
theorem ZF : OM Try.prog 90 [.int .i64, .int .i64, .int .i64] := Mv (by kernel_rfl) (by kernel_rfl) (by kernel_rfl) (by kernel_rfl)
theorem W5 : OM Try.prog 96 [.int .i64, .int .i64] := Mv (by kernel_rfl) (by kernel_rfl) (by kernel_rfl) (by kernel_rfl)
theorem YM : O0 Try.prog 96 [.int .i64, .int .i64] := T2 (by kernel_rfl) W5 (by kernel_rfl)
theorem AA : Ay Try.prog AB := by
 refine ⟨PO, fun t ks h => ?_, fun t ks h => ?_, fun t h => ?_⟩
 .simp only [AB, Be, U9, AF] at h
  split at h
  .subst_vars; cases h; exact ZE
  split at h
  .subst_vars; cases h; exact ZF
  split at h
  .subst_vars; cases h; exact W5
  cases h
 .simp only [AB, Be, R8, AF] at h
  split at h
  .subst_vars; cases h; exact YM
  cases h
 simp only [AB, R9, TP, List.mem_cons, List.not_mem_nil, or_false] at h
 rcases h with rfl | rfl
 .exact YK
 exact YL
theorem TZ (b : Nat) (l : List Nat) : Ay Try.prog (Zk b l) := ⟨AA.tt, AA.eqk, AA.keyk, AA.ptr⟩
theorem SA (b : Nat) (l : List Nat) : Ay Try.prog (ZD b l) := ⟨AA.tt, AA.eqk, AA.keyk, AA.ptr⟩
theorem Xf : Ay Try.prog Zl := ⟨AA.tt, AA.eqk, AA.keyk, AA.ptr⟩
theorem mixed : Try.prog.follows .mixedOrders = true := by kernel_rfl
end Go.E
