/- Drawn regions: whatever order is drawn, the operations give what they give in one order that a check accepts (HZ). -/
import Derived.Scope
import Derived.Test.YtilbadmonidmhaaGreatProg
import Derived.Test.YtilbadmonidmhaaGreatJ1
set_option linter.unusedVariables false
set_option linter.unusedSimpArgs false
namespace Go.E
open Go Go.RowKit
structure RF (A : BP) (F : Nat -> Prop) (st : St) (a : Act) (w : World) : Prop where
 ex : ∃ μ, HRel A μ st.heap F w /\ ∀ t, t < st.nt -> Ag (Aj A μ st.heap) μ w (a.tmps.getD t undef) (Bo st.slots t)
 nt : a.tmps.size = st.nt
 defers : a.defers = []
theorem R.toRF {A : BP} {st : St} {a : Act} {w : World} (h : R A st a w) : RF A (Fr st.ctr) st a w := ⟨h.ex, h.nt, h.defers⟩
theorem RF.put' {A : BP} {F F' : Nat -> Prop} {st : St} {a : Act} {w w' : World} {h' : AQ} {ctr' : Nat} {μ' : Nat -> Option Bf} (hR : RF A F st a w)
  (hs : ∀ t, t < st.nt -> Ag (Aj A μ' h') μ' w' (a.tmps.getD t undef) (Bo st.slots t))
  (hh : HRel A μ' h' F' w') {dst : Option Tmp} {v : Value} {l : LV} (hv : Ag (Aj A μ' h') μ' w' v l) :
  RF A F' (({ st with heap := h', ctr := ctr' } : St).put dst l) (a.put dst v) w' := by
 cases dst with
 | none => exact ⟨⟨μ', hh, hs⟩, hR.nt, hR.defers⟩
 | some d =>
  refine ⟨⟨μ', hh, fun t ht => ?_⟩, by simpa [Act.put, St.put] using hR.nt, hR.defers⟩
  have hn : t < a.tmps.size := by rw [hR.nt]; exact ht
  simp only [Act.put, St.put, Bo, AF]
  by_cases e : t = d
  .subst e
   simp only [if_true]
   rw [Array.getD_eq_getD_getElem?, Array.getElem?_setIfInBounds_self_of_lt hn]
   exact hv
  simp only [e, if_false]
  rw [Array.getD_eq_getD_getElem?, Array.getElem?_setIfInBounds_ne (by omega), <- Array.getD_eq_getD_getElem?]
  exact hs t ht
section
variable {P : Program} {A : BP} {AB : A9} {F : Nat -> Prop} {st : St} {a : Act} {w : World}
theorem Xy {μ : Nat -> Option Bf} {h : AQ} {F : Nat -> Prop} {w w' : World} {v : Value} {ctr e sz : Nat} {elems : List (List DV)} (hh : HRel A μ h F w) (hc : F ctr) (hn : LA w w' (Aj A μ h) v e sz elems) (hb : Below w.heap.size w w') :
  ∃ μ', HRel A μ' ((ctr, .row e sz elems) :: h) (fun id => F id /\ id ≠ ctr) w' /\ Ag (Aj A μ' ((ctr, .row e sz elems) :: h)) μ' w' v (.lsl ctr sz 0 elems.length) /\ ∀ v x, Ag (Aj A μ h) μ w v x -> Ag (Aj A μ' ((ctr, .row e sz elems) :: h)) μ' w' v x := by
 have hno : μ ctr = none := hh.fresh ctr hc
 obtain ⟨hlen, hn⟩ := hn
 have hkm : Bd (CA μ h) w w' := ⟨hb.size, fun b hb' _ => hb.block b hb'⟩
 have hsub : ∀ id x, AF id ((ctr, BE.row e sz elems) :: h) = some x -> (id = ctr /\ x = .row e sz elems) \/ AF id h = some x := by
  intro id x hx
  simp only [AF] at hx
  split at hx
  .cases hx; exact .inl ⟨‹_›, rfl⟩
  exact .inr hx
 have hold : ∀ id x lc, AF id ((ctr, BE.row e sz elems) :: h) = some x -> id ≠ ctr -> μ id = some lc -> lc.nil = false -> w'.heap[lc.b]? = w.heap[lc.b]? := by
  intro id x lc hx hne hm hnl
  rcases hsub id x hx with ⟨rfl, _⟩ | hx
  .exact absurd rfl hne
  exact hb.block _ (hh.base id x lc hx hm hnl).1
 have fin : ∀ (loc : Bf), (loc.nil = false -> loc.b < w'.heap.size /\ w.heap.size <= loc.b) ->
   (∀ O' : Nat -> Prop, (∀ b, O' b -> Aj A μ h b \/ (loc.nil = false /\ b = loc.b)) -> (∀ b, Aj A μ h b -> b < w.heap.size -> O' b \/ True) -> (∀ b, Aj A (B5 μ ctr loc) ((ctr, BE.row e sz elems) :: h) b ↔ O' b) -> ED O' (B5 μ ctr loc) w' loc (.row e sz elems)) ->
   (∀ O', Ag O' (B5 μ ctr loc) w' v (.lsl ctr sz 0 elems.length)) ->
   ∃ μ', HRel A μ' ((ctr, .row e sz elems) :: h) (fun id => F id /\ id ≠ ctr) w' /\ Ag (Aj A μ' ((ctr, .row e sz elems) :: h)) μ' w' v (.lsl ctr sz 0 elems.length) /\ ∀ v x, Ag (Aj A μ h) μ w v x -> Ag (Aj A μ' ((ctr, .row e sz elems) :: h)) μ' w' v x := by
  intro loc hloc ho hu
  have hfr : Ln μ h ((ctr, BE.row e sz elems) :: h) w loc := fun hn => .inl (hloc hn).2
  have hown := hh.sub_add loc (.row e sz elems) ((ctr, .row e sz elems) :: h) hfr hsub
  have hcov : ∀ b, Aj A (B5 μ ctr loc) ((ctr, .row e sz elems) :: h) b -> Aj A μ h b \/ (loc.nil = false /\ b = loc.b) := by
   rintro b (hb' | ⟨id, x, lc, h1, h2, h3, h4⟩)
   .exact .inl (.inl hb')
   by_cases e' : id = ctr
   .subst e'
    simp only [B5, if_true, Option.some.injEq] at h2
    subst h2; exact .inr ⟨h3, h4.symm⟩
   rcases hsub id x h1 with ⟨e'', _⟩ | h1
   .exact absurd e'' e'
   simp only [B5, e', if_false] at h2
   exact .inl (.inr ⟨id, x, lc, h1, h2, h3, h4⟩)
  have hadd := hh.add (w' := w') hno loc (.row e sz elems) ((ctr, .row e sz elems) :: h) (fun hn => (hloc hn).1) hfr hsub hkm hold hb.os hb.tape hb.output (ho _ hcov (fun _ _ _ => .inr trivial) (fun _ => Iff.rfl))
  exact ⟨_, hadd, hu _, fun v x hv => hv.mono hkm.own hown (Iw hno loc)⟩
 rcases hn with ⟨rfl, rfl⟩ | ⟨a, b, o, cap, c, rfl, h1, h2, h3, h4, h5, h6, h7, h8, h9, h10⟩
 .exact fin ⟨true, 0, 0, sz, 0⟩ (fun hn => by cases hn) (fun O' _ _ _ => ⟨rfl, hlen, .inl ⟨rfl, rfl⟩⟩) (fun O' => .lsln ctr ⟨true, 0, 0, sz, 0⟩ (by simp [B5]) rfl)
 refine fin ⟨false, b, o, sz, cap⟩ (fun _ => ⟨h2, h1⟩) (fun O' hO' _ _ => ⟨rfl, hlen, .inr ⟨rfl, c, h6, h7, h8, h9, fun i j x d u hx hd hu => ?_⟩⟩) (fun O' => ?_)
 .refine (h10 i j x d u hx hd hu).mono (Bd.refl _ _) fun q _ hq => ?_
  rcases hO' q hq with hq | ⟨_, hq⟩
  .exact .inl hq
  exact .inr hq
 exact .lsl ctr 0 elems.length cap a ⟨false, b, o, sz, cap⟩ (by simp [B5]) rfl (by simp) h8 (fun hc => by rw [h3 hc]; simp) h4 h5
theorem SD (hE : BB P AB) {o : Oper} {l : LV} {e : EV} (hR : RF A F st a w) (hc : F st.ctr) (hF : ∃ c0, ∀ q, c0 <= q -> F q) (h : CU P AB st o.op l e) {next : Act -> World -> Prop} {Q : Exit -> Act -> World -> Prop}
  (hK : ∀ a' w', RF A (fun id => F id /\ id ≠ st.ctr) (apS st st.ctr o l e) a' w' -> next a' w') : o.wp P a w next Q := by
 obtain ⟨⟨μ, hh, hs0⟩, hnt, hdef⟩ := id hR
 have hs := fun x => G3 hs0 x
 have less : ∀ {μ h w} (c' : Nat), HRel A μ h (fun id => F id /\ (st.ctr < c' -> id ≠ st.ctr)) w -> HRel A μ h (fun id => F id /\ id ≠ st.ctr) w := fun _ h => h.less fun _ h => ⟨h.1, fun _ => h.2⟩
 have nCase : e = .keep -> nW AB st o.op (· = l) -> o.wp P a w next Q := by
  rintro rfl h
  obtain ⟨u, v, rfl, hv, hg⟩ := Ja hE hs h
  unfold Oper.wp
  rw [hg o rfl w]
  exact hK _ _ (hR.put' (ctr' := st.ctr) hs0 (hh.less fun _ h => h.1) hv)
 have mCase : mW AB st o.op (fun r h _ => r = l /\ h = e.ap st.ctr st.heap) -> o.wp P a w next Q := by
  intro h
  obtain ⟨l', h', c', u, w', μ', ⟨rfl, rfl⟩, ⟨_, hh'⟩, hl, hmono, hrun⟩ := Pr (a := a) (F := F) hE hs ⟨hh, hc⟩ h
  have := hK _ _ (hR.put' (ctr' := st.ctr) (fun t ht => hmono _ _ (hs0 t ht)) (less c' hh') hl)
  unfold Oper.wp
  rcases hrun o rfl with hr | ⟨hr, rfl⟩ <;> rw [hr] <;> exact this
 obtain ⟨dst, op, type, pos, after, guard⟩ := o
 simp only at h nCase mCase
 cases op <;> simp only [CU] at h <;> (try exact nCase h.1 h.2)
 case load t x =>
  obtain ⟨rfl, _, ti, h1, h2⟩ := h
  refine mCase ?_
  simp only [mW, EV.ap]
  exact ⟨ti, h1, by
   unfold Gn at *
   split at h2
   .obtain ⟨r, g1, g2⟩ := h2; exact ⟨r, g1, g2, trivial⟩
   .obtain ⟨c, r, g1, g2, g3⟩ := h2; exact ⟨c, r, g1, g2, g3, trivial⟩
   .obtain ⟨c1, c2, c3, c4, r, g1, g2, g3, g4⟩ := h2; exact ⟨c1, c2, c3, c4, r, g1, g2, g3, g4, trivial⟩
   exact h2⟩
 case lookup t x i ok =>
  obtain ⟨rfl, ti, kt, et, te, m, kd, h1, h2, h3, h4, h5, h6, h7, h8⟩ := h
  refine mCase ?_
  simp only [mW, EV.ap]
  exact ⟨ti, kt, et, te, m, kd, h1, h2, h3, h4, h5, h6, h7, h8, trivial⟩
 case store => obtain ⟨_, h', rfl, h⟩ := h; exact mCase h
 case mapUpdate => obtain ⟨h', rfl, h⟩ := h; exact mCase h
 case mapEntry => obtain ⟨h', rfl, h⟩ := h; exact mCase h
 case entryStore => obtain ⟨h', rfl, h⟩ := h; exact mCase h
 case alloc t => obtain ⟨ti, h1, rfl, rfl⟩ := h; exact mCase (by simp only [mW]; exact ⟨ti, h1, trivial, rfl⟩)
 case box t x => obtain ⟨ls, h1, rfl, rfl⟩ := h; exact mCase (by simp only [mW]; exact ⟨ls, h1, trivial, rfl⟩)
 case buildSlice t n ps =>
  obtain ⟨ti, e', te, l', h1, h2, h3, h4, h5, h6, h7, ⟨rfl, rfl⟩ | ⟨rfl, rfl⟩⟩ := h
  .exact mCase (by simp only [mW]; exact ⟨ti, e', te, l', h1, h2, h3, h4, h5, h6, h7, .inl ⟨rfl, rfl⟩⟩)
  exact mCase (by simp only [mW]; exact ⟨ti, e', te, l', h1, h2, h3, h4, h5, h6, h7, .inr ⟨rfl, rfl⟩⟩)
 case makeSlice t x y =>
  obtain ⟨ti, e', te, n, k1, k2, h1, h2, h3, h4, h5, h6, h7, h8, ⟨rfl, rfl⟩ | ⟨rfl, rfl⟩⟩ := h
  .exact mCase (by simp only [mW]; exact ⟨ti, e', te, n, k1, k2, h1, h2, h3, h4, h5, h6, h7, h8, .inl ⟨rfl, rfl⟩⟩)
  exact mCase (by simp only [mW]; exact ⟨ti, e', te, n, k1, k2, h1, h2, h3, h4, h5, h6, h7, h8, .inr ⟨rfl, rfl⟩⟩)
 case makeMap t r => obtain ⟨rfl, rfl, rfl⟩ := h; exact mCase (by simp only [mW]; exact ⟨trivial, trivial, rfl⟩)
 case call c =>
  obtain ⟨callee, args, ats⟩ := c
  cases callee with
  | value f =>
   simp only at h
   split at h
   .obtain ⟨h', rfl, f', k, caps, g1, g2, g3, _, _⟩ := h
    simp only [Callee.value.injEq] at g1
    subst g1
    have hfv := hs f
    rw [g2] at hfv
    generalize hv : a.eval f = v at hfv
    cases hfv with
    | fn _ cs _ hsz hr =>
     have hx : (execOp a.eval ⟨dst, .call ⟨.value f, args, ats⟩, type, pos, after, guard⟩).run P w = .ok (.enter k (args.map a.eval ++ cs)) w := by
      simp [execOp, resolve, Deferred.ofValue, hv, invoke]
      exact g3.1 _ _
     unfold Oper.wp
     rw [hx, Oper.upon_enter]
     refine (g3.2 A F μ w _ hh hc hF (by simp [hsz]) fun i v x hvi hx => ?_).mono fun en w' ⟨u, μ', he, hh', hl, hmono⟩ => ?_
     .rw [List.getElem?_append] at hx
      rw [Array.getElem?_append] at hvi
      by_cases hi' : i < args.size
      .rw [if_pos (by simpa using hi')] at hvi hx
       exact Il hs args.toList i v _ (by simpa using hvi) hx
      rw [if_neg (by simpa using hi')] at hvi hx
      exact hr _ v _ (by simpa using hvi) (by simpa using hx)
     subst he
     exact hK _ _ (hR.put' (ctr' := st.ctr) (fun t ht => hmono _ _ (hs0 t ht)) hh' hl)
   rcases h with ⟨rfl, k, caps, ds, r, h1, h2, h3, h4, rfl⟩ | ⟨_, k, caps, ds, tt, sz, elems, h1, h2, h3, h4, rfl, rfl⟩
   .have hfv := hs f
    rw [h1] at hfv
    generalize hv : a.eval f = v at hfv
    cases hfv with
    | fn _ cs _ hsz hr =>
     have hx : (execOp a.eval ⟨dst, .call ⟨.value f, args, ats⟩, type, pos, after, guard⟩).run P w = .ok (.enter k (args.map a.eval ++ cs)) w := by
      simp [execOp, resolve, Deferred.ofValue, hv, invoke]
      exact h3.enters _ _
     unfold Oper.wp
     rw [hx, Oper.upon_enter]
     obtain ⟨g1, g2⟩ := FC hh (l := (args.toList.map st.eval ++ caps).flatMap (D8 st.heap)) h2 (fun id hid => hid)
     have hO : ∀ b, Aj A μ (B1 ((args.toList.map st.eval ++ caps).flatMap (D8 st.heap)) st.heap) b -> b < w.heap.size := by
      rintro b (hb | ⟨id, x, lc, h1, h2, h3, rfl⟩)
      .exact Nat.lt_of_lt_of_le (A.hO b hb).1 hh.size
      exact (hh.base id x lc (G2 h1).2 h2 h3).1
     refine (h3.run _ w _ hO (by rw [<- g1]; simp [hsz]) fun i v d hvi hdi => ?_).mono fun e w' ⟨v, r', he, hp, hq, hb⟩ => ?_
     .have hi := (List.getElem?_eq_some_iff.1 hdi).1
      have hx : (args.toList.map st.eval ++ caps)[i]? = some ((args.toList.map st.eval ++ caps)[i]'(by omega)) := List.getElem?_eq_getElem _
      refine g2 i v _ d hx hdi ?_
      rw [List.getElem?_append] at hx
      rw [Array.getElem?_append] at hvi
      by_cases hi' : i < args.size
      .rw [if_pos (by simpa using hi')] at hvi hx
       exact Il hs args.toList i v _ (by simpa using hvi) hx
      rw [if_neg (by simpa using hi')] at hvi hx
      exact hr _ v _ (by simpa using hvi) (by simpa using hx)
     subst he hq
     obtain ⟨hh', hown⟩ := hh.keep (w' := w') (h' := st.heap) (μ' := μ) (fun _ _ h => h) hh.fresh (fun _ _ h => h) hb.block hb.size hb.os hb.tape hb.output
     have hp' : A3 (Aj A μ st.heap) w' v r' := by
      rcases h4 with h4 | h4
      .exact hp.scalar h4 _ _
      rw [h4] at hp; exact hp
     exact hK _ _ (hR.put' (ctr' := st.ctr) (fun t ht => (hs0 t ht).mono ⟨hb.size, fun b hb' _ => hb.block b hb'⟩ (fun b _ hb => hb) (fun _ _ h => h)) (hh'.less fun _ h => h.1) (.p _ _ hp'))
   have hfv := hs f
   rw [h1] at hfv
   generalize hv : a.eval f = v at hfv
   cases hfv with
   | fn _ cs _ hsz hr =>
    have hx : (execOp a.eval ⟨dst, .call ⟨.value f, args, ats⟩, type, pos, after, guard⟩).run P w = .ok (.enter k (args.map a.eval ++ cs)) w := by
     simp [execOp, resolve, Deferred.ofValue, hv, invoke]
     exact h3.enters _ _
    unfold Oper.wp
    rw [hx, Oper.upon_enter]
    obtain ⟨g1, g2⟩ := FC hh (l := (args.toList.map st.eval ++ caps).flatMap (D8 st.heap)) h2 (fun id hid => hid)
    have hO : ∀ b, Aj A μ (B1 ((args.toList.map st.eval ++ caps).flatMap (D8 st.heap)) st.heap) b -> b < w.heap.size := by
     rintro b (hb | ⟨id, x, lc, h1, h2, h3, rfl⟩)
     .exact Nat.lt_of_lt_of_le (A.hO b hb).1 hh.size
     exact (hh.base id x lc (G2 h1).2 h2 h3).1
    refine (h3.run _ w _ hO (by rw [<- g1]; simp [hsz]) fun i v d hvi hdi => ?_).mono fun e w' ⟨v, he, hn', hb⟩ => ?_
    .have hi := (List.getElem?_eq_some_iff.1 hdi).1
     have hx : (args.toList.map st.eval ++ caps)[i]? = some ((args.toList.map st.eval ++ caps)[i]'(by omega)) := List.getElem?_eq_getElem _
     refine g2 i v _ d hx hdi ?_
     rw [List.getElem?_append] at hx
     rw [Array.getElem?_append] at hvi
     by_cases hi' : i < args.size
     .rw [if_pos (by simpa using hi')] at hvi hx
      exact Il hs args.toList i v _ (by simpa using hvi) hx
     rw [if_neg (by simpa using hi')] at hvi hx
     exact hr _ v _ (by simpa using hvi) (by simpa using hx)
    subst he
    have hn2 : LA w w' (Aj A μ st.heap) v tt sz elems := by
     rcases h4 with h4 | h4
     .rw [h4] at hn'; exact hn'
     exact hn'.flat h4 _
    obtain ⟨μ', k1, k2, k3⟩ := Xy hh hc hn2 hb
    exact hK _ _ (hR.put' (ctr' := st.ctr) (fun t ht => k3 _ _ (hs0 t ht)) k1 k2)
  | builtin b =>
   cases b with
   | append => obtain ⟨-, h', rfl, h⟩ := h; exact mCase h
   | _ => exact nCase h.1 h.2
  | invoke r m => exact nCase h.1 h.2
theorem Pu (hE : BB P AB) {ops : Array Oper} {i : Nat} {o : Oper} (ho : ops[i]? = some o) {l : LV} {e : EV} (hR : RF A F st a w) (hc : F st.ctr) (hF : ∃ c0, ∀ q, c0 <= q -> F q) (h : DH P AB ops st o l e) {next : Act -> World -> Prop} {Q : Exit -> Act -> World -> Prop}
  (hK : ∀ a' w', RF A (fun id => F id /\ id ≠ st.ctr) (apS st st.ctr o l e) a' w' -> next a' w') : wpOp P ops Q i next a w := by
 obtain ⟨⟨μ, hh, hs0⟩, hnt, hdef⟩ := id hR
 have hs := fun x => G3 hs0 x
 unfold wpOp
 rw [ho]
 simp only
 unfold DH at h
 have skip : l = .und /\ e = .keep -> next (a.put o.dst undef) w := by
  rintro ⟨rfl, rfl⟩
  exact hK _ _ (hR.put' (ctr' := st.ctr) hs0 (hh.less fun _ h => h.1) .und)
 split at h
 .rename_i hg
  rw [if_pos (by simp [Region.wanted, hg])]
  exact .inl (SD hE hR hc hF h hK)
 rename_i j want hg
 obtain ⟨g1, g2⟩ := OI (ops := ops) (j := j) hs
 split at h
 .rename_i b hb
  have hy := g1 b hb
  split at h
  .rename_i e
   rw [if_pos (by simp [Region.wanted, hg, hy, e])]
   exact .inl (SD hE hR hc hF h hK)
  rename_i e
  rw [if_neg (by simp [Region.wanted, hg, hy, e])]
  exact skip h
 .rename_i hb
  have hy := g2 hb
  rw [if_neg (by simp [Region.wanted, hg, hy])]
  exact skip h
 exact h.elim
end
section
variable {P : Program} {AB : A9} {md : Region.Mode} {ops : Array Oper} {base : Nat} {Q : St -> Prop}
def IV (P : Program) (AB : A9) (md : Region.Mode) (ops : Array Oper) (base : Nat) (Q : St -> Prop) : Nat -> Array Bool -> St -> Prop
 | 0, listed, st => Region.ready md ops listed = [] /\ ∃ st', GP st st' /\ Q st'
 | fuel + 1, listed, st => (Region.ready md ops listed = [] -> ∃ st', GP st st' /\ Q st') /\
  ∀ i ∈ Region.ready md ops listed, ∃ o l e, ops[i]? = some o /\ DH P AB ops (st.at (base + i)) o l e /\ IV P AB md ops base Q fuel (listed.setIfInBounds i true) (apS st (base + i) o l e)
theorem GP.trans {a b c : St} (h : GP a b) (h' : GP b c) : GP a c := ⟨h.nt.trans h'.nt, fun t => (h.slots t).trans (h'.slots t), fun i => (h.heap i).trans (h'.heap i)⟩
theorem GP.symm {a b : St} (h : GP a b) : GP b a := ⟨h.nt.symm, fun t => (h.slots t).symm, fun i => (h.heap i).symm⟩
theorem Xz {st : St} {dst : Option Tmp} {l : LV} {t : Nat} : Bo (st.put dst l).slots t = if dst = some t then l else Bo st.slots t := by
 cases dst with
 | none => simp [St.put]
 | some d =>
  simp only [St.put, Bo, AF, Option.some.injEq]
  by_cases e : t = d
  .subst e; simp
  rw [if_neg e, if_neg (fun h => e h.symm)]
theorem GQ {st : St} {c : Nat} {o : Oper} {l : LV} {e : EV} : (apS st c o l e).nt = st.nt := by
 unfold apS St.put; split <;> rfl
theorem Br {st : St} {c : Nat} {o : Oper} {l : LV} {e : EV} : (apS st c o l e).heap = e.ap c st.heap := by
 unfold apS St.put; split <;> rfl
theorem DA {st : St} {c : Nat} {o : Oper} {l : LV} {e : EV} {t : Nat} : Bo (apS st c o l e).slots t = if o.dst = some t then l else Bo st.slots t := by
 unfold apS; rw [Xz]
theorem GP.at {st st' : St} (h : GP st st') (c : Nat) : GP (st.at c) (st'.at c) := ⟨h.nt, h.slots, h.heap⟩
theorem GP.apS {st st' : St} (h : GP st st') {c : Nat} {o : Oper} {l : LV} {e e' : EV} (he : ∀ id, AF id (e.ap c st.heap) = AF id (e'.ap c st'.heap)) : GP (apS st c o l e) (apS st' c o l e') :=
 ⟨by rw [GQ, GQ]; exact h.nt, fun t => by rw [DA, DA, h.slots], fun id => by rw [Br, Br]; exact he id⟩
theorem M9 : ∀ (fuel : Nat) (listed : Array Bool) (st st' : St), GP st st' -> IV P AB md ops base Q fuel listed st -> IV P AB md ops base Q fuel listed st'
 | 0, _, _, _, he, ⟨h1, s, h2, h3⟩ => ⟨h1, s, he.symm.trans h2, h3⟩
 | fuel + 1, _, st, st', he, ⟨h1, h2⟩ => ⟨fun hr => by obtain ⟨s, a, b⟩ := h1 hr; exact ⟨s, he.symm.trans a, b⟩, fun i hi => by
   obtain ⟨o, l, e, g1, g2, g3⟩ := h2 i hi
   obtain ⟨e', k1, k2⟩ := Wz (he.at (base + i)) rfl g2
   exact ⟨o, l, e', g1, k1, M9 fuel _ _ _ (he.apS k2) g3⟩⟩
def OO : Cls -> Cls -> Bool
 | .n, .w => true
 | .w, _ | _, .w => false
 | .a, .r => false
 | _, _ => true
def Mh : Op -> Bool
 | .call c => match c.callee with
  | .value f => !(Cl f)
  | _ => false
 | _ => false
def RX (a b : Op) : Bool := !(Mh a) || decide (Be b ≠ .r)
theorem X0 {st : St} {o : Oper} {l : LV} {e : EV} (h : DH P AB ops st o l e) (hc : Be o.op = .n \/ Be o.op = .r) (hw : AB.own = true -> Mh o.op = false) : e = .keep := by
 have big : CU P AB st o.op l e -> e = .keep := by
  intro h
  generalize o.op = op at *
  cases op <;> simp only [Be, reduceCtorEq, or_self] at hc <;> simp only [CU] at h <;> (try exact h.1)
  case call c =>
   obtain ⟨callee, args, ats⟩ := c
   cases callee with
   | builtin b => cases b <;> simp only [reduceCtorEq, or_self] at hc <;> exact h.1
   | value f =>
    have hnd : ¬ Cl f = true := fun hd => by simp [hd] at hc
    simp only [if_neg hnd] at h
    rcases h with h | ⟨h, _⟩
    .exact h.1
    have := hw h
    simp [Mh, hnd] at this
   | _ => exact h.1
 unfold DH at h
 split at h
 .exact big h
 split at h
 .split at h
  .exact big h
  exact h.2
 .exact h.2
 exact h.elim
theorem PH {st : St} {o : Oper} {l : LV} {e : EV} (h : DH P AB ops st o l e) (hc : Be o.op ≠ .w) : e = .keep \/ ∃ x, e = .new x := by
 have big : CU P AB st o.op l e -> e = .keep \/ ∃ x, e = .new x := by
  intro h
  generalize o.op = op at *
  cases op <;> simp only [CU] at h <;> (try exact .inl h.1)
  case store => exact absurd rfl hc
  case mapUpdate => exact absurd rfl hc
  case mapEntry => exact absurd rfl hc
  case entryStore => exact absurd rfl hc
  case alloc => obtain ⟨_, _, _, h⟩ := h; exact .inr ⟨_, h⟩
  case box => obtain ⟨_, _, _, h⟩ := h; exact .inr ⟨_, h⟩
  case buildSlice => obtain ⟨_, _, _, _, _, _, _, _, _, _, _, ⟨_, h⟩ | ⟨_, h⟩⟩ := h; exact .inr ⟨_, h⟩; exact .inl h
  case makeSlice => obtain ⟨_, _, _, _, _, _, _, _, _, _, _, _, _, _, ⟨_, h⟩ | ⟨_, h⟩⟩ := h; exact .inr ⟨_, h⟩; exact .inl h
  case makeMap => exact .inr ⟨_, h.2.2⟩
  case call c =>
   obtain ⟨callee, args, ats⟩ := c
   cases callee with
   | builtin b =>
    cases b with
    | append => exact absurd rfl hc
    | _ => exact .inl h.1
   | value f =>
    have hnd : ¬ Cl f = true := fun hd => hc (by simp [Be, hd])
    simp only [if_neg hnd] at h
    rcases h with h | ⟨_, _, _, _, _, _, _, _, _, _, _, _, h⟩
    .exact .inl h.1
    exact .inr ⟨_, h⟩
   | _ => exact .inl h.1
 unfold DH at h
 split at h
 .exact big h
 split at h
 .split at h
  .exact big h
  exact .inl h.2
 .exact .inl h.2
 exact h.elim
theorem Lp {st : St} {o : Oper} {l : LV} {e : EV} (h : DH P AB ops st o l e) {k : Nat} (hk : k ≠ st.ctr) (hn : AF k st.heap = none) : AF k (e.ap st.ctr st.heap) = none := by
 by_cases hw : Be o.op = .w
 .have big : CU P AB st o.op l e -> AF k (e.ap st.ctr st.heap) = none := by
   intro h
   have : ∃ h1, e = .set h1 /\ wW P AB st o.op l h1 := by
    generalize hq : o.op = op at *
    cases op <;> simp only [Be, reduceCtorEq] at hw <;> simp only [CU] at h ⊢
    case store => exact h.2
    case mapUpdate => exact h
    case mapEntry => exact h
    case entryStore => exact h
    case call c =>
     obtain ⟨callee, args, ats⟩ := c
     cases callee with
     | builtin b =>
      cases b <;> simp only [reduceCtorEq] at hw
      exact h.2
     | value f =>
      have hd : Cl f = true := by simp only at hw; split at hw <;> first | assumption | cases hw
      simp only [hd, if_true] at h
      exact h
     | _ => simp only [reduceCtorEq] at hw
   obtain ⟨h1, rfl, g⟩ := this
   obtain ⟨_, _, _, g⟩ := Vv (st' := st) hw (fun _ _ => rfl) rfl (fun _ => rfl) g
   exact g k hk hn
  unfold DH at h
  split at h
  .exact big h
  split at h
  .split at h
   .exact big h
   rw [h.2]; exact hn
  .rw [h.2]; exact hn
  exact h.elim
 rcases PH h hw with rfl | ⟨x, rfl⟩
 .exact hn
 simp only [EV.ap, AF, hk, if_false]; exact hn
def RY : Op -> Op -> Bool
 | .load .., .mapUpdate .. | .load .., .mapEntry .. | .load .., .entryStore .. => true
 | _, _ => false
def Pv : Op -> Op -> Bool
 | .load .., .store .. => true
 | .load .., .call c => match c.callee with
  | .builtin .append => true
  | .value f => Cl f
  | _ => false
 | _, _ => false
def OP (q : Bool) (a b : Op) : Bool := RY a b || (q && Pv a b)
def RZ (q : Bool) (a b : Op) : Bool := OO (Be a) (Be b) || OP q a b
theorem Vw {o : Op} (h : Mh o = true) : Be o = .r := by
 unfold Mh at h
 split at h
 .rename_i c
  unfold Be
  split at h
  .rename_i f e
   simp only [Bool.not_eq_true'] at h
   simp only [e, h, Bool.false_eq_true, if_false]
  cases h
 cases h
theorem S3 {a b : Op} (h : Pv a b = true) : Be a = .r /\ Be b = .w /\ (∃ t x, a = .load t x) /\ ((∃ t x v, b = .store t x v) \/ ∃ c, b = .call c /\ (c.callee = .builtin .append \/ ∃ f, c.callee = .value f /\ Cl f = true)) := by
 unfold Pv at h
 split at h
 .exact ⟨rfl, rfl, ⟨_, _, rfl⟩, .inl ⟨_, _, _, rfl⟩⟩
 .rename_i c
  split at h
  .rename_i e
   exact ⟨rfl, by simp [Be, e], ⟨_, _, rfl⟩, .inr ⟨_, rfl, .inl e⟩⟩
  .rename_i f e
   exact ⟨rfl, by simp [Be, e, h], ⟨_, _, rfl⟩, .inr ⟨_, rfl, .inr ⟨f, e, h⟩⟩⟩
  cases h
 cases h
theorem Ta {a b : Op} (h : RY a b = true) : Be a = .r /\ Be b = .w /\ (∃ t x, a = .load t x) /\ ((∃ t x i v, b = .mapUpdate t x i v) \/ (∃ t x i, b = .mapEntry t x i) \/ ∃ t x i v, b = .entryStore t x i v) := by
 unfold RY at h
 split at h
 .exact ⟨rfl, rfl, ⟨_, _, rfl⟩, .inl ⟨_, _, _, _, rfl⟩⟩
 .exact ⟨rfl, rfl, ⟨_, _, rfl⟩, .inr (.inl ⟨_, _, _, rfl⟩)⟩
 .exact ⟨rfl, rfl, ⟨_, _, rfl⟩, .inr (.inr ⟨_, _, _, _, rfl⟩)⟩
 cases h
theorem Hr {q : Bool} {a b : Op} (h : OP q a b = true) : Be a = .r /\ Be b = .w /\ (∃ t x, a = .load t x) /\
  (((∃ t x i v, b = .mapUpdate t x i v) \/ (∃ t x i, b = .mapEntry t x i) \/ ∃ t x i v, b = .entryStore t x i v) \/ (q = true /\ ((∃ t x v, b = .store t x v) \/ ∃ c, b = .call c /\ (c.callee = .builtin .append \/ ∃ f, c.callee = .value f /\ Cl f = true)))) := by
 simp only [OP, Bool.or_eq_true, Bool.and_eq_true] at h
 rcases h with h | ⟨hq, h⟩
 .obtain ⟨h1, h2, h3, h4⟩ := Ta h; exact ⟨h1, h2, h3, .inl h4⟩
 obtain ⟨h1, h2, h3, h4⟩ := S3 h; exact ⟨h1, h2, h3, .inr ⟨hq, h4⟩⟩
theorem Zc {st st' : St} {o : Oper} {l : LV} {e : EV} (hld : ∃ t x, o.op = .load t x) (hnt : st.nt = st'.nt) (hs : ∀ t ∈ o.looksAt ops, Bo st.slots t = Bo st'.slots t)
  (hm : ∀ id x, AF id st.heap = some x -> (∀ m, x ≠ .map m) -> AF id st'.heap = some x) (h : DH P AB ops st o l e) : DH P AB ops st' o l e := by
 have hop := FW hnt hs
 have key : CU P AB st o.op l e -> CU P AB st' o.op l e := by
  obtain ⟨t, x, ho⟩ := hld
  rw [ho] at hop ⊢
  simp only [CU]
  rintro ⟨h1, hc', ti, h2, h3⟩
  have he : st.eval x = st'.eval x := hop x (by simp [Op.operands])
  rw [<- he]
  refine ⟨h1, hc', ti, h2, ?_⟩
  unfold Gn at h3 ⊢
  split at h3
  .rename_i hx; simp only [hx]; exact h3
  .rename_i id off hx
   obtain ⟨cells, r, g1, g2⟩ := h3
   simp only [hx]
   exact ⟨cells, r, hm _ _ g1 (by simp), g2⟩
  .rename_i id i off hx
   obtain ⟨e', sz, elems, y, r, g1, g2⟩ := h3
   simp only [hx]
   exact ⟨e', sz, elems, y, r, hm _ _ g1 (by simp), g2⟩
  exact h3.elim
 unfold DH at *
 split at h
 .exact key h
 rename_i j want hg
 rw [<- Hq hnt hs hg]
 split at h
 .rename_i hb
  split at h
  .rw [if_pos ‹_›]; exact key h
  rw [if_neg ‹_›]; exact h
 .exact h
 exact h.elim
theorem AAM {st : St} {o : Oper} {l : LV} {e : EV} {c : Nat} (hmu : (∃ t x i v, o.op = .mapUpdate t x i v) \/ (∃ t x i, o.op = .mapEntry t x i) \/ ∃ t x i v, o.op = .entryStore t x i v) (h : DH P AB ops st o l e) : ∀ id x, AF id st.heap = some x -> (∀ m, x ≠ .map m) -> AF id (e.ap c st.heap) = some x := by
 have key : CU P AB st o.op l e -> ∀ id x, AF id st.heap = some x -> (∀ m, x ≠ .map m) -> AF id (e.ap c st.heap) = some x := by
  have fin : ∀ (id' : Nat) (m m' : List (DV × DV)), AF id' st.heap = some (.map m) -> ∀ id y, AF id st.heap = some y -> (∀ m, y ≠ .map m) -> AF id (Bv id' (.map m') st.heap) = some y := by
   intro id' m m' h4 id y hy hne
   by_cases hii : id = id'
   .subst hii; rw [h4] at hy; cases hy; exact absurd rfl (hne _)
   rw [Dr hii]; exact hy
  rcases hmu with ⟨t, x, i, v, ho⟩ | ⟨t, x, i, ho⟩ | ⟨t, x, i, v, ho⟩
  .rw [ho]
   simp only [CU]
   rintro ⟨h', rfl, hmw⟩ id y hy hne
   obtain ⟨ti, kt, et, id', m, kd, vd, h1, h2, h3, h4, h5, h6, h7, h8, _, rfl⟩ := hmw
   exact fin id' m _ h4 id y hy hne
  .rw [ho]
   simp only [CU]
   rintro ⟨h', rfl, hmw⟩ id y hy hne
   obtain ⟨ti, kt, et, te, id', m, kd, h1, h2, h3, h4, h5, h6, h7, h8, _, rfl⟩ := hmw
   show AF id (match DU kd m with | some _ => st.heap | none => _) = some y
   split
   .exact hy
   exact fin id' m _ h5 id y hy hne
  rw [ho]
  simp only [CU]
  rintro ⟨h', rfl, hmw⟩ id y hy hne
  obtain ⟨id', m, k1, n, vd, p, h1, h2, h3, h4, h5, h6, _, rfl⟩ := hmw
  exact fin id' m _ h2 id y hy hne
 unfold DH at h
 split at h
 .exact key h
 split at h
 .split at h
  .exact key h
  obtain ⟨_, rfl⟩ := h; exact fun id x hx _ => hx
 .obtain ⟨_, rfl⟩ := h; exact fun id x hx _ => hx
 exact h.elim
theorem X1 {b : Nat -> Bool} (hb0 : AB.calm = some b) {st st' : St} {o : Oper} {l : LV} {e : EV} (hld : ∃ t x, o.op = .load t x) (hnt : st.nt = st'.nt) (hs : ∀ t ∈ o.looksAt ops, Bo st.slots t = Bo st'.slots t)
  (hm : ∀ id o, (∀ m, o ≠ .map m) -> b id = false -> AF id st.heap = some o -> AF id st'.heap = some o) (h : DH P AB ops st o l e) : DH P AB ops st' o l e := by
 have hop := FW hnt hs
 have key : CU P AB st o.op l e -> CU P AB st' o.op l e := by
  obtain ⟨t, x, ho⟩ := hld
  rw [ho] at hop ⊢
  simp only [CU]
  rintro ⟨h1, hc', ti, h2, h3⟩
  have he : st.eval x = st'.eval x := hop x (by simp [Op.operands])
  rw [<- he]
  refine ⟨h1, hc', ti, h2, ?_⟩
  rw [hb0] at hc'
  unfold Gn at h3 ⊢
  split at h3
  .rename_i hx; simp only [hx]; exact h3
  .rename_i id off hx
   obtain ⟨cells, r, g1, g2⟩ := h3
   simp only [hx]
   simp only [hx, Md] at hc'
   exact ⟨cells, r, hm _ _ (by simp) (by simpa using hc') g1, g2⟩
  .rename_i id i off hx
   obtain ⟨e', sz, elems, y, r, g1, g2⟩ := h3
   simp only [hx]
   simp only [hx, Md] at hc'
   exact ⟨e', sz, elems, y, r, hm _ _ (by simp) (by simpa using hc') g1, g2⟩
  exact h3.elim
 unfold DH at *
 split at h
 .exact key h
 rename_i j want hg
 rw [<- Hq hnt hs hg]
 split at h
 .rename_i hb
  split at h
  .rw [if_pos ‹_›]; exact key h
  rw [if_neg ‹_›]; exact h
 .exact h
 exact h.elim
theorem Zd {b : Nat -> Bool} (hb0 : AB.calm = some b) {st : St} {o : Oper} {l : LV} {e : EV} (hfr : AF st.ctr st.heap = none) (hmu : (∃ t x v, o.op = .store t x v) \/ ∃ c, o.op = .call c /\ (c.callee = .builtin .append \/ ∃ f, c.callee = .value f /\ Cl f = true)) (h : DH P AB ops st o l e) :
  ∀ id x, (∀ m, x ≠ .map m) -> b id = false -> AF id st.heap = some x -> AF id (e.ap st.ctr st.heap) = some x := by
 have key : CU P AB st o.op l e -> ∀ id x, (∀ m, x ≠ .map m) -> b id = false -> AF id st.heap = some x -> AF id (e.ap st.ctr st.heap) = some x := by
  intro h id y hnm hid hl
  rcases hmu with ⟨t, x, v, ho⟩ | ⟨c, ho, hcal⟩
  .rw [ho] at h
   simp only [CU] at h
   obtain ⟨hc', h', rfl, ti, h1, hs⟩ := h
   rw [hb0] at hc'
   unfold KG at hs
   obtain ⟨ls, g1, g2, g3, hs⟩ := hs
   split at hs
   .rename_i id' off hx
    obtain ⟨cells', q1, q2, _, rfl⟩ := hs
    rw [hx] at hc'
    simp only [LB] at hc'
    show AF id (Bv id' _ st.heap) = _
    rw [Dr (fun e2 => by rw [e2, hc'] at hid; cases hid)]; exact hl
   .rename_i hx
    first
    | exact hs.elim
    | (simp only [hx, LB, Bool.false_eq_true] at hc')
   all_goals first
    | exact hs.elim
    | (rename_i hx; simp only [hx, LB, Bool.false_eq_true] at hc')
  obtain ⟨callee, args, ats⟩ := c
  simp only at hcal
  rcases hcal with hcal | ⟨f, hcal, hd⟩
  rotate_left
  .subst hcal
   rw [ho] at h
   simp only [CU, hd, if_true] at h
   obtain ⟨h', rfl, f', k, caps, _, _, _, _, g5⟩ := h
   have hne : id ≠ st.ctr := fun e2 => by rw [e2, hfr] at hl; cases hl
   exact g5 b hb0 id y hnm hne hid hl
  subst hcal
  rw [ho] at h
  simp only [CU, mW] at h
  obtain ⟨hap, h', rfl, _, s, x, t, g1, g2, ti, e', te, q1, q2, q3, q4, new, q5, q6, hs⟩ := h
  have hne : id ≠ st.ctr := fun e2 => by rw [e2, hfr] at hl; cases hl
  show AF id h' = _
  split at hs
  .obtain ⟨_, _, _, rfl⟩ := hs
   simp only [AF, if_neg hne]; exact hl
  .rename_i id' sz off len hx
   obtain ⟨elems, _, hrow, _, _, _, _, rfl⟩ := hs
   have hne2 : id ≠ id' := fun e2 => by
    have := hap s (by rw [g1]; rfl)
    rw [hb0, hx] at this
    simp only [Mc] at this
    rw [e2, this] at hid; cases hid
   simp only [AF, if_neg hne]
   rw [Dp hne2]; exact hl
  exact hs.elim
 unfold DH at h
 split at h
 .exact key h
 split at h
 .split at h
  .exact key h
  obtain ⟨_, rfl⟩ := h; exact fun id x _ _ hx => hx
 .obtain ⟨_, rfl⟩ := h; exact fun id x _ _ hx => hx
 exact h.elim
theorem QY (q : Bool) (hq : q = true -> ∃ b, AB.calm = some b) {i : Nat} {oi : Oper} {l : LV} {e : EV} (hi : ops[i]? = some oi) (B : Nat -> Bool)
  (hB : ∀ j, B j = true -> j ≠ i /\ ∀ oj, ops[j]? = some oj -> ∃ x ∈ oj.after, Region.binds md x = true /\ (x.on = i \/ B x.on = true)) :
  ∀ (fuel : Nat) (listed : Array Bool) (st : St), (∀ j, B j = true -> listed.getD j false = false) ->
   (∀ j oj, ops[j]? = some oj -> j ≠ i -> listed.getD j true = false -> B j = false -> oi.apart ops oj = true /\ RZ q oi.op oj.op = true /\ (AB.own = true -> RX oi.op oj.op = true)) ->
   (∀ k, listed.getD k true = false -> AF (base + k) st.heap = none) ->
   i ∈ Region.ready md ops listed -> DH P AB ops (st.at (base + i)) oi l e ->
   IV P AB md ops base Q fuel (listed.setIfInBounds i true) (apS st (base + i) oi l e) -> IV P AB md ops base Q (fuel + 1) listed st := by
 intro fuel
 induction fuel with
 | zero =>
  intro listed st _ _ _ hr hy H
  refine ⟨fun h => (by rw [h] at hr; cases hr), fun j hj => ?_⟩
  by_cases hji : j = i
  .subst hji; exact ⟨oi, l, e, hi, hy, H⟩
  have := ready_mono hj hji
  rw [H.1] at this
  cases this
 | succ fuel ih =>
  intro listed st hBl hfree hfresh hr hy H
  refine ⟨fun h => (by rw [h] at hr; cases hr), fun j hj => ?_⟩
  by_cases hji : j = i
  .subst hji; exact ⟨oi, l, e, hi, hy, H⟩
  obtain ⟨oj, lj, ej, hoj, h1, h2⟩ := H.2 j (ready_mono hj hji)
  obtain ⟨hjun, oj', hoj', hall⟩ := mem_ready.1 hj
  rw [hoj] at hoj'; cases hoj'
  have hiun : listed.getD i true = false := (mem_ready.1 hr).1
  have hiF : listed.getD i false = false := by
   rcases Nat.lt_or_ge i listed.size with h' | h'
   .simp [h'] at hiun ⊢; exact hiun
   simp [Array.getElem?_eq_none h']
  have hjB : B j = false := by
   rcases hb : B j with _ | _
   .rfl
   obtain ⟨_, hb2⟩ := hB j hb
   obtain ⟨x, hx, hxb, hxo⟩ := hb2 oj hoj
   have := hall x hx hxb
   rcases hxo with hxo | hxo
   .rw [hxo, hiF] at this; cases this
   rw [hBl _ hxo] at this; cases this
  obtain ⟨hap, hcp, hwp⟩ := hfree j oj hoj hji hjun hjB
  obtain ⟨a1, a2, a3⟩ := Oper.apart_spec hap
  simp only [RZ, Bool.or_eq_true] at hcp
  have hwi : Be oi.op ≠ .w := by
   rcases hcp with hcp | hcp
   .intro e; rw [e] at hcp; simp [OO] at hcp
   rw [(Hr hcp).1]; simp
  have hwj : Be oj.op = .w -> Be oi.op = .n \/ OP q oi.op oj.op = true := by
   intro e
   rcases hcp with hcp | hcp
   .rw [e] at hcp; cases hq : Be oi.op <;> rw [hq] at hcp <;> simp [OO] at hcp ⊢
   exact .inr hcp
  have hnr : Be oj.op = .w -> Be oi.op = .n \/ Be oi.op = .r := fun e => (hwj e).imp id fun h => (Hr h).1
  have hcp : Be oj.op ≠ .w -> OO (Be oi.op) (Be oj.op) = true := fun e => hcp.resolve_right fun h => e (Hr h).2.1
  have hkp : Be oi.op = .n \/ Be oi.op = .r -> Be oj.op = .r \/ Be oj.op = .w -> e = .keep := fun hc hj => X0 hy hc fun ho => by
   rcases hj with hj | hj
   .have := hwp ho
    simp only [RX, hj, ne_eq, not_true_eq_false, decide_false, Bool.or_false, Bool.not_eq_true'] at this
    exact this
   rcases hwj hj with h | h
   .cases hq : Mh oi.op with
    | false => rfl
    | true =>
     rw [Vw hq] at h
     cases h
   obtain ⟨_, _, ⟨t, x, h⟩, _⟩ := Hr h
   rw [h]; rfl
  have back : ∃ ej', DH P AB ops (st.at (base + j)) oj lj ej' /\ (∀ id, AF id (ej.ap (base + j) (apS st (base + i) oi l e).heap) = AF id (ej'.ap (base + j) (apS st (base + i) oi l e).heap)) /\ (Be oj.op ≠ .w -> ej' = ej) := by
   have hsl : ∀ t ∈ oj.looksAt ops, Bo ((apS st (base + i) oi l e).at (base + j)).slots t = Bo (st.at (base + j)).slots t := fun t ht => by
    show Bo (apS st (base + i) oi l e).slots t = Bo st.slots t
    rw [DA, if_neg]
    intro e'; exact a1 t e' ht
   by_cases hcw : Be oj.op = .w
   .have : e = .keep := hkp (hnr hcw) (.inr hcw)
    subst this
    have heq : GP ((apS st (base + i) oi l .keep).at (base + j)) { (st.at (base + j)) with slots := (apS st (base + i) oi l .keep).slots } := ⟨by simp [St.at, GQ], fun _ => rfl, fun id => by simp [St.at, Br, EV.ap]⟩
    obtain ⟨ej', k1, k2⟩ := Wz heq rfl h1
    have h3 : ∃ e3, DH P AB ops (st.at (base + j)) oj lj e3 /\ ∀ id, AF id (ej'.ap (base + j) st.heap) = AF id (e3.ap (base + j) st.heap) :=
     W0 (st := { (st.at (base + j)) with slots := (apS st (base + i) oi l .keep).slots }) (st' := st.at (base + j)) hcw rfl hsl rfl (fun _ => rfl) k1
    obtain ⟨e3, g1, g2⟩ := h3
    refine ⟨e3, g1, fun id => ?_, fun hne => absurd hcw hne⟩
    have e1 : (apS st (base + i) oi l .keep).heap = st.heap := by rw [Br]; rfl
    have k : AF id (ej.ap (base + j) (apS st (base + i) oi l .keep).heap) = AF id (ej'.ap (base + j) st.heap) := k2 id
    rw [k, e1]; exact g2 id
   refine ⟨ej, ?_, fun _ => rfl, fun _ => rfl⟩
   refine M7 (st := (apS st (base + i) oi l e).at (base + j)) (st' := st.at (base + j)) hcw (by simp [St.at, GQ]) hsl rfl (fun hcr => ?_) h1
   have : e = .keep := by
    refine hkp ?_ (.inl hcr)
    have hcp := hcp hcw
    rw [hcr] at hcp
    cases hq : Be oi.op <;> rw [hq] at hcp <;> simp [OO] at hcp ⊢
   subst this
   intro id o ho
   have ho' : AF id (apS st (base + i) oi l .keep).heap = some o := ho
   rw [Br] at ho'; exact ho'
  obtain ⟨ej', back, hej, hsame⟩ := back
  have keep : DH P AB ops ((apS st (base + j) oj lj ej').at (base + i)) oi l e := by
   by_cases hsp : OP q oi.op oj.op = true
   .obtain ⟨_, _, hld, hmu⟩ := Hr hsp
    rcases hmu with hmu | ⟨hqt, hmu⟩
    rotate_left
    .obtain ⟨b, hb0⟩ := hq hqt
     refine X1 hb0 (st := st.at (base + i)) (st' := (apS st (base + j) oj lj ej').at (base + i)) hld (by simp [St.at, GQ]) (fun t ht => ?_) (fun id cells hnm hid hx => ?_) hy
     .show Bo st.slots t = Bo (apS st (base + j) oj lj ej').slots t
      rw [DA, if_neg]
      intro e'; exact a3 t e' ht
     show AF id (apS st (base + j) oj lj ej').heap = some _
     rw [Br]
     exact Zd hb0 (hfresh j hjun) hmu back id cells hnm hid hx
    refine Zc (st := st.at (base + i)) (st' := (apS st (base + j) oj lj ej').at (base + i)) hld (by simp [St.at, GQ]) (fun t ht => ?_) (fun id x hx hne => ?_) hy
    .show Bo st.slots t = Bo (apS st (base + j) oj lj ej').slots t
     rw [DA, if_neg]
     intro e'; exact a3 t e' ht
    show AF id (apS st (base + j) oj lj ej').heap = some x
    rw [Br]
    exact AAM hmu back id x hx hne
   refine M7 (st := st.at (base + i)) (st' := (apS st (base + j) oj lj ej').at (base + i)) hwi (by simp [St.at, GQ]) (fun t ht => ?_) rfl (fun hcr => ?_) hy
   .show Bo st.slots t = Bo (apS st (base + j) oj lj ej').slots t
    rw [DA, if_neg]
    intro e'; exact a3 t e' ht
   intro id o ho
   show AF id (apS st (base + j) oj lj ej').heap = some o
   rw [Br]
   have hnw : Be oj.op ≠ .w := fun hc => by rw [(hwj hc).resolve_right hsp] at hcr; cases hcr
   rcases PH back hnw with rfl | ⟨x, rfl⟩
   .exact ho
   simp only [EV.ap, AF]
   rw [if_neg]
   .exact ho
   intro e'; subst e'
   have := hfresh j hjun
   have ho' : AF (base + j) st.heap = some o := ho
   rw [this] at ho'; cases ho'
  have swap : GP (apS (apS st (base + i) oi l e) (base + j) oj lj ej) (apS (apS st (base + j) oj lj ej') (base + i) oi l e) := by
   refine ⟨by simp [GQ], fun t => ?_, fun id => ?_⟩
   .rw [DA, DA, DA, DA]
    by_cases c1 : oi.dst = some t
    .have := a2 t c1
     simp [c1, this]
    rw [if_neg c1]; split <;> simp [c1]
   by_cases hcw : Be oj.op = .w
   .have : e = .keep := hkp (hnr hcw) (.inr hcw)
    subst this
    have := hej id
    rw [Br] at this
    rw [Br, Br, Br, Br]
    exact this
   have hs2 := hsame hcw
   subst hs2
   rw [Br, Br, Br, Br]
   rcases PH back hcw with rfl | ⟨x, rfl⟩ <;> rcases PH hy hwi with rfl | ⟨y, rfl⟩ <;> simp only [EV.ap, AF]
   by_cases c1 : id = base + j
   .subst c1; simp [hji]
   simp [c1]
  refine ⟨oj, lj, ej', hoj, back, ?_⟩
  refine ih (listed.setIfInBounds j true) _ (fun k hk => ?_) (fun k ok hk hki hun hkB => ?_) (fun k hk => ?_) (ready_mono hr (Ne.symm hji)) keep ?_
  .rw [getD_set_ne false (fun e' => by subst e'; rw [hjB] at hk; cases hk)]; exact hBl k hk
  .refine hfree k ok hk hki ?_ hkB
   by_cases hjk : j = k
   .subst hjk; exact hjun
   rw [getD_set_ne true hjk] at hun; exact hun
  .have hjk : j ≠ k := by
    rintro rfl
    rcases Nat.lt_or_ge j listed.size with h' | h'
    .simp [h'] at hk
    simp [Array.getElem?_eq_none h'] at hk
   rw [Br]
   have hk' : listed.getD k true = false := by rw [getD_set_ne true hjk] at hk; exact hk
   exact Lp back (by simp only [St.at]; omega) (hfresh k hk')
  rw [Array.setIfInBounds_comm _ _ hji]
  exact M9 fuel _ _ _ swap h2
end
end Go.E
/- Drawn regions, the rule (HZ). Condition: the checks G6 and mixedOrders, by kernel. -/
namespace Go.E
open Go Go.RowKit
def NA (md : Region.Mode) (ops : Array Oper) (listed : Array Bool) (i : Nat) : List Nat :=
 (List.range ops.size).foldl (fun acc j => if !(j == i) && !(listed.getD j false) && (match ops[j]? with
  | some oj => oj.after.any fun x => Region.binds md x && (x.on == i || acc.contains x.on)
  | none => false) then j :: acc else acc) []
def PI (q w : Bool) (md : Region.Mode) (ops : Array Oper) (listed : Array Bool) (i : Nat) (oi : Oper) (B : List Nat) : Bool :=
  (B.all fun j => !(j == i) && !(listed.getD j false) && match ops[j]? with
    | some oj => oj.after.any fun x => Region.binds md x && (x.on == i || B.contains x.on)
    | none => false) &&
  ((List.range ops.size).all fun j => j == i || listed.getD j true || B.contains j || match ops[j]? with
    | some oj => oi.apart ops oj && (RZ q oi.op oj.op && (!w || RX oi.op oj.op))
    | none => true)
def G6 (q w : Bool) (md : Region.Mode) (ops : Array Oper) : List Nat -> Array Bool -> Bool
 | [], listed => (Region.ready md ops listed).isEmpty
 | i :: rest, listed => (match ops[i]? with
  | none => false
  | some oi => (Region.ready md ops listed == [i]) || ((Region.ready md ops listed).contains i && PI q w md ops listed i oi (NA md ops listed i))) &&
  G6 q w md ops rest (listed.setIfInBounds i true)
def Gp (P : Program) (AB : A9) (ops : Array Oper) (base : Nat) (K : St -> Prop) : List Nat -> St -> Prop
 | [], st => K st
 | i :: rest, st => match ops[i]? with
  | none => False
  | some o => match o.guard with
   | none => ∃ l e, CU P AB (st.at (base + i)) o.op l e /\ Gp P AB ops base K rest (apS st (base + i) o l e)
   | some (j, want) => match Dq st ops j with
    | .p (.bool b) => (b = want -> ∃ l e, CU P AB (st.at (base + i)) o.op l e /\ Gp P AB ops base K rest (apS st (base + i) o l e)) /\
      (b = !want -> Gp P AB ops base K rest (apS st (base + i) o .und .keep))
    | .und => Gp P AB ops base K rest (apS st (base + i) o .und .keep)
    | _ => False
section
variable {P : Program} {A : BP} {AB : A9} {md : Region.Mode} {ops : Array Oper} {base : Nat} {K : St -> Prop}
theorem NB {i : Nat} {rest : List Nat} {st : St} (h : Gp P AB ops base K (i :: rest) st) :
  ∃ o l e, ops[i]? = some o /\ DH P AB ops (st.at (base + i)) o l e /\ Gp P AB ops base K rest (apS st (base + i) o l e) := by
 simp only [Gp] at h
 split at h
 .exact h.elim
 rename_i o ho
 split at h
 .rename_i hg
  obtain ⟨l, e, h1, h2⟩ := h
  exact ⟨o, l, e, ho, by unfold DH; rw [hg]; exact h1, h2⟩
 rename_i j want hg
 have hgl : Dq (st.at (base + i)) ops j = Dq st ops j := rfl
 split at h
 .rename_i b hb
  by_cases e : b = want
  .obtain ⟨l, e', h1, h2⟩ := h.1 e
   exact ⟨o, l, e', ho, by unfold DH; rw [hg]; simp only [hgl, hb]; rw [if_pos e]; exact h1, h2⟩
  exact ⟨o, .und, .keep, ho, by unfold DH; rw [hg]; simp only [hgl, hb]; rw [if_neg e]; simp, h.2 (by cases b <;> cases want <;> simp_all)⟩
 .rename_i hb
  exact ⟨o, .und, .keep, ho, by unfold DH; rw [hg]; simp [hgl, hb], h⟩
 exact h.elim
theorem ID (q : Bool) (hq : q = true -> ∃ b, AB.calm = some b) : ∀ (order : List Nat) (listed : Array Bool) (st : St), G6 q AB.own md ops order listed = true -> (∀ k, listed.getD k true = false -> AF (base + k) st.heap = none) ->
  Gp P AB ops base K order st -> IV P AB md ops base K order.length listed st
 | [], listed, st, hok, _, h => ⟨by simpa [G6] using hok, st, GP.refl st, h⟩
 | i :: rest, listed, st, hok, hfresh, h => by
  obtain ⟨o, l, e, ho, hd, hrest⟩ := NB h
  simp only [G6, ho, Bool.and_eq_true, Bool.or_eq_true] at hok
  have hrec : IV P AB md ops base K rest.length (listed.setIfInBounds i true) (apS st (base + i) o l e) := by
   refine ID q hq rest _ _ hok.2 (fun k hk => ?_) hrest
   have hik : i ≠ k := by
    rintro rfl
    rcases Nat.lt_or_ge i listed.size with h' | h'
    .simp [h'] at hk
    simp [Array.getElem?_eq_none h'] at hk
   rw [Br]
   exact Lp hd (by simp only [St.at]; omega) (hfresh k (by rw [getD_set_ne true hik] at hk; exact hk))
  rcases hok.1 with h1 | h1
  .have hr : Region.ready md ops listed = [i] := by simpa using h1
   refine ⟨fun h0 => (by rw [hr] at h0; cases h0), fun j hj => ?_⟩
   rw [hr] at hj
   simp at hj
   subst hj
   exact ⟨o, l, e, ho, hd, hrec⟩
  obtain ⟨h1, h2⟩ := h1
  simp only [PI, Bool.and_eq_true, List.all_eq_true, List.mem_range] at h2
  obtain ⟨h2, h3⟩ := h2
  generalize hBe : NA md ops listed i = B at h2 h3
  refine QY q hq ho (fun j => B.contains j) (fun j hj => ?_) rest.length listed st (fun j hj => ?_) (fun j oj hoj hji hun hBj => ?_) hfresh (by simpa using h1) hd hrec
  .have := h2 j (by simpa using hj)
   obtain ⟨⟨a1, a2⟩, a3⟩ := this
   refine ⟨by simpa using a1, fun oj hoj => ?_⟩
   rw [hoj] at a3
   obtain ⟨x, hx, hx2⟩ := Array.any_eq_true'.1 a3
   simp only [Bool.and_eq_true, Bool.or_eq_true, beq_iff_eq] at hx2
   exact ⟨x, hx, hx2.1, hx2.2⟩
  .have := (h2 j (by simpa using hj)).1.2
   simpa using this
  have := h3 j (Array.getElem?_eq_some_iff.1 hoj).1
  simp only [Bool.or_eq_true, beq_iff_eq, hji, false_or, hun, Bool.false_eq_true] at this
  rw [hBj] at this
  simp only [Bool.false_eq_true, false_or, hoj, Bool.and_eq_true] at this
  refine ⟨this.1, this.2.1, fun ho => ?_⟩
  have := this.2.2
  rw [ho] at this; simpa using this
theorem X2 {μ : Nat -> Option Bf} {h h' : AQ} (he : ∀ id, AF id h = AF id h') : CA μ h = CA μ h' := by
 funext b; simp only [CA, he]
theorem RF.eqv {F : Nat -> Prop} {st st' : St} {a : Act} {w : World} (h : RF A F st a w) (he : GP st st') : RF A F st' a w := by
 obtain ⟨⟨μ, hh, hs⟩, hnt, hdef⟩ := h
 have hm : CA μ st.heap = CA μ st'.heap := X2 he.heap
 have ho : Aj A μ st.heap = Aj A μ st'.heap := by funext b; simp only [Aj, hm]
 refine ⟨⟨μ, ⟨?_, ?_, hh.fresh, ?_, hh.size, hh.block, hh.os, hh.tape, hh.output, hh.ext⟩, fun t ht => ?_⟩, by rw [<- he.nt]; exact hnt, hdef⟩
 .rw [<- ho]; intro id o; rw [<- he.heap]; exact hh.obj id o
 .intro id id' o o' loc loc'; rw [<- he.heap, <- he.heap]; exact hh.inj id id' o o' loc loc'
 .intro id o loc; rw [<- he.heap]; exact hh.base id o loc
 rw [<- ho, <- he.slots]; exact hs t (by rw [he.nt]; exact ht)
def Fl (base n : Nat) (listed : Array Bool) (id : Nat) : Prop := base + n <= id \/ ∃ i, i < n /\ listed.getD i true = false /\ id = base + i
theorem IE (hE : BB P AB) {n : Nat} (hn : n = ops.size) {Q' : Exit -> Act -> World -> Prop} (hQ : ∀ st a w listed, K st -> RF A (Fl base n listed) st a w -> Q' .normal a w) :
  ∀ (fuel : Nat) (listed : Array Bool) (st : St) (a : Act) (w : World), listed.size = n -> IV P AB md ops base K fuel listed st -> RF A (Fl base n listed) st a w -> wpAny P md ops Q' fuel listed a w
 | 0, listed, st, a, w, _, ⟨h1, st', he, hk⟩, hR => ⟨h1, hQ st' a w listed hk (hR.eqv he)⟩
 | fuel + 1, listed, st, a, w, hsz, ⟨h1, h2⟩, hR => by
  refine ⟨fun h0 => ?_, fun i hi => ?_⟩
  .obtain ⟨st', he, hk⟩ := h1 h0
   exact hQ st' a w listed hk (hR.eqv he)
  obtain ⟨o, l, e, ho, hd, hrec⟩ := h2 i hi
  have hun := (mem_ready.1 hi).1
  have hlt : i < n := by rw [hn]; exact (Array.getElem?_eq_some_iff.1 ho).1
  refine Pu (st := st.at (base + i)) hE ho ⟨hR.ex, hR.nt, hR.defers⟩ (.inr ⟨i, hlt, hun, rfl⟩) ⟨base + n, fun q hq => .inl hq⟩ hd fun a' w' hR' => ?_
  refine IE hE hn hQ fuel _ _ _ _ (by simpa using hsz) hrec ?_
  have hR'' : RF A (fun id => Fl base n listed id /\ id ≠ base + i) (apS st (base + i) o l e) a' w' := by
   obtain ⟨⟨μ, x1, x2⟩, x3, x4⟩ := hR'
   refine ⟨⟨μ, ?_, fun t ht => ?_⟩, ?_, x4⟩
   .rw [Br] at x1 ⊢; exact x1
   .have := x2 t (by rw [GQ] at ht ⊢; exact ht)
    rw [Br, DA] at this
    rw [Br, DA]; exact this
   rw [GQ] at x3 ⊢; exact x3
  obtain ⟨⟨μ, x1, x2⟩, x3, x4⟩ := hR''
  refine ⟨⟨μ, x1.less fun id hid => ?_, x2⟩, x3, x4⟩
  rcases hid with hid | ⟨k, hk1, hk2, rfl⟩
  .exact ⟨.inl hid, by omega⟩
  have hik : i ≠ k := by
   rintro rfl
   simp [show i < listed.size by omega] at hk2
  exact ⟨.inr ⟨k, hk1, by rw [getD_set_ne true hik] at hk2; exact hk2, rfl⟩, by omega⟩
theorem Ag.drawn {O : Nat -> Prop} {μ : Nat -> Option Bf} {w : World} {v : Value} {l : LV} (n : Nat) (h : Ag O μ w v l) : Ag O μ { w with drawn := n } v l :=
 Ag.mono (w := w) (w' := { w with drawn := n }) ⟨Nat.le_refl _, fun _ _ _ => rfl⟩ (fun _ _ hb => hb) (fun _ _ h => h) h
theorem R.drawn {st : St} {a : Act} {w : World} (n : Nat) (h : R A st a w) : R A st a { w with drawn := n } := by
 obtain ⟨⟨μ, hh, hs⟩, hnt, hdef⟩ := h
 refine ⟨⟨μ, ⟨fun id o ho => ?_, hh.inj, hh.fresh, hh.base, hh.size, hh.block, hh.os, hh.tape, hh.output, hh.ext⟩, fun t ht => (hs t ht).drawn n⟩, hnt, hdef⟩
 obtain ⟨loc, h1, h2⟩ := hh.obj id o ho
 exact ⟨loc, h1, ED.mono (w := w) (w' := { w with drawn := n }) ⟨Nat.le_refl _, fun _ _ _ => rfl⟩ (fun _ _ hb => hb) (fun _ _ h => h) (fun _ => rfl) h2⟩
theorem HZ (q : Bool) (hq : q = true -> ∃ b, AB.calm = some b) (hE : BB P AB) (hm : P.follows .mixedOrders = true) {id : Nat} {l : List Oper} {order : List Nat} (hok : G6 q AB.own .any l.toArray order (Array.replicate l.length false) = true)
  (hlen : order.length = l.length) {st : St} {Q : Exit -> St -> Prop} (h : Gp P AB l.toArray st.ctr (fun st' => Q .normal { st' with ctr := st.ctr + l.length }) order st) :
  CD P A (.region id l.toArray true) Q st := fun a w hR => by
 refine wp_region_any hm ?_
 have hR' := (hR.drawn (w.drawn + 1)).toRF
 have hfr : ∀ k, AF (st.ctr + k) st.heap = none := by
  intro k
  cases hx : AF (st.ctr + k) st.heap with
  | none => rfl
  | some o =>
   obtain ⟨⟨μ, hh, _⟩, _, _⟩ := hR
   obtain ⟨loc, h1, _⟩ := hh.obj _ _ hx
   rw [hh.fresh _ (by simp [Fr])] at h1; cases h1
 have hD := ID q hq order (Array.replicate l.length false) st hok (fun k _ => hfr k) h
 have hsz : l.toArray.size = order.length := by simp [hlen]
 rw [hsz]
 have hrep : Array.replicate order.length false = Array.replicate l.length false := by rw [hlen]
 rw [hrep]
 refine IE (A := A) (n := l.length) hE (by simp) (fun st' a' w' listed hk hR'' => ?_) order.length _ st a _ (by simp) hD ?_
 .refine ⟨_, ?_, hk⟩
  obtain ⟨⟨μ, x1, x2⟩, x3, x4⟩ := hR''
  exact ⟨⟨μ, x1.less fun id hid => .inl hid, x2⟩, x3, x4⟩
 obtain ⟨⟨μ, x1, x2⟩, x3, x4⟩ := hR'
 refine ⟨⟨μ, x1.less fun id hid => ?_, x2⟩, x3, x4⟩
 rcases hid with hid | ⟨k, _, _, rfl⟩
 .simp only [Fr]; omega
 simp [Fr]
end
end Go.E
/- Equality and keys of flat structs; operations in a short form, for the walk of a function. No condition. -/
namespace Go.E
open Go Go.RowKit
def Fu : Option TypeDesc -> Sh -> Bool
 | some (.int j), .int j' => j == j'
 | some .string, .str => true
 | some .bool, .bool => true
 | _, _ => false
def FX (P : Program) : List Field -> Nat -> List Sh -> Bool
 | [], _, [] => true
 | f :: fs, off, k :: ks => f.name != "_" && f.offset == off && Fu (P.underlying f.type) k && FX P fs (off + 1) ks
 | _, _, _ => false
section
variable {P : Program}
theorem Kd {t : TypeId} {k : Sh} (h : Fu (P.underlying t) k = true) {xs : Array Value} {off : Nat} {v : Value} (hx : xs[off]? = some v) (w : World) : (part t xs off).run P w = .ok v w := by
 cases hu : P.underlying t with
 | none => rw [hu] at h; simp [Fu] at h
 | some d =>
  rw [hu] at h
  cases d <;> simp [Fu] at h <;> simp [part, isAgg, run_underlying hu, hx]
theorem Ra {t : TypeId} {k : Sh} {a b : DV} (h : Fu (P.underlying t) k = true) (ha : C5 k a = true) (hb : C5 k b = true) (d : Nat) (w : World) :
  (Op.equalIn (d + 1) t (flatV a) (flatV b)).run P w = .ok (EJ a b) w := by
 cases hu : P.underlying t with
 | none => rw [hu] at h; simp [Fu] at h
 | some dd =>
  rw [hu] at h
  cases dd <;> cases k <;> simp [Fu] at h <;> cases a <;> simp only [C5, Bool.false_eq_true] at ha <;> cases b <;> simp only [C5, Bool.false_eq_true] at hb
  .simp [flatV, EJ, Op.equalIn, run_underlying hu]
  .simp only [beq_iff_eq] at ha hb
   subst ha; subst hb
   simp [flatV, EJ, Op.equalIn, run_underlying hu]
  simp [flatV, EJ, Op.equalIn, run_underlying hu, beq_toListBytes]
theorem Kr (d : Nat) (w : World) (xs ys : List DV) : ∀ (fs : List Field) (off : Nat) (ks : List Sh) (xa bs : List DV), FX P fs off ks = true -> xs.drop off = xa -> ys.drop off = bs -> fits ks xa = true -> fits ks bs = true ->
  (Op.eqFields (d + 1) (xs.map flatV).toArray (ys.map flatV).toArray fs).run P w = .ok (C0 xa bs) w
 | [], off, [], [], [], _, _, _, _, _ => by simp [Op.eqFields, C0]
 | f :: fs, off, k :: ks, a :: xa, b :: bs, hB, hx, hy, ha, hb => by
  simp only [FX, Bool.and_eq_true, bne_iff_ne, ne_eq, beq_iff_eq] at hB
  simp only [fits, Bool.and_eq_true] at ha hb
  obtain ⟨⟨⟨h1, h2⟩, h3⟩, h4⟩ := hB
  have ex : xs[off]? = some a := by
   have := congrArg List.head? hx
   rw [List.head?_drop] at this; exact this
  have ey : ys[off]? = some b := by
   have := congrArg List.head? hy
   rw [List.head?_drop] at this; exact this
  have hx' : xs.drop (off + 1) = xa := by rw [<- List.tail_drop, hx]; rfl
  have hy' : ys.drop (off + 1) = bs := by rw [<- List.tail_drop, hy]; rfl
  have ih := Kr d w xs ys fs (off + 1) ks xa bs h4 hx' hy' ha.2 hb.2
  have px := Kd (w := w) h3 (xs := (xs.map flatV).toArray) (off := off) (v := flatV a) (by simp [ex])
  have py := Kd (w := w) h3 (xs := (ys.map flatV).toArray) (off := off) (v := flatV b) (by simp [ey])
  have pe := Ra h3 ha.1 hb.1 d w
  simp only [Op.eqFields, h1, h2, ne_eq, not_false_eq_true, if_true, Sem.run_bind, px, py, pe, Result.andThen_ok, C0]
  cases EJ a b with
  | true => simpa using ih
  | false => simp
 | [], _, _ :: _, _, _, hB, _, _, _, _ => by simp [FX] at hB
 | _ :: _, _, [], _, _, hB, _, _, _, _ => by simp [FX] at hB
 | [], _, [], _ :: _, _, _, _, _, ha, _ => by simp [fits] at ha
 | [], _, [], [], _ :: _, _, _, _, _, hb => by simp [fits] at hb
 | _ :: _, _, _ :: _, [], _, _, _, _, ha, _ => by simp [fits] at ha
 | _ :: _, _, _ :: _, _ :: _, [], _, _, _, _, hb => by simp [fits] at hb
theorem OQ {t : TypeId} {ks : List Sh} (hu : P.underlying t = some (.struct (P.fieldsOf t))) (hp : P.stoodInHeld t = false) (hg : P.eqGuardType P.depth t = false)
  (hf : FX P (P.fieldsOf t).toList 0 ks = true) : Pw P t ks :=
 ⟨hg, fun w ds es h1 h2 => by
  show (Op.equalIn (9999 + 1) t _ _).run P w = _
  rw [run_equalIn_struct w 9999 t _ _ hu hp]
  exact Kr 9998 w ds es _ 0 ks ds es hf rfl rfl h1 h2⟩
theorem LD (em : Bool) (d : Nat) (w : World) (xs : List DV) : ∀ (fs : List Field) (off : Nat) (ks : List Sh) (xa : List DV), FX P fs off ks = true -> xs.drop off = xa -> fits ks xa = true ->
  (forIn fs PUnit.unit fun f (_ : PUnit) => (do
   if f.name ≠ "_" then Instr.checkKey em (d + 1) f.type (<- part f.type (xs.map flatV).toArray f.offset)
   pure (ForInStep.yield PUnit.unit) : Sem (ForInStep PUnit))).run P w = .ok PUnit.unit w
 | [], off, [], [], _, _, _ => by simp
 | f :: fs, off, k :: ks, a :: xa, hB, hx, ha => by
  simp only [FX, Bool.and_eq_true, bne_iff_ne, ne_eq, beq_iff_eq] at hB
  simp only [fits, Bool.and_eq_true] at ha
  obtain ⟨⟨⟨h1, h2⟩, h3⟩, h4⟩ := hB
  have ex : xs[off]? = some a := by
   have := congrArg List.head? hx
   rw [List.head?_drop] at this; exact this
  have hx' : xs.drop (off + 1) = xa := by rw [<- List.tail_drop, hx]; rfl
  have ih := LD em d w xs fs (off + 1) ks xa h4 hx' ha.2
  have px := Kd (w := w) h3 (xs := (xs.map flatV).toArray) (off := off) (v := flatV a) (by simp [ex])
  have pc : (Instr.checkKey em (d + 1) f.type (flatV a)).run P w = .ok () w := by
   cases hu : P.underlying f.type with
   | none => rw [hu] at h3; simp [Fu] at h3
   | some dd =>
    rw [hu] at h3
    cases dd <;> simp [Fu] at h3 <;> simp [Instr.checkKey, run_underlying hu]
  simp only [List.forIn_cons, Sem.run_bind, h1, ne_eq, not_false_eq_true, if_true, h2, px, pc, Result.andThen_ok, Sem.run_pure]
  exact ih
 | [], _, _ :: _, _, hB, _, _ => by simp [FX] at hB
 | _ :: _, _, [], _, hB, _, _ => by simp [FX] at hB
 | [], _, [], _ :: _, _, _, ha => by simp [fits] at ha
 | _ :: _, _, _ :: _, [], _, _, ha => by simp [fits] at ha
theorem Vx {t : TypeId} {ks : List Sh} (hu : P.underlying t = some (.struct (P.fieldsOf t))) (he : Pw P t ks) (hf : FX P (P.fieldsOf t).toList 0 ks = true) : QZ P t ks := by
 refine ⟨he, by rw [hu]; trivial, fun em w ds h => ?_⟩
 show (Instr.checkKey em (9999 + 1) t _).run P w = _
 unfold Instr.checkKey
 simp only [Sem.run_bind, run_underlying hu, Result.andThen_ok]
 have := LD (P := P) em 9998 w ds (P.fieldsOf t).toList 0 ks ds hf rfl h
 simp only [Array.forIn_toList] at this
 simp at this ⊢
 rw [this]; rfl
end
def St.keep (ts : List Nat) (st : St) : St := { st with slots := ts.map fun t => (t, Bo st.slots t) }
theorem SE {st : St} {t : Nat} : ∀ (ts : List Nat), AF t (ts.map fun t => (t, Bo st.slots t)) = if t ∈ ts then some (Bo st.slots t) else none
 | [] => by simp [AF]
 | u :: ts => by
  simp only [List.map_cons, AF]
  by_cases e : t = u
  .subst e; simp
  rw [if_neg e, SE ts]; simp [e]
theorem R.keep {A : BP} {st : St} {a : Act} {w : World} (ts : List Nat) (h : R A st a w) : R A (st.keep ts) a w := by
 obtain ⟨⟨μ, hh, hs⟩, hnt, hdef⟩ := h
 refine ⟨⟨μ, hh, fun t ht => ?_⟩, hnt, hdef⟩
 have : Bo (st.keep ts).slots t = if t ∈ ts then Bo st.slots t else .any := by
  show (match AF t (ts.map fun t => (t, Bo st.slots t)) with | some v => v | none => LV.any) = _
  rw [SE]
  by_cases e : t ∈ ts <;> simp [e]
 rw [this]
 split
 .exact hs t ht
 exact .any _
end Go.E
/- The walk of a function: operations in a short form (EU), rules for the parts of a body, states made weaker (BA). No condition. -/
namespace Go.E
open Go Go.RowKit
structure Hs where
 dst : Option Tmp
 op : Op
 g : Option (Option Tmp × Bool)
def Vz (ops : List Oper) (j : Nat) : Option Tmp :=
 match ops[j]? with
 | some o => o.dst
 | none => none
def OR (ops : List Oper) (o : Oper) : Hs :=
 ⟨o.dst, o.op, match o.guard with
  | none => none
  | some (j, w) => some (Vz ops j, w)⟩
structure Ik {α : Sort _} (a : α) : Type where
structure BC (α : Type) where
 f : α -> Prop
 h : Ik f
def CZ {α : Type} (o : Option α) (k : BC α) : Prop :=
 match o with
 | some a => k.f a
 | none => False
def TB (x : LV) (k : BC Bool) : Prop :=
 match x with
 | .p (.bool b) => k.f b
 | _ => False
def NC (x : LV) (k : BC (IntKind × Int)) : Prop :=
 match x with
 | .p (.int kk n) => k.f (kk, n)
 | _ => False
def SF (x : LV) (k : BC DV) : Prop :=
 match x with
 | .p d => k.f d
 | _ => False
def MN (s : Sh) (k : BC Nat) : Prop :=
 match s with
 | .slc e => k.f e
 | _ => False
def PK (s : Sh) (k : BC (List (Nat × Nat))) : Prop :=
 match s with
 | .struct fs => k.f fs
 | _ => False
def Tb (s : Sh) (k : BC (Nat × Nat)) : Prop :=
 match s with
 | .mp a b => k.f (a, b)
 | _ => False
def C6 (AB : A9) (t : Nat) (k : BC TI) : Prop := CZ (AB.tt t) k
def X3 (x : LV) (k : BC LV) : Prop :=
 match x with
 | .lpb i o => k.f (.lpb i o)
 | .lpe i j o => k.f (.lpe i j o)
 | .p (.place l o) => k.f (.p (.place l o))
 | _ => False
def Mi (op : BinOp) (kk : IntKind) (a b : Int) (k : BC LV) : Prop :=
 match op with
 | .quo | .rem => b ≠ 0 /\ CZ (G7 op kk a b) ⟨fun v => k.f (.p v), ⟨⟩⟩
 | _ => CZ (G7 op kk a b) ⟨fun v => k.f (.p v), ⟨⟩⟩
def W1 (neg : Bool) (empty : Prop) (k : BC LV) : Prop := ∀ r, (¬ empty -> r = false) -> k.f (Iy neg r)
def VA (AB : A9) (neg : Bool) (t : Nat) (x y : LV) (k : BC LV) : Prop :=
 match x, y with
 | .p (.str a), .p (.str b) => k.f (Iy neg (a.toList == b.toList))
 | .p (.bool a), .p (.bool b) => C6 AB t ⟨fun ti => ti.sh = .bool /\ k.f (Iy neg (a == b)), ⟨⟩⟩
 | .p (.agg xs), .p (.agg ys) => CZ (AB.eqk t) ⟨fun ks => fits ks xs = true /\ fits ks ys = true /\ k.f (Iy neg (C0 xs ys)), ⟨⟩⟩
 | .p (.slice _ l), .p .nils => C6 AB t ⟨fun ti => MN ti.sh ⟨fun _ => W1 neg (l = []) k, ⟨⟩⟩, ⟨⟩⟩
 | .p .nils, .p .nils => C6 AB t ⟨fun ti => MN ti.sh ⟨fun _ => k.f (Iy neg true), ⟨⟩⟩, ⟨⟩⟩
 | .lsl _ _ _ len, .p .nils => C6 AB t ⟨fun ti => MN ti.sh ⟨fun _ => W1 neg (len = 0) k, ⟨⟩⟩, ⟨⟩⟩
 | .p (.place _ _), .p .nilp => AB.ptr t = true /\ k.f (Iy neg false)
 | .p .nilp, .p .nilp => AB.ptr t = true /\ k.f (Iy neg true)
 | .lpb _ _, .p .nilp => AB.ptr t = true /\ k.f (Iy neg false)
 | _, _ => False
def Rb (AB : A9) (op : BinOp) (t : Nat) (x y : LV) (k : BC LV) : Prop :=
 match x, y with
 | .p (.int k1 a), .p (.int k2 b) => k1 = k2 /\ Mi op k1 a b k
 | x, y => match op with
  | .eql => VA AB false t x y k
  | .neq => VA AB true t x y k
  | _ => False
def X4 (x : LV) (i : Nat) (k : BC LV) : Prop :=
 match x with
 | .tup l => CZ l[i]? k
 | .p (.tup l) => CZ l[i]? ⟨fun v => k.f (.p v), ⟨⟩⟩
 | _ => False
def X5 (x : LV) (k : BC (List LV)) : Prop :=
 match x with
 | .agg l => k.f l
 | .p (.agg l) => k.f (l.map .p)
 | _ => False
def V0 (off : Nat) (x : LV) (k : BC LV) : Prop :=
 match x with
 | .lpb id o => k.f (.lpb id (o + off))
 | .lpe id j o => k.f (.lpe id j (o + off))
 | .p (.place l o) => k.f (.p (.place l (o + off)))
 | _ => False
def LF (AB : A9) (place : Nat -> Option (Nat × Nat)) : List LV -> List (Nat × LV) -> BC (List LV) -> Prop
 | cells, [], k => k.f cells
 | cells, (i, v) :: rest, k => CZ (place i) ⟨fun p => C6 AB p.2 ⟨fun ti => CZ v.cells ⟨fun ls => (ls.length = ti.size /\ p.1 + ls.length <= cells.length) /\
   LF AB place (Cz cells p.1 ls) rest k, ⟨⟩⟩, ⟨⟩⟩, ⟨⟩⟩
def OT (AB : A9) (sh : Sh) (zero : List LV) (ps : List (Nat × LV)) (k : BC (List LV)) : Prop :=
 match sh with
 | .struct fs => (fs.all fun p => (AB.tt p.2).isSome) = true /\ LF AB (fun i => fs[i]?) zero ps k
 | .arr _ e => C6 AB e ⟨fun te => LF AB (fun i => some (i * te.size, e)) zero ps k, ⟨⟩⟩
 | _ => False
def iaS (AB : A9) (sh : Sh) (x : LV) (n : Int) (k : BC LV) : Prop :=
 match sh, x with
 | .slc e, .p (.slice sz l) => C6 AB e ⟨fun te => te.size = sz /\ 0 <= n /\ CZ l[n.toNat]? ⟨fun c => k.f (.p (.place c 0)), ⟨⟩⟩, ⟨⟩⟩
 | .slc e, .lsl id sz off len => C6 AB e ⟨fun te => te.size = sz /\ (0 <= n /\ n < len) /\ k.f (.lpe id (off + n.toNat) 0), ⟨⟩⟩
 | .arr m e, .lpb id o => C6 AB e ⟨fun te => (0 <= n /\ n < m) /\ k.f (.lpb id (o + n.toNat * te.size)), ⟨⟩⟩
 | .arr m e, .p (.place l o) => C6 AB e ⟨fun te => (0 <= n /\ n < m) /\ k.f (.p (.place l (o + n.toNat * te.size))), ⟨⟩⟩
 | _, _ => False
def ixS (AB : A9) (sh : Sh) (x : LV) (n : Int) (k : BC LV) : Prop :=
 match sh, x with
 | .arr m e, .agg l => C6 AB e ⟨fun te => n < m /\ CZ (Dy te (n.toNat * te.size) l) k, ⟨⟩⟩
 | .arr m e, .p (.agg l) => C6 AB e ⟨fun te => n < m /\ CZ (Dy te (n.toNat * te.size) (l.map .p)) k, ⟨⟩⟩
 | .str, .p (.str s) => CZ s[n.toNat]? ⟨fun c => k.f (.p (.int .u8 c.toNat)), ⟨⟩⟩
 | _, _ => False
def LG (dflt : Int) (x : Option LV) (k : BC Int) : Prop :=
 match x with
 | none => k.f dflt
 | some (.p (.int _ n)) => k.f n
 | some _ => False
def LH (AB : A9) (t : Nat) (x : LV) (lo hi : Option LV) (k : BC LV) : Prop :=
 match x with
 | .p (.slice sz l) => C6 AB t ⟨fun ti => MN ti.sh ⟨fun e => C6 AB e ⟨fun te => te.size = sz /\ LG l.length hi ⟨fun h => LG 0 lo ⟨fun lw => (0 <= lw /\ lw <= h /\ h <= l.length) /\ k.f (.p (.slice sz ((l.take h.toNat).drop lw.toNat))), ⟨⟩⟩, ⟨⟩⟩, ⟨⟩⟩, ⟨⟩⟩, ⟨⟩⟩
 | .lsl id sz off len => C6 AB t ⟨fun ti => MN ti.sh ⟨fun e => C6 AB e ⟨fun te => te.size = sz /\ (len ≠ 0 \/ off = 0) /\ LG len hi ⟨fun h => LG 0 lo ⟨fun lw => (0 <= lw /\ lw <= h /\ h <= len) /\ k.f (.lsl id sz (off + lw.toNat) (h - lw).toNat), ⟨⟩⟩, ⟨⟩⟩, ⟨⟩⟩, ⟨⟩⟩, ⟨⟩⟩
 | .p (.str s) => C6 AB t ⟨fun ti => ti.sh = .str /\ LG s.size hi ⟨fun h => LG 0 lo ⟨fun lw => (0 <= lw /\ lw <= h /\ h <= s.size) /\ k.f (.p (.str (s.extract lw.toNat h.toNat))), ⟨⟩⟩, ⟨⟩⟩, ⟨⟩⟩
 | _ => False
def X6 (sh : Sh) (x : LV) (k : BC LV) : Prop :=
 match sh, x with
 | .arr n _, _ => k.f (.p (.int .i64 n))
 | .slc _, .p (.slice _ l) => l.length <= maxLen -> k.f (.p (.int .i64 l.length))
 | .slc _, .p .nils => k.f (.p (.int .i64 0))
 | .slc _, .lsl _ _ _ len => k.f (.p (.int .i64 len))
 | .str, .p (.str s) => k.f (.p (.int .i64 s.size))
 | _, _ => False
def V1 (o : BE) (k : BC (List LV)) : Prop :=
 match o with
 | .box cells => k.f cells
 | _ => False
def Tc (o : BE) (k : BC (Nat × Nat × List (List DV))) : Prop :=
 match o with
 | .row e sz l => k.f (e, sz, l)
 | _ => False
def Rc (o : BE) (k : BC (List (DV × DV))) : Prop :=
 match o with
 | .map m => k.f m
 | _ => False
def Qb (h : AQ) (ti : TI) (p : LV) (k : BC LV) : Prop :=
 match p with
 | .p (.place l off) => CZ (Dy ti off (l.map .p)) k
 | .lpb id off => CZ (AF id h) ⟨fun o => V1 o ⟨fun cells => CZ (Dy ti off cells) k, ⟨⟩⟩, ⟨⟩⟩
 | .lpe id i off => CZ (AF id h) ⟨fun o => Tc o ⟨fun r => CZ r.2.2[i]? ⟨fun x => CZ (Dy ti off (x.map .p)) k, ⟨⟩⟩, ⟨⟩⟩, ⟨⟩⟩
 | _ => False
def Td (h : AQ) (ti : TI) (p : LV) (ls : List LV) (k : BC AQ) : Prop :=
 match p with
 | .lpb id off => CZ (AF id h) ⟨fun o => V1 o ⟨fun cells => off + ls.length <= cells.length /\ k.f (Bv id (.box (Cz cells off ls)) h), ⟨⟩⟩, ⟨⟩⟩
 | .lpe id i off => CZ (AF id h) ⟨fun o => Tc o ⟨fun r => CZ r.2.2[i]? ⟨fun x => CZ (G8 ls) ⟨fun ds => off + ls.length <= x.length /\ k.f (Bv id (.row r.1 r.2.1 (r.2.2.set i (Cz x off ds))) h), ⟨⟩⟩, ⟨⟩⟩, ⟨⟩⟩, ⟨⟩⟩
 | _ => False
def St.go (st : St) (dst : Option Tmp) (l : LV) (h : AQ) (c : Nat) : St := ({ st with heap := h, ctr := c } : St).put dst l
def Te (st : St) (dst : Option Tmp) (e : Nat) (te : TI) (s : LV) (new : List (List DV)) (K : BC St) : Prop :=
  match s with
  | .p .nils => (new.length * te.bytes <= 140737488355328 /\ new.length <= maxLen) /\ K.f (st.go dst (.lsl st.ctr te.size 0 new.length) ((st.ctr, .row e te.size new) :: st.heap) (st.ctr + 1))
  | .lsl id sz off len => sz = te.size /\ CZ (AF id st.heap) ⟨fun o => Tc o ⟨fun r => (r.1 = e /\ r.2.1 = te.size /\ off + len <= r.2.2.length /\
        (len + new.length) * te.bytes <= 140737488355328 /\ len + new.length <= maxLen) /\ K.f (st.go dst (.lsl st.ctr te.size 0 (len + new.length)) ((st.ctr, .row e te.size ((r.2.2.drop off).take len ++ new)) :: Eb id st.heap) (st.ctr + 1)), ⟨⟩⟩, ⟨⟩⟩
  | _ => False
def PL (x : LV) (k : BC Nat) : Prop :=
 match x with
 | .lmap id => k.f id
 | _ => False
def Mj (x : LV) (k : BC (FuncId × List LV)) : Prop :=
 match x with
 | .fn f caps => k.f (f, caps)
 | _ => False
def Iz (P : Program) (A : BP) (h : AQ) (ctr k : Nat) (args : List LV) (K : BC (LV × AQ × Nat)) : Prop := DQ P A h ctr k args fun l h c => K.f (l, h, c)
def Kw (P : Program) (A : BP) (AB : A9) (st : St) (dst : Option Tmp) (c : Call) (K : BC St) : Prop :=
 match c.callee, c.args.toList, c.argTypes.toList with
 | .value f, args, _ => Mj (st.eval f) ⟨fun g => Iz P A st.heap st.ctr g.1 (args.map st.eval ++ g.2) ⟨fun r => K.f (st.go dst r.1 r.2.1 r.2.2), ⟨⟩⟩, ⟨⟩⟩
 | .builtin .append, [s, x], [t, t'] => t' = t /\ C6 AB t ⟨fun ti => MN ti.sh ⟨fun e => C6 AB e ⟨fun te => 0 < te.size /\ CZ (HX st.heap (st.eval x)) ⟨fun new =>
   (∀ y ∈ new, y.length = te.size /\ y.all DV.cell = true) /\ Te st dst e te (st.eval s) new K, ⟨⟩⟩, ⟨⟩⟩, ⟨⟩⟩, ⟨⟩⟩
 | .builtin .delete, [x, i], t :: _ => C6 AB t ⟨fun ti => Tb ti.sh ⟨fun m => PL (st.eval x) ⟨fun id => CZ (AF id st.heap) ⟨fun o => Rc o ⟨fun l => SF (st.eval i) ⟨fun kd =>
   (Bn AB m.1 kd = true /\ (l.all fun p => Bn AB m.1 p.1) = true) /\ K.f (st.go dst (.tup []) (Bv id (.map (ND kd l)) st.heap) st.ctr), ⟨⟩⟩, ⟨⟩⟩, ⟨⟩⟩, ⟨⟩⟩, ⟨⟩⟩, ⟨⟩⟩
 | .builtin .len, [x], [t] => C6 AB t ⟨fun ti => X6 ti.sh (st.eval x) ⟨fun l => K.f (st.put dst l), ⟨⟩⟩, ⟨⟩⟩
 | .builtin .max, args, _ => CZ (CB (fun x y => if y > x then y else x) (args.map st.eval)) ⟨fun r => K.f (st.put dst (.p (.int r.1 r.2))), ⟨⟩⟩
 | .builtin .min, args, _ => CZ (CB (fun x y => if y < x then y else x) (args.map st.eval)) ⟨fun r => K.f (st.put dst (.p (.int r.1 r.2))), ⟨⟩⟩
 | _, _, _ => False
def V2 : Sh -> Option IntKind
 | .int k => some k
 | _ => none
def X7 (l : LV) (k : BC (List (DV × DV))) : Prop := match l with
 | .p .nilm => k.f []
 | .p (.map m) => k.f m
 | _ => False
def V3 (h : AQ) (l : LV) (k0 : Unit -> Prop) (k : Nat -> List (DV × DV) -> Nat -> DV × DV -> Prop) : Prop := match l with
 | .lpb id 0 => match AF id h with
  | some (.iter _ left) => (left = [] -> k0 ()) /\ ∀ j p, left[j]? = some p -> k id left j p
  | _ => False
 | _ => False
def V4 (h : AQ) (l : LV) (k : Nat -> DV × DV -> List (DV × DV) -> Prop) : Prop := match l with
 | .lpb id 0 => match AF id h with
  | some (.iter (some p) left) => k id p left
  | _ => False
 | _ => False
def BQ (P : Program) (A : BP) (AB : A9) (st : St) (dst : Option Tmp) (op : Op) (K : BC St) : Prop :=
 match op with
 | .move x | .assign x => K.f (st.put dst (st.eval x))
 | .pick c a b => TB (st.eval c) ⟨fun t => K.f (st.put dst (if t then st.eval a else st.eval b)), ⟨⟩⟩
 | .nilCheck x => X3 (st.eval x) ⟨fun l => K.f (st.put dst l), ⟨⟩⟩
 | .binOp op t x y _ => Rb AB op t (st.eval x) (st.eval y) ⟨fun l => K.f (st.put dst l), ⟨⟩⟩
 | .unOp .neg _ x => NC (st.eval x) ⟨fun n => K.f (st.put dst (.p (.int n.1 (n.1.wrap (0 - n.2))))), ⟨⟩⟩
 | .unOp .not _ x => TB (st.eval x) ⟨fun b => K.f (st.put dst (.p (.bool !b))), ⟨⟩⟩
 | .convert s d x => NC (st.eval x) ⟨fun n => C6 AB s ⟨fun _ => C6 AB d ⟨fun ti => CZ (V2 ti.sh) ⟨fun kd => K.f (st.put dst (.p (.int kd (kd.wrap n.2)))), ⟨⟩⟩, ⟨⟩⟩, ⟨⟩⟩, ⟨⟩⟩
 | .extract t i => X4 (st.eval t) i ⟨fun l => K.f (st.put dst l), ⟨⟩⟩
 | .field t x i => C6 AB t ⟨fun ti => PK ti.sh ⟨fun fs => CZ fs[i]? ⟨fun f => C6 AB f.2 ⟨fun tf => X5 (st.eval x) ⟨fun ls => CZ (Dy tf f.1 ls) ⟨fun l => K.f (st.put dst l), ⟨⟩⟩, ⟨⟩⟩, ⟨⟩⟩, ⟨⟩⟩, ⟨⟩⟩, ⟨⟩⟩
 | .build t ps => C6 AB t ⟨fun ti => OT AB ti.sh (ti.zero.map .p) (ps.toList.map fun p => (p.1, st.eval p.2)) ⟨fun cells => K.f (st.put dst (FO cells)), ⟨⟩⟩, ⟨⟩⟩
 | .fieldAddr t x i => C6 AB t ⟨fun ti => PK ti.sh ⟨fun fs => CZ fs[i]? ⟨fun f => C6 AB f.2 ⟨fun tf => tf.size ≠ 0 /\ V0 f.1 (st.eval x) ⟨fun l => K.f (st.put dst l), ⟨⟩⟩, ⟨⟩⟩, ⟨⟩⟩, ⟨⟩⟩, ⟨⟩⟩
 | .indexAddr t x i => NC (st.eval i) ⟨fun n => C6 AB t ⟨fun ti => iaS AB ti.sh (st.eval x) n.2 ⟨fun l => K.f (st.put dst l), ⟨⟩⟩, ⟨⟩⟩, ⟨⟩⟩
 | .index t x i => NC (st.eval i) ⟨fun n => C6 AB t ⟨fun ti => 0 <= n.2 /\ ixS AB ti.sh (st.eval x) n.2 ⟨fun l => K.f (st.put dst l), ⟨⟩⟩, ⟨⟩⟩, ⟨⟩⟩
 | .makeFunc (.func f) first caps => first.toList = [] /\ K.f (st.put dst (.fn f (caps.toList.map st.eval)))
 | .slice t x lo hi none => LH AB t (st.eval x) (lo.map st.eval) (hi.map st.eval) ⟨fun l => K.f (st.put dst l), ⟨⟩⟩
 | .load t x => C6 AB t ⟨fun ti => Qb st.heap ti (st.eval x) ⟨fun l => K.f (st.put dst l), ⟨⟩⟩, ⟨⟩⟩
 | .store t x v => C6 AB t ⟨fun ti => CZ (st.eval v).cells ⟨fun ls => (ls.length = ti.size /\ ls.all LV.one = true) /\ Td st.heap ti (st.eval x) ls ⟨fun h => K.f (st.go dst .any h st.ctr), ⟨⟩⟩, ⟨⟩⟩, ⟨⟩⟩
 | .alloc t => C6 AB t ⟨fun ti => K.f (st.go dst (.lpb st.ctr 0) ((st.ctr, .box (ti.zero.map .p)) :: st.heap) (st.ctr + 1)), ⟨⟩⟩
 | .box _ x => CZ (st.eval x).cells ⟨fun ls => K.f (st.go dst (.lpb st.ctr 0) ((st.ctr, .box ls) :: st.heap) (st.ctr + 1)), ⟨⟩⟩
 | .buildSlice t n ps => C6 AB t ⟨fun ti => MN ti.sh ⟨fun e => C6 AB e ⟨fun te => (0 < te.size /\ n * te.size <= 16777216) /\ CZ (G0 te.size 0 (ps.toList.map fun p => (p.1, st.eval p.2))) ⟨fun l =>
   l.length = n /\ (K.f (st.go dst (.lsl st.ctr te.size 0 n) ((st.ctr, .row e te.size l) :: st.heap) (st.ctr + 1)) \/ K.f (st.put dst (.p (.slice te.size l)))), ⟨⟩⟩, ⟨⟩⟩, ⟨⟩⟩, ⟨⟩⟩
 | .makeSlice t l c => C6 AB t ⟨fun ti => MN ti.sh ⟨fun e => C6 AB e ⟨fun te => NC (st.eval l) ⟨fun n => NC (st.eval c) ⟨fun n' => (n'.2 = n.2 /\ 0 <= n.2 /\ te.bytes * n.2.toNat <= 281474976710656 /\ n.2.toNat <= maxLen) /\
   (K.f (st.go dst (.lsl st.ctr te.size 0 n.2.toNat) ((st.ctr, .row e te.size (List.replicate n.2.toNat te.zero)) :: st.heap) (st.ctr + 1)) \/ K.f (st.put dst (.p (.slice te.size (List.replicate n.2.toNat te.zero))))), ⟨⟩⟩, ⟨⟩⟩, ⟨⟩⟩, ⟨⟩⟩, ⟨⟩⟩
 | .makeMap _ none => K.f (st.go dst (.lmap st.ctr) ((st.ctr, .map []) :: st.heap) (st.ctr + 1))
 | .lookup t x i ok => C6 AB t ⟨fun ti => Tb ti.sh ⟨fun m => C6 AB m.2 ⟨fun te => CZ (Kv st.heap (st.eval x)) ⟨fun l => SF (st.eval i) ⟨fun kd => (Bn AB m.1 kd = true /\ (l.all fun p => Bn AB m.1 p.1) = true) /\
   K.f (st.put dst (if ok then .tup [.p ((Hn kd l).getD (zV AB te)), .p (.bool (Hn kd l).isSome)] else .p ((Hn kd l).getD (zV AB te)))), ⟨⟩⟩, ⟨⟩⟩, ⟨⟩⟩, ⟨⟩⟩, ⟨⟩⟩
 | .mapUpdate t x i v => C6 AB t ⟨fun ti => Tb ti.sh ⟨fun m => PL (st.eval x) ⟨fun id => CZ (AF id st.heap) ⟨fun o => Rc o ⟨fun l => SF (st.eval i) ⟨fun kd => SF (st.eval v) ⟨fun vd =>
   (Bn AB m.1 kd = true /\ (l.all fun p => Bn AB m.1 p.1) = true) /\ K.f (st.go dst .any (Bv id (.map (MM kd vd l)) st.heap) st.ctr), ⟨⟩⟩, ⟨⟩⟩, ⟨⟩⟩, ⟨⟩⟩, ⟨⟩⟩, ⟨⟩⟩, ⟨⟩⟩
 | .mapEntry t x i => C6 AB t ⟨fun ti => Tb ti.sh ⟨fun m => C6 AB m.2 ⟨fun te => PL (st.eval x) ⟨fun id => CZ (AF id st.heap) ⟨fun o => Rc o ⟨fun l => SF (st.eval i) ⟨fun kd =>
   ((false && Bn AB m.1 kd) = true /\ (l.all fun p => Bn AB m.1 p.1) = true) /\
   K.f (st.go dst (.tup [.p ((Hn kd l).getD te.zeroDV), .p (.int .i64 (((DU kd l).map (·.1)).getD l.length))]) (match DU kd l with
    | some _ => st.heap
    | none => Bv id (.map (l ++ [(kd, te.zeroDV)])) st.heap) st.ctr), ⟨⟩⟩, ⟨⟩⟩, ⟨⟩⟩, ⟨⟩⟩, ⟨⟩⟩, ⟨⟩⟩, ⟨⟩⟩
 | .entryStore _ x s v => PL (st.eval x) ⟨fun id => CZ (AF id st.heap) ⟨fun o => Rc o ⟨fun m => NC (st.eval s) ⟨fun n => SF (st.eval v) ⟨fun vd => (0 <= n.2 /\ False) /\ CZ m[n.2.toNat]? ⟨fun p =>
   K.f (st.go dst .any (Bv id (.map (m.set n.2.toNat (p.1, vd))) st.heap) st.ctr), ⟨⟩⟩, ⟨⟩⟩, ⟨⟩⟩, ⟨⟩⟩, ⟨⟩⟩, ⟨⟩⟩
 | .range t x => C6 AB t ⟨fun ti => Tb ti.sh ⟨fun _ => X7 (st.eval x) ⟨fun m => K.f (st.go dst (.lpb st.ctr 0) ((st.ctr, .iter none m) :: st.heap) (st.ctr + 1)), ⟨⟩⟩, ⟨⟩⟩, ⟨⟩⟩
 | .next x false => V3 st.heap (st.eval x) (fun _ => K.f (st.go dst (.tup [.p (.bool false)]) st.heap st.ctr)) fun id left j p => ∃ cur', (cur' = none \/ cur' = some p) /\ K.f (st.go dst (.tup [.p (.bool true), .p p.1, .p p.2]) (Bv id (.iter cur' (left.eraseIdx j)) st.heap) st.ctr)
 | .entry x => V4 st.heap (st.eval x) fun id p left => K.f (st.go dst (.tup [.p p.1, .p p.2]) (Bv id (.iter none left) st.heap) st.ctr)
 | .call c => Kw P A AB st dst c K
 | _ => False
def gW (b want : Bool) (X Y : BC Unit) : Prop := (b = want -> X.f ()) /\ (b = !want -> Y.f ())
def gM (v : LV) (want : Bool) (X Y : BC Unit) : Prop :=
 match v with
 | .p (.bool b) => gW b want X Y
 | .und => Y.f ()
 | _ => False
def GR (st : St) (d : Option Tmp) : LV :=
 match d with
 | some t => st.eval (.tmp t)
 | none => .any
structure AAP (K : BC St) (st : St) : Prop where
 h : K.f st
def EU (P : Program) (A : BP) (AB : A9) (K : BC St) : List Hs -> St -> Prop
 | [], st => AAP K st
 | ⟨dst, op, none⟩ :: rest, st => BQ P A AB st dst op ⟨EU P A AB K rest, ⟨⟩⟩
 | ⟨dst, op, some (d, want)⟩ :: rest, st => gM (GR st d) want ⟨fun _ => BQ P A AB st dst op ⟨EU P A AB K rest, ⟨⟩⟩, ⟨⟩⟩ ⟨fun _ => EU P A AB K rest (st.put dst .und), ⟨⟩⟩
section
variable {P : Program} {A : BP} {AB : A9}
theorem AX {α : Type} {o : Option α} {k : BC α} : CZ o k ↔ ∃ a, o = some a /\ k.f a := by cases o <;> simp [CZ]
theorem AW {t : Nat} {k : BC TI} : C6 AB t k ↔ ∃ a, AB.tt t = some a /\ k.f a := AX
theorem Lq {x : LV} {k : BC Bool} : TB x k ↔ ∃ b, x = .p (.bool b) /\ k.f b := by
 unfold TB; split <;> simp_all
theorem Cq {x : LV} {k : BC (IntKind × Int)} : NC x k ↔ ∃ kk n, x = .p (.int kk n) /\ k.f (kk, n) := by
 unfold NC; split
 .exact ⟨fun h => ⟨_, _, rfl, h⟩, fun ⟨_, _, e, h⟩ => by cases e; exact h⟩
 simp_all
theorem Dd {x : LV} {k : BC DV} : SF x k ↔ ∃ d, x = .p d /\ k.f d := by
 unfold SF; split <;> simp_all
theorem Cc {x : Sh} {k : BC Nat} : MN x k ↔ ∃ e, x = .slc e /\ k.f e := by
 unfold MN; split <;> simp_all
theorem FD {x : Sh} {k : BC (List (Nat × Nat))} : PK x k ↔ ∃ e, x = .struct e /\ k.f e := by
 unfold PK; split <;> simp_all
theorem EX {x : Sh} {k : BC (Nat × Nat)} : Tb x k ↔ ∃ a b, x = .mp a b /\ k.f (a, b) := by
 unfold Tb; split
 .exact ⟨fun h => ⟨_, _, rfl, h⟩, fun ⟨_, _, e, h⟩ => by cases e; exact h⟩
 simp_all
theorem Ev {x : LV} {k : BC Nat} : PL x k ↔ ∃ id, x = .lmap id /\ k.f id := by
 unfold PL; split <;> simp_all
theorem VB {x : LV} {k : BC (FuncId × List LV)} : Mj x k ↔ ∃ f c, x = .fn f c /\ k.f (f, c) := by
 unfold Mj; split
 .exact ⟨fun h => ⟨_, _, rfl, h⟩, fun ⟨_, _, e, h⟩ => by cases e; exact h⟩
 simp_all
theorem Fv {x : BE} {k : BC (List (DV × DV))} : Rc x k ↔ ∃ m, x = .map m /\ k.f m := by
 unfold Rc; split <;> simp_all
theorem Jb {x : BE} {k : BC (List LV)} : V1 x k ↔ ∃ m, x = .box m /\ k.f m := by
 unfold V1; split <;> simp_all
theorem Fw {x : BE} {k : BC (Nat × Nat × List (List DV))} : Tc x k ↔ ∃ a b c, x = .row a b c /\ k.f (a, b, c) := by
 unfold Tc; split
 .exact ⟨fun h => ⟨_, _, _, rfl, h⟩, fun ⟨_, _, _, e, h⟩ => by cases e; exact h⟩
 simp_all
theorem Jc {d : Int} {x : Option LV} {k : BC Int} {k' : Int -> Prop} (hk : ∀ n, k.f n -> k' n) (h : LG d x k) : GS d x k' := by
 unfold LG at h; unfold GS
 split at h <;> first | exact hk _ h | exact h.elim
theorem VC {neg : Bool} {t : Nat} {x y : LV} {k : BC LV} (h : VA AB neg t x y k) : SG AB neg t x y k.f := by
 unfold VA at h
 unfold SG
 split at h
 .exact h
 .obtain ⟨ti, h1, h2, h3⟩ := AW.1 h; exact ⟨⟨ti, h1, h2⟩, h3⟩
 .obtain ⟨ks, h1, h2⟩ := AX.1 h; exact ⟨ks, h1, h2⟩
 .obtain ⟨ti, h1, h2⟩ := AW.1 h
  obtain ⟨e, h3, h4⟩ := Cc.1 h2
  exact ⟨⟨ti, e, h1, h3⟩, h4⟩
 .obtain ⟨ti, h1, h2⟩ := AW.1 h
  obtain ⟨e, h3, h4⟩ := Cc.1 h2
  exact ⟨⟨ti, e, h1, h3⟩, h4⟩
 .obtain ⟨ti, h1, h2⟩ := AW.1 h
  obtain ⟨e, h3, h4⟩ := Cc.1 h2
  exact ⟨⟨ti, e, h1, h3⟩, h4⟩
 .exact h
 .exact h
 .exact h
 exact h.elim
theorem Pe {op : BinOp} {kk : IntKind} {a b : Int} {k : BC LV} (h : Mi op kk a b k) : ∃ v, G7 op kk a b = some v /\ k.f (.p v) := by
 unfold Mi at h
 split at h
 .exact AX.1 h.2
 .exact AX.1 h.2
 exact AX.1 h
theorem X8 {op : BinOp} {t : Nat} {x y : LV} {k : BC LV} (h : Rb AB op t x y k) : Rd AB op t x y k.f := by
 unfold Rb at h
 unfold Rd
 split at h
 .exact ⟨h.1, Pe h.2⟩
 rename_i hne
 split
 .exact absurd rfl (hne _ _ _ _ rfl)
 split at h
 .exact VC h
 .exact VC h
 exact h.elim
theorem NE {place : Nat -> Option (Nat × Nat)} {k : BC (List LV)} : ∀ {ps : List (Nat × LV)} {cells : List LV}, LF AB place cells ps k -> I2 AB place cells ps k.f
 | [], _, h => h
 | (i, v) :: rest, cells, h => by
  obtain ⟨p, h1, h⟩ := AX.1 h
  obtain ⟨ti, h2, h⟩ := AW.1 h
  obtain ⟨ls, h3, ⟨h4, h5⟩, h⟩ := AX.1 h
  exact ⟨p.1, p.2, ti, ls, h1, h2, h3, h4, h5, NE h⟩
theorem W2 {h : AQ} {ti : TI} {p : LV} {k : BC LV} (hl : Qb h ti p k) : Gn h ti p k.f := by
 unfold Qb at hl
 unfold Gn
 split at hl
 .exact AX.1 hl
 .obtain ⟨o, h1, hl⟩ := AX.1 hl
  obtain ⟨cells, rfl, hl⟩ := Jb.1 hl
  obtain ⟨r, h2, h3⟩ := AX.1 hl
  exact ⟨cells, r, h1, h2, h3⟩
 .obtain ⟨o, h1, hl⟩ := AX.1 hl
  obtain ⟨e, sz, elems, rfl, hl⟩ := Fw.1 hl
  obtain ⟨x, h2, hl⟩ := AX.1 hl
  obtain ⟨r, h3, h4⟩ := AX.1 hl
  exact ⟨e, sz, elems, x, r, h1, h2, h3, h4⟩
 exact hl.elim
theorem X9 {a b c d : Prop} (h : (a /\ b /\ c) /\ d) : a /\ b /\ c /\ d := ⟨h.1.1, h.1.2.1, h.1.2.2, h.2⟩
theorem V5 {t : Nat} {x : LV} {lo hi : Option LV} {k : BC LV} (h : LH AB t x lo hi k) : LI AB t x lo hi k.f := by
 unfold LH at h
 unfold LI
 split at h
 .obtain ⟨ti, h1, h⟩ := AW.1 h
  obtain ⟨e, h2, h⟩ := Cc.1 h
  obtain ⟨te, h3, h4, h⟩ := AW.1 h
  exact ⟨⟨ti, e, h1, h2, te, h3, h4⟩, Jc (fun n hn => Jc (fun m hm => X9 hm) hn) h⟩
 .obtain ⟨ti, h1, h⟩ := AW.1 h
  obtain ⟨e, h2, h⟩ := Cc.1 h
  obtain ⟨te, h3, h4, h5, h⟩ := AW.1 h
  exact ⟨⟨ti, e, h1, h2, te, h3, h4⟩, h5, Jc (fun n hn => Jc (fun m hm => X9 hm) hn) h⟩
 .obtain ⟨ti, h1, h2, h⟩ := AW.1 h
  exact ⟨⟨ti, h1, h2⟩, Jc (fun n hn => Jc (fun m hm => X9 hm) hn) h⟩
 exact h.elim
end
end Go.E
/- The walk of a function: the short form holds what the long one says (PF); rules for the parts of a body, states made weaker (BA). No condition. -/
namespace Go.E
open Go Go.RowKit
section
variable {P : Program} {A : BP} {AB : A9} {K : St -> Prop}
theorem PF {st : St} {o : Oper} {K : BC St} (h : BQ P A AB st o.dst o.op K) : Y7 P A AB st o K.f := by
 obtain ⟨dst, op, type, pos, after, guard⟩ := o
 simp only at h
 cases op <;> simp only [BQ] at h <;> simp only [Y7]
 case move x => exact h
 case assign x => exact h
 case pick c a b => obtain ⟨t, h1, h2⟩ := Lq.1 h; exact ⟨t, h1, h2⟩
 case nilCheck x =>
  try dsimp only at h
  unfold X3 at h
  simp only [nW]
  split at h <;> first | (rename_i e; simp only [e]; exact ⟨trivial, h⟩) | exact h.elim
 case binOp op t x y z => exact X8 h
 case unOp op t x =>
  cases op <;> simp only [BQ] at h
  case neg => obtain ⟨kk, n, h1, h2⟩ := Cq.1 h; simp only [nW, VD, h1]; exact h2
  case not => obtain ⟨b, h1, h2⟩ := Lq.1 h; simp only [nW, VD, h1]; exact h2
 case convert s d x =>
  obtain ⟨kk, n, h1, h⟩ := Cq.1 h
  obtain ⟨tj, h2, h⟩ := AW.1 h
  obtain ⟨ti, h3, h⟩ := AW.1 h
  obtain ⟨kd, h4, h⟩ := AX.1 h
  refine ⟨kk, n, ti, tj, h1, h2, h3, kd, ?_, h⟩
  generalize ti.sh = q at h4
  cases q <;> simp [V2] at h4
  rw [h4]
 case extract t i =>
  try dsimp only at h
  unfold X4 at h
  simp only [nW]
  split at h
  .rename_i l hl; simp only [hl]; exact AX.1 h
  .rename_i l hl; simp only [hl]; exact AX.1 h
  exact h.elim
 case field t x i =>
  obtain ⟨ti, h1, h⟩ := AW.1 h
  obtain ⟨fs, h2, h⟩ := FD.1 h
  obtain ⟨f, h3, h⟩ := AX.1 h
  obtain ⟨tf, h4, h⟩ := AW.1 h
  try dsimp only at h
  unfold X5 at h
  split at h
  .rename_i l hl
   obtain ⟨v, h5, h6⟩ := AX.1 h
   exact ⟨ti, fs, f.1, f.2, tf, l, v, h1, h2, h3, h4, by rw [hl]; rfl, by rw [hl]; trivial, h5, h6⟩
  .rename_i l hl
   obtain ⟨v, h5, h6⟩ := AX.1 h
   exact ⟨ti, fs, f.1, f.2, tf, l.map .p, v, h1, h2, h3, h4, by rw [hl]; rfl, by rw [hl]; trivial, h5, h6⟩
  exact h.elim
 case build t ps =>
  obtain ⟨ti, h1, h⟩ := AW.1 h
  refine ⟨ti, h1, ?_⟩
  try dsimp only at h
  unfold OT at h
  split at h
  .rename_i fs hsh; simp only [hsh]; exact ⟨h.1, NE h.2⟩
  .rename_i n e hsh
   obtain ⟨te, h2, h⟩ := AW.1 h
   simp only [hsh]
   exact ⟨te, h2, NE h⟩
  exact h.elim
 case fieldAddr t x i =>
  obtain ⟨ti, h1, h⟩ := AW.1 h
  obtain ⟨fs, h2, h⟩ := FD.1 h
  obtain ⟨f, h3, h⟩ := AX.1 h
  obtain ⟨tf, h4, h5, h⟩ := AW.1 h
  refine ⟨ti, fs, f.1, f.2, tf, h1, h2, h3, h4, h5, ?_⟩
  try dsimp only at h
  unfold V0 at h
  split at h <;> first | (rename_i e; simp only [e]; exact h) | exact h.elim
 case indexAddr t x i =>
  obtain ⟨kk, n, h1, h⟩ := Cq.1 h
  obtain ⟨ti, h2, h⟩ := AW.1 h
  refine ⟨kk, n, ti, h1, h2, ?_⟩
  try dsimp only at h
  unfold iaS at h
  split at h
  .rename_i e1 e2
   obtain ⟨te, g1, g2, g3, h⟩ := AW.1 h
   simp only [e1, e2]
   exact ⟨⟨te, g1, g2⟩, g3, AX.1 h⟩
  .rename_i e1 e2
   obtain ⟨te, g1, g2, ⟨g3, g4⟩, h⟩ := AW.1 h
   simp only [e1, e2]
   exact ⟨⟨te, g1, g2⟩, g3, g4, h⟩
  .rename_i e1 e2
   obtain ⟨te, g1, ⟨g2, g3⟩, h⟩ := AW.1 h
   simp only [e1, e2]
   exact ⟨te, g1, g2, g3, h⟩
  .rename_i e1 e2
   obtain ⟨te, g1, ⟨g2, g3⟩, h⟩ := AW.1 h
   simp only [e1, e2]
   exact ⟨te, g1, g2, g3, h⟩
  exact h.elim
 case index t x i =>
  obtain ⟨kk, n, h1, h⟩ := Cq.1 h
  obtain ⟨ti, h2, h0, h⟩ := AW.1 h
  refine ⟨kk, n, ti, h1, h2, h0, ?_⟩
  try dsimp only at h
  unfold ixS at h
  split at h
  .rename_i e1 e2
   obtain ⟨te, g1, g2, h⟩ := AW.1 h
   obtain ⟨v, g3, g4⟩ := AX.1 h
   simp only [e1, e2]
   exact ⟨te, v, g1, g2, g3, g4⟩
  .rename_i e1 e2
   obtain ⟨te, g1, g2, h⟩ := AW.1 h
   obtain ⟨v, g3, g4⟩ := AX.1 h
   simp only [e1, e2]
   exact ⟨te, v, g1, g2, g3, g4⟩
  .rename_i e1 e2
   simp only [e1, e2]
   exact AX.1 h
  exact h.elim
 case makeFunc fn first caps =>
  cases fn <;> simp only [BQ] at h
  rename_i f
  exact ⟨by simpa using h.1, f, rfl, h.2⟩
 case slice t x lo hi mx =>
  cases mx with
  | some m => exact h.elim
  | none => exact ⟨rfl, V5 h⟩
 case load t x => obtain ⟨ti, h1, h2⟩ := AW.1 h; exact ⟨ti, h1, W2 h2⟩
 case store t x v =>
  obtain ⟨ti, h1, h⟩ := AW.1 h
  obtain ⟨ls, h2, ⟨h3, h4⟩, h⟩ := AX.1 h
  refine ⟨ti, h1, ls, h2, h3, h4, ?_⟩
  try dsimp only at h
  unfold Td at h
  split at h
  .rename_i id off e
   obtain ⟨o, g1, h⟩ := AX.1 h
   obtain ⟨cells, rfl, g2, h⟩ := Jb.1 h
   try simp only [e]
   exact ⟨cells, g1, g2, h⟩
  .rename_i id i off e
   obtain ⟨o, g1, h⟩ := AX.1 h
   obtain ⟨e', sz, elems, rfl, h⟩ := Fw.1 h
   obtain ⟨x, g2, h⟩ := AX.1 h
   obtain ⟨ds, g3, g4, h⟩ := AX.1 h
   try simp only [e]
   exact ⟨e', sz, elems, x, ds, g1, g2, g4, g3, h⟩
  exact h.elim
 case alloc t => obtain ⟨ti, h1, h2⟩ := AW.1 h; exact ⟨ti, h1, h2⟩
 case box t x => obtain ⟨ls, h1, h2⟩ := AX.1 h; exact ⟨ls, h1, h2⟩
 case buildSlice t n ps =>
  obtain ⟨ti, h1, h⟩ := AW.1 h
  obtain ⟨e, h2, h⟩ := Cc.1 h
  obtain ⟨te, h3, ⟨h4, h5⟩, h⟩ := AW.1 h
  obtain ⟨l, h6, h7, h⟩ := AX.1 h
  exact ⟨ti, e, te, l, h1, h2, h3, h4, h5, h6, h7, h⟩
 case makeSlice t l c =>
  obtain ⟨ti, h1, h⟩ := AW.1 h
  obtain ⟨e, h2, h⟩ := Cc.1 h
  obtain ⟨te, h3, h⟩ := AW.1 h
  obtain ⟨k1, n, h4, h⟩ := Cq.1 h
  obtain ⟨k2, n', h5, ⟨h9, h6, h7, h8⟩, h⟩ := Cq.1 h
  simp only at h9
  subst h9
  exact ⟨ti, e, te, n', k1, k2, h1, h2, h3, h4, h5, h6, h7, h8, h⟩
 case makeMap t r =>
  cases r with
  | some r => exact h.elim
  | none => exact ⟨rfl, h⟩
 case lookup t x i ok =>
  obtain ⟨ti, h1, h⟩ := AW.1 h
  obtain ⟨kt, et, h2, h⟩ := EX.1 h
  obtain ⟨te, h3, h⟩ := AW.1 h
  obtain ⟨m, h4, h⟩ := AX.1 h
  obtain ⟨kd, h5, ⟨h6, h7⟩, h⟩ := Dd.1 h
  exact ⟨ti, kt, et, te, m, kd, h1, h2, h3, h4, h5, h6, h7, h⟩
 case mapUpdate t x i v =>
  obtain ⟨ti, h1, h⟩ := AW.1 h
  obtain ⟨kt, et, h2, h⟩ := EX.1 h
  obtain ⟨id, h3, h⟩ := Ev.1 h
  obtain ⟨o, h4, h⟩ := AX.1 h
  obtain ⟨m, rfl, h⟩ := Fv.1 h
  obtain ⟨kd, h5, h⟩ := Dd.1 h
  obtain ⟨vd, h6, ⟨h7, h8⟩, h⟩ := Dd.1 h
  exact ⟨ti, kt, et, id, m, kd, vd, h1, h2, h3, h4, h5, h6, h7, h8, h⟩
 case mapEntry t x i =>
  obtain ⟨ti, h1, h⟩ := AW.1 h
  obtain ⟨kt, et, h2, h⟩ := EX.1 h
  obtain ⟨te, h3, h⟩ := AW.1 h
  obtain ⟨id, h4, h⟩ := Ev.1 h
  obtain ⟨o, h5, h⟩ := AX.1 h
  obtain ⟨m, rfl, h⟩ := Fv.1 h
  obtain ⟨kd, h6, ⟨h7, h8⟩, h⟩ := Dd.1 h
  exact ⟨ti, kt, et, te, id, m, kd, h1, h2, h3, h4, h5, h6, h7, h8, h⟩
 case entryStore t x s v =>
  obtain ⟨id, h1, h⟩ := Ev.1 h
  obtain ⟨o, h2, h⟩ := AX.1 h
  obtain ⟨m, rfl, h⟩ := Fv.1 h
  obtain ⟨kk, n, h3, h⟩ := Cq.1 h
  obtain ⟨vd, h4, h0, h⟩ := Dd.1 h
  obtain ⟨p, h5, h⟩ := AX.1 h
  exact ⟨id, m, kk, n, vd, p, h1, h2, h3, h0, h5, h4, h⟩
 case range t x =>
  obtain ⟨ti, h1, h⟩ := AW.1 h
  obtain ⟨kt, et, h2, h⟩ := EX.1 h
  try dsimp only at h
  unfold X7 at h
  split at h
  .rename_i e; exact ⟨ti, kt, et, [], h1, h2, .inl ⟨e, rfl⟩, h⟩
  .rename_i m e; exact ⟨ti, kt, et, m, h1, h2, .inr e, h⟩
  exact h.elim
 case next x s =>
  cases s with
  | true => exact h.elim
  | false =>
   simp only [BQ] at h
   unfold V3 at h
   split at h
   .rename_i id e
    split at h
    .rename_i cur left hl
     exact ⟨rfl, id, cur, left, e, hl, h.1, h.2⟩
    exact h.elim
   exact h.elim
 case entry x =>
  unfold V4 at h
  split at h
  .rename_i id e
   split at h
   .rename_i p left hl
    exact ⟨id, p, left, e, hl, h⟩
   exact h.elim
  exact h.elim
 case call c =>
  obtain ⟨callee, args, ats⟩ := c
  try dsimp only at h
  unfold Kw at h
  simp only at h
  split at h
  .rename_i f
   obtain ⟨k, caps, g1, g2⟩ := VB.1 h
   simp only [g1]
   exact g2
  .rename_i s x t t' e2 e3
   obtain ⟨rfl, h⟩ := h
   obtain ⟨ti, h1, h⟩ := AW.1 h
   obtain ⟨e, h2, h⟩ := Cc.1 h
   obtain ⟨te, h3, h4, h⟩ := AW.1 h
   obtain ⟨new, h5, h6, h⟩ := AX.1 h
   have ha : args = #[s, x] := by rw [<- Array.toList_inj, e2]
   have hb : ats = #[t', t'] := by rw [<- Array.toList_inj, e3]
   simp only [mW]
   refine ⟨trivial, s, x, t', ha, hb, ti, e, te, h1, h2, h3, h4, new, h5, h6, ?_⟩
   try dsimp only at h
   unfold Te at h
   split at h
   .rename_i e; simp only [e]; exact ⟨h.1.1, h.1.2, h.2⟩
   .rename_i id sz off len e
    obtain ⟨hsz, h⟩ := h
    obtain ⟨o, g1, h⟩ := AX.1 h
    obtain ⟨e', sz', elems, rfl, ⟨k1, k2, g2, g3, g4⟩, h9⟩ := Fw.1 h
    subst k1; subst k2
    try simp only [e]
    exact ⟨elems, hsz, g1, g2, g3, g4, h9⟩
   exact h.elim
  .rename_i x i t r e2 e3
   obtain ⟨ti, h1, h⟩ := AW.1 h
   obtain ⟨kt, et, h2, h⟩ := EX.1 h
   obtain ⟨id, h3, h⟩ := Ev.1 h
   obtain ⟨o, h4, h⟩ := AX.1 h
   obtain ⟨m, rfl, h⟩ := Fv.1 h
   obtain ⟨kd, h5, ⟨h6, h7⟩, h⟩ := Dd.1 h
   exact ⟨x, i, t, r, by rw [<- Array.toList_inj, e2], e3, ti, kt, et, id, m, kd, h1, h2, h3, h4, h5, h6, h7, h⟩
  .rename_i x t e2 e3
   obtain ⟨ti, h1, h⟩ := AW.1 h
   have ha : args = #[x] := by rw [<- Array.toList_inj, e2]
   have hb : ats = #[t] := by rw [<- Array.toList_inj, e3]
   simp only [nW]
   refine ⟨x, t, ti, ha, hb, h1, ?_⟩
   try dsimp only at h
   unfold X6 at h
   split at h
   .rename_i g; simp only [g]; exact h
   .rename_i g1 g2; simp only [g1, g2, LJ]; exact h
   .rename_i g1 g2; simp only [g1, g2, LJ]; exact h
   .rename_i g1 g2; simp only [g1, g2, LJ]; exact h
   .rename_i g1 g2; simp only [g1, g2, LJ]; exact h
   exact h.elim
  .obtain ⟨r, h1, h⟩ := AX.1 h
   simp only [nW]
   exact ⟨r, h1, h⟩
  .obtain ⟨r, h1, h⟩ := AX.1 h
   simp only [nW]
   exact ⟨r, h1, h⟩
  exact h.elim
 all_goals exact h.elim
theorem SH (st : St) (ops : List Oper) (j : Nat) : GR st (Vz ops j) = Dq st ops.toArray j := by
 unfold GR Dq Vz
 simp only [List.getElem?_toArray]
 cases ops[j]? with
 | none => rfl
 | some o => cases hd : o.dst <;> simp [hd]
theorem Lr (hE : BB P AB) {ops : List Oper} {K : BC St} {Q : Exit -> Act -> World -> Prop} (hQ : ∀ st a w, K.f st -> R A st a w -> Q .normal a w) :
  ∀ (l : List Oper) (st : St) (a : Act) (w : World), EU P A AB K (l.map (OR ops)) st -> R A st a w -> wpList P ops.toArray Q l a w
 | [], st, a, w, h, hR => hQ st a w h.h hR
 | o :: rest, st, a, w, h, hR => by
  have run : BQ P A AB st o.dst o.op ⟨EU P A AB K (rest.map (OR ops)), ⟨⟩⟩ -> o.wp P a w (wpList P ops.toArray Q rest) Q := fun h =>
   OF hE (PF h) hR fun st' a' w' hk hR' => Lr hE hQ rest st' a' w' hk hR'
  have skip : EU P A AB K (rest.map (OR ops)) (st.put o.dst .und) -> wpList P ops.toArray Q rest (a.put o.dst undef) w := fun h => by
   obtain ⟨μ, hh, hs⟩ := hR.ex
   exact Lr hE hQ rest _ _ _ h (hR.put hs hh .und)
  unfold wpList
  simp only [List.map_cons, OR] at h
  cases hg : o.guard with
  | none =>
   rw [hg] at h
   rw [if_pos (by simp [Region.wanted, hg])]
   exact .inl (run h)
  | some g =>
   obtain ⟨j, want⟩ := g
   rw [hg] at h
   simp only [EU, SH] at h
   obtain ⟨μ, hh, hs⟩ := hR.ex
   obtain ⟨g1, g2⟩ := OI (ops := ops.toArray) (j := j) (fun x => G3 hs x)
   unfold gM at h
   split at h
   .rename_i b hb
    have hy := g1 b hb
    by_cases e : b = want
    .rw [if_pos (by simp [Region.wanted, hg, hy, e])]
     exact .inl (run (h.1 e))
    rw [if_neg (by simp [Region.wanted, hg, hy, e])]
    exact skip (h.2 (by cases b <;> cases want <;> simp_all))
   .rename_i hb
    have hy := g2 hb
    rw [if_neg (by simp [Region.wanted, hg, hy])]
    exact skip h
   exact h.elim
theorem Ze (hE : BB P AB) {id : Nat} {ops : List Oper} {ms : List Hs} {y : Code} {Q : Exit -> St -> Prop} {st : St} (hm : ops.map (OR ops) = ms) (h : EU P A AB ⟨fun st' => CD P A y Q st', ⟨⟩⟩ ms st) :
  CD P A (.seq (.region id ops.toArray false) y) Q st :=
 AC fun a w hR => wp_region_lit (Lr hE (fun st' _ _ hk hR' => ⟨st', hR', hk⟩) ops st a w (by rw [hm]; exact h) hR)
theorem YA (hE : BB P AB) {id : Nat} {ops : List Oper} {ms : List Hs} {Q : Exit -> St -> Prop} {st : St} (hm : ops.map (OR ops) = ms) (h : EU P A AB ⟨fun st' => Q .normal st', ⟨⟩⟩ ms st) :
  CD P A (.region id ops.toArray false) Q st :=
 fun a w hR => wp_region_lit (Lr hE (fun st' _ _ hk hR' => ⟨st', hR', hk⟩) ops st a w (by rw [hm]; exact h) hR)
def BA (A : BP) (st st' : St) : Prop := ∀ a w, R A st a w -> R A st' a w
theorem BA.refl (st : St) : BA A st st := fun _ _ h => h
theorem BA.trans {a b c : St} (h : BA A a b) (h' : BA A b c) : BA A a c := fun x w hR => h' x w (h x w hR)
theorem Ec {c : Code} {Q : Exit -> St -> Prop} {st st' : St} (hw : BA A st st') (h : CD P A c Q st') : CD P A c Q st := fun a w hR => h a w (hw a w hR)
def FE (gl : List (Nat × Nat)) : LV -> LV
 | .lsl id sz off len => .lsl ((AF id gl).getD 0) sz off len
 | .lpb id off => .lpb ((AF id gl).getD 0) off
 | .lpe id i off => .lpe ((AF id gl).getD 0) i off
 | .lmap id => .lmap ((AF id gl).getD 0)
 | .agg l => .agg (renLs gl l)
 | .tup l => .tup (renLs gl l)
 | .fn f l => .fn f (renLs gl l)
 | l => l
where renLs (gl : List (Nat × Nat)) : List LV -> List LV
 | [] => []
 | x :: l => FE gl x :: renLs gl l
def D2 (gl : List (Nat × Nat)) : LV -> Bool
 | .lsl id _ _ _ | .lpb id _ | .lpe id _ _ | .lmap id => (AF id gl).isSome
 | .agg l | .tup l | .fn _ l => namesLs gl l
 | _ => true
where namesLs (gl : List (Nat × Nat)) : List LV -> Bool
 | [] => true
 | x :: l => D2 gl x && namesLs gl l
theorem KH {gl : List (Nat × Nat)} : ∀ {ls : List LV} {i : Nat}, (FE.renLs gl ls)[i]? = (ls[i]?).map (FE gl)
 | [], i => by simp [FE.renLs]
 | x :: l, 0 => by simp [FE.renLs]
 | x :: l, i + 1 => by simpa [FE.renLs] using KH (ls := l)
theorem KJ {gl : List (Nat × Nat)} : ∀ {ls : List LV}, (FE.renLs gl ls).length = ls.length
 | [] => rfl
 | x :: l => by simp [FE.renLs, KJ (ls := l)]
theorem Ht {gl : List (Nat × Nat)} : ∀ {ls : List LV} {i : Nat} {x : LV}, D2.namesLs gl ls = true -> ls[i]? = some x -> D2 gl x = true
 | [], i, x, _, h => by simp at h
 | y :: l, 0, x, hn, h => by simp at h; subst h; simp only [D2.namesLs, Bool.and_eq_true] at hn; exact hn.1
 | y :: l, i + 1, x, hn, h => by simp only [D2.namesLs, Bool.and_eq_true] at hn; exact Ht hn.2 (by simpa using h)
def Fx (gl : List (Nat × Nat)) (μ : Nat -> Option Bf) (id : Nat) : Option Bf :=
 match AF id gl with
 | some old => μ old
 | none => none
theorem LK {O O' : Nat -> Prop} {μ : Nat -> Option Bf} {w : World} {gl : List (Nat × Nat)} (hO : ∀ b, b < w.heap.size -> O' b -> O b) :
  ∀ (l : LV) (v : Value), D2 gl l = true -> Ag O μ w v (FE gl l) -> Ag O' (Fx gl μ) w v l
 | .p d, v, _, h => .p _ _ (h.p_inv.mono (Bd.refl _ _) hO)
 | .und, v, _, h => by cases h; exact .und
 | .any, v, _, h => .any _
 | .lsl id sz off len, v, hn, h => by
  simp only [D2] at hn
  cases hl : AF id gl with
  | none => rw [hl] at hn; cases hn
  | some old =>
   simp only [FE, hl, Option.getD_some] at h
   have hm : ∀ loc, μ old = some loc -> Fx gl μ id = some loc := fun loc h => by simp [Fx, hl, h]
   cases h with
   | lsln _ loc h1 h2 => exact .lsln id loc (hm _ h1) h2
   | lsl _ _ _ cap a loc h1 h2 h3 h4 h5 h6 h7 => exact .lsl id _ _ cap a loc (hm _ h1) h2 h3 h4 h5 h6 h7
 | .lpb id off, v, hn, h => by
  simp only [D2] at hn
  cases hl : AF id gl with
  | none => rw [hl] at hn; cases hn
  | some old =>
   simp only [FE, hl, Option.getD_some] at h
   have hm : ∀ loc, μ old = some loc -> Fx gl μ id = some loc := fun loc h => by simp [Fx, hl, h]
   cases h with
   | lpb _ _ loc h1 h2 => exact .lpb id _ loc (hm _ h1) h2
 | .lpe id i off, v, hn, h => by
  simp only [D2] at hn
  cases hl : AF id gl with
  | none => rw [hl] at hn; cases hn
  | some old =>
   simp only [FE, hl, Option.getD_some] at h
   have hm : ∀ loc, μ old = some loc -> Fx gl μ id = some loc := fun loc h => by simp [Fx, hl, h]
   cases h with
   | lpe _ _ _ loc h1 h2 => exact .lpe id _ _ loc (hm _ h1) h2
 | .lmap id, v, hn, h => by
  simp only [D2] at hn
  cases hl : AF id gl with
  | none => rw [hl] at hn; cases hn
  | some old =>
   simp only [FE, hl, Option.getD_some] at h
   have hm : ∀ loc, μ old = some loc -> Fx gl μ id = some loc := fun loc h => by simp [Fx, hl, h]
   cases h with
   | lmap _ loc h1 h2 => exact .lmap id loc (hm _ h1) h2
 | .agg ls, v, hn, h => by
  simp only [FE] at h
  simp only [D2] at hn
  cases h with
  | agg vs _ hsz hr =>
   rw [KJ] at hsz
   refine .agg vs ls hsz fun i u x h1 h2 => ?_
   have : SizeOf.sizeOf x < SizeOf.sizeOf ls := List.sizeOf_lt_of_mem (List.mem_of_getElem? h2)
   exact LK hO x u (Ht hn h2) (hr i u _ h1 (by rw [KH, h2]; rfl))
 | .tup ls, v, hn, h => by
  simp only [FE] at h
  simp only [D2] at hn
  cases h with
  | tup vs _ hsz hr =>
   rw [KJ] at hsz
   refine .tup vs ls hsz fun i u x h1 h2 => ?_
   have : SizeOf.sizeOf x < SizeOf.sizeOf ls := List.sizeOf_lt_of_mem (List.mem_of_getElem? h2)
   exact LK hO x u (Ht hn h2) (hr i u _ h1 (by rw [KH, h2]; rfl))
 | .fn f ls, v, hn, h => by
  simp only [FE] at h
  simp only [D2] at hn
  cases h with
  | fn _ vs _ hsz hr =>
   rw [KJ] at hsz
   refine .fn f vs ls hsz fun i u x h1 h2 => ?_
   have : SizeOf.sizeOf x < SizeOf.sizeOf ls := List.sizeOf_lt_of_mem (List.mem_of_getElem? h2)
   exact LK hO x u (Ht hn h2) (hr i u _ h1 (by rw [KH, h2]; rfl))
def V6 (gl : List (Nat × Nat)) : BE -> BE
 | .box cells => .box (FE.renLs gl cells)
 | o => o
def Tf (gl : List (Nat × Nat)) : BE -> Bool
 | .box cells => D2.namesLs gl cells
 | _ => true
def TC (gl : List (Nat × Nat)) (sl : List (Nat × LV)) : List (Nat × LV) -> Prop
 | [] => True
 | (t, l) :: rest => (D2 gl l = true /\ Bo sl t = FE gl l) /\ TC gl sl rest
def TD (gl : List (Nat × Nat)) (h : AQ) : AQ -> Prop
 | [] => True
 | (id, o) :: rest => (Tf gl o = true /\ ∃ old, AF id gl = some old /\ AF old h = some (V6 gl o)) /\ TD gl h rest
theorem Qc {gl : List (Nat × Nat)} {sl : List (Nat × LV)} : ∀ {sl' : List (Nat × LV)}, TC gl sl sl' -> ∀ t l, AF t sl' = some l -> D2 gl l = true /\ Bo sl t = FE gl l
 | [], _, t, l, h => by simp [AF] at h
 | (u, x) :: rest, ⟨h1, h2⟩, t, l, h => by
  simp only [AF] at h
  split at h
  .cases h; subst_vars; exact h1
  exact Qc h2 t l h
theorem Ha {gl : List (Nat × Nat)} {hp : AQ} : ∀ {h' : AQ}, TD gl hp h' -> ∀ id o, AF id h' = some o -> Tf gl o = true /\ ∃ old, AF id gl = some old /\ AF old hp = some (V6 gl o)
 | [], _, id, o, h => by simp [AF] at h
 | (u, x) :: rest, ⟨h1, h2⟩, id, o, h => by
  simp only [AF] at h
  split at h
  .cases h; subst_vars; exact h1
  exact Ha h2 id o h
theorem NF {α : Type} {t : Nat} {v : α} : ∀ {l : List (Nat × α)}, AF t l = some v -> (t, v) ∈ l
 | [], h => by simp [AF] at h
 | (k, u) :: l, h => by
  simp only [AF] at h
  split at h
  .cases h; subst_vars; simp
  exact List.mem_cons_of_mem _ (NF h)
def Qd (gl : List (Nat × Nat)) (h : AQ) (c : Nat) : Bool := decide (h.map fun p => (AF p.1 gl).getD 0).Nodup && gl.all fun p => decide (p.1 < c)
theorem YB {gl : List (Nat × Nat)} {h : AQ} (hn : (h.map fun p => (AF p.1 gl).getD 0).Nodup) {a b : Nat × BE} (ha : a ∈ h) (hb : b ∈ h) (e : (AF a.1 gl).getD 0 = (AF b.1 gl).getD 0) : a = b := by
 induction h with
 | nil => simp at ha
 | cons x l ih =>
  simp only [List.map_cons, List.nodup_cons, List.mem_map, not_exists, not_and] at hn
  rcases List.mem_cons.1 ha with e1 | ha' <;> rcases List.mem_cons.1 hb with e2 | hb'
  .rw [e1, e2]
  .subst e1; exact absurd e.symm (hn.1 b hb')
  .subst e2; exact absurd e (hn.1 a ha')
  exact ih hn.2 ha' hb'
theorem YC (gl : List (Nat × Nat)) {nt : Nat} {sl sl' : List (Nat × LV)} {h h' : AQ} {c c' : Nat} (hext : ∀ id, A.μ0 id ≠ none -> AF id gl = some id) (ho : Qd gl h' c' = true)
  (hs : TC gl sl sl') (hh' : TD gl h h') : BA A ⟨nt, sl, h, c⟩ ⟨nt, sl', h', c'⟩ := fun a w ⟨⟨μ, hh, hr⟩, hnt, hdef⟩ => by
 simp only [Qd, Bool.and_eq_true, decide_eq_true_eq, List.all_eq_true] at ho
 have hmine : ∀ b, CA (Fx gl μ) h' b -> CA μ h b := by
  rintro b ⟨id, o, loc, h1, h2, h3, h4⟩
  obtain ⟨_, old, g1, g2⟩ := Ha hh' id o h1
  simp only [Fx, g1] at h2
  exact ⟨old, _, loc, g2, h2, h3, h4⟩
 have hown : ∀ b, b < w.heap.size -> Aj A (Fx gl μ) h' b -> Aj A μ h b := fun b _ hb => hb.imp id (hmine b)
 refine ⟨⟨Fx gl μ, ⟨?_, ?_, ?_, ?_, hh.size, hh.block, hh.os, hh.tape, hh.output, ?_⟩, fun t ht => ?_⟩, hnt, hdef⟩
 .intro id o hid
  obtain ⟨hn, old, g1, g2⟩ := Ha hh' id o hid
  obtain ⟨loc, k1, k2⟩ := hh.obj old _ g2
  refine ⟨loc, by simp only [Fx, g1]; exact k1, ?_⟩
  cases o with
  | box cells =>
   obtain ⟨a1, cs, ty, a2, a3, a4⟩ := k2
   rw [KJ] at a3
   refine ⟨a1, cs, ty, a2, a3, fun i v l hv hl => LK hown l v (Ht hn hl) (a4 i v _ hv (by rw [KH, hl]; rfl))⟩
  | row e sz elems =>
   obtain ⟨a1, a2, a3⟩ := k2
   refine ⟨a1, a2, ?_⟩
   rcases a3 with a3 | ⟨b1, cs, b2, b3, b4, b5, b6⟩
   .exact .inl a3
   exact .inr ⟨b1, cs, b2, b3, b4, b5, fun i j x d v hx hd hv => (b6 i j x d v hx hd hv).mono (Bd.refl _ _) hown⟩
  | map m =>
   obtain ⟨a1, es, clock, a2, a3, a4, a5⟩ := k2
   exact ⟨a1, es, clock, a2, a3, a4, fun i e p he hp => ⟨(a5 i e p he hp).1.mono (Bd.refl _ _) hown, (a5 i e p he hp).2.mono (Bd.refl _ _) hown⟩⟩
  | iter cur left => exact ⟨k2.1, k2.2.mono (Bd.refl _ _) hown rfl⟩
 .intro id id' o o' loc loc' h1 h2 m1 m2 n1 n2 hb
  obtain ⟨_, old, g1, g2⟩ := Ha hh' id o h1
  obtain ⟨_, old', g1', g2'⟩ := Ha hh' id' o' h2
  simp only [Fx, g1] at m1
  simp only [Fx, g1'] at m2
  have := hh.inj _ _ _ _ _ _ g2 g2' m1 m2 n1 n2 hb
  have := YB ho.1 (NF h1) (NF h2) (by simp only [g1, g1', Option.getD_some]; exact this)
  exact congrArg (·.1) this
 .intro id hid
  simp only [Fx]
  cases hl : AF id gl with
  | none => rfl
  | some old =>
   have := ho.2 _ (NF hl)
   simp only [Fr] at hid
   omega
 .intro id o loc h1 m1 n1
  obtain ⟨_, old, g1, g2⟩ := Ha hh' id o h1
  simp only [Fx, g1] at m1
  exact hh.base _ _ _ g2 m1 n1
 .intro id loc hm
  have := hext id (by rw [hm]; simp)
  simp only [Fx, this]
  exact hh.ext _ _ hm
 show Ag _ _ _ _ (match AF t sl' with | some v => v | none => .any)
 cases hl : AF t sl' with
 | none => exact .any _
 | some l =>
  obtain ⟨g1, g2⟩ := Qc hs t l hl
  have := hr t ht
  simp only at this
  rw [g2] at this
  exact LK hown l _ g1 this
theorem B4 {nt : Nat} {sl : List (Nat × LV)} {h : AQ} {c : Nat} (t e sz : Nat) (ht : Bo sl t = .p .nils) : BA A ⟨nt, sl, h, c⟩ ⟨nt, (t, .lsl c sz 0 0) :: sl, (c, .row e sz []) :: h, c + 1⟩ := fun a w ⟨⟨μ, hh, hr⟩, hnt, hdef⟩ => by
 have hno := hh.fresh c (Nat.le_refl _)
 let loc : Bf := ⟨true, 0, 0, sz, 0⟩
 have hsub : ∀ id x, AF id ((c, BE.row e sz []) :: h) = some x -> (id = c /\ x = .row e sz []) \/ AF id h = some x := by
  intro id x hx
  simp only [AF] at hx
  split at hx
  .cases hx; exact .inl ⟨‹_›, rfl⟩
  exact .inr hx
 have hadd := hh.add hno loc (.row e sz []) ((c, .row e sz []) :: h) (fun hn => by cases hn) (fun hn => by cases hn) hsub (Bd.refl _ _) (fun _ _ _ _ _ _ _ => rfl) rfl rfl rfl ⟨rfl, by simp, .inl ⟨rfl, rfl⟩⟩
 have hown := hh.sub_add loc (.row e sz []) ((c, .row e sz []) :: h) (fun hn => by cases hn) hsub
 refine ⟨⟨_, hadd.less (F' := Fr (c + 1)) fun id hid => ?_, fun u hu => ?_⟩, hnt, hdef⟩
 .simp only [Fr] at hid ⊢; omega
 show Ag _ _ _ _ (match AF u ((t, LV.lsl c sz 0 0) :: sl) with | some v => v | none => .any)
 simp only [AF]
 by_cases hut : u = t
 .subst hut
  rw [if_pos rfl]
  have := hr u hu
  simp only at this
  rw [ht] at this
  rw [this.nils_inv]
  exact .lsln c loc (by simp [B5]) rfl
 rw [if_neg hut]
 exact (hr u hu).mono (Bd.refl _ _) hown (Iw hno loc)
end
end Go.E
/- Loops whose states are told outright; parts of a body. No condition. -/
namespace Go.E
open Go Go.RowKit
section
variable {P : Program} {A : BP} {AB : A9} {Q : Exit -> St -> Prop} {st : St}
theorem AD {next : St -> Prop} (h : next st) : PG next Q .normal st := h
theorem AN {next : St -> Prop} (h : Q .ret st) : PG next Q .ret st := h
theorem Aq {next : St -> Prop} {id : Nat} (h : Q (.exit id) st) : PG next Q (.exit id) st := h
theorem Av {id : Nat} (h : Q .normal st) : G4 id Q .normal st := h
theorem Ao {id : Nat} (h : Q .ret st) : G4 id Q .ret st := h
theorem A4 {id : Nat} (h : Q .normal st) : G4 id Q (.exit id) st := by simp only [G4, if_true]; exact h
theorem Y8 {id id' : Nat} (hne : (id' == id) = false) (h : Q (.exit id') st) : G4 id Q (.exit id') st := by
 simp only [G4]
 rw [if_neg (by simpa using hne)]; exact h
theorem AAQ {P : Program} {AB : A9} (hE : BB P AB) {k : Nat} {fn : Func} {c : Code} (hf : P.funcs[k]? = some fn) (hb : fn.body = some c) (hn : (fn.name == "runtime.NumGoroutine") = false) (nt : Nat) (hnt : fn.ntmps = nt)
  (rs : List ResultVar) (hrs : fn.results.toList = rs) {ds : List DV} (hlen : ds.length <= nt) {Q : DV -> Prop}
  (h : ∀ A : BP, (∀ id, A.μ0 id = none) -> CD P A c (M6 fun st => ∃ r, Ft AB.tt rs st = some r /\ Q r) ⟨nt, Dg 0 ds, [], 0⟩) : Bc P k ds Q := by
 subst hnt hrs
 exact QV hE hf hb hn hlen h
theorem ABS {h : AQ} {c k : Nat} {args : List LV} {ds : List DV} {r : DV} {f : LV × AQ × Nat -> Prop} {hf : Ik f} (hds : Bz h args = some ds) (hF : Bc P k ds (· = r))
  (hs : r.scalar = true \/ args.flatMap (D8 h) = []) (hK : f (.p r, h, c)) : Iz P A h c k args ⟨f, hf⟩ :=
 DQ.pure hds hF fun q hq => by
  subst hq
  split
  .exact hK
  rcases hs with hs | hs
  .exact absurd hs ‹_›
  rw [hs]; exact hK
theorem ABT {h h' : AQ} {c k : Nat} {args : List LV} {ds : List DV} {r : DV} {f : LV × AQ × Nat -> Prop} {hf : Ik f} (hds : Bz h args = some ds) (hF : Bc P k ds (· = r))
  (hs : r.scalar = false) (hd : B1 (args.flatMap (D8 h)) h = h') (hK : f (.p r, h', c)) : Iz P A h c k args ⟨f, hf⟩ :=
 DQ.pure hds hF fun q hq => by
  subst hq
  rw [if_neg (by simp [hs]), hd]; exact hK
def Le (r d : DV) : Prop := ∀ (O : Nat -> Prop) (w : World) (v : Value), A3 O w v r -> A3 O w v d
theorem Le.of_eq {r d : DV} (h : r = d) : Le r d := fun _ _ _ hv => h ▸ hv
theorem Le.nil (sz : Nat) : Le .nils (.slice sz []) := fun _ _ _ hv => by cases hv; exact .snil sz
theorem Le.tup {l m : List DV} (hl : l.length = m.length) (h : ∀ (i : Nat) (a b : DV), l[i]? = some a -> m[i]? = some b -> Le a b) : Le (.tup l) (.tup m) := fun O w v hv => by
 cases hv with
 | tup vs _ hsz hr =>
  refine .tup vs m (by omega) fun i u d h1 h2 => ?_
  have hi := (List.getElem?_eq_some_iff.1 h2).1
  have hx : l[i]? = some (l[i]'(by omega)) := List.getElem?_eq_getElem _
  exact h i _ d hx h2 O w u (hr i u _ h1 hx)
theorem Le.agg {l m : List DV} (hl : l.length = m.length) (h : ∀ (i : Nat) (a b : DV), l[i]? = some a -> m[i]? = some b -> Le a b) : Le (.agg l) (.agg m) := fun O w v hv => by
 cases hv with
 | agg vs _ hsz hr =>
  refine .agg vs m (by omega) fun i u d h1 h2 => ?_
  have hi := (List.getElem?_eq_some_iff.1 h2).1
  have hx : l[i]? = some (l[i]'(by omega)) := List.getElem?_eq_getElem _
  exact h i _ d hx h2 O w u (hr i u _ h1 hx)
theorem Le.cons {a b : DV} {l m : List DV} (h : Le a b) (hr : ∀ (i : Nat) (a b : DV), l[i]? = some a -> m[i]? = some b -> Le a b) : ∀ (i : Nat) (x y : DV), (a :: l)[i]? = some x -> (b :: m)[i]? = some y -> Le x y := fun i x y h1 h2 => by
 cases i with
 | zero => simp at h1 h2; subst h1 h2; exact h
 | succ i => exact hr i x y (by simpa using h1) (by simpa using h2)
theorem AAR {P : Program} {AB : A9} (hE : BB P AB) {k : Nat} {fn : Func} {c : Code} (hf : P.funcs[k]? = some fn) (hb : fn.body = some c) (hn : (fn.name == "runtime.NumGoroutine") = false) (nt : Nat) (hnt : fn.ntmps = nt)
  (rs : List ResultVar) (hrs : fn.results.toList = rs) {ds : List DV} (hlen : ds.length <= nt) {d : DV}
  (h : ∀ A : BP, (∀ id, A.μ0 id = none) -> CD P A c (M6 fun st => ∃ r, Ft AB.tt rs st = some r /\ Le r d) ⟨nt, Dg 0 ds, [], 0⟩) : Bc P k ds (· = d) := by
 have := AAQ hE hf hb hn nt hnt rs hrs hlen h
 exact ⟨this.enters, fun O w vs h1 h2 h3 => (this.run O w vs h1 h2 h3).mono fun _ _ ⟨v, r, e, hr, q, hb⟩ => ⟨v, d, e, q _ _ _ hr, rfl, hb⟩⟩
end
end Go.E
/- The equations by which a walk is reckoned. Written by a program (mkev.py). No condition. -/
namespace Go.E
open Go Go.RowKit
theorem Tg : ∀ l : List DV, G8 (l.map .p) = some l
 | [] => rfl
 | x :: l => by simp [G8, Tg l]
end Go.E
/- Drawn regions in short form. Conditions: G6 and mixedOrders, by kernel. -/
namespace Go.E
open Go Go.RowKit
def YD (P : Program) (h : AQ) (k : Nat) (args : List LV) (K : BC DV) : Prop :=
 ∃ ds r, Bz h args = some ds /\ Bc P k ds (· = r) /\ (r.scalar = true \/ args.flatMap (D8 h) = []) /\ K.f r
def ABz (P : Program) (AB : A9) (h : AQ) (k : Nat) (args : List LV) (K : BC (Nat × Nat × List (List DV))) : Prop :=
 AB.own = true /\ ∃ ds t sz elems, Bz h args = some ds /\ FV P k ds t sz elems /\ Vu (args.flatMap (D8 h)) elems /\ K.f (t, sz, elems)
def Y9 (AB : A9) (neg : Bool) (t : Nat) (x y : LV) (k : BC LV) : Prop :=
 match y with
 | .p .nils => False
 | y => VA AB neg t x y k
def Px (AB : A9) (op : BinOp) (t : Nat) (x y : LV) (k : BC LV) : Prop :=
 match x, y with
 | .p (.int k1 a), .p (.int k2 b) => k1 = k2 /\ Mi op k1 a b k
 | x, y => match op with
  | .eql => Y9 AB false t x y k
  | .neq => Y9 AB true t x y k
  | _ => False
def V7 (sh : Sh) (x : LV) (k : BC LV) : Prop :=
 match sh, x with
 | .arr n _, _ => k.f (.p (.int .i64 n))
 | .slc _, .p (.slice _ l) => k.f (.p (.int .i64 l.length))
 | .slc _, .p .nils => k.f (.p (.int .i64 0))
 | .slc _, .lsl _ _ _ len => k.f (.p (.int .i64 len))
 | .str, .p (.str s) => k.f (.p (.int .i64 s.size))
 | _, _ => False
def Gl (P : Program) (A : BP) (AB : A9) (st : St) (dst : Option Tmp) (op : Op) (K : BC St) : Prop :=
 match op with
 | .binOp op t x y _ => Px AB op t (st.eval x) (st.eval y) ⟨fun l => K.f (st.put dst l), ⟨⟩⟩
 | .call c => match c.callee, c.args.toList, c.argTypes.toList with
  | .builtin .len, [x], [t] => C6 AB t ⟨fun ti => V7 ti.sh (st.eval x) ⟨fun l => K.f (st.put dst l), ⟨⟩⟩, ⟨⟩⟩
  | .builtin .len, _, _ => False
  | .builtin .delete, _, _ => False
  | .builtin .append, s :: _, _ => Mc AB.calm (st.eval s) = true /\ BQ P A AB st dst (.call c) K
  | .value f, args, _ => if Cl f = true then ∃ l h', TA P AB st c l h' /\ K.f (st.go dst l h' (st.ctr + 1)) else Mj (st.eval f) ⟨fun g => YD P st.heap g.1 (args.map st.eval ++ g.2) ⟨fun r => K.f (st.put dst (.p r)), ⟨⟩⟩ \/
    ABz P AB st.heap g.1 (args.map st.eval ++ g.2) ⟨fun r => K.f (({ st with heap := (st.ctr, .row r.1 r.2.1 r.2.2) :: st.heap, ctr := st.ctr + 1 } : St).put dst (.lsl st.ctr r.2.1 0 r.2.2.length)), ⟨⟩⟩, ⟨⟩⟩
  | _, _, _ => BQ P A AB st dst (.call c) K
 | .range _ _ => False
 | .next _ _ => False
 | .entry _ => False
 | .load t x => Md AB.calm (st.eval x) = true /\ BQ P A AB st dst (.load t x) K
 | .store t x v => LB AB.calm (st.eval x) = true /\ BQ P A AB st dst (.store t x v) K
 | op => BQ P A AB st dst op K
def DW (P : Program) (A : BP) (AB : A9) (base n : Nat) (K : BC St) : List (Nat × Hs) -> St -> Prop
 | [], st => AAP K (st.at (base + n))
 | (i, ⟨dst, op, none⟩) :: rest, st => Gl P A AB (st.at (base + i)) dst op ⟨DW P A AB base n K rest, ⟨⟩⟩
 | (i, ⟨dst, op, some (d, want)⟩) :: rest, st => gM (GR st d) want ⟨fun _ => Gl P A AB (st.at (base + i)) dst op ⟨DW P A AB base n K rest, ⟨⟩⟩, ⟨⟩⟩ ⟨fun _ => DW P A AB base n K rest (st.put dst .und), ⟨⟩⟩
section
variable {P : Program} {A : BP} {AB : A9}
theorem St.at_at (st : St) (c d : Nat) : (st.at c).at d = st.at d := rfl
theorem Zf {v : LV} {want : Bool} {f f' g g' : Unit -> Prop} (h1 : f () = f' ()) (h2 : g () = g' ()) : gM v want ⟨f, ⟨⟩⟩ ⟨g, ⟨⟩⟩ = gM v want ⟨f', ⟨⟩⟩ ⟨g', ⟨⟩⟩ := by
 unfold gM
 split
 .simp only [gW, h1, h2]
 .exact h2
 rfl
theorem Qe (base n : Nat) (K : BC St) (l : List (Nat × Hs)) : ∀ (st : St) (c : Nat), DW P A AB base n K l (st.at c) = DW P A AB base n K l st := by
 induction l with
 | nil => intro st c; rfl
 | cons p l ih =>
  intro st c
  obtain ⟨i, dst, op, g⟩ := p
  cases g with
  | none => rfl
  | some g =>
   obtain ⟨d, want⟩ := g
   have e1 : GR (st.at c) d = GR st d := by cases d <;> rfl
   have e2 : DW P A AB base n K l ((st.at c).put dst .und) = DW P A AB base n K l (st.put dst .und) := by
    have : (st.at c).put dst .und = (st.put dst .und).at c := by cases dst <;> rfl
    rw [this, ih]
   simp only [DW, e1, St.at_at]
   exact Zf rfl e2
theorem VE {neg : Bool} {t : Nat} {x y : LV} {k : BC LV} (h : Y9 AB neg t x y k) : ∃ l, SG AB neg t x y (· = l) /\ k.f l := by
 unfold Y9 at h
 split at h
 .exact h.elim
 rename_i hne
 unfold VA at h
 unfold SG
 split at h
 .exact ⟨_, rfl, h⟩
 .obtain ⟨ti, h1, h2, h3⟩ := AW.1 h; exact ⟨_, ⟨⟨ti, h1, h2⟩, rfl⟩, h3⟩
 .obtain ⟨ks, h1, h2, h3, h4⟩ := AX.1 h; exact ⟨_, ⟨ks, h1, h2, h3, rfl⟩, h4⟩
 .exact absurd rfl hne
 .exact absurd rfl hne
 .exact absurd rfl hne
 .exact ⟨_, ⟨h.1, rfl⟩, h.2⟩
 .exact ⟨_, ⟨h.1, rfl⟩, h.2⟩
 .exact ⟨_, ⟨h.1, rfl⟩, h.2⟩
 exact h.elim
theorem YE {op : BinOp} {t : Nat} {x y : LV} {k : BC LV} (h : Px AB op t x y k) : ∃ l, Rd AB op t x y (· = l) /\ k.f l := by
 unfold Px at h
 unfold Rd
 split at h
 .obtain ⟨v, h1, h2⟩ := Pe h.2
  exact ⟨_, ⟨h.1, v, h1, rfl⟩, h2⟩
 rename_i hne
 split
 .exact absurd rfl (hne _ _ _ _ rfl)
 split at h
 .exact VE h
 .exact VE h
 exact h.elim
theorem NG {place : Nat -> Option (Nat × Nat)} {k : BC (List LV)} : ∀ {ps : List (Nat × LV)} {cells : List LV}, LF AB place cells ps k -> ∃ l, I2 AB place cells ps (· = l) /\ k.f l
 | [], _, h => ⟨_, rfl, h⟩
 | (i, v) :: rest, cells, h => by
  obtain ⟨p, h1, h⟩ := AX.1 h
  obtain ⟨ti, h2, h⟩ := AW.1 h
  obtain ⟨ls, h3, ⟨h4, h5⟩, h⟩ := AX.1 h
  obtain ⟨l, h6, h7⟩ := NG h
  exact ⟨l, ⟨p.1, p.2, ti, ls, h1, h2, h3, h4, h5, h6⟩, h7⟩
theorem NH {place : Nat -> Option (Nat × Nat)} {f : List LV -> LV} {l : List LV} : ∀ {ps : List (Nat × LV)} {cells : List LV}, I2 AB place cells ps (· = l) -> I2 AB place cells ps fun c => f c = f l
 | [], _, h => congrArg f h
 | (i, v) :: rest, cells, ⟨off, t, ti, ls, h1, h2, h3, h4, h5, h6⟩ => ⟨off, t, ti, ls, h1, h2, h3, h4, h5, NH h6⟩
theorem Jd {d : Int} {x : Option LV} {k : BC Int} (h : LG d x k) : ∃ n, (∀ k' : Int -> Prop, k' n -> GS d x k') /\ k.f n := by
 unfold LG at h; unfold GS
 split at h
 .exact ⟨_, fun _ h => h, h⟩
 .exact ⟨_, fun _ h => h, h⟩
 exact h.elim
theorem W3 {h : AQ} {ti : TI} {p : LV} {k : BC LV} (hl : Qb h ti p k) : ∃ l, Gn h ti p (· = l) /\ k.f l := by
 unfold Qb at hl
 unfold Gn
 split at hl
 .obtain ⟨r, h1, h2⟩ := AX.1 hl
  exact ⟨r, ⟨r, h1, rfl⟩, h2⟩
 .obtain ⟨o, h1, hl⟩ := AX.1 hl
  obtain ⟨cells, rfl, hl⟩ := Jb.1 hl
  obtain ⟨r, h2, h3⟩ := AX.1 hl
  exact ⟨r, ⟨cells, r, h1, h2, rfl⟩, h3⟩
 .obtain ⟨o, h1, hl⟩ := AX.1 hl
  obtain ⟨e, sz, elems, rfl, hl⟩ := Fw.1 hl
  obtain ⟨x, h2, hl⟩ := AX.1 hl
  obtain ⟨r, h3, h4⟩ := AX.1 hl
  exact ⟨r, ⟨e, sz, elems, x, r, h1, h2, h3, rfl⟩, h4⟩
 exact hl.elim
theorem V8 {t : Nat} {x : LV} {lo hi : Option LV} {k : BC LV} (h : LH AB t x lo hi k) : ∃ l, LI AB t x lo hi (· = l) /\ k.f l := by
 unfold LH at h
 unfold LI
 split at h
 .obtain ⟨ti, h1, h⟩ := AW.1 h
  obtain ⟨e, h2, h⟩ := Cc.1 h
  obtain ⟨te, h3, h4, h⟩ := AW.1 h
  obtain ⟨a, ka, h⟩ := Jd h
  obtain ⟨b, kb, h5, h⟩ := Jd h
  exact ⟨_, ⟨⟨ti, e, h1, h2, te, h3, h4⟩, ka _ (kb _ ⟨h5.1, h5.2.1, h5.2.2, rfl⟩)⟩, h⟩
 .obtain ⟨ti, h1, h⟩ := AW.1 h
  obtain ⟨e, h2, h⟩ := Cc.1 h
  obtain ⟨te, h3, h4, h6, h⟩ := AW.1 h
  obtain ⟨a, ka, h⟩ := Jd h
  obtain ⟨b, kb, h5, h⟩ := Jd h
  exact ⟨_, ⟨⟨ti, e, h1, h2, te, h3, h4⟩, h6, ka _ (kb _ ⟨h5.1, h5.2.1, h5.2.2, rfl⟩)⟩, h⟩
 .obtain ⟨ti, h1, h2, h⟩ := AW.1 h
  obtain ⟨a, ka, h⟩ := Jd h
  obtain ⟨b, kb, h5, h⟩ := Jd h
  exact ⟨_, ⟨⟨ti, h1, h2⟩, ka _ (kb _ ⟨h5.1, h5.2.1, h5.2.2, rfl⟩)⟩, h⟩
 exact h.elim
theorem Zg {st : St} {dst : Option Tmp} {op : Op} {K : BC St} (hK : ∀ (s : St) (c : Nat), K.f (s.at c) -> K.f s) (h : Gl P A AB st dst op K) {o : Oper} (ho : o.dst = dst) :
  ∃ l e, CU P AB st op l e /\ K.f (apS st st.ctr o l e) := by
 subst ho
 have keep : ∀ l, K.f (st.put o.dst l) -> K.f (apS st st.ctr o l .keep) := fun l h => by
  have : apS st st.ctr o l .keep = st.put o.dst l := rfl
  rw [this]; exact h
 have goes : ∀ l e h' c, e.ap st.ctr st.heap = h' -> K.f (st.go o.dst l h' c) -> K.f (apS st st.ctr o l e) := fun l e h' c he hk => by
  refine hK _ c ?_
  have : (apS st st.ctr o l e).at c = st.go o.dst l h' c := by
   unfold apS St.go St.at St.put
   rw [he]
   cases o.dst <;> rfl
  rw [this]; exact hk
 have nC : ∀ l, nW AB st op (· = l) -> (CU P AB st op l .keep ↔ (EV.keep = EV.keep /\ nW AB st op (· = l))) -> K.f (st.put o.dst l) -> ∃ l e, CU P AB st op l e /\ K.f (apS st st.ctr o l e) :=
  fun l h1 h2 h3 => ⟨l, .keep, h2.2 ⟨rfl, h1⟩, keep l h3⟩
 cases op <;> simp only [Gl, BQ] at h
 case move x => exact nC _ rfl Iff.rfl h
 case assign x => exact nC _ rfl Iff.rfl h
 case pick c a b => obtain ⟨t, h1, h2⟩ := Lq.1 h; exact nC _ ⟨t, h1, rfl⟩ Iff.rfl h2
 case nilCheck x =>
  unfold X3 at h
  split at h <;> first | exact h.elim | (rename_i e; refine nC _ ?_ Iff.rfl h; simp only [nW, e]; exact ⟨trivial, trivial⟩)
 case binOp op t x y z => obtain ⟨l, h1, h2⟩ := YE h; exact nC l h1 Iff.rfl h2
 case unOp op t x =>
  cases op <;> simp only at h
  case neg => obtain ⟨kk, n, h1, h2⟩ := Cq.1 h; exact nC _ (by simp only [nW, VD, h1]) Iff.rfl h2
  case not => obtain ⟨b, h1, h2⟩ := Lq.1 h; exact nC _ (by simp only [nW, VD, h1]) Iff.rfl h2
 case convert s d x =>
  obtain ⟨kk, n, h1, h⟩ := Cq.1 h
  obtain ⟨tj, h2, h⟩ := AW.1 h
  obtain ⟨ti, h3, h⟩ := AW.1 h
  obtain ⟨kd, h4, h⟩ := AX.1 h
  refine nC _ ⟨kk, n, ti, tj, h1, h2, h3, kd, ?_, rfl⟩ Iff.rfl h
  generalize ti.sh = q at h4
  cases q <;> simp [V2] at h4
  rw [h4]
 case extract t i =>
  unfold X4 at h
  split at h
  .rename_i l hl; obtain ⟨v, h1, h2⟩ := AX.1 h; exact nC v (by simp only [nW, hl]; exact ⟨v, h1, rfl⟩) Iff.rfl h2
  .rename_i l hl; obtain ⟨v, h1, h2⟩ := AX.1 h; exact nC _ (by simp only [nW, hl]; exact ⟨v, h1, rfl⟩) Iff.rfl h2
  exact h.elim
 case field t x i =>
  obtain ⟨ti, h1, h⟩ := AW.1 h
  obtain ⟨fs, h2, h⟩ := FD.1 h
  obtain ⟨f, h3, h⟩ := AX.1 h
  obtain ⟨tf, h4, h⟩ := AW.1 h
  try dsimp only at h
  unfold X5 at h
  split at h
  .rename_i l hl
   obtain ⟨v, h5, h6⟩ := AX.1 h
   exact nC v ⟨ti, fs, f.1, f.2, tf, l, v, h1, h2, h3, h4, by rw [hl]; rfl, by rw [hl]; trivial, h5, rfl⟩ Iff.rfl h6
  .rename_i l hl
   obtain ⟨v, h5, h6⟩ := AX.1 h
   exact nC v ⟨ti, fs, f.1, f.2, tf, l.map .p, v, h1, h2, h3, h4, by rw [hl]; rfl, by rw [hl]; trivial, h5, rfl⟩ Iff.rfl h6
  exact h.elim
 case build t ps =>
  obtain ⟨ti, h1, h⟩ := AW.1 h
  try dsimp only at h
  unfold OT at h
  split at h
  .rename_i fs hsh
   obtain ⟨l, h2, h3⟩ := NG h.2
   exact nC _ ⟨ti, h1, by simp only [hsh]; exact ⟨h.1, NH h2⟩⟩ Iff.rfl h3
  .rename_i n e hsh
   obtain ⟨te, h2, h⟩ := AW.1 h
   obtain ⟨l, h3, h4⟩ := NG h
   exact nC _ ⟨ti, h1, by simp only [hsh]; exact ⟨te, h2, NH h3⟩⟩ Iff.rfl h4
  exact h.elim
 case fieldAddr t x i =>
  obtain ⟨ti, h1, h⟩ := AW.1 h
  obtain ⟨fs, h2, h⟩ := FD.1 h
  obtain ⟨f, h3, h⟩ := AX.1 h
  obtain ⟨tf, h4, h5, h⟩ := AW.1 h
  try dsimp only at h
  unfold V0 at h
  split at h <;> first | exact h.elim | (rename_i e; exact nC _ ⟨ti, fs, f.1, f.2, tf, h1, h2, h3, h4, h5, by simp only [e]⟩ Iff.rfl h)
 case indexAddr t x i =>
  obtain ⟨kk, n, h1, h⟩ := Cq.1 h
  obtain ⟨ti, h2, h⟩ := AW.1 h
  try dsimp only at h
  unfold iaS at h
  split at h
  .rename_i e1 e2
   obtain ⟨te, g1, g2, g3, h⟩ := AW.1 h
   obtain ⟨c, g4, g5⟩ := AX.1 h
   exact nC _ ⟨kk, n, ti, h1, h2, by simp only [e1, e2]; exact ⟨⟨te, g1, g2⟩, g3, c, g4, rfl⟩⟩ Iff.rfl g5
  .rename_i e1 e2
   obtain ⟨te, g1, g2, ⟨g3, g4⟩, h⟩ := AW.1 h
   exact nC _ ⟨kk, n, ti, h1, h2, by simp only [e1, e2]; exact ⟨⟨te, g1, g2⟩, g3, g4, trivial⟩⟩ Iff.rfl h
  .rename_i e1 e2
   obtain ⟨te, g1, ⟨g2, g3⟩, h⟩ := AW.1 h
   exact nC _ ⟨kk, n, ti, h1, h2, by simp only [e1, e2]; exact ⟨te, g1, g2, g3, rfl⟩⟩ Iff.rfl h
  .rename_i e1 e2
   obtain ⟨te, g1, ⟨g2, g3⟩, h⟩ := AW.1 h
   exact nC _ ⟨kk, n, ti, h1, h2, by simp only [e1, e2]; exact ⟨te, g1, g2, g3, rfl⟩⟩ Iff.rfl h
  exact h.elim
 case index t x i =>
  obtain ⟨kk, n, h1, h⟩ := Cq.1 h
  obtain ⟨ti, h2, h0, h⟩ := AW.1 h
  try dsimp only at h
  unfold ixS at h
  split at h
  .rename_i e1 e2
   obtain ⟨te, g1, g2, h⟩ := AW.1 h
   obtain ⟨v, g3, g4⟩ := AX.1 h
   exact nC v ⟨kk, n, ti, h1, h2, h0, by simp only [e1, e2]; exact ⟨te, v, g1, g2, g3, rfl⟩⟩ Iff.rfl g4
  .rename_i e1 e2
   obtain ⟨te, g1, g2, h⟩ := AW.1 h
   obtain ⟨v, g3, g4⟩ := AX.1 h
   exact nC v ⟨kk, n, ti, h1, h2, h0, by simp only [e1, e2]; exact ⟨te, v, g1, g2, g3, rfl⟩⟩ Iff.rfl g4
  .rename_i e1 e2
   obtain ⟨c, g1, g2⟩ := AX.1 h
   exact nC _ ⟨kk, n, ti, h1, h2, h0, by simp only [e1, e2]; exact ⟨c, g1, rfl⟩⟩ Iff.rfl g2
  exact h.elim
 case makeFunc fn first caps =>
  cases fn <;> simp only at h
  rename_i f
  exact nC _ ⟨by simpa using h.1, f, rfl, rfl⟩ Iff.rfl h.2
 case slice t x lo hi mx =>
  cases mx with
  | some m => exact h.elim
  | none => obtain ⟨l, h1, h2⟩ := V8 h; exact nC l ⟨rfl, h1⟩ Iff.rfl h2
 case load t x =>
  obtain ⟨hc', h⟩ := h
  obtain ⟨ti, h1, h2⟩ := AW.1 h
  obtain ⟨l, h3, h4⟩ := W3 h2
  exact ⟨l, .keep, ⟨rfl, hc', ti, h1, h3⟩, keep l h4⟩
 case store t x v =>
  obtain ⟨hc', h⟩ := h
  obtain ⟨ti, h1, h⟩ := AW.1 h
  obtain ⟨ls, h2, ⟨h3, h4⟩, h⟩ := AX.1 h
  try dsimp only at h
  unfold Td at h
  split at h
  .rename_i id off e
   obtain ⟨o', g1, h⟩ := AX.1 h
   obtain ⟨cells, rfl, g2, h⟩ := Jb.1 h
   refine ⟨.any, .set _, ⟨hc', _, rfl, ?_⟩, goes _ _ _ _ rfl h⟩
   simp only [mW, KG]
   exact ⟨ti, h1, ls, h2, h3, h4, by simp only [e]; exact ⟨cells, g1, g2, trivial, rfl⟩⟩
  .rename_i id i off e
   obtain ⟨o', g1, h⟩ := AX.1 h
   obtain ⟨e', sz, elems, rfl, h⟩ := Fw.1 h
   obtain ⟨x, g2, h⟩ := AX.1 h
   obtain ⟨ds, g3, g4, h⟩ := AX.1 h
   refine ⟨.any, .set _, ⟨hc', _, rfl, ?_⟩, goes _ _ _ _ rfl h⟩
   simp only [mW, KG]
   exact ⟨ti, h1, ls, h2, h3, h4, by simp only [e]; exact ⟨e', sz, elems, x, ds, g1, g2, g4, g3, trivial, rfl⟩⟩
  exact h.elim
 case alloc t => obtain ⟨ti, h1, h2⟩ := AW.1 h; exact ⟨_, .new _, ⟨ti, h1, rfl, rfl⟩, goes _ _ _ _ rfl h2⟩
 case box t x => obtain ⟨ls, h1, h2⟩ := AX.1 h; exact ⟨_, .new _, ⟨ls, h1, rfl, rfl⟩, goes _ _ _ _ rfl h2⟩
 case buildSlice t n ps =>
  obtain ⟨ti, h1, h⟩ := AW.1 h
  obtain ⟨e, h2, h⟩ := Cc.1 h
  obtain ⟨te, h3, ⟨h4, h5⟩, h⟩ := AW.1 h
  obtain ⟨l, h6, h7, h⟩ := AX.1 h
  rcases h with h | h
  .exact ⟨_, .new _, ⟨ti, e, te, l, h1, h2, h3, h4, h5, h6, h7, .inl ⟨rfl, rfl⟩⟩, goes _ _ _ _ rfl h⟩
  exact ⟨_, .keep, ⟨ti, e, te, l, h1, h2, h3, h4, h5, h6, h7, .inr ⟨rfl, rfl⟩⟩, keep _ h⟩
 case makeSlice t l c =>
  obtain ⟨ti, h1, h⟩ := AW.1 h
  obtain ⟨e, h2, h⟩ := Cc.1 h
  obtain ⟨te, h3, h⟩ := AW.1 h
  obtain ⟨k1, n, h4, h⟩ := Cq.1 h
  obtain ⟨k2, n', h5, ⟨h9, h6, h7, h8⟩, h⟩ := Cq.1 h
  simp only at h9
  subst h9
  rcases h with h | h
  .exact ⟨_, .new _, ⟨ti, e, te, n', k1, k2, h1, h2, h3, h4, h5, h6, h7, h8, .inl ⟨rfl, rfl⟩⟩, goes _ _ _ _ rfl h⟩
  exact ⟨_, .keep, ⟨ti, e, te, n', k1, k2, h1, h2, h3, h4, h5, h6, h7, h8, .inr ⟨rfl, rfl⟩⟩, keep _ h⟩
 case makeMap t r =>
  cases r with
  | some r => exact h.elim
  | none => exact ⟨_, .new _, ⟨rfl, rfl, rfl⟩, goes _ _ _ _ rfl h⟩
 case lookup t x i ok =>
  obtain ⟨ti, h1, h⟩ := AW.1 h
  obtain ⟨kt, et, h2, h⟩ := EX.1 h
  obtain ⟨te, h3, h⟩ := AW.1 h
  obtain ⟨m, h4, h⟩ := AX.1 h
  obtain ⟨kd, h5, ⟨h6, h7⟩, h⟩ := Dd.1 h
  exact ⟨_, .keep, ⟨rfl, ti, kt, et, te, m, kd, h1, h2, h3, h4, h5, h6, h7, rfl⟩, keep _ h⟩
 case mapUpdate t x i v =>
  obtain ⟨ti, h1, h⟩ := AW.1 h
  obtain ⟨kt, et, h2, h⟩ := EX.1 h
  obtain ⟨id, h3, h⟩ := Ev.1 h
  obtain ⟨o', h4, h⟩ := AX.1 h
  obtain ⟨m, rfl, h⟩ := Fv.1 h
  obtain ⟨kd, h5, h⟩ := Dd.1 h
  obtain ⟨vd, h6, ⟨h7, h8⟩, h⟩ := Dd.1 h
  refine ⟨.any, .set _, ⟨_, rfl, ?_⟩, goes _ _ _ _ rfl h⟩
  simp only [mW, Mf]
  exact ⟨ti, kt, et, id, m, kd, vd, h1, h2, h3, h4, h5, h6, h7, h8, trivial, rfl⟩
 case mapEntry t x i =>
  obtain ⟨ti, h1, h⟩ := AW.1 h
  obtain ⟨kt, et, h2, h⟩ := EX.1 h
  obtain ⟨te, h3, h⟩ := AW.1 h
  obtain ⟨id, h4, h⟩ := Ev.1 h
  obtain ⟨o', h5, h⟩ := AX.1 h
  obtain ⟨m, rfl, h⟩ := Fv.1 h
  obtain ⟨kd, h6, ⟨h7, h8⟩, h⟩ := Dd.1 h
  refine ⟨_, .set _, ⟨_, rfl, ?_⟩, goes _ _ _ _ rfl h⟩
  simp only [mW, Mg]
  exact ⟨ti, kt, et, te, id, m, kd, h1, h2, h3, h4, h5, h6, h7, h8, rfl, rfl⟩
 case entryStore t x s v =>
  obtain ⟨id, h1, h⟩ := Ev.1 h
  obtain ⟨o', h2, h⟩ := AX.1 h
  obtain ⟨m, rfl, h⟩ := Fv.1 h
  obtain ⟨kk, n, h3, h⟩ := Cq.1 h
  obtain ⟨vd, h4, h0, h⟩ := Dd.1 h
  obtain ⟨p, h5, h⟩ := AX.1 h
  refine ⟨.any, .set _, ⟨_, rfl, ?_⟩, goes _ _ _ _ rfl h⟩
  simp only [mW, ON]
  exact ⟨id, m, kk, n, vd, p, h1, h2, h3, h0, h5, h4, trivial, rfl⟩
 case call c =>
  obtain ⟨callee, args, ats⟩ := c
  simp only at h
  split at h
  .rename_i x t e2 e3
   obtain ⟨ti, h1, h⟩ := AW.1 h
   have ha : args = #[x] := by rw [<- Array.toList_inj, e2]
   have hb : ats = #[t] := by rw [<- Array.toList_inj, e3]
   try dsimp only at h
   unfold V7 at h
   split at h
   .rename_i g; exact nC _ (by simp only [nW]; exact ⟨x, t, ti, ha, hb, h1, by simp only [g]⟩) Iff.rfl h
   .rename_i g1 g2; exact nC _ (by simp only [nW]; exact ⟨x, t, ti, ha, hb, h1, by simp only [g1, g2, LJ]; try (intros; trivial)⟩) Iff.rfl h
   .rename_i g1 g2; exact nC _ (by simp only [nW]; exact ⟨x, t, ti, ha, hb, h1, by simp only [g1, g2, LJ]; try (intros; trivial)⟩) Iff.rfl h
   .rename_i g1 g2; exact nC _ (by simp only [nW]; exact ⟨x, t, ti, ha, hb, h1, by simp only [g1, g2, LJ]; try (intros; trivial)⟩) Iff.rfl h
   .rename_i g1 g2; exact nC _ (by simp only [nW]; exact ⟨x, t, ti, ha, hb, h1, by simp only [g1, g2, LJ]; try (intros; trivial)⟩) Iff.rfl h
   exact h.elim
  .exact h.elim
  .exact h.elim
  .rename_i s0 r0 e20
   obtain ⟨hap, h⟩ := h
   have h : Kw P A AB st o.dst ⟨.builtin .append, args, ats⟩ K := h
   unfold Kw at h
   simp only at h
   split at h
   .simp_all
   .rename_i s x t t' _ e2 e3
    obtain ⟨rfl, h⟩ := h
    obtain ⟨ti, h1, h⟩ := AW.1 h
    obtain ⟨e, h2, h⟩ := Cc.1 h
    obtain ⟨te, h3, h4, h⟩ := AW.1 h
    obtain ⟨new, h5, h6, h⟩ := AX.1 h
    have ha : args = #[s, x] := by rw [<- Array.toList_inj, e2]
    have hap : Wv AB st ⟨.builtin .append, args, ats⟩ := fun s' hs' => by
     rw [ha] at hs'; cases hs'
     have : s0 = s := by rw [e20] at e2; injection e2
     rw [<- this]; exact hap
    have hb : ats = #[t', t'] := by rw [<- Array.toList_inj, e3]
    try dsimp only at h
    unfold Te at h
    split at h
    .rename_i e9
     refine ⟨_, .set _, ⟨hap, _, rfl, ?_⟩, goes _ _ _ _ rfl h.2⟩
     simp only [mW]
     exact ⟨trivial, s, x, t', ha, hb, ti, e, te, h1, h2, h3, h4, new, h5, h6, by simp only [e9]; exact ⟨h.1.1, h.1.2, trivial, trivial⟩⟩
    .rename_i id sz off len e9
     obtain ⟨hsz, h⟩ := h
     obtain ⟨o', g1, h⟩ := AX.1 h
     obtain ⟨e', sz', elems, rfl, ⟨k1, k2, g2, g3, g4⟩, h9⟩ := Fw.1 h
     subst k1; subst k2
     refine ⟨_, .set _, ⟨hap, _, rfl, ?_⟩, goes _ _ _ _ rfl h9⟩
     simp only [mW]
     exact ⟨trivial, s, x, t', ha, hb, ti, e', te, h1, h2, h3, h4, new, h5, h6, by simp only [e9]; exact ⟨elems, hsz, g1, g2, g3, g4, trivial, rfl⟩⟩
    exact h.elim
   all_goals simp_all
  .rename_i f
   split at h
   .rename_i hd
    obtain ⟨l, h', g1, g2⟩ := h
    exact ⟨l, .set h', by show (if Cl f = true then _ else _); rw [if_pos hd]; exact ⟨h', rfl, g1⟩, goes _ _ _ _ rfl g2⟩
   rename_i hnd
   obtain ⟨k, caps, g1, g2⟩ := VB.1 h
   rcases g2 with ⟨ds, r, g3, g4, g5, g6⟩ | ⟨g0, ds, t, sz, elems, g3, g4, g5, g6⟩
   .exact ⟨_, .keep, by show (if Cl f = true then _ else _); rw [if_neg hnd]; exact .inl ⟨rfl, k, caps, ds, r, g1, g3, g4, g5, rfl⟩, keep _ g6⟩
   exact ⟨_, .new _, by show (if Cl f = true then _ else _); rw [if_neg hnd]; exact .inr ⟨g0, k, caps, ds, t, sz, elems, g1, g3, g4, g5, rfl, rfl⟩, goes _ _ _ _ rfl g6⟩
  rename_i hne
  unfold Kw at h
  simp only at h
  split at h
  .simp_all
  .simp_all
  .simp_all
  .rename_i x t e2 e3
   simp_all
  .obtain ⟨r, h1, h⟩ := AX.1 h
   exact nC _ (by simp only [nW]; exact ⟨r, h1, rfl⟩) Iff.rfl h
  .obtain ⟨r, h1, h⟩ := AX.1 h
   exact nC _ (by simp only [nW]; exact ⟨r, h1, rfl⟩) Iff.rfl h
  exact h.elim
 all_goals exact h.elim
def FP (ops : List Oper) (order : List Nat) : List (Nat × Hs) :=
 match order with
 | [] => []
 | i :: rest => match ops[i]? with
  | some o => (i, OR ops o) :: FP ops rest
  | none => []
theorem G9 {ops : List Oper} {base : Nat} {K : BC St} : ∀ (order : List Nat) (st : St), (order.all fun i => decide (i < ops.length)) = true -> DW P A AB base ops.length K (FP ops order) st ->
  Gp P AB ops.toArray base (fun st' => K.f { st' with ctr := base + ops.length }) order st
 | [], st, _, h => h.h
 | i :: rest, st, hb, h => by
  simp only [List.all_cons, Bool.and_eq_true, decide_eq_true_eq] at hb
  obtain ⟨o, ho⟩ : ∃ o, ops[i]? = some o := ⟨_, List.getElem?_eq_getElem hb.1⟩
  have ih := G9 (ops := ops) (base := base) (K := K) rest
  have hp : FP ops (i :: rest) = (i, OR ops o) :: FP ops rest := by simp [FP, ho]
  rw [hp] at h
  have ho' : ops.toArray[i]? = some o := by simpa using ho
  have step : Gl P A AB (st.at (base + i)) o.dst o.op ⟨DW P A AB base ops.length K (FP ops rest), ⟨⟩⟩ ->
    ∃ l e, CU P AB (st.at (base + i)) o.op l e /\ Gp P AB ops.toArray base (fun st' => K.f { st' with ctr := base + ops.length }) rest (apS st (base + i) o l e) := fun h => by
   obtain ⟨l, e, h1, h2⟩ := Zg (fun s c hk => by
    have := Qe (P := P) (A := A) (AB := AB) base ops.length K (FP ops rest) s c
    simp only at hk ⊢
    rw [<- this]; exact hk) h (o := o) rfl
   refine ⟨l, e, h1, ih _ hb.2 ?_⟩
   have e1 : apS (st.at (base + i)) (st.at (base + i)).ctr o l e = (apS st (base + i) o l e).at (base + i) := by
    unfold apS St.at St.put
    cases o.dst <;> rfl
   simp only at h2
   rw [e1, Qe] at h2
   exact h2
  simp only [Gp, ho']
  simp only [OR] at h
  cases hg : o.guard with
  | none =>
   rw [hg] at h
   exact step h
  | some g =>
   obtain ⟨j, want⟩ := g
   rw [hg] at h
   simp only [DW, SH] at h
   unfold gM at h
   have sk : DW P A AB base ops.length K (FP ops rest) (st.put o.dst .und) -> Gp P AB ops.toArray base (fun st' => K.f { st' with ctr := base + ops.length }) rest (apS st (base + i) o .und .keep) := fun h => by
    have e1 : apS st (base + i) o .und .keep = st.put o.dst .und := rfl
    rw [e1]; exact ih _ hb.2 h
   simp only
   split at h
   .rename_i b e
    try simp only [e]
    exact ⟨fun hb => step (h.1 hb), fun hb => sk (h.2 hb)⟩
   .rename_i e
    try simp only [e]
    exact sk h
   exact h.elim
end
end Go.E
/- The equations by which a drawn region is reckoned. Written by a program (mkev.py). No condition. -/
namespace Go.E
open Go Go.RowKit
section
variable {P : Program}
theorem AB0 {h : AQ} {k : Nat} {args : List LV} {ds : List DV} {r : DV} {f : DV -> Prop} {hf : Ik f} (hds : Bz h args = some ds) (hF : Bc P k ds (· = r))
  (hs : r.scalar = true \/ args.flatMap (D8 h) = []) (hK : f r) : YD P h k args ⟨f, hf⟩ := ⟨ds, r, hds, hF, hs, hK⟩
end
end Go.E
/- Functions that hand back a slice of their own: the caller may write into it. No condition. -/
namespace Go.E
open Go Go.RowKit
section
variable {P : Program} {A : BP} {AB : A9}
theorem DQ.own {h : AQ} {ctr k : Nat} {args : List LV} {ds : List DV} {e sz : Nat} {elems : List (List DV)} {K : LV -> AQ -> Nat -> Prop} (hds : Bz h args = some ds) (hf : FV P k ds e sz elems)
  (hl : args.flatMap (D8 h) = []) (hK : K (.lsl ctr sz 0 elems.length) ((ctr, .row e sz elems) :: h) (ctr + 1)) : DQ P A h ctr k args K := by
 refine ⟨hf.enters, fun μ w vs hh hsz hr => ?_⟩
 obtain ⟨g1, g2⟩ := FC hh (l := args.flatMap (D8 h)) hds (fun id hid => hid)
 rw [hl] at g2
 have hO : ∀ b, Aj A μ h b -> b < w.heap.size := by
  rintro b (hb | ⟨id, x, lc, h1, h2, h3, rfl⟩)
  .exact Nat.lt_of_lt_of_le (A.hO b hb).1 hh.size
  exact (hh.base id x lc h1 h2 h3).1
 refine (hf.run (Aj A μ h) w vs hO (by omega) fun i v d hv hd => ?_).mono fun en w' ⟨v, he, hn, hb⟩ => ?_
 .have hi := (List.getElem?_eq_some_iff.1 hd).1
  have hx : args[i]? = some (args[i]'(by omega)) := List.getElem?_eq_getElem _
  exact g2 i v _ d hx hd (hr i v _ hv hx)
 have hno : μ ctr = none := hh.fresh ctr (Nat.le_refl _)
 obtain ⟨hlen, hn⟩ := hn
 have hkm : Bd (CA μ h) w w' := ⟨hb.size, fun b hb' _ => hb.block b hb'⟩
 have hsub : ∀ id x, AF id ((ctr, BE.row e sz elems) :: h) = some x -> (id = ctr /\ x = .row e sz elems) \/ AF id h = some x := by
  intro id x hx
  simp only [AF] at hx
  split at hx
  .cases hx; exact .inl ⟨‹_›, rfl⟩
  exact .inr hx
 have hold : ∀ id x lc, AF id ((ctr, BE.row e sz elems) :: h) = some x -> id ≠ ctr -> μ id = some lc -> lc.nil = false -> w'.heap[lc.b]? = w.heap[lc.b]? := by
  intro id x lc hx hne hm hnl
  rcases hsub id x hx with ⟨rfl, _⟩ | hx
  .exact absurd rfl hne
  exact hb.block _ (hh.base id x lc hx hm hnl).1
 have fin : ∀ (loc : Bf), (loc.nil = false -> loc.b < w'.heap.size /\ w.heap.size <= loc.b) ->
   (∀ O' : Nat -> Prop, (∀ b, O' b -> Aj A μ h b \/ (loc.nil = false /\ b = loc.b)) -> ED O' (B5 μ ctr loc) w' loc (.row e sz elems)) ->
   (∀ O', Ag O' (B5 μ ctr loc) w' v (.lsl ctr sz 0 elems.length)) ->
   ∃ u l h' c' μ', en = .returned u /\ K l h' c' /\ HRel A μ' h' (Fr c') w' /\ Ag (Aj A μ' h') μ' w' u l /\ ∀ v x, Ag (Aj A μ h) μ w v x -> Ag (Aj A μ' h') μ' w' v x := by
  intro loc hloc ho hu
  have hfr : Ln μ h ((ctr, BE.row e sz elems) :: h) w loc := fun hn => .inl (hloc hn).2
  have hown := hh.sub_add loc (.row e sz elems) ((ctr, .row e sz elems) :: h) hfr hsub
  have hcov : ∀ b, Aj A (B5 μ ctr loc) ((ctr, .row e sz elems) :: h) b -> Aj A μ h b \/ (loc.nil = false /\ b = loc.b) := by
   rintro b (hb' | ⟨id, x, lc, h1, h2, h3, h4⟩)
   .exact .inl (.inl hb')
   by_cases e' : id = ctr
   .subst e'
    simp only [B5, if_true, Option.some.injEq] at h2
    subst h2; exact .inr ⟨h3, h4.symm⟩
   rcases hsub id x h1 with ⟨e'', _⟩ | h1
   .exact absurd e'' e'
   simp only [B5, e', if_false] at h2
   exact .inl (.inr ⟨id, x, lc, h1, h2, h3, h4⟩)
  have hadd := hh.add (w' := w') hno loc (.row e sz elems) ((ctr, .row e sz elems) :: h) (fun hn => (hloc hn).1) hfr hsub hkm hold hb.os hb.tape hb.output (ho _ hcov)
  exact ⟨v, _, _, _, _, he, hK, hadd.less (fun id hid => by simp only [Fr] at hid ⊢; omega), hu _, fun v x hv => hv.mono hkm.own hown (Iw hno loc)⟩
 rcases hn with ⟨rfl, rfl⟩ | ⟨a, b, o, cap, c, rfl, h1, h2, h3, h4, h5, h6, h7, h8, h9, h10⟩
 .exact fin ⟨true, 0, 0, sz, 0⟩ (fun hn => by cases hn) (fun O' _ => ⟨rfl, hlen, .inl ⟨rfl, rfl⟩⟩) (fun O' => .lsln ctr ⟨true, 0, 0, sz, 0⟩ (by simp [B5]) rfl)
 refine fin ⟨false, b, o, sz, cap⟩ (fun _ => ⟨h2, h1⟩) (fun O' hO' => ⟨rfl, hlen, .inr ⟨rfl, c, h6, h7, h8, h9, fun i j x d u hx hd hu => ?_⟩⟩) (fun O' => ?_)
 .refine (h10 i j x d u hx hd hu).mono (Bd.refl _ _) fun q _ hq => ?_
  rcases hO' q hq with hq | ⟨_, hq⟩
  .exact .inl hq
  exact .inr hq
 exact .lsl ctr 0 elems.length cap a ⟨false, b, o, sz, cap⟩ (by simp [B5]) rfl (by simp) h8 (fun hc => by rw [h3 hc]; simp) h4 h5
def V9 (t e sz : Nat) (elems : List (List DV)) : Exit -> St -> Prop := M6 fun st =>
 (∃ id, st.eval (.tmp t) = .lsl id sz 0 elems.length /\ AF id st.heap = some (.row e sz elems)) \/ (st.eval (.tmp t) = .p .nils /\ elems = [])
theorem Zh {k : Nat} {fn : Func} {c : Code} (hf : P.funcs[k]? = some fn) (hb : fn.body = some c) (hn : (fn.name == "runtime.NumGoroutine") = false) (nt : Nat) (hnt : fn.ntmps = nt) (t : Nat) (hrs : fn.results.toList = [.tmp t]) {ds : List DV} (hlen : ds.length <= nt)
  {e sz : Nat} {elems : List (List DV)} (hel : ∀ x ∈ elems, x.length = sz)
  (h : ∀ A : BP, (∀ id, A.μ0 id = none) -> CD P A c (V9 t e sz elems) ⟨nt, Dg 0 ds, [], 0⟩) : FV P k ds e sz elems := by
 subst hnt
 refine ⟨Ij hf hb hn, fun O w vs hO hsz hrel => ?_⟩
 let A : BP := ⟨w, O, fun _ => False, fun _ => none, fun b hb => ⟨hO b hb, id⟩⟩
 have hR : R A ⟨fn.ntmps, Dg 0 ds, [], 0⟩ { tmps := vs ++ Array.replicate (fn.ntmps - vs.size) undef, defers := [] } w := by
  refine ⟨⟨fun _ => none, ⟨by simp [AF], by simp [AF], fun _ _ => rfl, by simp [AF], Nat.le_refl _, fun _ _ _ => rfl, rfl, rfl, rfl, by simp [A]⟩, fun t ht => ?_⟩, by simp; omega, rfl⟩
  have hown : ∀ b, Aj A (fun _ => none) [] b -> O b := by
   rintro b (hb | ⟨id, x, lc, h1, _⟩)
   .exact hb
   simp [AF] at h1
  simp only [Bo, OJ, Nat.zero_le, if_true, Nat.sub_zero]
  by_cases hlt : t < ds.length
  .have hv : t < vs.size := by omega
   have e : ds[t]? = some ds[t] := by simp [hlt]
   rw [e]
   simp only [Option.map_some]
   have e2 : (vs ++ Array.replicate (fn.ntmps - vs.size) undef).getD t undef = vs[t] := by
    rw [Array.getD_eq_getD_getElem?, Array.getElem?_append_left hv]; simp [hv]
   rw [e2]
   exact .p _ _ ((hrel t _ _ (by simp [hv]) e).mono (Bd.refl _ _) (fun b _ hb => hown b hb))
  have e : ds[t]? = none := by simp; omega
  rw [e]; exact .any _
 refine calls_of_wp hf hb (wp_mono (h A (fun _ => rfl) _ _ hR) ?_)
 rintro en a' w' ⟨st', ⟨⟨μ, hh, hs⟩, hnt, hdef⟩, hq⟩
 have hres : (results fn a'.tmps).run P w' = .ok (a'.eval (.tmp t)) w' := by
  have : (fn.results.toList.mapM (MI P a'.tmps)).run P w' = .ok [a'.eval (.tmp t)] w' := by
   rw [hrs]; simp [List.mapM_cons, MI, Act.eval]
  exact MK this
 have hbel : Below w.heap.size w w' := ⟨hh.os, hh.tape, hh.output, hh.size, fun b hb => hh.block b hb id⟩
 have fin : ((∃ id, st'.eval (.tmp t) = .lsl id sz 0 elems.length /\ AF id st'.heap = some (.row e sz elems)) \/ (st'.eval (.tmp t) = .p .nils /\ elems = [])) ->
   a'.defers = [] /\ ∃ v, (results fn a'.tmps).run P w' = .ok v w' /\ ∃ u, Ending.returned v = .returned u /\ LA w w' O u e sz elems /\ Below w.heap.size w w' := by
  intro hc
  refine ⟨hdef, _, hres, _, rfl, ?_, hbel⟩
  have hv := G3 hs (.tmp t)
  rcases hc with ⟨id, h1, h2⟩ | ⟨h1, rfl⟩
  .rw [h1] at hv
   generalize a'.eval (.tmp t) = v at hv
   obtain ⟨loc, m1, ⟨_, m2, m3⟩⟩ := hh.obj id _ h2
   refine ⟨hel, ?_⟩
   generalize hq0 : (0 : Nat) = off at hv
   generalize hq1 : elems.length = n at hv
   cases hv with
   | lsln _ loc' k1 k2 => exact .inl ⟨rfl, by cases elems <;> simp_all⟩
   | lsl _ _ _ cap ad loc' k1 k2 k3 k4 k5 k6 k7 =>
    subst hq0; subst hq1
    rw [m1] at k1; cases k1
    rcases m3 with ⟨m4, _⟩ | ⟨m4, c, m5, m6, m7, m8, m9⟩
    .rw [k2] at m4; cases m4
    have hbase := hh.base id _ loc h2 m1 k2
    refine .inr ⟨ad, loc.b, loc.o, cap, c, rfl, ?_, hbase.1, fun hc => by simpa using k5 hc, k6, k7, m5, by rw [show cap = loc.cap by omega]; exact m6, k4, by omega, fun i j x d u hx hd hu => ?_⟩
    .rcases hbase.2.2 with hb | hb
     .exact hb
     exact hb.elim
    refine (m9 i j x d u hx hd hu).mono (Bd.refl _ _) fun q _ hq => ?_
    rcases hq with hq | rfl
    .exact .inl hq
    exact .inr ⟨id, _, loc, h2, m1, k2, rfl⟩
  rw [h1] at hv
  exact ⟨by simp, .inl ⟨hv.nils_inv, rfl⟩⟩
 cases en with
 | normal => exact fin hq
 | ret => exact fin hq
 | _ => exact hq.elim
theorem ABU {h : AQ} {c k : Nat} {args : List LV} {ds : List DV} {e sz : Nat} {elems : List (List DV)} {f : LV × AQ × Nat -> Prop} {hf : Ik f} (hds : Bz h args = some ds) (hF : FV P k ds e sz elems)
  (hs : args.flatMap (D8 h) = []) (hK : f (.lsl c sz 0 elems.length, (c, .row e sz elems) :: h, c + 1)) : Iz P A h c k args ⟨f, hf⟩ :=
 DQ.own hds hF hs hK
end
end Go.E
/- Operations reckoned by unfolding alone (Fy, Fz, F0): a run of operations of which each gives its value at once. No condition. -/
namespace Go.E
open Go Go.RowKit
def Ba {α : Type} (t : Nat) : List (Nat × α) -> Option α
 | [] => none
 | p :: l => match Nat.beq t p.1 with
  | true => some p.2
  | false => Ba t l
theorem Bb {α : Type} {t : Nat} : ∀ {l : List (Nat × α)}, Ba t l = AF t l
 | [] => rfl
 | (k, v) :: l => by
  simp only [Ba, AF]
  by_cases h : t = k
  .subst h; simp
  rw [if_neg h]
  have : Nat.beq t k = false := by
   cases hb : Nat.beq t k with
   | false => rfl
   | true => exact absurd (Nat.eq_of_beq_eq_true hb) h
  rw [this]
  exact Bb
def BL (nt : Nat) (sl : List (Nat × LV)) (x : Operand) : LV :=
 match x with
 | .tmp t => match Nat.blt t nt with
  | true => match Ba t sl with
   | some v => v
   | none => .any
  | false => .any
 | .const v => PJ v
 | .func f => .fn f []
 | .global _ => .any
theorem BN {nt : Nat} {sl : List (Nat × LV)} {h : AQ} {c : Nat} {x : Operand} : BL nt sl x = (⟨nt, sl, h, c⟩ : St).eval x := by
 cases x with
 | tmp t =>
  simp only [BL, St.eval, Bo, Bb]
  by_cases hb : t < nt
  .rw [if_pos hb]
   have : Nat.blt t nt = true := Nat.ble_eq_true_of_le hb
   rw [this]; rfl
  rw [if_neg hb]
  have : Nat.blt t nt = false := by
   cases hq : Nat.blt t nt with
   | false => rfl
   | true => exact absurd (Nat.le_of_ble_eq_true hq) hb
  rw [this]
 | const v => rfl
 | func f => rfl
 | global g => rfl
section
variable {α β γ : Type}
def El : List α -> Nat -> List α
 | l, 0 => l
 | [], _ + 1 => []
 | _ :: l, n + 1 => El l n
theorem Jf : ∀ {l : List α} {n : Nat}, El l n = l.drop n
 | l, 0 => by simp [El]
 | [], _ + 1 => by simp [El]
 | _ :: l, n + 1 => by simp only [El, List.drop_succ_cons]; exact Jf
def Kx : List α -> Nat -> (List α -> Option β) -> Option β
 | _, 0, k => k []
 | x :: l, n + 1, k => Kx l n (fun r => k (x :: r))
 | [], _ + 1, _ => none
theorem Py : ∀ {l : List α} {n : Nat} {k : List α -> Option β}, Kx l n k = (Dz l n).bind k
 | _, 0, k => by simp [Kx, Dz]
 | x :: l, n + 1, k => by
  simp only [Kx, Dz]
  rw [Py]
  cases Dz l n <;> rfl
 | [], _ + 1, _ => by simp [Kx, Dz]
def Re : List LV -> (List DV -> Option β) -> Option β -> Option β
 | [], k, _ => k []
 | .p d :: l, k, e => Re l (fun ds => k (d :: ds)) e
 | _ :: _, _, e => e
theorem Rf : ∀ {l : List LV} {k : List DV -> Option β} {e : Option β}, Re l k e = match G8 l with | some ds => k ds | none => e
 | [], k, e => by simp [Re, G8]
 | x :: l, k, e => by
  cases x with
  | p d =>
   simp only [Re, G8]
   rw [Rf]
   cases G8 l <;> rfl
  | _ => rfl
def Rg (l : List LV) (k : LV -> Option β) : Option β := Re l (fun ds => k (.p (.agg ds))) (k (.agg l))
theorem Rh {l : List LV} {k : LV -> Option β} : Rg l k = k (FO l) := by
 unfold Rg FO
 rw [Rf]
 cases G8 l <;> rfl
def TE (ti : TI) (off : Nat) (l : List LV) (k : LV -> Option β) : Option β :=
 match ti.sh with
 | .struct _ | .arr _ _ => Kx (El l off) ti.size (fun r => Rg r k)
 | _ => match El l off with
  | v :: _ => k v
  | [] => none
theorem Tj {ti : TI} {off : Nat} {l : List LV} {k : LV -> Option β} : TE ti off l k = (Dy ti off l).bind k := by
 have hd : (match El l off with
  | v :: _ => k v
  | [] => none) = l[off]?.bind k := by
  rw [Jf]
  cases hq : l.drop off with
  | nil => simp at hq; simp [List.getElem?_eq_none hq]
  | cons v r =>
   have : l[off]? = some v := by
    have := congrArg (·[0]?) hq
    simpa [List.getElem?_drop] using this
   simp [this]
 have ha : Kx (El l off) ti.size (fun r => Rg r k) = ((Dz (l.drop off) ti.size).map FO).bind k := by
  rw [Py, Jf]
  cases Dz (l.drop off) ti.size with
  | none => rfl
  | some r => simp [Rh]
 unfold TE Dy
 cases hsh : ti.sh <;> simp only [Sh.isAgg] <;> first | exact ha | exact hd
def Qf (ti : TI) (off : Nat) (l : List DV) (k : LV -> Option β) : Option β :=
 match ti.sh with
 | .struct _ | .arr _ _ => Kx (El l off) ti.size (fun r => k (.p (.agg r)))
 | _ => match El l off with
  | v :: _ => k (.p v)
  | [] => none
theorem SI {f : α -> γ} : ∀ {l : List α} {n : Nat}, Dz (l.map f) n = (Dz l n).map (List.map f)
 | _, 0 => by simp [Dz]
 | x :: l, n + 1 => by
  simp only [List.map_cons, Dz]
  rw [SI]
  cases Dz l n <;> rfl
 | [], _ + 1 => by simp [Dz]
theorem W4 {l : List DV} : FO (l.map .p) = .p (.agg l) := by simp [FO, Tg]
theorem Pz {ti : TI} {off : Nat} {l : List DV} {k : LV -> Option β} : Qf ti off l k = (Dy ti off (l.map .p)).bind k := by
 have hd : (match El l off with
  | v :: _ => k (.p v)
  | [] => none) = (l.map LV.p)[off]?.bind k := by
  rw [Jf, List.getElem?_map]
  cases hq : l.drop off with
  | nil => simp at hq; simp [List.getElem?_eq_none hq]
  | cons v r =>
   have : l[off]? = some v := by
    have := congrArg (·[0]?) hq
    simpa [List.getElem?_drop] using this
   simp [this]
 have ha : Kx (El l off) ti.size (fun r => k (.p (.agg r))) = ((Dz ((l.map LV.p).drop off) ti.size).map FO).bind k := by
  rw [Py, Jf, <- List.map_drop, SI]
  cases Dz (l.drop off) ti.size with
  | none => rfl
  | some r => simp [W4]
 unfold Qf Dy
 cases hsh : ti.sh <;> simp only [Sh.isAgg] <;> first | exact ha | exact hd
def NJ : List DV -> (List LV -> Option β) -> Option β
 | [], k => k []
 | d :: l, k => NJ l (fun r => k (.p d :: r))
theorem LL : ∀ {l : List DV} {k : List LV -> Option β}, NJ l k = k (l.map .p)
 | [], k => rfl
 | d :: l, k => by simp only [NJ, List.map_cons]; rw [LL]
def LM (v : LV) (k : List LV -> Option β) : Option β :=
 match v with
 | .p (.agg l) => NJ l k
 | .agg l => k l
 | .p (.tup _) | .tup _ | .any | .und => none
 | v => k [v]
theorem KL {v : LV} {k : List LV -> Option β} : LM v k = v.cells.bind k := by
 cases v with
 | p d => cases d <;> first | rfl | (simp only [LM, LV.cells]; rw [LL]; rfl)
 | _ => rfl
def PM : List LV -> List LV -> (List LV -> Option β) -> Option β
 | l, [], k => k l
 | [], _ :: _, _ => none
 | _ :: l, v :: vs, k => PM l vs (fun r => k (v :: r))
def P0 : List LV -> Nat -> List LV -> (List LV -> Option β) -> Option β
 | l, 0, vs, k => PM l vs k
 | [], _ + 1, _, _ => none
 | x :: l, n + 1, vs, k => P0 l n vs (fun r => k (x :: r))
theorem Tk : ∀ {l vs : List LV} {k : List LV -> Option β} {y : β}, PM l vs k = some y -> vs.length <= l.length /\ k (Cz.over l vs) = some y
 | l, [], k, y, h => by simp only [PM] at h; exact ⟨by simp, by simpa [Cz.over] using h⟩
 | [], _ :: _, _, _, h => by simp [PM] at h
 | _ :: l, v :: vs, k, y, h => by
  simp only [PM] at h
  obtain ⟨h1, h2⟩ := Tk h
  exact ⟨by simpa using h1, h2⟩
theorem Ri : ∀ {l : List LV} {n : Nat} {vs : List LV} {k : List LV -> Option β} {y : β}, P0 l n vs k = some y -> n + vs.length <= l.length /\ k (Cz l n vs) = some y
 | l, 0, vs, k, y, h => by
  obtain ⟨h1, h2⟩ := Tk (by simpa only [P0] using h)
  cases l <;> exact ⟨by simpa using h1, h2⟩
 | [], _ + 1, _, _, _, h => by simp [P0] at h
 | x :: l, n + 1, vs, k, y, h => by
  simp only [P0] at h
  obtain ⟨h1, h2⟩ := Ri h
  exact ⟨by simp only [List.length_cons]; omega, h2⟩
def Ke (t : Nat) (v : BE) : AQ -> (AQ -> Option β) -> Option β
 | [], k => k []
 | (q, u) :: l, k => match Nat.beq t q with
  | true => k ((q, v) :: l)
  | false => Ke t v l (fun r => k ((q, u) :: r))
theorem Hb {t : Nat} {v : BE} : ∀ {l : AQ} {k : AQ -> Option β}, Ke t v l k = k (Bv t v l)
 | [], k => rfl
 | (q, u) :: l, k => by
  simp only [Ke, Bv]
  by_cases h : t = q
  .subst h; simp
  have : Nat.beq t q = false := by
   cases hb : Nat.beq t q with
   | false => rfl
   | true => exact absurd (Nat.eq_of_beq_eq_true hb) h
  rw [this, if_neg h]
  exact Hb
def OV : List LV -> Bool
 | [] => true
 | v :: l => match v.one with
  | true => OV l
  | false => false
theorem OW : ∀ {l : List LV}, OV l = l.all LV.one
 | [] => rfl
 | v :: l => by
  simp only [OV, List.all_cons]
  cases v.one with
  | true => rw [OW]; rfl
  | false => rfl
def Qg (sz : Nat) : Nat -> List (Nat × LV) -> (List (List DV) -> Option β) -> Option β
 | _, [], k => k []
 | n, p :: rest, k => match Nat.beq p.1 n with
  | true => LM p.2 fun ls => Re ls (fun ds => match Nat.beq ds.length sz with
   | true => Qg sz (n + 1) rest (fun r => k (ds :: r))
   | false => none) none
  | false => none
theorem SJ {sz : Nat} : ∀ {ps : List (Nat × LV)} {n : Nat} {k : List (List DV) -> Option β} {y : β}, Qg sz n ps k = some y -> ∃ l, G0 sz n ps = some l /\ k l = some y
 | [], n, k, y, h => ⟨[], by simp [G0], h⟩
 | (i, v) :: rest, n, k, y, h => by
  simp only [Qg] at h
  split at h
  .rename_i hb
   have hi : i = n := Nat.eq_of_beq_eq_true hb
   subst hi
   rw [KL] at h
   cases hc : v.cells with
   | none => rw [hc] at h; simp at h
   | some ls =>
    rw [hc] at h
    simp only [Option.bind_some] at h
    rw [Rf] at h
    cases ha : G8 ls with
    | none => rw [ha] at h; simp at h
    | some ds =>
     rw [ha] at h
     simp only at h
     split at h
     .rename_i hl
      obtain ⟨r, h1, h2⟩ := SJ h
      refine ⟨ds :: r, ?_, h2⟩
      simp only [G0, if_true, hc, ha, h1]
      rw [if_pos (Nat.eq_of_beq_eq_true hl)]
     cases h
  cases h
def Rj (v : LV) (k : LV -> Option β) : Option β :=
 match v with
 | .p d => k (.p d)
 | .lsl a b c d => k (.lsl a b c d)
 | .lpb a b => k (.lpb a b)
 | .lpe a b c => k (.lpe a b c)
 | .lmap a => k (.lmap a)
 | .agg l => k (.agg l)
 | .tup l => k (.tup l)
 | .fn g l => k (.fn g l)
 | .und => k .und
 | .any => k .any
theorem Mk {v : LV} {k : LV -> Option β} : Rj v k = k v := by cases v <;> rfl
def PN (nt : Nat) (sl : List (Nat × LV)) : List (Nat × Operand) -> (List (Nat × LV) -> Option β) -> Option β
 | [], k => k []
 | (i, x) :: l, k => Rj (BL nt sl x) fun v => PN nt sl l (fun r => k ((i, v) :: r))
theorem NK {nt : Nat} {sl : List (Nat × LV)} : ∀ {l : List (Nat × Operand)} {k : List (Nat × LV) -> Option β}, PN nt sl l k = k (l.map fun p => (p.1, BL nt sl p.2))
 | [], k => rfl
 | (i, x) :: l, k => by simp only [PN, List.map_cons]; rw [Mk, NK]
def Dl (nt : Nat) (sl : List (Nat × LV)) : List Operand -> (List LV -> Option β) -> Option β
 | [], k => k []
 | p :: l, k => Rj (BL nt sl p) fun v => Dl nt sl l (fun r => k (v :: r))
theorem KM {nt : Nat} {sl : List (Nat × LV)} : ∀ {l : List Operand} {k : List LV -> Option β}, Dl nt sl l k = k (l.map fun p => BL nt sl p)
 | [], k => rfl
 | p :: l, k => by simp only [Dl, List.map_cons]; rw [Mk, KM]
def OX (AB : A9) (pl : Nat -> Option (Nat × Nat)) : List LV -> List (Nat × LV) -> (List LV -> Option β) -> Option β
 | cells, [], k => k cells
 | cells, (i, v) :: rest, k => match pl i with
  | some (o, ft) => match AB.tt ft with
   | some ti => LM v fun ls => match Nat.beq ls.length ti.size with
    | true => P0 cells o ls fun cells' => OX AB pl cells' rest k
    | false => none
   | none => none
  | none => none
theorem OY {AB : A9} {pl : Nat -> Option (Nat × Nat)} : ∀ {ps : List (Nat × LV)} {cells : List LV} {k : List LV -> Option β} {y : β}, OX AB pl cells ps k = some y ->
  ∃ l, k l = some y /\ ∀ K : BC (List LV), K.f l -> LF AB pl cells ps K
 | [], cells, k, y, h => ⟨cells, h, fun _ => id⟩
 | (i, v) :: rest, cells, k, y, h => by
  simp only [OX] at h
  split at h
  .rename_i o ft hq
   split at h
   .rename_i ti hti
    rw [KL] at h
    cases hc : v.cells with
    | none => rw [hc] at h; simp at h
    | some ls =>
     rw [hc] at h
     simp only [Option.bind_some] at h
     split at h
     .rename_i hl
      obtain ⟨h1, h2⟩ := Ri h
      obtain ⟨l, h3, h4⟩ := OY h2
      refine ⟨l, h3, fun K hk => ?_⟩
      simp only [LF]
      exact AX.2 ⟨(o, ft), hq, AW.2 ⟨ti, hti, AX.2 ⟨ls, hc, ⟨Nat.eq_of_beq_eq_true hl, h1⟩, h4 K hk⟩⟩⟩
     cases h
   cases h
  cases h
def TF (AB : A9) : List (Nat × Nat) -> Bool
 | [] => true
 | p :: l => match AB.tt p.2 with
  | some _ => TF AB l
  | none => false
theorem Tl {AB : A9} : ∀ {l : List (Nat × Nat)}, TF AB l = l.all fun p => (AB.tt p.2).isSome
 | [] => rfl
 | p :: l => by
  simp only [TF, List.all_cons]
  cases AB.tt p.2 with
  | some _ => simp [Tl]
  | none => simp
def YF (op : BinOp) (kk : IntKind) (a b : Int) (k : LV -> Option β) : Option β :=
 match op with
 | .add => k (.p (.int kk (kk.wrap (a + b))))
 | .sub => k (.p (.int kk (kk.wrap (a - b))))
 | .mul => k (.p (.int kk (kk.wrap (a * b))))
 | .eql => k (.p (.bool (a == b)))
 | .neq => k (.p (.bool (a != b)))
 | .lss => k (.p (.bool (decide (a < b))))
 | .leq => k (.p (.bool (decide (a <= b))))
 | .gtr => k (.p (.bool (decide (b < a))))
 | .geq => k (.p (.bool (decide (b <= a))))
 | .xor => k (.p (.int kk (kk.wrap (BitVec.ofInt kk.bits a ^^^ BitVec.ofInt kk.bits b).toNat)))
 | .or => k (.p (.int kk (kk.wrap (BitVec.ofInt kk.bits a ||| BitVec.ofInt kk.bits b).toNat)))
 | _ => none
def Rk (AB : A9) (t : Nat) : Bool :=
 match AB.tt t with
 | some ti => match ti.sh with
  | .bool => true
  | _ => false
 | none => false
def OZ : IntKind -> IntKind -> Bool
 | .i8, .i8 | .i16, .i16 | .i32, .i32 | .i64, .i64 | .u8, .u8 | .u16, .u16 | .u32, .u32 | .u64, .u64 => true
 | _, _ => false
theorem Oa {a b : IntKind} (h : OZ a b = true) : a = b := by cases a <;> cases b <;> first | rfl | simp [OZ] at h
def YG (AB : A9) (op : BinOp) (t : Nat) (x y : LV) (k : LV -> Option β) : Option β :=
 match x, y with
 | .p (.int k1 a), .p (.int k2 b) => match OZ k1 k2 with
  | true => YF op k1 a b k
  | false => none
 | .p (.str a), .p (.str b) => match op with
  | .eql => k (.p (.bool (a.toList == b.toList)))
  | .neq => k (.p (.bool (!(a.toList == b.toList))))
  | _ => none
 | .p (.bool a), .p (.bool b) => match Rk AB t with
  | true => match op with
   | .eql => k (.p (.bool (a == b)))
   | .neq => k (.p (.bool (!(a == b))))
   | _ => none
  | false => none
 | .p (.place _ _), .p .nilp => match AB.ptr t with
  | true => match op with
   | .eql => k (.p (.bool false))
   | .neq => k (.p (.bool true))
   | _ => none
  | false => none
 | .lpb _ _, .p .nilp => match AB.ptr t with
  | true => match op with
   | .eql => k (.p (.bool false))
   | .neq => k (.p (.bool true))
   | _ => none
  | false => none
 | .p .nilp, .p .nilp => match AB.ptr t with
  | true => match op with
   | .eql => k (.p (.bool true))
   | .neq => k (.p (.bool false))
   | _ => none
  | false => none
 | _, _ => none
def YH (off : Nat) (x : LV) (k : LV -> Option β) : Option β :=
 match x with
 | .lpb id o => k (.lpb id (o + off))
 | .lpe id j o => k (.lpe id j (o + off))
 | .p (.place l o) => k (.p (.place l (o + off)))
 | _ => none
def Tm : IntKind -> Int -> List LV -> (Int -> Option β) -> Option β
 | _, n, [], k => k n
 | kk, n, .p (.int j m) :: rest, k => match OZ j kk with
  | true => Tm kk (if m > n then m else n) rest k
  | false => none
 | _, _, _ :: _, _ => none
def Tn : IntKind -> Int -> List LV -> (Int -> Option β) -> Option β
 | _, n, [], k => k n
 | kk, n, .p (.int j m) :: rest, k => match OZ j kk with
  | true => Tn kk (if m < n then m else n) rest k
  | false => none
 | _, _, _ :: _, _ => none
def Fy (AB : A9) (nt : Nat) (sl : List (Nat × LV)) (h : AQ) (c : Nat) (op : Op) (k : LV -> AQ -> Nat -> Option β) : Option β :=
  match op with
  | .move x | .assign x => Rj (BL nt sl x) fun v => k v h c
  | .pick b x y => match BL nt sl b with
    | .p (.bool b) => match b with
      | true => Rj (BL nt sl x) fun v => k v h c
      | false => Rj (BL nt sl y) fun v => k v h c
    | _ => none
  | .nilCheck x => match BL nt sl x with
    | .lpb i o => k (.lpb i o) h c
    | .lpe i j o => k (.lpe i j o) h c
    | .p (.place l o) => k (.p (.place l o)) h c
    | _ => none
  | .binOp op t x y _ => YG AB op t (BL nt sl x) (BL nt sl y) fun l => k l h c
  | .unOp op _ x => match op with
    | .not => match BL nt sl x with
      | .p (.bool b) => k (.p (.bool !b)) h c
      | _ => none
    | .neg => match BL nt sl x with
      | .p (.int kk n) => k (.p (.int kk (kk.wrap (0 - n)))) h c
      | _ => none
    | _ => none
  | .convert s d x => match BL nt sl x with
    | .p (.int _ n) => match AB.tt s with
      | some _ => match AB.tt d with
        | some ti => match ti.sh with
          | .int kd => k (.p (.int kd (kd.wrap n))) h c
          | _ => none
        | none => none
      | none => none
    | _ => none
  | .extract t i => match BL nt sl t with
    | .tup l => match El l i with
      | v :: _ => k v h c
      | [] => none
    | .p (.tup l) => match El l i with
      | v :: _ => k (.p v) h c
      | [] => none
    | _ => none
  | .field t x i => match AB.tt t with
    | some ti => match ti.sh with
      | .struct fs => match El fs i with
        | (o, ft) :: _ => match AB.tt ft with
          | some tf => match BL nt sl x with
            | .agg ls => TE tf o ls fun l => k l h c
            | .p (.agg ds) => Qf tf o ds fun l => k l h c
            | _ => none
          | none => none
        | [] => none
      | _ => none
    | none => none
  | .build t ps => match AB.tt t with
    | some ti => match ti.sh with
      | .struct fs => match TF AB fs with
        | true => NJ ti.zero fun z => PN nt sl ps.toList fun ps' => OX AB (fun i => fs[i]?) z ps' fun cells => Rg cells fun l => k l h c
        | false => none
      | .arr _ e => match AB.tt e with
        | some te => NJ ti.zero fun z => PN nt sl ps.toList fun ps' => OX AB (fun i => some (i * te.size, e)) z ps' fun cells => Rg cells fun l => k l h c
        | none => none
      | _ => none
    | none => none
  | .fieldAddr t x i => match AB.tt t with
    | some ti => match ti.sh with
      | .struct fs => match El fs i with
        | (o, ft) :: _ => match AB.tt ft with
          | some tf => match Nat.blt 0 tf.size with
            | true => YH o (BL nt sl x) fun l => k l h c
            | false => none
          | none => none
        | [] => none
      | _ => none
    | none => none
  | .makeFunc (.func f) first caps => match first.toList with
    | [] => Dl nt sl caps.toList fun l => k (.fn f l) h c
    | _ => none
  | .load t x => match Md AB.calm (BL nt sl x) with
   | false => none
   | true => match AB.tt t with
    | some ti => match BL nt sl x with
      | .p (.place l off) => Qf ti off l fun v => k v h c
      | .lpb id off => match Ba id h with
        | some (.box cells) => TE ti off cells fun v => k v h c
        | _ => none
      | _ => none
    | none => none
  | .store t x v => match LB AB.calm (BL nt sl x) with
   | false => none
   | true => match AB.tt t with
    | some ti => match BL nt sl x with
      | .lpb id off => LM (BL nt sl v) fun ls => match Nat.beq ls.length ti.size with
        | true => match OV ls with
          | true => match Ba id h with
            | some (.box cells) => P0 cells off ls fun cells' => Ke id (.box cells') h fun h' => k .any h' c
            | _ => none
          | false => none
        | false => none
      | _ => none
    | none => none
  | .alloc t => match AB.tt t with
    | some ti => NJ ti.zero fun z => k (.lpb c 0) ((c, .box z) :: h) (c + 1)
    | none => none
  | .box _ x => LM (BL nt sl x) fun ls => k (.lpb c 0) ((c, .box ls) :: h) (c + 1)
  | .buildSlice t n ps => match AB.tt t with
    | some ti => match ti.sh with
      | .slc e => match AB.tt e with
        | some te => match Nat.blt 0 te.size && Nat.ble (n * te.size) 16777216 with
          | true => PN nt sl ps.toList fun ps' => Qg te.size 0 ps' fun l => match Nat.beq l.length n with
            | true => k (.lsl c te.size 0 n) ((c, .row e te.size l) :: h) (c + 1)
            | false => none
          | false => none
        | none => none
      | _ => none
    | none => none
  | .makeMap _ none => k (.lmap c) ((c, .map []) :: h) (c + 1)
  | .call ⟨.builtin .len, args, ts⟩ => match args.toList, ts.toList with
    | [x], [t] => match AB.tt t with
      | some ti => match ti.sh, BL nt sl x with
        | .arr n _, _ => k (.p (.int .i64 n)) h c
        | .slc _, .p .nils => k (.p (.int .i64 0)) h c
        | .slc _, .lsl _ _ _ len => k (.p (.int .i64 len)) h c
        | .str, .p (.str s) => k (.p (.int .i64 s.size)) h c
        | _, _ => none
      | none => none
    | _, _ => none
  | .call ⟨.builtin .max, args, _⟩ => Dl nt sl args.toList fun l => match l with
    | .p (.int kk n) :: rest => Tm kk n rest fun m => k (.p (.int kk m)) h c
    | _ => none
  | .call ⟨.builtin .min, args, _⟩ => Dl nt sl args.toList fun l => match l with
    | .p (.int kk n) :: rest => Tn kk n rest fun m => k (.p (.int kk m)) h c
    | _ => none
  | _ => none
end
end Go.E
/- Operations reckoned by unfolding alone: they are sound (Hu); runs of operations (Fz, F0). No condition. -/
namespace Go.E
open Go Go.RowKit
section
variable {β : Type} {AB : A9} {nt : Nat} {sl : List (Nat × LV)} {hp : AQ} {c : Nat}
theorem Zj {op : BinOp} {kk : IntKind} {a b : Int} {k : LV -> Option β} {y : β} (h : YF op kk a b k = some y) : ∃ l, k l = some y /\ ∀ K : BC LV, K.f l -> Mi op kk a b K := by
 cases op <;> simp only [YF] at h <;> first | cases h | exact ⟨_, h, fun K hk => hk⟩
theorem WB {t : Nat} (h : Rk AB t = true) : ∃ ti, AB.tt t = some ti /\ ti.sh = .bool := by
 unfold Rk at h
 split at h
 .rename_i ti hti
  split at h
  .exact ⟨ti, hti, ‹_›⟩
  cases h
 cases h
theorem Zk {op : BinOp} {t : Nat} {x y : LV} {k : LV -> Option β} {z : β} (h : YG AB op t x y k = some z) : ∃ l, k l = some z /\ ∀ K : BC LV, K.f l -> Rb AB op t x y K /\ Px AB op t x y K := by
 unfold YG at h
 split at h
 .rename_i k1 a k2 b
  split at h
  .rename_i hk
   have := Oa hk
   subst this
   obtain ⟨l, h1, h2⟩ := Zj h
   exact ⟨l, h1, fun K hk => ⟨⟨rfl, h2 K hk⟩, ⟨rfl, h2 K hk⟩⟩⟩
  cases h
 .rename_i a b
  split at h
  .exact ⟨_, h, fun K hk => ⟨hk, hk⟩⟩
  .exact ⟨_, h, fun K hk => ⟨hk, hk⟩⟩
  cases h
 .rename_i a b
  split at h
  .rename_i hb
   obtain ⟨ti, hti, hsh⟩ := WB hb
   split at h
   .exact ⟨_, h, fun K hk => ⟨AW.2 ⟨ti, hti, hsh, hk⟩, AW.2 ⟨ti, hti, hsh, hk⟩⟩⟩
   .exact ⟨_, h, fun K hk => ⟨AW.2 ⟨ti, hti, hsh, hk⟩, AW.2 ⟨ti, hti, hsh, hk⟩⟩⟩
   cases h
  cases h
 .split at h
  .rename_i hb
   split at h
   .exact ⟨_, h, fun K hk => ⟨⟨hb, hk⟩, ⟨hb, hk⟩⟩⟩
   .exact ⟨_, h, fun K hk => ⟨⟨hb, hk⟩, ⟨hb, hk⟩⟩⟩
   cases h
  cases h
 .split at h
  .rename_i hb
   split at h
   .exact ⟨_, h, fun K hk => ⟨⟨hb, hk⟩, ⟨hb, hk⟩⟩⟩
   .exact ⟨_, h, fun K hk => ⟨⟨hb, hk⟩, ⟨hb, hk⟩⟩⟩
   cases h
  cases h
 .split at h
  .rename_i hb
   split at h
   .exact ⟨_, h, fun K hk => ⟨⟨hb, hk⟩, ⟨hb, hk⟩⟩⟩
   .exact ⟨_, h, fun K hk => ⟨⟨hb, hk⟩, ⟨hb, hk⟩⟩⟩
   cases h
  cases h
 cases h
theorem Zl {off : Nat} {x : LV} {k : LV -> Option β} {y : β} (h : YH off x k = some y) : ∃ l, k l = some y /\ ∀ K : BC LV, K.f l -> V0 off x K := by
 unfold YH at h
 split at h
 .exact ⟨_, h, fun K hk => hk⟩
 .exact ⟨_, h, fun K hk => hk⟩
 .exact ⟨_, h, fun K hk => hk⟩
 cases h
theorem I3 {α : Type} {l r : List α} {n : Nat} {x : α} (h : El l n = x :: r) : l[n]? = some x := by
 rw [Jf] at h
 have := congrArg (·[0]?) h
 simpa [List.getElem?_drop] using this
theorem VF {kk : IntKind} : ∀ {l : List LV} {n : Int} {k : Int -> Option β} {y : β}, Tm kk n l k = some y -> ∃ m, k m = some y /\ CB.go (fun x y => if y > x then y else x) kk n l = some m
 | [], n, k, y, h => ⟨n, h, rfl⟩
 | .p (.int j m) :: rest, n, k, y, h => by
  simp only [Tm] at h
  split at h
  .rename_i hj
   have := Oa hj
   subst this
   obtain ⟨r, h1, h2⟩ := VF h
   exact ⟨r, h1, by simp only [CB.go, if_true]; exact h2⟩
  cases h
 | .p .nils :: _, _, _, _, h | .p .nilp :: _, _, _, _, h | .p .nilm :: _, _, _, _, h | .p (.bool _) :: _, _, _, _, h | .p (.str _) :: _, _, _, _, h | .p (.agg _) :: _, _, _, _, h | .p (.tup _) :: _, _, _, _, h
 | .p (.slice _ _) :: _, _, _, _, h | .p (.place _ _) :: _, _, _, _, h | .p (.map _) :: _, _, _, _, h | .lsl .. :: _, _, _, _, h | .lpb .. :: _, _, _, _, h | .lpe .. :: _, _, _, _, h | .lmap _ :: _, _, _, _, h | .p (.fn _ _) :: _, _, _, _, h
 | .agg _ :: _, _, _, _, h | .tup _ :: _, _, _, _, h | .fn .. :: _, _, _, _, h | .und :: _, _, _, _, h | .any :: _, _, _, _, h => by simp [Tm] at h
theorem VG {kk : IntKind} : ∀ {l : List LV} {n : Int} {k : Int -> Option β} {y : β}, Tn kk n l k = some y -> ∃ m, k m = some y /\ CB.go (fun x y => if y < x then y else x) kk n l = some m
 | [], n, k, y, h => ⟨n, h, rfl⟩
 | .p (.int j m) :: rest, n, k, y, h => by
  simp only [Tn] at h
  split at h
  .rename_i hj
   have := Oa hj
   subst this
   obtain ⟨r, h1, h2⟩ := VG h
   exact ⟨r, h1, by simp only [CB.go, if_true]; exact h2⟩
  cases h
 | .p .nils :: _, _, _, _, h | .p .nilp :: _, _, _, _, h | .p .nilm :: _, _, _, _, h | .p (.bool _) :: _, _, _, _, h | .p (.str _) :: _, _, _, _, h | .p (.agg _) :: _, _, _, _, h | .p (.tup _) :: _, _, _, _, h
 | .p (.slice _ _) :: _, _, _, _, h | .p (.place _ _) :: _, _, _, _, h | .p (.map _) :: _, _, _, _, h | .lsl .. :: _, _, _, _, h | .lpb .. :: _, _, _, _, h | .lpe .. :: _, _, _, _, h | .lmap _ :: _, _, _, _, h | .p (.fn _ _) :: _, _, _, _, h
 | .agg _ :: _, _, _, _, h | .tup _ :: _, _, _, _, h | .fn .. :: _, _, _, _, h | .und :: _, _, _, _, h | .any :: _, _, _, _, h => by simp [Tn] at h
def W5 (AB : A9) (st : St) (op : Op) (l : LV) (h' : AQ) (c' : Nat) : Prop :=
 ∀ (P : Program) (A : BP) (dst : Option Tmp) (K : BC St), K.f (st.go dst l h' c') -> BQ P A AB st dst op K /\ Gl P A AB st dst op K
theorem Hu {op : Op} {k : LV -> AQ -> Nat -> Option β} {y : β} (h : Fy AB nt sl hp c op k = some y) : ∃ l h' c', k l h' c' = some y /\ W5 AB ⟨nt, sl, hp, c⟩ op l h' c' := by
 have hev : ∀ x, BL nt sl x = (⟨nt, sl, hp, c⟩ : St).eval x := fun x => BN
 cases op <;> simp only [Fy] at h <;> try (cases h; done)
 case move x => rw [Mk] at h; exact ⟨_, _, _, h, fun P A dst K hk => by rw [hev] at hk; exact ⟨hk, hk⟩⟩
 case assign x => rw [Mk] at h; exact ⟨_, _, _, h, fun P A dst K hk => by rw [hev] at hk; exact ⟨hk, hk⟩⟩
 case pick b x z =>
  split at h
  .rename_i b' hb
   rw [hev] at hb
   simp only [Mk] at h
   split at h
   .exact ⟨_, _, _, h, fun P A dst K hk => by
     rw [hev] at hk
     have : BQ P A AB ⟨nt, sl, hp, c⟩ dst (.pick b x z) K := by simp only [BQ]; rw [hb]; exact hk
     exact ⟨this, this⟩⟩
   exact ⟨_, _, _, h, fun P A dst K hk => by
    rw [hev] at hk
    have : BQ P A AB ⟨nt, sl, hp, c⟩ dst (.pick b x z) K := by simp only [BQ]; rw [hb]; exact hk
    exact ⟨this, this⟩⟩
  cases h
 case nilCheck x =>
  split at h
  .rename_i hx; rw [hev] at hx
   exact ⟨_, _, _, h, fun P A dst K hk => by
    have : BQ P A AB ⟨nt, sl, hp, c⟩ dst (.nilCheck x) K := by simp only [BQ]; rw [hx]; exact hk
    exact ⟨this, this⟩⟩
  .rename_i hx; rw [hev] at hx
   exact ⟨_, _, _, h, fun P A dst K hk => by
    have : BQ P A AB ⟨nt, sl, hp, c⟩ dst (.nilCheck x) K := by simp only [BQ]; rw [hx]; exact hk
    exact ⟨this, this⟩⟩
  .rename_i hx; rw [hev] at hx
   exact ⟨_, _, _, h, fun P A dst K hk => by
    have : BQ P A AB ⟨nt, sl, hp, c⟩ dst (.nilCheck x) K := by simp only [BQ]; rw [hx]; exact hk
    exact ⟨this, this⟩⟩
  cases h
 case binOp op t x z w =>
  obtain ⟨l, h1, h2⟩ := Zk h
  refine ⟨l, _, _, h1, fun P A dst K hk => ?_⟩
  rw [hev, hev] at h2
  exact ⟨(h2 ⟨fun l => K.f (St.put ⟨nt, sl, hp, c⟩ dst l), ⟨⟩⟩ hk).1, (h2 ⟨fun l => K.f (St.put ⟨nt, sl, hp, c⟩ dst l), ⟨⟩⟩ hk).2⟩
 case unOp op t x =>
  split at h
  .split at h
   .rename_i hx; rw [hev] at hx
    exact ⟨_, _, _, h, fun P A dst K hk => by
     have : BQ P A AB ⟨nt, sl, hp, c⟩ dst (.unOp .not t x) K := by simp only [BQ]; rw [hx]; exact hk
     exact ⟨this, this⟩⟩
   cases h
  .split at h
   .rename_i hx; rw [hev] at hx
    exact ⟨_, _, _, h, fun P A dst K hk => by
     have : BQ P A AB ⟨nt, sl, hp, c⟩ dst (.unOp .neg t x) K := by simp only [BQ]; rw [hx]; exact hk
     exact ⟨this, this⟩⟩
   cases h
  cases h
 case convert s d x =>
  split at h
  .rename_i kk n hx; rw [hev] at hx
   split at h
   .rename_i ts hs
    split at h
    .rename_i ti ht
     split at h
     .rename_i kd hsh
      exact ⟨_, _, _, h, fun P A dst K hk => by
       have : BQ P A AB ⟨nt, sl, hp, c⟩ dst (.convert s d x) K := by
        simp only [BQ]; rw [hx]
        exact AW.2 ⟨ts, hs, AW.2 ⟨ti, ht, AX.2 ⟨kd, by rw [hsh]; rfl, hk⟩⟩⟩
       exact ⟨this, this⟩⟩
     cases h
    cases h
   cases h
  cases h
 case extract t i =>
  split at h
  .rename_i l hx; rw [hev] at hx
   split at h
   .rename_i v r hd
    exact ⟨_, _, _, h, fun P A dst K hk => by
     have : BQ P A AB ⟨nt, sl, hp, c⟩ dst (.extract t i) K := by
      simp only [BQ]; rw [hx]
      exact AX.2 ⟨v, I3 hd, hk⟩
     exact ⟨this, this⟩⟩
   cases h
  .rename_i l hx; rw [hev] at hx
   split at h
   .rename_i v r hd
    exact ⟨_, _, _, h, fun P A dst K hk => by
     have : BQ P A AB ⟨nt, sl, hp, c⟩ dst (.extract t i) K := by
      simp only [BQ]; rw [hx]
      exact AX.2 ⟨v, I3 hd, hk⟩
     exact ⟨this, this⟩⟩
   cases h
  cases h
 case field t x i =>
  split at h
  .rename_i ti ht
   split at h
   .rename_i fs hsh
    split at h
    .rename_i o ft r hd
     split at h
     .rename_i tf htf
      split at h
      .rename_i ls hx; rw [hev] at hx
       rw [Tj, Option.bind_eq_some_iff] at h
       obtain ⟨v, hv, h⟩ := h
       exact ⟨_, _, _, h, fun P A dst K hk => by
        have : BQ P A AB ⟨nt, sl, hp, c⟩ dst (.field t x i) K := by
         simp only [BQ]; rw [hx]
         exact AW.2 ⟨ti, ht, FD.2 ⟨fs, hsh, AX.2 ⟨(o, ft), I3 hd, AW.2 ⟨tf, htf, AX.2 ⟨v, hv, hk⟩⟩⟩⟩⟩
        exact ⟨this, this⟩⟩
      .rename_i ds hx; rw [hev] at hx
       rw [Pz, Option.bind_eq_some_iff] at h
       obtain ⟨v, hv, h⟩ := h
       exact ⟨_, _, _, h, fun P A dst K hk => by
        have : BQ P A AB ⟨nt, sl, hp, c⟩ dst (.field t x i) K := by
         simp only [BQ]; rw [hx]
         exact AW.2 ⟨ti, ht, FD.2 ⟨fs, hsh, AX.2 ⟨(o, ft), I3 hd, AW.2 ⟨tf, htf, AX.2 ⟨v, hv, hk⟩⟩⟩⟩⟩
        exact ⟨this, this⟩⟩
      cases h
     cases h
    cases h
   cases h
  cases h
 case build t ps =>
  split at h
  .rename_i ti ht
   split at h
   .rename_i fs hsh
    split at h
    .rename_i hall
     rw [LL, NK] at h
     obtain ⟨l, h1, h2⟩ := OY h
     rw [Rh] at h1
     exact ⟨_, _, _, h1, fun P A dst K hk => by
      have : BQ P A AB ⟨nt, sl, hp, c⟩ dst (.build t ps) K := by
       simp only [BQ]
       refine AW.2 ⟨ti, ht, ?_⟩
       simp only [OT, hsh]
       rw [Tl] at hall
       refine ⟨hall, ?_⟩
       have := h2 ⟨fun cells => K.f (St.put ⟨nt, sl, hp, c⟩ dst (FO cells)), ⟨⟩⟩ hk
       simpa only [hev] using this
      exact ⟨this, this⟩⟩
    cases h
   .rename_i n e hsh
    split at h
    .rename_i te hte
     rw [LL, NK] at h
     obtain ⟨l, h1, h2⟩ := OY h
     rw [Rh] at h1
     exact ⟨_, _, _, h1, fun P A dst K hk => by
      have : BQ P A AB ⟨nt, sl, hp, c⟩ dst (.build t ps) K := by
       simp only [BQ]
       refine AW.2 ⟨ti, ht, ?_⟩
       simp only [OT, hsh]
       refine AW.2 ⟨te, hte, ?_⟩
       have := h2 ⟨fun cells => K.f (St.put ⟨nt, sl, hp, c⟩ dst (FO cells)), ⟨⟩⟩ hk
       simpa only [hev] using this
      exact ⟨this, this⟩⟩
    cases h
   cases h
  cases h
 case fieldAddr t x i =>
  split at h
  .rename_i ti ht
   split at h
   .rename_i fs hsh
    split at h
    .rename_i o ft r hd
     split at h
     .rename_i tf htf
      split at h
      .rename_i hsz
       obtain ⟨l, h1, h2⟩ := Zl h
       rw [hev] at h2
       exact ⟨_, _, _, h1, fun P A dst K hk => by
        have : BQ P A AB ⟨nt, sl, hp, c⟩ dst (.fieldAddr t x i) K := by
         simp only [BQ]
         refine AW.2 ⟨ti, ht, FD.2 ⟨fs, hsh, AX.2 ⟨(o, ft), I3 hd, AW.2 ⟨tf, htf, ?_, h2 ⟨fun l => K.f (St.put ⟨nt, sl, hp, c⟩ dst l), ⟨⟩⟩ hk⟩⟩⟩⟩
         have := Nat.le_of_ble_eq_true hsz
         omega
        exact ⟨this, this⟩⟩
      cases h
     cases h
    cases h
   cases h
  cases h
 case makeFunc fn first caps =>
  cases fn <;> simp only at h <;> try (cases h; done)
  rename_i f
  split at h
  .rename_i hf
   rw [KM] at h
   exact ⟨_, _, _, h, fun P A dst K hk => by
    have : BQ P A AB ⟨nt, sl, hp, c⟩ dst (.makeFunc (.func f) first caps) K := by
     simp only [BQ]
     refine ⟨hf, ?_⟩
     have e : (caps.toList.map fun p => BL nt sl p) = caps.toList.map (St.eval ⟨nt, sl, hp, c⟩) := List.map_congr_left fun x _ => hev x
     rw [e] at hk
     exact hk
    exact ⟨this, this⟩⟩
  cases h
 case load t x =>
  split at h
  .cases h
  rename_i hc'
  rw [hev] at hc'
  split at h
  .rename_i ti ht
   split at h
   .rename_i l off hx; rw [hev] at hx
    rw [Pz, Option.bind_eq_some_iff] at h
    obtain ⟨v, hv, h⟩ := h
    exact ⟨_, _, _, h, fun P A dst K hk => by
     have : BQ P A AB ⟨nt, sl, hp, c⟩ dst (.load t x) K := by
      simp only [BQ]; rw [hx]
      exact AW.2 ⟨ti, ht, AX.2 ⟨v, hv, hk⟩⟩
     exact ⟨this, hc', this⟩⟩
   .rename_i id off hx; rw [hev] at hx
    split at h
    .rename_i cells hl
     rw [Bb] at hl
     rw [Tj, Option.bind_eq_some_iff] at h
     obtain ⟨v, hv, h⟩ := h
     exact ⟨_, _, _, h, fun P A dst K hk => by
      have : BQ P A AB ⟨nt, sl, hp, c⟩ dst (.load t x) K := by
       simp only [BQ]; rw [hx]
       exact AW.2 ⟨ti, ht, AX.2 ⟨_, hl, by dsimp only; refine Jb.2 ⟨cells, rfl, ?_⟩; exact AX.2 ⟨v, hv, hk⟩⟩⟩
      exact ⟨this, hc', this⟩⟩
    cases h
   cases h
  cases h
 case store t x v =>
  split at h
  .cases h
  rename_i hc'
  rw [hev] at hc'
  split at h
  .rename_i ti ht
   split at h
   .rename_i id off hx; rw [hev] at hx
    rw [KL, Option.bind_eq_some_iff] at h
    obtain ⟨ls, hls, h⟩ := h
    rw [hev] at hls
    split at h
    .rename_i hlen
     split at h
     .rename_i hone
      rw [OW] at hone
      split at h
      .rename_i cells hl
       rw [Bb] at hl
       obtain ⟨h1, h2⟩ := Ri h
       rw [Hb] at h2
       exact ⟨_, _, _, h2, fun P A dst K hk => by
        have : BQ P A AB ⟨nt, sl, hp, c⟩ dst (.store t x v) K := by
         simp only [BQ]; rw [hx]
         exact AW.2 ⟨ti, ht, AX.2 ⟨ls, hls, ⟨Nat.eq_of_beq_eq_true hlen, hone⟩, AX.2 ⟨_, hl, by dsimp only; refine Jb.2 ⟨cells, rfl, ?_⟩; exact ⟨h1, hk⟩⟩⟩⟩
        exact ⟨this, hc', this⟩⟩
      cases h
     cases h
    cases h
   cases h
  cases h
 case alloc t =>
  split at h
  .rename_i ti ht
   rw [LL] at h
   exact ⟨_, _, _, h, fun P A dst K hk => by
    have : BQ P A AB ⟨nt, sl, hp, c⟩ dst (.alloc t) K := by
     simp only [BQ]
     exact AW.2 ⟨ti, ht, hk⟩
    exact ⟨this, this⟩⟩
  cases h
 case box t x =>
  rw [KL, Option.bind_eq_some_iff] at h
  obtain ⟨ls, hls, h⟩ := h
  rw [hev] at hls
  exact ⟨_, _, _, h, fun P A dst K hk => by
   have : BQ P A AB ⟨nt, sl, hp, c⟩ dst (.box t x) K := by
    simp only [BQ]
    exact AX.2 ⟨ls, hls, hk⟩
   exact ⟨this, this⟩⟩
 case buildSlice t n ps =>
  split at h
  .rename_i ti ht
   split at h
   .rename_i e hsh
    split at h
    .rename_i te hte
     split at h
     .rename_i hb
      rw [NK] at h
      obtain ⟨l, h1, h2⟩ := SJ h
      split at h2
      .rename_i hlen
       simp only [Bool.and_eq_true] at hb
       exact ⟨_, _, _, h2, fun P A dst K hk => by
        have : BQ P A AB ⟨nt, sl, hp, c⟩ dst (.buildSlice t n ps) K := by
         simp only [BQ]
         simp only [hev] at h1
         exact AW.2 ⟨ti, ht, Cc.2 ⟨e, hsh, AW.2 ⟨te, hte, ⟨Nat.le_of_ble_eq_true hb.1, Nat.le_of_ble_eq_true hb.2⟩, AX.2 ⟨l, h1, Nat.eq_of_beq_eq_true hlen, .inl hk⟩⟩⟩⟩
        exact ⟨this, this⟩⟩
      cases h2
     cases h
    cases h
   cases h
  cases h
 case makeMap t r =>
  cases r with
  | some r => cases h
  | none => exact ⟨_, _, _, h, fun P A dst K hk => ⟨hk, hk⟩⟩
 case call cl =>
  obtain ⟨callee, args, ts⟩ := cl
  cases callee with
  | value f => cases h
  | invoke r m => cases h
  | builtin b =>
   cases b <;> simp only at h <;> try (cases h; done)
   case len =>
    split at h
    .rename_i x t hargs hts
     split at h
     .rename_i ti ht
      have ha : args = #[x] := by cases args; simpa using hargs
      have ht' : ts = #[t] := by cases ts; simpa using hts
      subst ha ht'
      have fin : ∀ l, k l hp c = some y -> (∀ K : BC LV, K.f l -> X6 ti.sh ((⟨nt, sl, hp, c⟩ : St).eval x) K /\ V7 ti.sh ((⟨nt, sl, hp, c⟩ : St).eval x) K) ->
        ∃ l h' c', k l h' c' = some y /\ W5 AB ⟨nt, sl, hp, c⟩ (.call ⟨.builtin .len, #[x], #[t]⟩) l h' c' := fun l h1 h2 => ⟨l, hp, c, h1, fun P A dst K hk => by
       have := h2 ⟨fun l => K.f (St.put ⟨nt, sl, hp, c⟩ dst l), ⟨⟩⟩ hk
       exact ⟨AW.2 ⟨ti, ht, this.1⟩, AW.2 ⟨ti, ht, this.2⟩⟩⟩
      split at h
      .rename_i hsh
       exact fin _ h fun K hk => by rw [hsh]; exact ⟨hk, hk⟩
      .rename_i hsh hx; rw [hev] at hx
       exact fin _ h fun K hk => by rw [hsh, hx]; exact ⟨hk, hk⟩
      .rename_i hsh hx; rw [hev] at hx
       exact fin _ h fun K hk => by rw [hsh, hx]; exact ⟨hk, hk⟩
      .rename_i hsh hx; rw [hev] at hx
       exact fin _ h fun K hk => by rw [hsh, hx]; exact ⟨hk, hk⟩
      cases h
     cases h
    cases h
   case max =>
    rw [KM] at h
    split at h
    .rename_i kk n rest hl
     obtain ⟨m, h1, h2⟩ := VF h
     exact ⟨_, _, _, h1, fun P A dst K hk => by
      have : BQ P A AB ⟨nt, sl, hp, c⟩ dst (.call ⟨.builtin .max, args, ts⟩) K := by
       simp only [BQ, Kw]
       simp only [hev] at hl
       refine AX.2 ⟨(kk, m), ?_, hk⟩
       show CB _ (args.toList.map fun x => St.eval _ x) = _
       rw [hl]
       simp only [CB, h2]; rfl
      exact ⟨this, this⟩⟩
    cases h
   case min =>
    rw [KM] at h
    split at h
    .rename_i kk n rest hl
     obtain ⟨m, h1, h2⟩ := VG h
     exact ⟨_, _, _, h1, fun P A dst K hk => by
      have : BQ P A AB ⟨nt, sl, hp, c⟩ dst (.call ⟨.builtin .min, args, ts⟩) K := by
       simp only [BQ, Kw]
       simp only [hev] at hl
       refine AX.2 ⟨(kk, m), ?_, hk⟩
       show CB _ (args.toList.map fun x => St.eval _ x) = _
       rw [hl]
       simp only [CB, h2]; rfl
      exact ⟨this, this⟩⟩
    cases h
end
end Go.E
/- Runs of operations (Fz, F0), loops and joins told by plain Lean (AP, Kf), rules for a walk in step with a plain function. No condition. -/
namespace Go.E
open Go Go.RowKit
section
variable {β : Type}
def LN : Bool -> Bool -> Bool
 | true, true | false, false => true
 | _, _ => false
theorem LO {a b : Bool} (h : LN a b = true) : a = b := by cases a <;> cases b <;> first | rfl | cases h
theorem NL {a b : Bool} (h : LN a b = false) : a = !b := by cases a <;> cases b <;> first | rfl | cases h
def Fz (AB : A9) : Nat -> List Hs -> Nat -> List (Nat × LV) -> AQ -> Nat -> Option (List Hs × St)
 | 0, ms, nt, sl, h, c => some (ms, ⟨nt, sl, h, c⟩)
 | _ + 1, [], _, _, _, _ => none
 | n + 1, m :: ms, nt, sl, h, c => match m with
  | ⟨dst, op, g⟩ => match g with
   | none => Fy AB nt sl h c op fun l h' c' => match dst with
    | some t => Fz AB n ms nt ((t, l) :: sl) h' c'
    | none => Fz AB n ms nt sl h' c'
   | some (some d, want) => match BL nt sl (.tmp d) with
    | .p (.bool b) => match LN b want with
     | true => Fy AB nt sl h c op fun l h' c' => match dst with
      | some t => Fz AB n ms nt ((t, l) :: sl) h' c'
      | none => Fz AB n ms nt sl h' c'
     | false => match dst with
      | some t => Fz AB n ms nt ((t, .und) :: sl) h c
      | none => Fz AB n ms nt sl h c
    | .und => match dst with
     | some t => Fz AB n ms nt ((t, .und) :: sl) h c
     | none => Fz AB n ms nt sl h c
    | _ => none
   | some (none, _) => none
def IW (AB : A9) : List Hs -> Nat -> List (Nat × LV) -> AQ -> Nat -> Option St
 | [], nt, sl, h, c => some ⟨nt, sl, h, c⟩
 | m :: ms, nt, sl, h, c => match m with
  | ⟨dst, op, g⟩ => match g with
   | none => Fy AB nt sl h c op fun l h' c' => match dst with
    | some t => IW AB ms nt ((t, l) :: sl) h' c'
    | none => IW AB ms nt sl h' c'
   | some (some d, want) => match BL nt sl (.tmp d) with
    | .p (.bool b) => match LN b want with
     | true => Fy AB nt sl h c op fun l h' c' => match dst with
      | some t => IW AB ms nt ((t, l) :: sl) h' c'
      | none => IW AB ms nt sl h' c'
     | false => match dst with
      | some t => IW AB ms nt ((t, .und) :: sl) h c
      | none => IW AB ms nt sl h c
    | .und => match dst with
     | some t => IW AB ms nt ((t, .und) :: sl) h c
     | none => IW AB ms nt sl h c
    | _ => none
   | some (none, _) => none
def F0 (AB : A9) (base : Nat) : Nat -> List (Nat × Hs) -> Nat -> List (Nat × LV) -> AQ -> Option (List (Nat × Hs) × List (Nat × LV) × AQ)
 | 0, ms, _, sl, h => some (ms, sl, h)
 | _ + 1, [], _, _, _ => none
 | n + 1, m :: ms, nt, sl, h => match m with
  | (i, ⟨dst, op, g⟩) => match g with
   | none => Fy AB nt sl h (base + i) op fun l h' _ => match dst with
    | some t => F0 AB base n ms nt ((t, l) :: sl) h'
    | none => F0 AB base n ms nt sl h'
   | some (some d, want) => match BL nt sl (.tmp d) with
    | .p (.bool b) => match LN b want with
     | true => Fy AB nt sl h (base + i) op fun l h' _ => match dst with
      | some t => F0 AB base n ms nt ((t, l) :: sl) h'
      | none => F0 AB base n ms nt sl h'
     | false => match dst with
      | some t => F0 AB base n ms nt ((t, .und) :: sl) h
      | none => F0 AB base n ms nt sl h
    | .und => match dst with
     | some t => F0 AB base n ms nt ((t, .und) :: sl) h
     | none => F0 AB base n ms nt sl h
    | _ => none
   | some (none, _) => none
def F1 (AB : A9) (base : Nat) : List (Nat × Hs) -> Nat -> List (Nat × LV) -> AQ -> Option (List (Nat × LV) × AQ)
 | [], _, sl, h => some (sl, h)
 | m :: ms, nt, sl, h => match m with
  | (i, ⟨dst, op, g⟩) => match g with
   | none => Fy AB nt sl h (base + i) op fun l h' _ => match dst with
    | some t => F1 AB base ms nt ((t, l) :: sl) h'
    | none => F1 AB base ms nt sl h'
   | some (some d, want) => match BL nt sl (.tmp d) with
    | .p (.bool b) => match LN b want with
     | true => Fy AB nt sl h (base + i) op fun l h' _ => match dst with
      | some t => F1 AB base ms nt ((t, l) :: sl) h'
      | none => F1 AB base ms nt sl h'
     | false => match dst with
      | some t => F1 AB base ms nt ((t, .und) :: sl) h
      | none => F1 AB base ms nt sl h
    | .und => match dst with
     | some t => F1 AB base ms nt ((t, .und) :: sl) h
     | none => F1 AB base ms nt sl h
    | _ => none
   | some (none, _) => none
end
section
variable {P : Program} {A : BP} {AB : A9} {f : St -> Prop} {hf : Ik f} {nt : Nat} {sl : List (Nat × LV)} {h : AQ} {c : Nat}
theorem Ls {dst : Option Tmp} {l : LV} {h' : AQ} {c' : Nat} : (⟨nt, sl, h, c⟩ : St).go dst l h' c' = match dst with | some t => ⟨nt, (t, l) :: sl, h', c'⟩ | none => ⟨nt, sl, h', c'⟩ := by
 cases dst <;> rfl
theorem rn (n : Nat) {ms ms' : List Hs} {st' : St} (hr : Fz AB n ms nt sl h c = some (ms', st')) (k : EU P A AB ⟨f, hf⟩ ms' st') : EU P A AB ⟨f, hf⟩ ms ⟨nt, sl, h, c⟩ := by
  induction n generalizing ms nt sl h c with
  | zero =>
    have : (ms, (⟨nt, sl, h, c⟩ : St)) = (ms', st') := by simpa [Fz] using hr
    cases this; exact k
  | succ n ih =>
    cases ms with
    | nil => simp [Fz] at hr
    | cons m ms =>
      obtain ⟨dst, op, g⟩ := m
      have run : (Fy AB nt sl h c op fun l h' c' => match (generalizing := false) dst with
            | some t => Fz AB n ms nt ((t, l) :: sl) h' c'
            | none => Fz AB n ms nt sl h' c') = some (ms', st') -> BQ P A AB ⟨nt, sl, h, c⟩ dst op ⟨EU P A AB ⟨f, hf⟩ ms, ⟨⟩⟩ := fun hs => by
        obtain ⟨l, h', c', h1, h2⟩ := Hu hs
        refine (h2 P A dst _ ?_).1
        rw [Ls]
        cases dst with
        | some t => exact ih h1
        | none => exact ih h1
      have skip : (match (generalizing := false) dst with
          | some t => Fz AB n ms nt ((t, .und) :: sl) h c
          | none => Fz AB n ms nt sl h c) = some (ms', st') -> EU P A AB ⟨f, hf⟩ ms ((⟨nt, sl, h, c⟩ : St).put dst .und) := fun hs => by
        cases dst with
        | some t => exact ih hs
        | none => exact ih hs
      simp only [Fz] at hr
      cases g with
      | none => exact run hr
      | some g =>
        obtain ⟨d, want⟩ := g
        cases d with
        | none => simp at hr
        | some d =>
          simp only at hr
          simp only [EU, GR, <- BN (h := h) (c := c)]
          generalize BL nt sl (.tmp d) = v at hr ⊢
          split at hr
          . rename_i b
            split at hr
            . rename_i hb
              refine ⟨fun _ => run hr, fun e => ?_⟩
              rw [LO hb] at e; cases want <;> cases e
            rename_i hb
            refine ⟨fun e => ?_, fun _ => skip hr⟩
            rw [NL hb] at e; cases want <;> cases e
          . exact skip hr
          cases hr
theorem rl {ms : List Hs} {st' : St} (hr : IW AB ms nt sl h c = some st') (k : f st') : EU P A AB ⟨f, hf⟩ ms ⟨nt, sl, h, c⟩ := by
  induction ms generalizing nt sl h c with
  | nil =>
    have : (⟨nt, sl, h, c⟩ : St) = st' := by simpa [IW] using hr
    subst this; exact ⟨k⟩
  | cons m ms ih =>
      obtain ⟨dst, op, g⟩ := m
      have run : (Fy AB nt sl h c op fun l h' c' => match (generalizing := false) dst with
            | some t => IW AB ms nt ((t, l) :: sl) h' c'
            | none => IW AB ms nt sl h' c') = some st' -> BQ P A AB ⟨nt, sl, h, c⟩ dst op ⟨EU P A AB ⟨f, hf⟩ ms, ⟨⟩⟩ := fun hs => by
        obtain ⟨l, h', c', h1, h2⟩ := Hu hs
        refine (h2 P A dst _ ?_).1
        rw [Ls]
        cases dst with
        | some t => exact ih h1
        | none => exact ih h1
      have skip : (match (generalizing := false) dst with
          | some t => IW AB ms nt ((t, .und) :: sl) h c
          | none => IW AB ms nt sl h c) = some st' -> EU P A AB ⟨f, hf⟩ ms ((⟨nt, sl, h, c⟩ : St).put dst .und) := fun hs => by
        cases dst with
        | some t => exact ih hs
        | none => exact ih hs
      simp only [IW] at hr
      cases g with
      | none => exact run hr
      | some g =>
        obtain ⟨d, want⟩ := g
        cases d with
        | none => simp at hr
        | some d =>
          simp only at hr
          simp only [EU, GR, <- BN (h := h) (c := c)]
          generalize BL nt sl (.tmp d) = v at hr ⊢
          split at hr
          . rename_i b
            split at hr
            . rename_i hb
              refine ⟨fun _ => run hr, fun e => ?_⟩
              rw [LO hb] at e; cases want <;> cases e
            rename_i hb
            refine ⟨fun e => ?_, fun _ => skip hr⟩
            rw [NL hb] at e; cases want <;> cases e
          . exact skip hr
          cases hr
theorem Ar (n : Nat) {base m : Nat} {ms ms' : List (Nat × Hs)} {sl' : List (Nat × LV)} {h' : AQ} (hr : F0 AB base n ms nt sl h = some (ms', sl', h')) (k : DW P A AB base m ⟨f, hf⟩ ms' ⟨nt, sl', h', c⟩) : DW P A AB base m ⟨f, hf⟩ ms ⟨nt, sl, h, c⟩ := by
  induction n generalizing ms sl h with
  | zero =>
    have : (ms, sl, h) = (ms', sl', h') := by simpa [F0] using hr
    cases this; exact k
  | succ n ih =>
    cases ms with
    | nil => simp [F0] at hr
    | cons p ms =>
      obtain ⟨i, dst, op, g⟩ := p
      have at_ : ∀ {sl h c'} , DW P A AB base m ⟨f, hf⟩ ms ⟨nt, sl, h, c⟩ -> DW P A AB base m ⟨f, hf⟩ ms ⟨nt, sl, h, c'⟩ := fun {sl h c'} hd => by
        have := Qe (P := P) (A := A) (AB := AB) base m ⟨f, hf⟩ ms ⟨nt, sl, h, c⟩ c'
        rw [<- this] at hd; exact hd
      have run : (Fy AB nt sl h (base + i) op fun l h' c' => match (generalizing := false) dst with
            | some t => F0 AB base n ms nt ((t, l) :: sl) h'
            | none => F0 AB base n ms nt sl h') = some (ms', sl', h') -> Gl P A AB ((⟨nt, sl, h, c⟩ : St).at (base + i)) dst op ⟨DW P A AB base m ⟨f, hf⟩ ms, ⟨⟩⟩ := fun hs => by
        obtain ⟨l, h', c', h1, h2⟩ := Hu hs
        refine (h2 P A dst _ ?_).2
        rw [Ls]
        cases dst with
        | some t => exact at_ (ih h1)
        | none => exact at_ (ih h1)
      have skip : (match (generalizing := false) dst with
          | some t => F0 AB base n ms nt ((t, .und) :: sl) h
          | none => F0 AB base n ms nt sl h) = some (ms', sl', h') -> DW P A AB base m ⟨f, hf⟩ ms ((⟨nt, sl, h, c⟩ : St).put dst .und) := fun hs => by
        cases dst with
        | some t => exact ih hs
        | none => exact ih hs
      simp only [F0] at hr
      cases g with
      | none => exact run hr
      | some g =>
        obtain ⟨d, want⟩ := g
        cases d with
        | none => simp at hr
        | some d =>
          simp only at hr
          simp only [DW, GR, <- BN (h := h) (c := c)]
          generalize BL nt sl (.tmp d) = v at hr ⊢
          split at hr
          . rename_i b
            split at hr
            . rename_i hb
              refine ⟨fun _ => run hr, fun e => ?_⟩
              rw [LO hb] at e; cases want <;> cases e
            rename_i hb
            refine ⟨fun e => ?_, fun _ => skip hr⟩
            rw [NL hb] at e; cases want <;> cases e
          . exact skip hr
          cases hr
theorem Au {base m : Nat} {ms : List (Nat × Hs)} {sl' : List (Nat × LV)} {h' : AQ} (hr : F1 AB base ms nt sl h = some (sl', h')) (k : f ⟨nt, sl', h', base + m⟩) : DW P A AB base m ⟨f, hf⟩ ms ⟨nt, sl, h, c⟩ := by
  induction ms generalizing sl h with
  | nil =>
    have : (sl, h) = (sl', h') := by simpa [F1] using hr
    cases this; exact ⟨k⟩
  | cons p ms ih =>
      obtain ⟨i, dst, op, g⟩ := p
      have at_ : ∀ {sl h c'} , DW P A AB base m ⟨f, hf⟩ ms ⟨nt, sl, h, c⟩ -> DW P A AB base m ⟨f, hf⟩ ms ⟨nt, sl, h, c'⟩ := fun {sl h c'} hd => by
        have := Qe (P := P) (A := A) (AB := AB) base m ⟨f, hf⟩ ms ⟨nt, sl, h, c⟩ c'
        rw [<- this] at hd; exact hd
      have run : (Fy AB nt sl h (base + i) op fun l h' c' => match (generalizing := false) dst with
            | some t => F1 AB base ms nt ((t, l) :: sl) h'
            | none => F1 AB base ms nt sl h') = some (sl', h') -> Gl P A AB ((⟨nt, sl, h, c⟩ : St).at (base + i)) dst op ⟨DW P A AB base m ⟨f, hf⟩ ms, ⟨⟩⟩ := fun hs => by
        obtain ⟨l, h', c', h1, h2⟩ := Hu hs
        refine (h2 P A dst _ ?_).2
        rw [Ls]
        cases dst with
        | some t => exact at_ (ih h1)
        | none => exact at_ (ih h1)
      have skip : (match (generalizing := false) dst with
          | some t => F1 AB base ms nt ((t, .und) :: sl) h
          | none => F1 AB base ms nt sl h) = some (sl', h') -> DW P A AB base m ⟨f, hf⟩ ms ((⟨nt, sl, h, c⟩ : St).put dst .und) := fun hs => by
        cases dst with
        | some t => exact ih hs
        | none => exact ih hs
      simp only [F1] at hr
      cases g with
      | none => exact run hr
      | some g =>
        obtain ⟨d, want⟩ := g
        cases d with
        | none => simp at hr
        | some d =>
          simp only at hr
          simp only [DW, GR, <- BN (h := h) (c := c)]
          generalize BL nt sl (.tmp d) = v at hr ⊢
          split at hr
          . rename_i b
            split at hr
            . rename_i hb
              refine ⟨fun _ => run hr, fun e => ?_⟩
              rw [LO hb] at e; cases want <;> cases e
            rename_i hb
            refine ⟨fun e => ?_, fun _ => skip hr⟩
            rw [NL hb] at e; cases want <;> cases e
          . exact skip hr
          cases hr
end
end Go.E
/- Rules for a walk in step with a plain function. No condition. -/
namespace Go.E
open Go Go.RowKit
def MO : List Nat -> Nat -> Bool
 | [], _ => false
 | x :: l, t => match Nat.beq t x with
  | true => true
  | false => MO l t
theorem VH : ∀ {l : List Nat} {t : Nat}, MO l t = true ↔ t ∈ l
 | [], t => by simp [MO]
 | x :: l, t => by
  simp only [MO, List.mem_cons]
  split
  .rename_i h; have := Nat.eq_of_beq_eq_true h; subst this; simp
  rename_i h
  have hne : t ≠ x := by rintro rfl; simp at h
  rw [VH]; simp [hne]
theorem YI {P : Program} {l : List (Nat × TI)} (h : (l.map fun p => WA P p.1) = l.map fun p => some p.2) : OU P (fun t => Ba t l) := by
 have := Ti h
 intro t ti ht
 exact this t ti (by simpa only [Bb] using ht)
section
variable {α β γ : Type}
theorem bd {o : Option α} {f : α -> Option β} {b : β} (h : o.bind f = some b) : ∃ a, o = some a /\ f a = some b := Option.bind_eq_some_iff.1 h
def An (l : List α) (n : Int) : Option α := match n with
 | .ofNat k => l[k]?
 | .negSucc _ => none
theorem Jg {l : List α} {n : Int} {y : α} (h : An l n = some y) : 0 <= n /\ n.toNat < l.length /\ l[n.toNat]? = some y := by
 cases n with
 | ofNat k => exact ⟨Int.natCast_nonneg k, (List.getElem?_eq_some_iff.1 h).1, h⟩
 | negSucc k => cases h
def NM (s : ByteArray) (n : Int) : Option UInt8 := match n with
 | .ofNat k => s[k]?
 | .negSucc _ => none
def Im (l : List α) (lo hi : Int) : Option (List α) := if 0 <= lo /\ lo <= hi /\ hi <= l.length then some ((l.take hi.toNat).drop lo.toNat) else none
def A7 (l m : List α) : Option (List α) := if l.length + m.length <= 4294967296 then some (l ++ m) else none
def IX (l : List α) (n : Int) (z : α) : List α := l.set n.toNat z
def To (a b : Int) : Option Int := if b = 0 then none else some (IntKind.wrap .u8 (a.tdiv b))
def MP (a b : Int) : Option Int := if b = 0 then none else some (a.tmod b)
def FQ (step : α -> Option (α ⊕ β)) : Nat -> α -> Option β
 | 0, _ => none
 | n + 1, s => match step s with
  | none => none
  | some (.inl s') => FQ step n s'
  | some (.inr b) => some b
theorem Ob {step : α -> Option (α ⊕ β)} : ∀ {n m : Nat} {s : α} {b : β}, FQ step n s = some b -> FQ step (n + m) s = some b
 | 0, _, _, _, h => by cases h
 | n + 1, m, s, b, h => by
  rw [show n + 1 + m = (n + m) + 1 by omega]
  simp only [FQ] at h ⊢
  split at h
  .cases h
  .exact Ob h
  exact h
open Classical in
noncomputable def Qh (step : α -> Option (α ⊕ β)) (s : α) : Option β := if h : ∃ b n, FQ step n s = some b then some h.choose else none
noncomputable def AP (step : α -> Option (α ⊕ β)) (s : α) : Option β := match FQ step 18446744073709551616 s with
 | some b => some b
 | none => Qh step s
theorem Tp {step : α -> Option (α ⊕ β)} {n : Nat} {s : α} {b : β} (h : FQ step n s = some b) : Qh step s = some b := by
 have hex : ∃ b n, FQ step n s = some b := ⟨b, n, h⟩
 unfold Qh
 rw [dif_pos hex]
 obtain ⟨m, hm⟩ := hex.choose_spec
 have h1 := Ob (m := m) h
 have h2 := Ob (m := n) hm
 rw [show m + n = n + m by omega, h1] at h2
 exact h2.symm
theorem VI (step : α -> Option (α ⊕ β)) (s : α) : AP step s = Qh step s := by
 unfold AP
 split
 .rename_i h; exact (Tp h).symm
 rfl
theorem P1 {step : α -> Option (α ⊕ β)} {n : Nat} {s : α} {b : β} (h : FQ step n s = some b) : AP step s = some b := by
 rw [VI]; exact Tp h
theorem Ky {step : α -> Option (α ⊕ β)} {s : α} {b : β} (h : AP step s = some b) : ∃ n, FQ step n s = some b := by
 rw [VI] at h
 unfold Qh at h
 split at h
 .rename_i hex
  obtain ⟨m, hm⟩ := hex.choose_spec
  simp only [Option.some.injEq] at h
  rw [h] at hm
  exact ⟨m, hm⟩
 cases h
theorem IY (step : α -> Option (α ⊕ β)) (s : α) : AP step s = match step s with
  | none => none
  | some (.inl s') => AP step s'
  | some (.inr b) => some b := by
 cases hs : step s with
 | none =>
  cases hl : AP step s with
  | none => rfl
  | some b =>
   obtain ⟨n, hn⟩ := Ky hl
   cases n with
   | zero => cases hn
   | succ n => simp [FQ, hs] at hn
 | some r =>
  cases r with
  | inl s' =>
   simp only
   cases hl : AP step s' with
   | some b => obtain ⟨n, hn⟩ := Ky hl; exact P1 (n := n + 1) (by simp only [FQ, hs]; exact hn)
   | none =>
    cases hl' : AP step s with
    | none => rfl
    | some b =>
     obtain ⟨n, hn⟩ := Ky hl'
     cases n with
     | zero => cases hn
     | succ n =>
      simp only [FQ, hs] at hn
      rw [P1 hn] at hl; cases hl
  | inr b => exact P1 (n := 1) (by simp [FQ, hs])
def Kf (sp : Option (α ⊕ β)) (rest : α -> Option β) : Option β := match sp with
 | none => none
 | some (.inl t) => rest t
 | some (.inr b) => some b
end
section
variable {P : Program} {A : BP} {AB : A9} {st : St} {σ Ans : Type}
def LP (A : BP) (S : σ -> St) (Q : Ans -> Exit -> St -> Prop) : σ ⊕ Ans -> Exit -> St -> Prop
 | .inl s, e, st => e = .normal /\ BA A st (S s)
 | .inr a, e, st => e ≠ .normal /\ Q a e st
theorem lp {c : Code} {Q : Ans -> Exit -> St -> Prop} {a : Ans} (I : σ -> St) {step : σ -> Option (σ ⊕ Ans)} {s0 : σ} (h : AP step s0 = some a) (hw : BA A st (I s0))
  (hb : ∀ s b, step s = some b -> CD P A c (LP A I Q b) (I s)) : CD P A (.loop c) (Q a) st := by
 obtain ⟨n, hn⟩ := Ky h
 refine TZ (ι := Nat × σ) (fun i s => FQ step i.1 i.2 = some a /\ BA A s (I i.2)) (fun i => i.1) (n, s0) ⟨hn, hw⟩ ?_
 rintro ⟨n, s⟩ st' ⟨hi, hws⟩
 refine Ec hws ?_
 cases n with
 | zero => cases hi
 | succ n =>
  simp only [FQ] at hi
  cases hs : step s with
  | none => rw [hs] at hi; cases hi
  | some r =>
   rw [hs] at hi
   refine G5 (hb s r hs) fun e st'' q => ?_
   cases r with
   | inl s' =>
    obtain ⟨he, hw'⟩ := q
    subst he
    exact ⟨(n, s'), ⟨hi, hw'⟩, Nat.lt_succ_self n⟩
   | inr a' =>
    obtain ⟨he, hq⟩ := q
    simp only [Option.some.injEq] at hi
    subst hi
    cases e <;> first | exact absurd rfl he | exact hq
theorem jn {x y : Code} {Q : Ans -> Exit -> St -> Prop} {a : Ans} (S : σ -> St) {sp : Option (σ ⊕ Ans)} {rest : σ -> Option Ans} (h : Kf sp rest = some a)
  (hx : ∀ b, sp = some b -> CD P A x (LP A S Q b) st) (hy : ∀ t, rest t = some a -> CD P A y (Q a) (S t)) : CD P A (.seq x y) (Q a) st := by
 refine AC ?_
 cases hs : sp with
 | none => rw [hs] at h; cases h
 | some r =>
  rw [hs] at h
  refine G5 (hx r hs) fun e st' q => ?_
  cases r with
  | inl t =>
   obtain ⟨he, hw⟩ := q
   subst he
   exact Ec hw (hy t h)
  | inr a' =>
   obtain ⟨he, hq⟩ := q
   simp only [Kf, Option.some.injEq] at h
   subst h
   cases e <;> first | exact absurd rfl he | exact hq
def NP (A : BP) (S : σ -> St) (s : σ) (e : Exit) (st : St) : Prop := e = .normal /\ BA A st (S s)
theorem jb {x y : Code} {Q : Exit -> St -> Prop} {a : Ans} (S : σ -> St) {sp : Option σ} {rest : σ -> Option Ans} (h : sp.bind rest = some a)
  (hx : ∀ t, sp = some t -> CD P A x (NP A S t) st) (hy : ∀ t, rest t = some a -> CD P A y Q (S t)) : CD P A (.seq x y) Q st := by
 obtain ⟨t, h1, h2⟩ := bd h
 refine AC (G5 (hx t h1) fun e st' q => ?_)
 obtain ⟨he, hw⟩ := q
 subst he
 exact Ec hw (hy t h2)
theorem rg (hE : BB P AB) {id : Nat} {ops : List Oper} {Q : Exit -> St -> Prop} (k : EU P A AB ⟨Q .normal, ⟨⟩⟩ (ops.map (OR ops)) st) : CD P A (.region id ops.toArray false) Q st := YA hE rfl k
theorem rs (hE : BB P AB) {id : Nat} {ops : List Oper} {y : Code} {Q : Exit -> St -> Prop} (k : EU P A AB ⟨CD P A y Q, ⟨⟩⟩ (ops.map (OR ops)) st) : CD P A (.seq (.region id ops.toArray false) y) Q st := Ze hE rfl k
theorem Cy (hE : BB P AB) (hm : P.follows .mixedOrders = true) {id : Nat} {ops : List Oper} {Q : Exit -> St -> Prop} {nt : Nat} {sl : List (Nat × LV)} {h : AQ} {c : Nat} (order : List Nat) (n : Nat)
  (hok : G6 false AB.own .any ops.toArray order (Array.replicate ops.length false) = true) (hl : Nat.beq order.length ops.length = true) (hb : (order.all fun i => Nat.blt i ops.length) = true) (hn : Nat.beq ops.length n = true)
  (k : DW P A AB c n ⟨Q .normal, ⟨⟩⟩ (FP ops order) ⟨nt, sl, h, c⟩) : CD P A (.region id ops.toArray true) Q ⟨nt, sl, h, c⟩ := by
 have hb' : (order.all fun i => decide (i < ops.length)) = true := by
  rw [List.all_eq_true] at hb ⊢
  intro i hi
  have := Nat.le_of_ble_eq_true (hb i hi)
  simp only [decide_eq_true_eq]; omega
 have hn' := Nat.eq_of_beq_eq_true hn
 subst hn'
 exact HZ false (fun h => by cases h) hE hm hok (Nat.eq_of_beq_eq_true hl) (G9 order _ hb' k)
theorem Oc (hE : BB P AB) (hm : P.follows .mixedOrders = true) {id : Nat} {ops : List Oper} {Q : Exit -> St -> Prop} {nt : Nat} {sl : List (Nat × LV)} {h : AQ} {c : Nat} (order : List Nat) (n : Nat)
  (hq : AB.calm.isSome = true) (hok : G6 true AB.own .any ops.toArray order (Array.replicate ops.length false) = true) (hl : Nat.beq order.length ops.length = true) (hb : (order.all fun i => Nat.blt i ops.length) = true) (hn : Nat.beq ops.length n = true)
  (k : DW P A AB c n ⟨Q .normal, ⟨⟩⟩ (FP ops order) ⟨nt, sl, h, c⟩) : CD P A (.region id ops.toArray true) Q ⟨nt, sl, h, c⟩ := by
 have hb' : (order.all fun i => decide (i < ops.length)) = true := by
  rw [List.all_eq_true] at hb ⊢
  intro i hi
  have := Nat.le_of_ble_eq_true (hb i hi)
  simp only [decide_eq_true_eq]; omega
 have hn' := Nat.eq_of_beq_eq_true hn
 subst hn'
 exact HZ true (fun _ => Option.isSome_iff_exists.1 hq) hE hm hok (Nat.eq_of_beq_eq_true hl) (G9 order _ hb' k)
theorem cd {x : Operand} {cx cy : Code} {Q : Exit -> St -> Prop} {nt : Nat} {sl : List (Nat × LV)} {h : AQ} {c : Nat} {b : Bool} {p q : Option Ans} {a : Ans} (hb : BL nt sl x = .p (.bool b)) (hh : cond b p q = some a)
  (hx : p = some a -> CD P A cx Q ⟨nt, sl, h, c⟩) (hy : q = some a -> CD P A cy Q ⟨nt, sl, h, c⟩) : CD P A (.cond x cx cy) Q ⟨nt, sl, h, c⟩ := by
 refine Ps (b := b) (by rw [<- BN]; exact hb) (fun e => ?_) (fun e => ?_)
 .subst e; exact hx hh
 subst e; exact hy hh
theorem SK {x : Operand} {cx cy : Code} {Q : Exit -> St -> Prop} {nt : Nat} {sl : List (Nat × LV)} {h : AQ} {c : Nat} (hb : BL nt sl x = .p (.bool true)) (hx : CD P A cx Q ⟨nt, sl, h, c⟩) : CD P A (.cond x cx cy) Q ⟨nt, sl, h, c⟩ :=
 Ps (b := true) (by rw [<- BN]; exact hb) (fun _ => hx) (fun e => by cases e)
theorem Qi {x : Operand} {cx cy : Code} {Q : Exit -> St -> Prop} {nt : Nat} {sl : List (Nat × LV)} {h : AQ} {c : Nat} (hb : BL nt sl x = .p (.bool false)) (hx : CD P A cy Q ⟨nt, sl, h, c⟩) : CD P A (.cond x cx cy) Q ⟨nt, sl, h, c⟩ :=
 Ps (b := false) (by rw [<- BN]; exact hb) (fun e => by cases e) (fun _ => hx)
end
end Go.E
/- Rules for single operations of a walk in step with a plain function. No condition. -/
namespace Go.E
open Go Go.RowKit
section
variable {β : Type}
def WC (t : Nat) (v : LV) : List (Nat × LV) -> (List (Nat × LV) -> Option β) -> Option β
 | [], _ => none
 | (q, u) :: l, k => match Nat.beq t q with
  | true => k ((q, v) :: l)
  | false => WC t v l (fun r => k ((q, u) :: r))
theorem VJ {t : Nat} {v : LV} : ∀ {l : List (Nat × LV)} {k : List (Nat × LV) -> Option β} {y : β}, Ba t l = some v -> WC t v l k = some y -> k l = some y
 | [], _, _, h, _ => by simp [Ba] at h
 | (q, u) :: l, k, y, h, hr => by
  simp only [Ba] at h
  simp only [WC] at hr
  split at h
  .rename_i hb
   rw [hb] at hr
   simp only [Option.some.injEq] at h
   subst h; exact hr
  rename_i hb
  rw [hb] at hr
  exact VJ (k := fun r => k ((q, u) :: r)) h hr
def W6 (t : Nat) (v : LV) (l : List (Nat × LV)) : Option (List (Nat × LV)) := WC t v l some
theorem Qj {t : Nat} {v : LV} {l l' : List (Nat × LV)} (h : Ba t l = some v) (hr : W6 t v l = some l') : l = l' := by
 have := VJ h hr
 simpa using this
theorem NN {nt t : Nat} {sl : List (Nat × LV)} {d : DV} (h : BL nt sl (.tmp t) = .p d) : Ba t sl = some (.p d) := by
 simp only [BL] at h
 split at h
 .split at h
  .subst h; assumption
  cases h
 cases h
def ZA (nt : Nat) (sl : List (Nat × LV)) : Option (Option Tmp × Bool) -> Bool
 | none => true
 | some (some d, want) => match BL nt sl (.tmp d) with
  | .p (.bool b) => LN b want
  | _ => false
 | some (none, _) => false
theorem Tq {nt : Nat} {sl : List (Nat × LV)} {d : Tmp} {want : Bool} (h : ZA nt sl (some (some d, want)) = true) : BL nt sl (.tmp d) = .p (.bool want) := by
 simp only [ZA] at h
 split at h
 .rename_i b hb; rw [hb, LO h]
 cases h
end
section
variable {P : Program} {A : BP} {AB : A9} {f : St -> Prop} {hf : Ik f} {nt : Nat} {sl : List (Nat × LV)} {h : AQ} {c : Nat} {Ans : Type}
theorem gs (t : Nat) {ms : List Hs} {b : Bool} {p q : Option Ans} {a : Ans} {slT slF : List (Nat × LV)} (hh : cond b p q = some a) (hv : BL nt sl (.tmp t) = .p (.bool b))
  (hT : W6 t (.p (.bool true)) sl = some slT) (hF : W6 t (.p (.bool false)) sl = some slF)
  (hx : p = some a -> EU P A AB ⟨f, hf⟩ ms ⟨nt, slT, h, c⟩) (hy : q = some a -> EU P A AB ⟨f, hf⟩ ms ⟨nt, slF, h, c⟩) : EU P A AB ⟨f, hf⟩ ms ⟨nt, sl, h, c⟩ := by
 cases b with
 | true => rw [Qj (NN hv) hT]; exact hx hh
 | false => rw [Qj (NN hv) hF]; exact hy hh
theorem N4 (t : Nat) {base m : Nat} {ms : List (Nat × Hs)} {b : Bool} {p q : Option Ans} {a : Ans} {slT slF : List (Nat × LV)} (hh : cond b p q = some a) (hv : BL nt sl (.tmp t) = .p (.bool b))
  (hT : W6 t (.p (.bool true)) sl = some slT) (hF : W6 t (.p (.bool false)) sl = some slF)
  (hx : p = some a -> DW P A AB base m ⟨f, hf⟩ ms ⟨nt, slT, h, c⟩) (hy : q = some a -> DW P A AB base m ⟨f, hf⟩ ms ⟨nt, slF, h, c⟩) : DW P A AB base m ⟨f, hf⟩ ms ⟨nt, sl, h, c⟩ := by
 cases b with
 | true => rw [Qj (NN hv) hT]; exact hx hh
 | false => rw [Qj (NN hv) hF]; exact hy hh
theorem sx {dst : Option Tmp} {op : Op} {g : Option (Option Tmp × Bool)} {rest : List Hs} (hg : ZA nt sl g = true) (k : BQ P A AB ⟨nt, sl, h, c⟩ dst op ⟨EU P A AB ⟨f, hf⟩ rest, ⟨⟩⟩) :
  EU P A AB ⟨f, hf⟩ (⟨dst, op, g⟩ :: rest) ⟨nt, sl, h, c⟩ := by
 cases g with
 | none => exact k
 | some g =>
  obtain ⟨d, want⟩ := g
  cases d with
  | none => cases hg
  | some d =>
   have := Tq hg
   simp only [EU, GR, <- BN (h := h) (c := c), this, gM, gW]
   exact ⟨fun _ => k, fun e => by cases want <;> cases e⟩
theorem AV {base m i : Nat} {dst : Option Tmp} {op : Op} {g : Option (Option Tmp × Bool)} {rest : List (Nat × Hs)} (hg : ZA nt sl g = true) (k : Gl P A AB ⟨nt, sl, h, base + i⟩ dst op ⟨DW P A AB base m ⟨f, hf⟩ rest, ⟨⟩⟩) :
  DW P A AB base m ⟨f, hf⟩ ((i, ⟨dst, op, g⟩) :: rest) ⟨nt, sl, h, c⟩ := by
 cases g with
 | none => exact k
 | some g =>
  obtain ⟨d, want⟩ := g
  cases d with
  | none => cases hg
  | some d =>
   have := Tq hg
   simp only [DW, GR, <- BN (h := h) (c := c), this, gM, gW]
   exact ⟨fun _ => k, fun e => by cases want <;> cases e⟩
def Zm : Op -> Bool
 | .binOp .. | .call _ | .range .. | .next .. | .entry .. | .load .. | .store .. => false
 | _ => true
theorem Aa {st : St} {dst : Option Tmp} {op : Op} {K : BC St} (hp : Zm op = true) (k : BQ P A AB st dst op K) : Gl P A AB st dst op K := by
 cases op <;> first | exact k | cases hp
theorem Ew {nt : Nat} {sl : List (Nat × LV)} {h : AQ} {c : Nat} {dst : Option Tmp} {t : TypeId} {x : Operand} {K : BC St} (hc : Md AB.calm (BL nt sl x) = true) (k : BQ P A AB ⟨nt, sl, h, c⟩ dst (.load t x) K) : Gl P A AB ⟨nt, sl, h, c⟩ dst (.load t x) K := ⟨by rw [<- BN (h := h) (c := c)]; exact hc, k⟩
theorem W7 {nt : Nat} {sl : List (Nat × LV)} {h : AQ} {c : Nat} {dst : Option Tmp} {t : TypeId} {x v : Operand} {K : BC St} (hc : LB AB.calm (BL nt sl x) = true) (k : BQ P A AB ⟨nt, sl, h, c⟩ dst (.store t x v) K) : Gl P A AB ⟨nt, sl, h, c⟩ dst (.store t x v) K := ⟨by rw [<- BN (h := h) (c := c)]; exact hc, k⟩
theorem AS {nt : Nat} {sl : List (Nat × LV)} {h : AQ} {c : Nat} {dst : Option Tmp} {args : Array Operand} {ts : Array TypeId} {K : BC St} (hc : (match args.toList with | s :: _ => Mc AB.calm (BL nt sl s) | [] => false) = true) (k : BQ P A AB ⟨nt, sl, h, c⟩ dst (.call ⟨.builtin .append, args, ts⟩) K) : Gl P A AB ⟨nt, sl, h, c⟩ dst (.call ⟨.builtin .append, args, ts⟩) K := by
 unfold Gl
 simp only
 split
 all_goals simp_all
 rw [<- BN (h := h) (c := c)]; exact hc
def Qk (AB : A9) (t : Nat) : Bool := match AB.tt t with
 | some ti => match ti.sh with
  | .slc _ => true
  | _ => false
 | none => false
def WD (AB : A9) (t : Nat) : Bool := match AB.tt t with
 | some ti => match ti.sh with
  | .str => true
  | _ => false
 | none => false
theorem YJ {t : Nat} (h : WD AB t = true) : ∃ ti, AB.tt t = some ti /\ ti.sh = .str := by
 unfold WD at h
 split at h
 .rename_i ti hti
  split at h
  .rename_i he; exact ⟨ti, hti, he⟩
  cases h
 cases h
theorem P2 {t : Nat} (h : Qk AB t = true) : ∃ ti e, AB.tt t = some ti /\ ti.sh = .slc e := by
 unfold Qk at h
 split at h
 .rename_i ti hti
  split at h
  .rename_i e he; exact ⟨ti, e, hti, he⟩
  cases h
 cases h
def NO (AB : A9) (t sz : Nat) : Bool := match AB.tt t with
 | some ti => match ti.sh with
  | .slc e => match AB.tt e with
   | some te => Nat.beq te.size sz
   | none => false
  | _ => false
 | none => false
theorem NQ {t sz : Nat} (h : NO AB t sz = true) : ∃ ti e te, AB.tt t = some ti /\ ti.sh = .slc e /\ AB.tt e = some te /\ te.size = sz := by
 unfold NO at h
 split at h
 .rename_i ti hti
  split at h
  .rename_i e he
   split at h
   .rename_i te hte; exact ⟨ti, e, te, hti, he, hte, Nat.eq_of_beq_eq_true h⟩
   cases h
  cases h
 cases h
variable {α : Type} {enc : α -> List DV} {l : List α} {d : Tmp} {t sz : Nat} {x : Operand}
theorem Ay (ht : Qk AB t = true) (hx : BL nt sl x = .p (.slice sz (l.map enc))) (k : f ⟨nt, (d, .p (.int .i64 l.length)) :: sl, h, c⟩) : BQ P A AB ⟨nt, sl, h, c⟩ (some d) (.call ⟨.builtin .len, #[x], #[t]⟩) ⟨f, hf⟩ := by
 obtain ⟨ti, e, h1, h2⟩ := P2 ht
 refine AW.2 ⟨ti, h1, ?_⟩
 rw [BN (h := h) (c := c)] at hx
 dsimp only
 rw [h2, hx]
 intro _
 simp only [List.length_map]
 exact k
theorem Od (ht : Qk AB t = true) (hx : BL nt sl x = .p (.slice sz (l.map enc))) (k : f ⟨nt, (d, .p (.int .i64 l.length)) :: sl, h, c⟩) : Gl P A AB ⟨nt, sl, h, c⟩ (some d) (.call ⟨.builtin .len, #[x], #[t]⟩) ⟨f, hf⟩ := by
 obtain ⟨ti, e, h1, h2⟩ := P2 ht
 refine AW.2 ⟨ti, h1, ?_⟩
 rw [BN (h := h) (c := c)] at hx
 dsimp only
 rw [h2, hx]
 simp only [V7, List.length_map]
 exact k
theorem Az {i : Operand} {kk : IntKind} {n : Int} {y : α} (hy : An l n = some y) (ht : NO AB t sz = true) (hx : BL nt sl x = .p (.slice sz (l.map enc))) (hi : BL nt sl i = .p (.int kk n))
  (k : f ⟨nt, (d, .p (.place (enc y) 0)) :: sl, h, c⟩) : BQ P A AB ⟨nt, sl, h, c⟩ (some d) (.indexAddr t x i) ⟨f, hf⟩ := by
 obtain ⟨ti, e, te, h1, h2, h3, h4⟩ := NQ ht
 obtain ⟨g1, g2, g3⟩ := Jg hy
 rw [BN (h := h) (c := c)] at hx hi
 refine Cq.2 ⟨kk, n, hi, AW.2 ⟨ti, h1, ?_⟩⟩
 dsimp only
 rw [h2, hx]
 exact AW.2 ⟨te, h3, h4, g1, AX.2 ⟨enc y, by rw [List.getElem?_map, g3]; rfl, k⟩⟩
theorem AAT {s : ByteArray} {i : Operand} {kk : IntKind} {n : Int} {y : UInt8} (hy : NM s n = some y) (ht : WD AB t = true) (hx : BL nt sl x = .p (.str s)) (hi : BL nt sl i = .p (.int kk n))
  (k : f ⟨nt, (d, .p (.int .u8 y.toNat)) :: sl, h, c⟩) : BQ P A AB ⟨nt, sl, h, c⟩ (some d) (.index t x i) ⟨f, hf⟩ := by
 obtain ⟨ti, hti, hsh⟩ := YJ ht
 rw [BN (h := h) (c := c)] at hx hi
 cases n with
 | negSucc n => cases hy
 | ofNat n =>
  refine Cq.2 ⟨kk, _, hi, AW.2 ⟨ti, hti, Int.natCast_nonneg n, ?_⟩⟩
  dsimp only
  rw [hsh, hx]
  exact AX.2 ⟨y, hy, k⟩
def Oe (nt : Nat) (sl : List (Nat × LV)) (d : Int) : Option Operand -> Option Int
 | none => some d
 | some o => match BL nt sl o with
  | .p (.int _ n) => some n
  | _ => none
theorem PO {d n : Int} {x : Option Operand} {k : BC Int} (hb : Oe nt sl d x = some n) (hk : k.f n) : LG d (x.map (St.eval ⟨nt, sl, h, c⟩)) k := by
 cases x with
 | none => simp only [Oe, Option.some.injEq] at hb; subst hb; exact hk
 | some o =>
  simp only [Oe, BN (h := h) (c := c)] at hb
  simp only [Option.map_some]
  split at hb
  .rename_i kk m he
   simp only [Option.some.injEq] at hb
   subst hb
   rw [he]; exact hk
  cases hb
theorem ZB {lo hi : Option Operand} {n m : Int} {r : List α} (hr : Im l n m = some r) (ht : NO AB t sz = true) (hx : BL nt sl x = .p (.slice sz (l.map enc)))
  (hlo : Oe nt sl 0 lo = some n) (hhi : Oe nt sl l.length hi = some m)
  (k : f ⟨nt, (d, .p (.slice sz (r.map enc))) :: sl, h, c⟩) : BQ P A AB ⟨nt, sl, h, c⟩ (some d) (.slice t x lo hi none) ⟨f, hf⟩ := by
 obtain ⟨ti, e, te, h1, h2, h3, h4⟩ := NQ ht
 rw [BN (h := h) (c := c)] at hx
 simp only [Im] at hr
 split at hr
 .rename_i hb
  simp only [Option.some.injEq] at hr
  subst hr
  show LH AB t _ _ _ _
  rw [hx]
  refine AW.2 ⟨ti, h1, Cc.2 ⟨e, h2, AW.2 ⟨te, h3, h4, ?_⟩⟩⟩
  rw [List.length_map]
  refine PO hhi (PO hlo ⟨hb, ?_⟩)
  rw [<- List.map_take, <- List.map_drop]; exact k
 cases hr
end
end Go.E
/- Rules for single operations: calls, what is appended, made, looked up, set against another. No condition. -/
namespace Go.E
open Go Go.RowKit
inductive Lt : List DV -> List DV -> Prop where
 | nil : Lt [] []
 | cons {a b : DV} {l m : List DV} (h : Le a b) (t : Lt l m) : Lt (a :: l) (b :: m)
theorem Le.rfl {d : DV} : Le d d := fun _ _ _ h => h
theorem Lt.rfl : ∀ {l : List DV}, Lt l l
 | [] => .nil
 | _ :: _ => .cons Le.rfl Lt.rfl
theorem Lt.len {l m : List DV} (h : Lt l m) : l.length = m.length := by induction h with
 | nil => exact Eq.refl _
 | cons _ _ ih => simp [ih]
theorem Lt.get {l m : List DV} (h : Lt l m) : ∀ (i : Nat) (a b : DV), l[i]? = some a -> m[i]? = some b -> Le a b := by
 induction h with
 | nil => intro i a b h1; simp at h1
 | cons h _ ih =>
  intro i x y h1 h2
  cases i with
  | zero => simp at h1 h2; subst h1 h2; exact h
  | succ i => exact ih i x y (by simpa using h1) (by simpa using h2)
theorem Le.tup' {l m : List DV} (h : Lt l m) : Le (.tup l) (.tup m) := Le.tup h.len h.get
theorem Le.agg' {l m : List DV} (h : Lt l m) : Le (.agg l) (.agg m) := Le.agg h.len h.get
theorem Le.nilm : Le .nilm (.map []) := fun _ _ _ hv => by cases hv; exact .mnil
theorem Le.own {α : Type} {enc : α -> List DV} {l : List α} {sz : Nat} : Le (.slice sz (((l.map enc).drop 0).take l.length)) (.slice sz (l.map enc)) := Le.of_eq (by rw [List.drop_zero, List.take_of_length_le (by simp)])
theorem Bc.le {P : Program} {k : Nat} {ds ds' : List DV} {Q : DV -> Prop} (h : Bc P k ds Q) (hl : Lt ds' ds) : Bc P k ds' Q :=
 ⟨h.enters, fun O w vs h1 h2 h3 => h.run O w vs h1 (by rw [h2, hl.len]) fun i v d hv hd => by
  have hi := (List.getElem?_eq_some_iff.1 hd).1
  have hlen := hl.len
  have hx : ds'[i]? = some (ds'[i]'(by omega)) := List.getElem?_eq_getElem _
  exact hl.get i _ d hx hd _ _ _ (h3 i v _ hv hx)⟩
theorem FV.le {P : Program} {k : Nat} {ds ds' : List DV} {e sz : Nat} {el : List (List DV)} (h : FV P k ds e sz el) (hl : Lt ds' ds) : FV P k ds' e sz el :=
 ⟨h.enters, fun O w vs h1 h2 h3 => h.run O w vs h1 (by rw [h2, hl.len]) fun i v d hv hd => by
  have hi := (List.getElem?_eq_some_iff.1 hd).1
  have hlen := hl.len
  have hx : ds'[i]? = some (ds'[i]'(by omega)) := List.getElem?_eq_getElem _
  exact hl.get i _ d hx hd _ _ _ (h3 i v _ hv hx)⟩
section
variable {κ υ : Type} [BEq κ]
def AZ (m : List (κ × υ)) (x : κ) : Option υ := match m with
 | [] => none
 | p :: m => if x == p.1 then some p.2 else AZ m x
def A5 (x : κ) (v : υ) : List (κ × υ) -> List (κ × υ)
 | [] => [(x, v)]
 | p :: m => if x == p.1 then (p.1, v) :: m else p :: A5 x v m
structure Kg (AB : A9) (kt : Nat) (ke : κ -> DV) : Prop where
 eq : ∀ a b, D0 (ke a) (ke b) = (a == b)
 fits : ∀ a, Bn AB kt (ke a) = true
theorem Kg.to {AB env' : A9} {kt : Nat} {ke : κ -> DV} (h : Kg AB kt ke) (hf : ∀ a, Bn env' kt (ke a) = Bn AB kt (ke a)) : Kg env' kt ke := ⟨h.eq, fun a => (hf a).trans (h.fits a)⟩
def Ab (ke : κ -> DV) (ve : υ -> DV) (m : List (κ × υ)) : List (DV × DV) := m.map fun p => (ke p.1, ve p.2)
variable {AB : A9} {kt : Nat} {ke : κ -> DV} {ve : υ -> DV}
theorem Of (hk : Kg AB kt ke) (x : κ) : ∀ m : List (κ × υ), Hn (ke x) (Ab ke ve m) = (AZ m x).map ve
 | [] => by simp [Ab, Hn, DU, AZ]
 | p :: m => by
  have ih := Of hk x m
  simp only [Ab, Hn] at ih
  simp only [Ab, List.map_cons, Hn, DU, hk.eq, AZ]
  by_cases h : (x == p.1) = true
  .simp [h]
  simp only [h]
  simp only [Bool.false_eq_true, if_false, Option.map_map]
  rw [<- ih]
  cases DU (ke x) (m.map fun p => (ke p.1, ve p.2)) <;> simp
theorem SL (hk : Kg AB kt ke) (x : κ) (v : υ) : ∀ m : List (κ × υ), MM (ke x) (ve v) (Ab ke ve m) = Ab ke ve (A5 x v m)
 | [] => by simp [Ab, MM, A5]
 | p :: m => by
  have ih := SL hk x v m
  simp only [Ab] at ih
  simp only [Ab, List.map_cons, MM, hk.eq, A5]
  by_cases h : (x == p.1) = true
  .simp [h]
  simp only [h]
  simp only [Bool.false_eq_true, if_false, List.map_cons, ih]
theorem Lu (hk : Kg AB kt ke) (m : List (κ × υ)) : ((Ab ke ve m).all fun p => Bn AB kt p.1) = true := by
 simp only [Ab, List.all_map, List.all_eq_true, Function.comp]
 intro p _; exact hk.fits _
end
section
variable {β : Type}
def P3 (t : Nat) : AQ -> (AQ -> Option β) -> Option β
 | [], k => k []
 | (q, u) :: l, k => match Nat.beq t q with
  | true => P3 t l k
  | false => P3 t l (fun r => k ((q, u) :: r))
theorem Ml {t : Nat} : ∀ {l : AQ} {k : AQ -> Option β}, P3 t l k = k (Eb t l)
 | [], k => rfl
 | (q, u) :: l, k => by
  simp only [P3, Eb]
  by_cases h : t = q
  .subst h; simp only [Nat.beq_refl, if_true]; exact Ml
  have : Nat.beq t q = false := by
   cases hb : Nat.beq t q with
   | false => rfl
   | true => exact absurd (Nat.eq_of_beq_eq_true hb) h
  rw [this, if_neg h]
  exact Ml
end
section
variable {P : Program} {A : BP} {AB : A9} {f : St -> Prop} {hf : Ik f} {nt : Nat} {sl : List (Nat × LV)} {h : AQ} {c : Nat} {d : Tmp}
theorem Ep {args : List Operand} {ls : List LV} (hl : Dl nt sl args some = some ls) : args.map (St.eval ⟨nt, sl, h, c⟩) = ls := by
 rw [KM, Option.some.injEq] at hl
 rw [<- hl]
 exact List.map_congr_left fun x _ => (BN (h := h) (c := c)).symm
theorem Ah {fo : Operand} {args : Array Operand} {ts : Array TypeId} {k : Nat} {caps ls : List LV} {ds : List DV} {r : DV} (hF : Bc P k ds (· = r)) (hs : r.scalar = true \/ (ls ++ caps).flatMap (D8 h) = [])
  (hfn : BL nt sl fo = .fn k caps) (hl : Dl nt sl args.toList some = some ls) (hds : Bz h (ls ++ caps) = some ds) (kk : f ⟨nt, (d, .p r) :: sl, h, c⟩) : BQ P A AB ⟨nt, sl, h, c⟩ (some d) (.call ⟨.value fo, args, ts⟩) ⟨f, hf⟩ := by
 rw [BN (h := h) (c := c)] at hfn
 show Mj _ _
 rw [hfn]
 show Iz P A h c k (args.toList.map _ ++ caps) _
 rw [Ep hl]
 exact ABS hds hF hs kk
theorem Zn {fo : Operand} {args : Array Operand} {ts : Array TypeId} {k : Nat} {caps ls : List LV} {ds : List DV} {r : DV} {h' : AQ} (hF : Bc P k ds (· = r)) (hs : r.scalar = false)
  (hfn : BL nt sl fo = .fn k caps) (hl : Dl nt sl args.toList some = some ls) (hds : Bz h (ls ++ caps) = some ds) (hd : B1 ((ls ++ caps).flatMap (D8 h)) h = h') (kk : f ⟨nt, (d, .p r) :: sl, h', c⟩) : BQ P A AB ⟨nt, sl, h, c⟩ (some d) (.call ⟨.value fo, args, ts⟩) ⟨f, hf⟩ := by
 rw [BN (h := h) (c := c)] at hfn
 show Mj _ _
 rw [hfn]
 show Iz P A h c k (args.toList.map _ ++ caps) _
 rw [Ep hl]
 exact ABT hds hF hs hd kk
theorem B0 {fo : Operand} {args : Array Operand} {ts : Array TypeId} {k : Nat} {caps ls : List LV} {ds : List DV} {r : DV} (hF : Bc P k ds (· = r)) (hs : r.scalar = true \/ (ls ++ caps).flatMap (D8 h) = [])
  (hfn : (Cl fo, BL nt sl fo) = (false, .fn k caps)) (hl : Dl nt sl args.toList some = some ls) (hds : Bz h (ls ++ caps) = some ds) (kk : f ⟨nt, (d, .p r) :: sl, h, c⟩) : Gl P A AB ⟨nt, sl, h, c⟩ (some d) (.call ⟨.value fo, args, ts⟩) ⟨f, hf⟩ := by
 obtain ⟨hnd, hfn⟩ := Prod.mk.inj hfn
 rw [BN (h := h) (c := c)] at hfn
 show (if Cl fo = true then _ else Mj _ _)
 rw [if_neg (by rw [hnd]; decide)]
 rw [hfn]
 refine .inl ?_
 show YD P h k (args.toList.map _ ++ caps) _
 rw [Ep hl]
 exact AB0 hds hF hs kk
def Rl (AB : A9) (t e sz : Nat) : Bool := match AB.tt t with
 | some ti => match ti.sh with
  | .slc e' => match AB.tt e with
   | some te => Nat.beq e' e && (Nat.beq te.size sz && (Nat.blt 0 sz && Nat.ble te.bytes 32768))
   | none => false
  | _ => false
 | none => false
theorem PP {t e sz : Nat} (h : Rl AB t e sz = true) : ∃ ti te, AB.tt t = some ti /\ ti.sh = .slc e /\ AB.tt e = some te /\ te.size = sz /\ 0 < sz /\ te.bytes <= 32768 := by
 unfold Rl at h
 split at h
 .rename_i ti hti
  split at h
  .rename_i e' he
   split at h
   .rename_i te hte
    simp only [Bool.and_eq_true] at h
    obtain ⟨h1, h2, h3, h4⟩ := h
    have := Nat.eq_of_beq_eq_true h1
    subst this
    exact ⟨ti, te, hti, he, hte, Nat.eq_of_beq_eq_true h2, Nat.le_of_ble_eq_true h3, Nat.le_of_ble_eq_true h4⟩
   cases h
  cases h
 cases h
variable {α : Type} {enc : α -> List DV} {l m r : List α} {t e sz : Nat} {s x : Operand}
def TG (enc : α -> List DV) (sz : Nat) : Prop := ∀ a, (enc a).length = sz /\ (enc a).all DV.cell = true
theorem SM (hr : A7 l m = some r) : r = l ++ m /\ l.length + m.length <= 4294967296 := by
 simp only [A7] at hr
 split at hr
 .simp only [Option.some.injEq] at hr; exact ⟨hr.symm, ‹_›⟩
 cases hr
theorem SN {n b : Nat} (hb : b <= 32768) (hn : n <= 4294967296) : n * b <= 140737488355328 :=
 Nat.le_trans (Nat.mul_le_mul hn hb) (by decide)
theorem VK {n : Nat} (hn : n <= 4294967296) : n <= maxLen := by unfold maxLen; omega
theorem W8 (hr : A7 [] m = some r) (hen : TG enc sz) (hs : BL nt sl s = .p .nils) (hx : HX h (BL nt sl x) = some (m.map enc)) (ht : Rl AB t e sz = true)
  (k : f ⟨nt, (d, .lsl c sz 0 r.length) :: sl, (c, .row e sz (r.map enc)) :: h, c + 1⟩) : BQ P A AB ⟨nt, sl, h, c⟩ (some d) (.call ⟨.builtin .append, #[s, x], #[t, t]⟩) ⟨f, hf⟩ := by
 obtain ⟨ti, te, h1, h2, h3, h4, h5, h6⟩ := PP ht
 obtain ⟨rfl, hn⟩ := SM hr
 simp only [List.length_nil, Nat.zero_add] at hn
 rw [BN (h := h) (c := c)] at hs hx
 subst h4
 refine ⟨rfl, AW.2 ⟨ti, h1, Cc.2 ⟨e, h2, AW.2 ⟨te, h3, h5, AX.2 ⟨_, hx, ?_, ?_⟩⟩⟩⟩⟩
 .intro y hy
  obtain ⟨a, _, rfl⟩ := List.mem_map.1 hy
  exact hen a
 rw [hs]
 simp only [Te, List.length_map]
 exact ⟨⟨SN h6 hn, VK hn⟩, k⟩
theorem AR {id n : Nat} {h' : AQ} (hr : A7 l m = some r) (hen : TG enc sz) (hs : BL nt sl s = .lsl id sz 0 n) (hl : Ba id h = some (.row e sz (l.map enc))) (hn : n = l.length) (hd : P3 id h some = some h')
  (hx : HX h (BL nt sl x) = some (m.map enc)) (ht : Rl AB t e sz = true)
  (k : f ⟨nt, (d, .lsl c sz 0 r.length) :: sl, (c, .row e sz (r.map enc)) :: h', c + 1⟩) : BQ P A AB ⟨nt, sl, h, c⟩ (some d) (.call ⟨.builtin .append, #[s, x], #[t, t]⟩) ⟨f, hf⟩ := by
 obtain ⟨ti, te, h1, h2, h3, h4, h5, h6⟩ := PP ht
 obtain ⟨rfl, hb⟩ := SM hr
 rw [BN (h := h) (c := c)] at hs hx
 rw [Ml, Option.some.injEq] at hd
 rw [Bb] at hl
 subst h4 hn hd
 refine ⟨rfl, AW.2 ⟨ti, h1, Cc.2 ⟨e, h2, AW.2 ⟨te, h3, h5, AX.2 ⟨_, hx, ?_, ?_⟩⟩⟩⟩⟩
 .intro y hy
  obtain ⟨a, _, rfl⟩ := List.mem_map.1 hy
  exact hen a
 rw [hs]
 simp only [Te]
 refine ⟨trivial, AX.2 ⟨_, hl, ?_⟩⟩
 dsimp only
 refine Fw.2 ⟨e, te.size, l.map enc, rfl, ?_⟩
 refine ⟨⟨rfl, rfl, by simp, by rw [List.length_map]; exact SN h6 hb, by rw [List.length_map]; exact VK hb⟩, ?_⟩
 have e1 : ((l.map enc).drop 0).take l.length ++ m.map enc = (l ++ m).map enc := by rw [List.drop_zero, List.take_of_length_le (by simp), List.map_append]
 rw [List.length_append] at k
 simp only [e1, List.length_map]
 exact k
theorem CE {i : Operand} {kk : IntKind} {n : Int} {id len : Nat} {y : α} (hy : An l n = some y) (ht : NO AB t sz = true) (hx : BL nt sl x = .lsl id sz 0 len) (hi : BL nt sl i = .p (.int kk n)) (hn : len = l.length)
  (k : f ⟨nt, (d, .lpe id n.toNat 0) :: sl, h, c⟩) : BQ P A AB ⟨nt, sl, h, c⟩ (some d) (.indexAddr t x i) ⟨f, hf⟩ := by
 obtain ⟨ti, e, te, h1, h2, h3, h4⟩ := NQ ht
 obtain ⟨g1, g2, g3⟩ := Jg hy
 rw [BN (h := h) (c := c)] at hx hi
 refine Cq.2 ⟨kk, n, hi, AW.2 ⟨ti, h1, ?_⟩⟩
 dsimp only
 rw [h2, hx]
 refine AW.2 ⟨te, h3, h4, ⟨g1, by omega⟩, ?_⟩
 simp only [Nat.zero_add]
 exact k
theorem Ch {n : Int} {id o : Nat} {y : α} {v : LV} (hy : An l n = some y) (hx : BL nt sl x = .lpe id n.toNat o) (hl : Ba id h = some (.row e sz (l.map enc)))
  (hv : (match AB.tt t with | some ti => Qf ti o (enc y) some | none => none) = some v) (k : f ⟨nt, (d, v) :: sl, h, c⟩) : BQ P A AB ⟨nt, sl, h, c⟩ (some d) (.load t x) ⟨f, hf⟩ := by
 obtain ⟨g1, g2, g3⟩ := Jg hy
 rw [BN (h := h) (c := c)] at hx
 rw [Bb] at hl
 split at hv
 .rename_i ti hti
  rw [Pz] at hv
  obtain ⟨u, h1, h2⟩ := Option.bind_eq_some_iff.1 hv
  simp only [Option.some.injEq] at h2
  subst h2
  refine AW.2 ⟨ti, hti, ?_⟩
  rw [hx]
  refine AX.2 ⟨_, hl, ?_⟩
  dsimp only
  refine Fw.2 ⟨e, sz, l.map enc, rfl, ?_⟩
  exact AX.2 ⟨enc y, by rw [List.getElem?_map, g3]; rfl, AX.2 ⟨u, h1, k⟩⟩
 cases hv
theorem ZC {n : Int} {id o : Nat} {y z : α} {v : Operand} {ls : List LV} {ds : List DV} {h' : AQ} (hy : An l n = some y) (hx : BL nt sl x = .lpe id n.toNat o) (hl : Ba id h = some (.row e sz (l.map enc)))
  (hc : LM (BL nt sl v) some = some ls) (hds : G8 ls = some ds) (hsz : (match AB.tt t with | some ti => Nat.beq ls.length ti.size && OV ls | none => false) = true) (hz : Cz (enc y) o ds = enc z) (hlen : Nat.ble (o + ls.length) (enc y).length = true)
  (hu : Ke id (.row e sz ((IX l n z).map enc)) h some = some h') (k : f ⟨nt, sl, h', c⟩) : BQ P A AB ⟨nt, sl, h, c⟩ none (.store t x v) ⟨f, hf⟩ := by
 obtain ⟨g1, g2, g3⟩ := Jg hy
 rw [BN (h := h) (c := c)] at hx hc
 rw [Bb] at hl
 rw [Hb, Option.some.injEq] at hu
 subst hu
 split at hsz
 .rename_i ti hti
  simp only [Bool.and_eq_true] at hsz
  rw [KL, Option.bind_eq_some_iff] at hc
  obtain ⟨ls', h1, h2⟩ := hc
  simp only [Option.some.injEq] at h2
  subst h2
  refine AW.2 ⟨ti, hti, AX.2 ⟨ls', h1, ⟨Nat.eq_of_beq_eq_true hsz.1, by rw [<- OW]; exact hsz.2⟩, ?_⟩⟩
  rw [hx]
  refine AX.2 ⟨_, hl, ?_⟩
  dsimp only
  refine Fw.2 ⟨e, sz, l.map enc, rfl, ?_⟩
  refine AX.2 ⟨enc y, by rw [List.getElem?_map, g3]; rfl, AX.2 ⟨ds, hds, Nat.le_of_ble_eq_true hlen, ?_⟩⟩
  dsimp only
  rw [hz]
  simp only [IX, List.map_set] at k
  exact k
 cases hsz
def VL (AB : A9) (t kt et : Nat) : Bool := match AB.tt t with
 | some ti => match ti.sh with
  | .mp k e => Nat.beq k kt && Nat.beq e et
  | _ => false
 | none => false
theorem Ql {kt et : Nat} (h : VL AB t kt et = true) : ∃ ti, AB.tt t = some ti /\ ti.sh = .mp kt et := by
 unfold VL at h
 split at h
 .rename_i ti hti
  split at h
  .rename_i k e he
   simp only [Bool.and_eq_true] at h
   have h1 := Nat.eq_of_beq_eq_true h.1; have h2 := Nat.eq_of_beq_eq_true h.2
   subst h1 h2
   exact ⟨ti, hti, he⟩
  cases h
 cases h
variable {κ υ : Type} [BEq κ] {ke : κ -> DV} {ve : υ -> DV} {mp : List (κ × υ)} {kt et : Nat} {i : Operand}
theorem Tr {o : Option υ} {z : υ} : (o.map ve).getD (ve z) = ve (o.getD z) := by cases o <;> rfl
theorem ABV {y : κ} (z : υ) (hk : Kg AB kt ke) (hm : Kv h (BL nt sl x) = some (Ab ke ve mp)) (hi : BL nt sl i = .p (ke y)) (ht : VL AB t kt et = true) (hz : (AB.tt et).map (zV AB) = some (ve z))
  (k : f ⟨nt, (d, .tup [.p (ve ((AZ mp y).getD z)), .p (.bool (AZ mp y).isSome)]) :: sl, h, c⟩) : BQ P A AB ⟨nt, sl, h, c⟩ (some d) (.lookup t x i true) ⟨f, hf⟩ := by
 obtain ⟨ti, h1, h2⟩ := Ql ht
 rw [BN (h := h) (c := c)] at hm hi
 obtain ⟨te, h3, h4⟩ := Option.map_eq_some_iff.1 hz
 refine AW.2 ⟨ti, h1, EX.2 ⟨kt, et, h2, AW.2 ⟨te, h3, AX.2 ⟨_, hm, Dd.2 ⟨_, hi, ⟨hk.fits y, Lu hk mp⟩, ?_⟩⟩⟩⟩⟩
 simp only [if_true, Of hk, h4, Tr, Option.isSome_map]
 exact k
theorem J1 {y : κ} (z : υ) (hk : Kg AB kt ke) (hm : Kv h (BL nt sl x) = some (Ab ke ve mp)) (hi : BL nt sl i = .p (ke y)) (ht : VL AB t kt et = true) (hz : (AB.tt et).map (zV AB) = some (ve z))
  (k : f ⟨nt, (d, .p (ve ((AZ mp y).getD z))) :: sl, h, c⟩) : BQ P A AB ⟨nt, sl, h, c⟩ (some d) (.lookup t x i false) ⟨f, hf⟩ := by
 obtain ⟨ti, h1, h2⟩ := Ql ht
 rw [BN (h := h) (c := c)] at hm hi
 obtain ⟨te, h3, h4⟩ := Option.map_eq_some_iff.1 hz
 refine AW.2 ⟨ti, h1, EX.2 ⟨kt, et, h2, AW.2 ⟨te, h3, AX.2 ⟨_, hm, Dd.2 ⟨_, hi, ⟨hk.fits y, Lu hk mp⟩, ?_⟩⟩⟩⟩⟩
 simp only [Bool.false_eq_true, if_false, Of hk, h4, Tr]
 exact k
theorem Lv {y : κ} {z : υ} {id : Nat} {v : Operand} {h' : AQ} (hk : Kg AB kt ke) (hx : BL nt sl x = .lmap id) (hm : Ba id h = some (.map (Ab ke ve mp))) (hi : BL nt sl i = .p (ke y)) (hv : BL nt sl v = .p (ve z)) (ht : VL AB t kt et = true)
  (hu : Ke id (.map (Ab ke ve (A5 y z mp))) h some = some h') (k : f ⟨nt, sl, h', c⟩) : BQ P A AB ⟨nt, sl, h, c⟩ none (.mapUpdate t x i v) ⟨f, hf⟩ := by
 obtain ⟨ti, h1, h2⟩ := Ql ht
 rw [BN (h := h) (c := c)] at hx hi hv
 rw [Bb] at hm
 rw [Hb, Option.some.injEq] at hu
 subst hu
 refine AW.2 ⟨ti, h1, EX.2 ⟨kt, et, h2, Ev.2 ⟨id, hx, AX.2 ⟨_, hm, ?_⟩⟩⟩⟩
 dsimp only
 refine Fv.2 ⟨Ab ke ve mp, rfl, ?_⟩
 refine Dd.2 ⟨_, hi, Dd.2 ⟨_, hv, ⟨hk.fits y, Lu hk mp⟩, ?_⟩⟩
 rw [SL hk]
 exact k
def Ed (y : κ) : List (κ × υ) -> List (κ × υ)
 | [] => []
 | p :: m => if y == p.1 then m else p :: Ed y m
theorem SO (hk : Kg AB kt ke) (x : κ) : ∀ m : List (κ × υ), ND (ke x) (Ab ke ve m) = Ab ke ve (Ed x m)
 | [] => by simp [Ab, ND, Ed]
 | p :: m => by
  have ih := SO hk x m
  simp only [Ab] at ih
  simp only [Ab, List.map_cons, ND, hk.eq, Ed]
  split
  .rfl
  simp only [List.map_cons, ih]
theorem Lw {y : κ} {id t : Nat} {r : List TypeId} {c0 : Call} {h' : AQ} (hk : Kg AB kt ke) (hc : c0.callee = .builtin .delete) (ha : c0.args.toList = [x, i]) (hat : c0.argTypes.toList = t :: r) (hx : BL nt sl x = .lmap id) (hm : Ba id h = some (.map (Ab ke ve mp))) (hi : BL nt sl i = .p (ke y)) (ht : VL AB t kt et = true)
  (hu : Ke id (.map (Ab ke ve (Ed y mp))) h some = some h') (k : f ⟨nt, sl, h', c⟩) : BQ P A AB ⟨nt, sl, h, c⟩ none (.call c0) ⟨f, hf⟩ := by
 obtain ⟨ti, h1, h2⟩ := Ql ht
 rw [BN (h := h) (c := c)] at hx hi
 rw [Bb] at hm
 rw [Hb, Option.some.injEq] at hu
 subst hu
 show Kw P A AB ⟨nt, sl, h, c⟩ none c0 ⟨f, hf⟩
 unfold Kw
 rw [hc, ha, hat]
 refine AW.2 ⟨ti, h1, EX.2 ⟨kt, et, h2, Ev.2 ⟨id, hx, AX.2 ⟨_, hm, ?_⟩⟩⟩⟩
 dsimp only
 refine Fv.2 ⟨Ab ke ve mp, rfl, ?_⟩
 refine Dd.2 ⟨_, hi, ⟨hk.fits y, Lu hk mp⟩, ?_⟩
 rw [SO hk]
 exact k
theorem Mm {ks : List Sh} {xs ys : List DV} {b : Bool} {y : Operand} {t' : Nat} (hb : C0 xs ys = b) (hx : BL nt sl x = .p (.agg xs)) (hy : BL nt sl y = .p (.agg ys)) (hk : AB.eqk t = some ks) (f1 : fits ks xs = true) (f2 : fits ks ys = true)
  (k : f ⟨nt, (d, .p (.bool b)) :: sl, h, c⟩) : Gl P A AB ⟨nt, sl, h, c⟩ (some d) (.binOp .eql t x y t') ⟨f, hf⟩ := by
 rw [BN (h := h) (c := c)] at hx hy
 show Px AB .eql t _ _ _
 rw [hx, hy]
 exact AX.2 ⟨ks, hk, f1, f2, by rw [hb]; exact k⟩
end
end Go.E
/- Rules for a function's beginning and end, and for states that are made weaker, by unfolding alone. No condition. -/
namespace Go.E
open Go Go.RowKit
abbrev li (n : Int) : LV := .p (.int .i64 n)
abbrev lb (b : Bool) : LV := .p (.bool b)
abbrev lq (l : List DV) : LV := .p (.place l 0)
abbrev ls {α : Type} (sz : Nat) (enc : α -> List DV) (l : List α) : LV := .p (.slice sz (l.map enc))
section
variable {P : Program} {A : BP} {AB : A9}
theorem fn (hE : BB P AB) {k : Nat} {fn : Func} {c : Code} {ds : List DV} {d : DV} (hf : P.funcs[k]? = some fn) (hb : fn.body = some c) (hn : (fn.name == "runtime.NumGoroutine") = false) (nt : Nat) (hnt : Nat.beq fn.ntmps nt = true)
  (rs : List ResultVar) (hrs : fn.results.toList = rs) (sl : List (Nat × LV)) (hsl : Dg 0 ds = sl) (hlen : Nat.ble ds.length nt = true)
  (h : ∀ A : BP, (∀ id, A.μ0 id = none) -> CD P A c (M6 fun st => ∃ r, Ft AB.tt rs st = some r /\ Le r d) ⟨nt, sl, [], 0⟩) : Bc P k ds (· = d) := by
 subst hsl
 exact AAR hE hf hb hn nt (Nat.eq_of_beq_eq_true hnt) rs hrs (Nat.le_of_ble_eq_true hlen) h
theorem er {rs : List ResultVar} {st : St} {r d : DV} (h : Ft AB.tt rs st = some r) (hle : Le r d) : M6 (fun st => ∃ r, Ft AB.tt rs st = some r /\ Le r d) .ret st := ⟨r, h, hle⟩
theorem en {rs : List ResultVar} {st : St} {r d : DV} (h : Ft AB.tt rs st = some r) (hle : Le r d) : M6 (fun st => ∃ r, Ft AB.tt rs st = some r /\ Le r d) .normal st := ⟨r, h, hle⟩
inductive Lx (h : AQ) : LV -> DV -> Prop where
 | p (d : DV) : Lx h (.p d) d
 | own {α : Type} {enc : α -> List DV} (l : List α) {id e sz n : Nat} (hl : Ba id h = some (.row e sz (l.map enc))) (hn : n = l.length) : Lx h (.lsl id sz 0 n) (.slice sz (l.map enc))
 | map {id : Nat} {m : List (DV × DV)} (hl : Ba id h = some (.map m)) : Lx h (.lmap id) (.map m)
 | sub {α : Type} {enc : α -> List DV} (l r : List α) {id e sz off n : Nat} (hl : Ba id h = some (.row e sz (l.map enc))) (hr : off + n <= l.length /\ (l.drop off).take n = r) : Lx h (.lsl id sz off n) (.slice sz (r.map enc))
inductive Qm (h : AQ) : List LV -> List DV -> Prop where
 | nil : Qm h [] []
 | cons {v : LV} {d : DV} {vs : List LV} {ds : List DV} (k : Lx h v d) (r : Qm h vs ds) : Qm h (v :: vs) (d :: ds)
inductive SP (h : AQ) : List LV -> List DV -> Prop where
 | nil : SP h [] []
 | box {us : List LV} {es : List DV} {id off : Nat} {vs : List LV} {ds : List DV} (hl : Ba id h = some (.box us)) (k : Qm h us es) (r : SP h vs ds) : SP h (.lpb id off :: vs) (.place es off :: ds)
 | cons {v : LV} {d : DV} {vs : List LV} {ds : List DV} (k : Lx h v d) (r : SP h vs ds) : SP h (v :: vs) (d :: ds)
inductive Ld (h : AQ) : LV -> DV -> Prop where
 | one {v : LV} {d : DV} (k : Lx h v d) : Ld h v d
 | agg {vs : List LV} {ds : List DV} (k : Qm h vs ds) : Ld h (.agg vs) (.agg ds)
 | tup {vs : List LV} {ds : List DV} (k : Qm h vs ds) : Ld h (.tup vs) (.tup ds)
 | box {vs : List LV} {ds : List DV} {id off : Nat} (hl : Ba id h = some (.box vs)) (k : Qm h vs ds) : Ld h (.lpb id off) (.place ds off)
 | fn {f : Nat} {vs : List LV} {ds : List DV} (k : SP h vs ds) : Ld h (.fn f vs) (.fn f ds)
inductive DX (h : AQ) : List LV -> List DV -> Prop where
 | nil : DX h [] []
 | cons {v : LV} {d : DV} {vs : List LV} {ds : List DV} (k : Ld h v d) (r : DX h vs ds) : DX h (v :: vs) (d :: ds)
theorem Lx.eq {h : AQ} {v : LV} {d : DV} (k : Lx h v d) : Fs h v = some d := by
 cases k with
 | p => rfl
 | own l hl hn =>
  rw [Bb] at hl
  subst hn
  simp only [Fs, hl, Nat.zero_add, List.length_map, Nat.le_refl, and_self, if_true, List.drop_zero]
  rw [List.take_of_length_le (by simp)]
 | map hl => rw [Bb] at hl; simp only [Fs, hl]
 | sub l r hl hr =>
  rw [Bb] at hl
  simp only [Fs, hl, List.length_map]
  rw [if_pos ⟨trivial, hr.1⟩, <- List.map_drop, <- List.map_take, hr.2]
theorem Qm.eq {h : AQ} {vs : List LV} {ds : List DV} (k : Qm h vs ds) : Gm h vs = some ds := by
 induction k with
 | nil => rfl
 | cons k _ ih => simp only [Gm, k.eq, ih]
theorem Lx.eqb {h : AQ} {v : LV} {d : DV} (k : Lx h v d) : Jy h v = some d := by
 have := k.eq
 cases k <;> exact this
theorem SP.eq {h : AQ} {vs : List LV} {ds : List DV} (k : SP h vs ds) : GO h vs = some ds := by
 induction k with
 | nil => rfl
 | box hl k _ ih => rw [Bb] at hl; simp only [GO, Jy, hl, k.eq, ih, Option.map_some]
 | cons k _ ih => simp only [GO, k.eqb, ih]
theorem Ld.eq {h : AQ} {v : LV} {d : DV} (k : Ld h v d) : FU h v = some d := by
 cases k with
 | one k => cases k with
  | p => rfl
  | own l hl hn => exact Lx.eq (.own l hl hn)
  | map hl => exact Lx.eq (.map hl)
  | sub l r hl hr => exact Lx.eq (.sub l r hl hr)
 | agg k => simp only [FU, k.eq, Option.map_some]
 | tup k => simp only [FU, k.eq, Option.map_some]
 | box hl k => rw [Bb] at hl; simp only [FU, hl, k.eq, Option.map_some]
 | fn k => simp only [FU, k.eq, Option.map_some]
theorem DX.eq {h : AQ} {vs : List LV} {ds : List DV} (k : DX h vs ds) : Bz h vs = some ds := by
 induction k with
 | nil => rfl
 | cons k _ ih => simp only [Bz, k.eq, ih]
theorem Ks {rs : List ResultVar} {st : St} {v : LV} {d : DV} (hr : Jz AB.tt st rs = some [v]) (k : Ld st.heap v d) : Ft AB.tt rs st = some d := by
 simp only [Ft, hr, k.eq]
theorem ZD {rs : List ResultVar} {st : St} {v u : LV} {vs : List LV} {ds : List DV} (hr : Jz AB.tt st rs = some (v :: u :: vs)) (k : DX st.heap (v :: u :: vs) ds) : Ft AB.tt rs st = some (.tup ds) := by
 simp only [Ft, hr, k.eq, Option.map_some]
def WE (sl : List (Nat × LV)) (t : Nat) : LV := match Ba t sl with
 | some v => v
 | none => .any
theorem Zo {sl : List (Nat × LV)} {t : Nat} : WE sl t = Bo sl t := by simp only [WE, Bo, Bb]; rfl
inductive VM (gl : List (Nat × Nat)) (sl : List (Nat × LV)) : List (Nat × LV) -> Prop where
 | nil : VM gl sl []
 | cons {t : Nat} {l : LV} {r : List (Nat × LV)} (h : WE sl t = FE gl l) (k : VM gl sl r) : VM gl sl ((t, l) :: r)
inductive VN (gl : List (Nat × Nat)) (h : AQ) : AQ -> Prop where
 | nil : VN gl h []
 | cons {id old : Nat} {o : BE} {r : AQ} (h1 : Ba id gl = some old) (h2 : Ba old h = some (V6 gl o)) (k : VN gl h r) : VN gl h ((id, o) :: r)
def Mn (gl : List (Nat × Nat)) : List (Nat × LV) -> Bool
 | [] => true
 | (_, l) :: r => match D2 gl l with
  | true => Mn gl r
  | false => false
def Mo (gl : List (Nat × Nat)) : AQ -> Bool
 | [] => true
 | (_, o) :: r => match Tf gl o with
  | true => Mo gl r
  | false => false
theorem YK {gl : List (Nat × Nat)} {sl sl' : List (Nat × LV)} (h : VM gl sl sl') : Mn gl sl' = true -> TC gl sl sl' := by
 induction h with
 | nil => intro _; trivial
 | cons h _ ih =>
  intro hn
  simp only [Mn] at hn
  split at hn
  .rename_i hq; exact ⟨⟨hq, by rw [<- Zo]; exact h⟩, ih hn⟩
  cases hn
theorem YL {gl : List (Nat × Nat)} {h h' : AQ} (k : VN gl h h') : Mo gl h' = true -> TD gl h h' := by
 induction k with
 | nil => intro _; trivial
 | cons h1 h2 _ ih =>
  intro hn
  simp only [Mo] at hn
  split at hn
  .rename_i hq; exact ⟨⟨hq, _, by rw [<- Bb]; exact h1, by rw [<- Bb]; exact h2⟩, ih hn⟩
  cases hn
theorem wk (gl : List (Nat × Nat)) {nt : Nat} {sl sl' : List (Nat × LV)} {h h' : AQ} {c c' : Nat} (hext : ∀ id, A.μ0 id ≠ none -> AF id gl = some id) (ho : Qd gl h' c' = true) (hn : Mn gl sl' = true) (hm : Mo gl h' = true)
  (hs : VM gl sl sl') (hh : VN gl h h') : BA A ⟨nt, sl, h, c⟩ ⟨nt, sl', h', c'⟩ := YC gl hext ho (YK hs hn) (YL hh hm)
def TH (sl : List (Nat × LV)) : List (Nat × LV) -> List LV
 | [] => []
 | (t, _) :: r => WE sl t :: TH sl r
def TJ (gl : List (Nat × Nat)) : List (Nat × LV) -> List LV
 | [] => []
 | (_, l) :: r => FE gl l :: TJ gl r
def AAU (gl : List (Nat × Nat)) (h : AQ) (id : Nat) : Option BE := match Ba id gl with
 | some old => Ba old h
 | none => none
def TK (gl : List (Nat × Nat)) (h : AQ) : AQ -> List (Option BE)
 | [] => []
 | (id, _) :: r => AAU gl h id :: TK gl h r
def TL (gl : List (Nat × Nat)) : AQ -> List (Option BE)
 | [] => []
 | (_, o) :: r => some (V6 gl o) :: TL gl r
theorem Ts {gl : List (Nat × Nat)} {sl : List (Nat × LV)} : ∀ {sl' : List (Nat × LV)}, TH sl sl' = TJ gl sl' -> VM gl sl sl'
 | [], _ => .nil
 | (_, _) :: _, h => .cons (List.cons.inj h).1 (Ts (List.cons.inj h).2)
theorem Tt {gl : List (Nat × Nat)} {h : AQ} : ∀ {h' : AQ}, TK gl h h' = TL gl h' -> VN gl h h'
 | [], _ => .nil
 | (id, o) :: _, e => by
  have e1 := (List.cons.inj e).1
  unfold AAU at e1
  split at e1
  .rename_i old hl; exact .cons hl e1 (Tt (List.cons.inj e).2)
  cases e1
def WF (gl : List (Nat × Nat)) (sl' : List (Nat × LV)) (h' : AQ) (c' : Nat) : Bool := match Qd gl h' c' with
 | true => match Mn gl sl' with
  | true => Mo gl h'
  | false => false
 | false => false
theorem K5 {gl : List (Nat × Nat)} {sl' : List (Nat × LV)} {h' : AQ} {c' : Nat} (h : WF gl sl' h' c' = true) : Qd gl h' c' = true /\ Mn gl sl' = true /\ Mo gl h' = true := by
 unfold WF at h
 split at h
 .split at h
  .exact ⟨‹_›, ‹_›, h⟩
  cases h
 cases h
def gi : Nat -> List (Nat × Nat) -> List (Nat × Nat)
 | 0, l => l
 | n + 1, l => gi n ((n, n) :: l)
theorem wf {nt : Nat} {sl sl' : List (Nat × LV)} {h h' : AQ} {c c' : Nat} (hA : ∀ id, A.μ0 id = none) (gl : List (Nat × Nat)) (ha : WF gl sl' h' c' = true) (hs : TH sl sl' = TJ gl sl') (hh : TK gl h h' = TL gl h') : BA A ⟨nt, sl, h, c⟩ ⟨nt, sl', h', c'⟩ :=
 wk gl (fun id h => absurd (hA id) h) (K5 ha).1 (K5 ha).2.1 (K5 ha).2.2 (Ts hs) (Tt hh)
section
variable {σ Ans : Type} {S : σ -> St} {Q : Ans -> Exit -> St -> Prop} {st : St}
theorem lpn {s : σ} (hw : BA A st (S s)) : LP A S Q (.inl s) .normal st := ⟨rfl, hw⟩
theorem lpx {a : Ans} {id : Nat} (k : Q a (.exit id) st) : LP A S Q (.inr a) (.exit id) st := ⟨nofun, k⟩
theorem lpt {a : Ans} (k : Q a .ret st) : LP A S Q (.inr a) .ret st := ⟨nofun, k⟩
theorem npn {s : σ} (hw : BA A st (S s)) : NP A S s .normal st := ⟨rfl, hw⟩
end
theorem mp {σ Ans : Type} {o : Option Ans} {b : σ ⊕ Ans} (h : o.map .inr = some b) : ∃ a, o = some a /\ b = .inr a := by
 cases o with
 | none => cases h
 | some a => exact ⟨a, rfl, (Option.some.inj h).symm⟩
theorem mps {σ Ans : Type} {x : Ans} {b : σ ⊕ Ans} (h : some (.inr x) = some b) : ∃ a, some x = some a /\ b = .inr a := ⟨x, rfl, (Option.some.inj h).symm⟩
end
end Go.E
/- Scopes, slices set against nil, functions walked where they are called (F2), slices handed back (FV). No condition. -/
namespace Go.E
open Go Go.RowKit
section
variable {α : Type} [DecidableEq α]
def agree (a b : Option α) : Option α := if a = b then a else none
theorem WG {a b : Option α} {x : α} (h : agree a b = some x) : a = some x /\ b = some x := by
 unfold agree at h
 split at h
 .rename_i e; exact ⟨h, e ▸ h⟩
 cases h
def MQ {β : Type} (l : List β) (a b : Option α) : Option α := match l with
 | [] => agree a b
 | _ :: _ => b
end
section
variable {P : Program} {A : BP} {AB : A9} {st : St}
section
variable {f : St -> Prop} {hf : Ik f} {nt : Nat} {sl : List (Nat × LV)} {h : AQ} {c : Nat} {α Ans : Type} [DecidableEq Ans] {enc : α -> List DV} {l : List α} {d : Tmp} {t t' sz : Nat} {x y : Operand} {p q : Option Ans} {a : Ans}
theorem Qn (hh : MQ l p q = some a) (ht : Qk AB t = true) (hx : BL nt sl x = .p (.slice sz (l.map enc))) (hy : BL nt sl y = .p .nils)
  (k1 : p = some a -> f ⟨nt, (d, .p (.bool true)) :: sl, h, c⟩) (k2 : q = some a -> f ⟨nt, (d, .p (.bool false)) :: sl, h, c⟩) : BQ P A AB ⟨nt, sl, h, c⟩ (some d) (.binOp .eql t x y t') ⟨f, hf⟩ := by
 obtain ⟨ti, e, h1, h2⟩ := P2 ht
 rw [BN (h := h) (c := c)] at hx hy
 show Rb AB .eql t _ _ _
 rw [hx, hy]
 refine AW.2 ⟨ti, h1, Cc.2 ⟨e, h2, ?_⟩⟩
 intro r hr
 cases l with
 | nil =>
  obtain ⟨g1, g2⟩ := WG hh
  cases r with
  | true => exact k1 g1
  | false => exact k2 g2
 | cons z l => rw [hr (by simp)]; exact k2 hh
end
def I4 (tt : Nat -> Option TI) (rs : List ResultVar) (st : St) : Option LV :=
 match Jz tt st rs with
 | some [l] => some l
 | some ls => some (.tup ls)
 | none => none
def Ly : Nat -> List LV -> List (Nat × LV)
 | _, [] => []
 | n, d :: ds => (n, d) :: Ly (n + 1) ds
theorem Qo : ∀ (ds : List LV) (n t : Nat), AF t (Ly n ds) = if n <= t then ds[t - n]? else none
 | [], n, t => by simp [Ly, AF]
 | d :: ds, n, t => by
  simp only [Ly, AF]
  by_cases e : t = n
  .subst e; simp
  rw [if_neg e, Qo ds (n + 1) t]
  by_cases h : n + 1 <= t
  .rw [if_pos h, if_pos (by omega), show t - n = t - (n + 1) + 1 by omega, List.getElem?_cons_succ]
  rw [if_neg h, if_neg (by omega)]
theorem Uo (hE : BB P AB) {A : BP} {μ : Nat -> Option Bf} {F : Nat -> Prop} {st : St} {a : Act} {w : World} (hs : ∀ x, Ag (Aj A μ st.heap) μ w (a.eval x) (st.eval x)) (hh : HRel A μ st.heap F w) {fn : Func} {r : LV} (h : I4 AB.tt fn.results.toList st = some r) :
  ∃ v, (results fn a.tmps).run P w = .ok v w /\ Ag (Aj A μ st.heap) μ w v r := by
 unfold I4 at h
 cases hr : Jz AB.tt st fn.results.toList with
 | none => rw [hr] at h; cases h
 | some ls =>
  rw [hr] at h
  obtain ⟨vs, g1, g2, g3⟩ := MJ (P := P) hE hs hh hr
  have hrun := MK g1
  match ls, vs, g2 with
  | [], [], _ => cases h; exact ⟨_, hrun, .tup _ _ rfl (by simp)⟩
  | [l], [v], _ => simp only [Option.some.injEq] at h; subst h; exact ⟨_, hrun, g3 0 v l rfl rfl⟩
  | l :: m :: ls, u :: v :: vs, g2 => simp only [Option.some.injEq] at h; subst h; exact ⟨_, hrun, .tup _ _ (by simpa using g2) fun i x d hx hd => g3 i x d (by simpa using hx) hd⟩
theorem VO {c : Code} {Q : Exit -> St -> Prop} (h : CD P A c (fun e s => ∃ s', BA A s s' /\ Q e s') st) : CD P A c Q st := fun a w hR =>
 wp_mono (h a w hR) fun _ a' w' ⟨_, hR', s', hw, q⟩ => ⟨s', hw a' w' hR', q⟩
theorem Tu (hE : BB P AB) {k : Nat} {fn : Func} {cd : Code} (hf : P.funcs[k]? = some fn) (hb : fn.body = some cd) (hn : (fn.name == "runtime.NumGoroutine") = false) (nt : Nat) (hnt : fn.ntmps = nt) (rs : List ResultVar) (hrs : fn.results.toList = rs)
  {h : AQ} {ctr : Nat} {args : List LV} (hlen : args.length <= nt) {K : LV -> AQ -> Nat -> Prop}
  (body : ∀ A' : BP, (∀ id, A'.μ0 id ≠ none -> id < ctr) -> CD P A' cd (M6 fun st => ∃ l, I4 AB.tt rs st = some l /\ K l st.heap st.ctr) ⟨nt, Ly 0 args, h, ctr⟩) : DQ P A h ctr k args K := by
 subst hnt hrs
 refine ⟨Ij hf hb hn, fun μ w vs hh hsz hr => ?_⟩
 have hlt : ∀ id loc, μ id = some loc -> id < ctr := by
  intro id loc hm
  by_cases hi : id < ctr
  .exact hi
  rw [hh.fresh id (by simp only [Fr]; omega)] at hm; cases hm
 let A' : BP := ⟨w, A.O, CA μ h, fun id => if id < ctr then μ id else none, fun b hb' => ⟨Nat.lt_of_lt_of_le (A.hO b hb').1 hh.size, by
  rintro ⟨id, o, loc, h1, h2, h3, rfl⟩
  exact (hh.base id o loc h1 h2 h3).2.1 hb'⟩⟩
 have hA' : ∀ id, A'.μ0 id ≠ none -> id < ctr := by
  intro id hid
  by_cases hi : id < ctr
  .exact hi
  simp [A', hi] at hid
 have hown : ∀ b, Aj A' μ h b ↔ Aj A μ h b := fun b => Iff.rfl
 have hh' : HRel A' μ h (Fr ctr) w := ⟨hh.obj, hh.inj, hh.fresh, fun id o loc h1 h2 h3 => ⟨(hh.base id o loc h1 h2 h3).1, (hh.base id o loc h1 h2 h3).2.1, .inr ⟨id, o, loc, h1, h2, h3, rfl⟩⟩, Nat.le_refl _, fun _ _ _ => rfl, rfl, rfl, rfl, fun id loc hm => by
  simp only [A'] at hm
  split at hm
  .exact hm
  cases hm⟩
 have hR : R A' ⟨fn.ntmps, Ly 0 args, h, ctr⟩ { tmps := vs ++ Array.replicate (fn.ntmps - vs.size) undef, defers := [] } w := by
  refine ⟨⟨μ, hh', fun t ht => ?_⟩, by simp; omega, rfl⟩
  simp only [Bo, Qo, Nat.zero_le, if_true, Nat.sub_zero]
  by_cases hlt' : t < args.length
  .have hv : t < vs.size := by omega
   have e : args[t]? = some args[t] := by simp [hlt']
   rw [e]
   have e2 : (vs ++ Array.replicate (fn.ntmps - vs.size) undef).getD t undef = vs[t] := by
    rw [Array.getD_eq_getD_getElem?, Array.getElem?_append_left hv]; simp [hv]
   rw [e2]
   exact hr t _ _ (by simp [hv]) e
  have e : args[t]? = none := by simp; omega
  rw [e]; exact .any _
 refine calls_of_wp hf hb (wp_mono (body A' hA' _ _ hR) ?_)
 rintro e a' w' ⟨st', ⟨⟨μ', hh2, hs⟩, hnt, hdef⟩, hq⟩
 have fin : (∃ l, I4 AB.tt fn.results.toList st' = some l /\ K l st'.heap st'.ctr) -> a'.defers = [] /\ ∃ v, (results fn a'.tmps).run P w' = .ok v w' /\
   ∃ u l h' c' μ', Ending.returned v = .returned u /\ K l h' c' /\ HRel A μ' h' (Fr c') w' /\ Ag (Aj A μ' h') μ' w' u l /\ ∀ v x, Ag (Aj A μ h) μ w v x -> Ag (Aj A μ' h') μ' w' v x := by
  rintro ⟨l, h1, h2⟩
  obtain ⟨v, g1, g2⟩ := Uo (P := P) hE (fun x => G3 hs x) hh2 h1
  have mineof : ∀ b, b < w.heap.size -> CA μ' st'.heap b -> CA μ h b := by
   rintro b hb' ⟨id, o, loc, k1, k2, k3, rfl⟩
   rcases (hh2.base id o loc k1 k2 k3).2.2 with hb2 | hb2
   .exact absurd hb2 (by show ¬ w.heap.size <= _; omega)
   exact hb2
  have keepμ' : ∀ id loc, μ id = some loc -> μ' id = some loc := fun id loc hm => hh2.ext id loc (by simp only [A']; rw [if_pos (hlt id loc hm)]; exact hm)
  refine ⟨hdef, v, g1, v, l, st'.heap, st'.ctr, μ', rfl, h2, ⟨hh2.obj, hh2.inj, hh2.fresh, fun id o loc k1 k2 k3 => ⟨(hh2.base id o loc k1 k2 k3).1, (hh2.base id o loc k1 k2 k3).2.1, ?_⟩, Nat.le_trans hh.size hh2.size, fun b hb' hnf => ?_, hh2.os.trans hh.os, hh2.tape.trans hh.tape, hh2.output.trans hh.output, fun id loc hm => keepμ' id loc (hh.ext id loc hm)⟩, g2, fun v x hv => hv.mono ⟨hh2.size, fun b hb' hno => hh2.block b hb' fun hm => hno (.inr hm)⟩ (fun b hb' ho => ?_) keepμ'⟩
  .rcases (hh2.base id o loc k1 k2 k3).2.2 with hb2 | ⟨id2, o2, loc2, m1, m2, m3, m4⟩
   .exact .inl (Nat.le_trans hh.size hb2)
   rw [<- m4]; exact (hh.base id2 o2 loc2 m1 m2 m3).2.2
  .have hnm : ¬ CA μ h b := by
    rintro ⟨id2, o2, loc2, m1, m2, m3, rfl⟩
    rcases (hh.base id2 o2 loc2 m1 m2 m3).2.2 with hb2 | hb2
    .omega
    exact hnf hb2
   rw [hh2.block b (Nat.lt_of_lt_of_le hb' hh.size) hnm]
   exact hh.block b hb' hnf
  rcases ho with ho | ho
  .exact .inl ho
  exact .inr (mineof b hb' ho)
 cases e with
 | normal => exact fin hq
 | ret => exact fin hq
 | _ => exact hq.elim
def IP (tt : Nat -> Option TI) (rs : List ResultVar) (A : BP) (L : LV) (H : AQ) (C : Nat) (e : Exit) (st : St) : Prop :=
 ∃ s', BA A st s' /\ M6 (fun s => I4 tt rs s = some L /\ s.heap = H /\ s.ctr = C) e s'
theorem DI {rs : List ResultVar} {L : LV} {nt C : Nat} {sl : List (Nat × LV)} {H : AQ} (hw : BA A st ⟨nt, sl, H, C⟩) (hr : I4 AB.tt rs ⟨nt, sl, H, C⟩ = some L) : IP AB.tt rs A L H C .ret st := ⟨_, hw, hr, rfl, rfl⟩
theorem JW {rs : List ResultVar} {L : LV} {nt C : Nat} {sl : List (Nat × LV)} {H : AQ} (hw : BA A st ⟨nt, sl, H, C⟩) (hr : I4 AB.tt rs ⟨nt, sl, H, C⟩ = some L) : IP AB.tt rs A L H C .normal st := ⟨_, hw, hr, rfl, rfl⟩
section
variable {f : St -> Prop} {hf : Ik f} {nt : Nat} {sl : List (Nat × LV)} {h : AQ} {c : Nat} {σ Ans : Type}
theorem F2 (hE : BB P AB) (L : σ -> LV) (H : σ -> AQ) (C : Nat) {sp : Option σ} {rest : σ -> Option Ans} {a : Ans} {dst : Option Tmp} {fo : Operand} {args : Array Operand} {ts : Array TypeId} {k : Nat} {fn : Func} {cd : Code} {caps ls : List LV}
  (hh : sp.bind rest = some a) (hfun : P.funcs[k]? = some fn) (nt' : Nat) (rs : List ResultVar) (sl' : List (Nat × LV)) (hb : fn.body = some cd) (hn : (fn.name == "runtime.NumGoroutine") = false) (hnt : Nat.beq fn.ntmps nt' = true) (hrs : fn.results.toList = rs)
  (hfn : BL nt sl fo = .fn k caps) (hl : Dl nt sl args.toList some = some ls) (hlen : Nat.ble (ls ++ caps).length nt' = true) (hsl : Ly 0 (ls ++ caps) = sl')
  (body : ∀ A : BP, (∀ id, A.μ0 id ≠ none -> id < c) -> ∀ t, sp = some t -> CD P A cd (IP AB.tt rs A (L t) (H t) C) ⟨nt', sl', h, c⟩)
  (kk : ∀ t, rest t = some a -> f (match dst with | some d => ⟨nt, (d, L t) :: sl, H t, C⟩ | none => ⟨nt, sl, H t, C⟩)) : BQ P A AB ⟨nt, sl, h, c⟩ dst (.call ⟨.value fo, args, ts⟩) ⟨f, hf⟩ := by
 obtain ⟨t, h1, h2⟩ := bd hh
 rw [BN (h := h) (c := c)] at hfn
 show Mj _ _
 rw [hfn]
 show Iz P A h c k (args.toList.map _ ++ caps) _
 rw [Ep hl]
 subst hsl
 refine Tu hE hfun hb hn nt' (Nat.eq_of_beq_eq_true hnt) rs hrs (Nat.le_of_ble_eq_true hlen) fun A' hA' => ?_
 have := VO (body A' hA' t h1)
 refine G5 this fun e s q => ?_
 have fin : (I4 AB.tt rs s = some (L t) /\ s.heap = H t /\ s.ctr = C) -> ∃ l, I4 AB.tt rs s = some l /\ f (St.go ⟨nt, sl, h, c⟩ dst l s.heap s.ctr) := by
  rintro ⟨q1, q2, q3⟩
  refine ⟨_, q1, ?_⟩
  rw [q2, q3, Ls]
  have := kk t h2
  cases dst <;> exact this
 cases e <;> first | exact fin q | exact q.elim
end
def Qp : Nat -> List (Nat × Nat) -> Bool
 | 0, _ => true
 | n + 1, gl => match Ba n gl with
  | some m => match Nat.beq n m with
   | true => Qp n gl
   | false => false
  | none => false
theorem Tv : ∀ {n : Nat} {gl : List (Nat × Nat)}, Qp n gl = true -> ∀ i, i < n -> AF i gl = some i
 | 0, _, _, i, h => by omega
 | n + 1, gl, hk, i, hi => by
  simp only [Qp] at hk
  split at hk
  .rename_i m hm
   split at hk
   .rename_i hb
    have := Nat.eq_of_beq_eq_true hb
    subst this
    by_cases e : i = n
    .subst e; rw [<- Bb]; exact hm
    exact Tv hk i (by omega)
   cases hk
  cases hk
theorem YM {n : Nat} (hA : ∀ id, A.μ0 id ≠ none -> id < n) (gl : List (Nat × Nat)) (hk : Qp n gl = true) : ∀ id, A.μ0 id ≠ none -> AF id gl = some id := fun id h => Tv hk id (hA id h)
theorem wj {n nt : Nat} {sl sl' : List (Nat × LV)} {h h' : AQ} {c c' : Nat} (hA : ∀ id, A.μ0 id ≠ none -> id < n) (gl : List (Nat × Nat)) (hk : Qp n gl = true) (ha : WF gl sl' h' c' = true) (hs : TH sl sl' = TJ gl sl') (hh : TK gl h h' = TL gl h') : BA A ⟨nt, sl, h, c⟩ ⟨nt, sl', h', c'⟩ :=
 wk gl (YM hA gl hk) (K5 ha).1 (K5 ha).2.1 (K5 ha).2.2 (Ts hs) (Tt hh)
section
variable {f : St -> Prop} {hf : Ik f} {nt : Nat} {sl : List (Nat × LV)} {h : AQ} {c : Nat} {d : Tmp} {α : Type} {enc : α -> List DV}
theorem Jh {fo : Operand} {args : Array Operand} {ts : Array TypeId} {k e sz : Nat} {caps ls : List LV} {ds : List DV} {r : List α} (hF : FV P k ds e sz (r.map enc))
  (hs : (ls ++ caps).flatMap (D8 h) = []) (hfn : BL nt sl fo = .fn k caps) (hl : Dl nt sl args.toList some = some ls) (hds : Bz h (ls ++ caps) = some ds)
  (kk : f ⟨nt, (d, .lsl c sz 0 r.length) :: sl, (c, .row e sz (r.map enc)) :: h, c + 1⟩) : BQ P A AB ⟨nt, sl, h, c⟩ (some d) (.call ⟨.value fo, args, ts⟩) ⟨f, hf⟩ := by
 rw [BN (h := h) (c := c)] at hfn
 show Mj _ _
 rw [hfn]
 show Iz P A h c k (args.toList.map _ ++ caps) _
 rw [Ep hl]
 refine ABU hds hF hs ?_
 rw [List.length_map]
 exact kk
theorem Tw {fo : Operand} {args : Array Operand} {ts : Array TypeId} {k e sz : Nat} {caps ls : List LV} {ds : List DV} {r : List α} (hF : FV P k ds e sz (r.map enc)) (hw : AB.own = true)
  (hs : (ls ++ caps).flatMap (D8 h) = []) (hfn : (Cl fo, BL nt sl fo) = (false, .fn k caps)) (hl : Dl nt sl args.toList some = some ls) (hds : Bz h (ls ++ caps) = some ds)
  (kk : f ⟨nt, (d, .lsl c sz 0 r.length) :: sl, (c, .row e sz (r.map enc)) :: h, c + 1⟩) : Gl P A AB ⟨nt, sl, h, c⟩ (some d) (.call ⟨.value fo, args, ts⟩) ⟨f, hf⟩ := by
 obtain ⟨hnd, hfn⟩ := Prod.mk.inj hfn
 rw [BN (h := h) (c := c)] at hfn
 show (if Cl fo = true then _ else Mj _ _)
 rw [if_neg (by rw [hnd]; decide)]
 rw [hfn]
 refine .inr ⟨hw, ds, e, sz, r.map enc, ?_, hF, ?_, ?_⟩
 .show Bz h (args.toList.map _ ++ caps) = _
  rw [Ep hl]; exact hds
 .show Vu (List.flatMap _ (args.toList.map _ ++ caps)) _
  rw [Ep hl]; exact .inl hs
 show f ⟨nt, (d, .lsl c sz 0 (r.map enc).length) :: sl, _, _⟩
 rw [List.length_map]
 exact kk
theorem VP {k : Nat} {fn : Func} {cd : Code} {ds : List DV} {e sz : Nat} {r : List α} (hen : TG enc sz) (hf : P.funcs[k]? = some fn) (hb : fn.body = some cd) (hn : (fn.name == "runtime.NumGoroutine") = false) (nt : Nat) (hnt : Nat.beq fn.ntmps nt = true)
  (t : Nat) (hrs : fn.results.toList = [.tmp t]) (sl : List (Nat × LV)) (hsl : Dg 0 ds = sl) (hlen : Nat.ble ds.length nt = true)
  (h : ∀ A : BP, (∀ id, A.μ0 id = none) -> CD P A cd (V9 t e sz (r.map enc)) ⟨nt, sl, [], 0⟩) : FV P k ds e sz (r.map enc) := by
 subst hsl
 refine Zh hf hb hn nt (Nat.eq_of_beq_eq_true hnt) t hrs (Nat.le_of_ble_eq_true hlen) (fun x hx => ?_) h
 obtain ⟨a, _, rfl⟩ := List.mem_map.1 hx
 exact (hen a).1
theorem VQ {t e sz id n : Nat} {r : List α} (hv : BL nt sl (.tmp t) = .lsl id sz 0 n) (hl : Ba id h = some (.row e sz (r.map enc))) (hn : n = r.length) : V9 t e sz (r.map enc) .ret ⟨nt, sl, h, c⟩ := by
 rw [BN (h := h) (c := c)] at hv
 rw [Bb] at hl
 refine .inl ⟨id, ?_, hl⟩
 rw [hv, hn, List.length_map]
theorem AAV {t e sz : Nat} (hv : BL nt sl (.tmp t) = .p .nils) : V9 t e sz (([] : List α).map enc) .ret ⟨nt, sl, h, c⟩ := by
 rw [BN (h := h) (c := c)] at hv
 exact .inr ⟨hv, rfl⟩
end
end
end Go.E
/- Rules for single operations: arrays, division, a nil slice as an empty one. No condition. -/
namespace Go.E
open Go Go.RowKit
section
variable {P : Program} {A : BP} {AB : A9} {f : St -> Prop} {hf : Ik f} {nt : Nat} {sl : List (Nat × LV)} {h : AQ} {c : Nat} {d : Tmp} {α : Type} {l : List α} {t : Nat} {x i : Operand}
theorem P4 {α : Type} (l : List α) (n : Int) (z : α) : (IX l n z).length = l.length := by simp [IX]
theorem Zp {a b r : Int} {y : Operand} {t' : Nat} (hr : To a b = some r) (hx : BL nt sl x = .p (.int .u8 a)) (hy : BL nt sl y = .p (.int .u8 b)) (k : f ⟨nt, (d, .p (.int .u8 r)) :: sl, h, c⟩) :
  Gl P A AB ⟨nt, sl, h, c⟩ (some d) (.binOp .quo t x y t') ⟨f, hf⟩ := by
 rw [BN (h := h) (c := c)] at hx hy
 simp only [To] at hr
 split at hr
 .cases hr
 rename_i hb
 simp only [Option.some.injEq] at hr
 subst hr
 show Px AB .quo t _ _ _
 rw [hx, hy]
 exact ⟨rfl, hb, by rw [G7, if_neg hb]; exact k⟩
theorem ABW {kk : IntKind} {a b r : Int} {y : Operand} {t' : Nat} (hr : MP a b = some r) (hx : BL nt sl x = .p (.int kk a)) (hy : BL nt sl y = .p (.int kk b)) (k : f ⟨nt, (d, .p (.int kk r)) :: sl, h, c⟩) :
  BQ P A AB ⟨nt, sl, h, c⟩ (some d) (.binOp .rem t x y t') ⟨f, hf⟩ := by
 rw [BN (h := h) (c := c)] at hx hy
 simp only [MP] at hr
 split at hr
 .cases hr
 rename_i hb
 simp only [Option.some.injEq] at hr
 subst hr
 show Rb AB .rem t _ _ _
 rw [hx, hy]
 exact ⟨rfl, hb, by rw [G7, if_neg hb]; exact k⟩
theorem W9 {kk : IntKind} {a b r : Int} {y : Operand} {t' : Nat} (hr : MP a b = some r) (hx : BL nt sl x = .p (.int kk a)) (hy : BL nt sl y = .p (.int kk b)) (k : f ⟨nt, (d, .p (.int kk r)) :: sl, h, c⟩) :
  Gl P A AB ⟨nt, sl, h, c⟩ (some d) (.binOp .rem t x y t') ⟨f, hf⟩ := by
 rw [BN (h := h) (c := c)] at hx hy
 simp only [MP] at hr
 split at hr
 .cases hr
 rename_i hb
 simp only [Option.some.injEq] at hr
 subst hr
 show Px AB .rem t _ _ _
 rw [hx, hy]
 exact ⟨rfl, hb, by rw [G7, if_neg hb]; exact k⟩
section
variable {κ υ : Type} [BEq κ] {ke : κ -> DV} {ve : υ -> DV} {mp : List (κ × υ)} {kt et : Nat}
end
end
end Go.E
/- The types that the functions of this seat use, as plain data. Written by a program (mkenv.py). No condition. -/
namespace Go.E
open Go Go.RowKit Go.Proofs
def ZE : List (Nat × TI) := [
 (3, ⟨.int .i64, 1, 8, [.int .i64 0]⟩),
 (4, ⟨.bool, 1, 1, [.bool false]⟩),
 (5, ⟨.int .u8, 1, 1, [.int .u8 0]⟩),
 (9, ⟨.str, 1, 16, [.str .empty]⟩),
 (22, ⟨.slc 152, 1, 24, [.nils]⟩),
 (23, ⟨.slc 154, 1, 24, [.nils]⟩),
 (24, ⟨.slc 157, 1, 24, [.nils]⟩),
 (25, ⟨.slc 163, 1, 24, [.nils]⟩),
 (27, ⟨.struct [(0, 22), (1, 23), (2, 24), (3, 25), (4, 3), (5, 3), (6, 3), (7, 3), (8, 4)], 9, 136, [.nils, .nils, .nils, .nils, .int .i64 0, .int .i64 0, .int .i64 0, .int .i64 0, .bool false]⟩),
 (28, ⟨.slc 3, 1, 24, [.nils]⟩),
 (31, ⟨.other, 1, 8, [.nilp]⟩),
 (33, ⟨.slc 65, 1, 24, [.nils]⟩),
 (34, ⟨.slc 91, 1, 24, [.nils]⟩),
 (36, ⟨.struct [(0, 3), (1, 3), (2, 3), (3, 33), (4, 34), (5, 34), (6, 28), (7, 28), (8, 4)], 9, 152, [.int .i64 0, .int .i64 0, .int .i64 0, .nils, .nils, .nils, .nils, .nils, .bool false]⟩),
 (41, ⟨.slc 4, 1, 24, [.nils]⟩),
 (46, ⟨.slc 55, 1, 24, [.nils]⟩),
 (48, ⟨.other, 1, 8, [.nilp]⟩),
 (50, ⟨.other, 1, 8, [.nilp]⟩),
 (55, ⟨.struct [(0, 3), (1, 3), (2, 3), (3, 36)], 12, 176, [.int .i64 0, .int .i64 0, .int .i64 0, .int .i64 0, .int .i64 0, .int .i64 0, .nils, .nils, .nils, .nils, .nils, .bool false]⟩),
 (60, ⟨.slc 5, 1, 24, [.nils]⟩),
 (61, ⟨.slc 36, 1, 24, [.nils]⟩),
 (65, ⟨.struct [(0, 3), (1, 3), (2, 3)], 3, 24, [.int .i64 0, .int .i64 0, .int .i64 0]⟩),
 (68, ⟨.struct [(0, 27), (9, 61)], 10, 160, [.nils, .nils, .nils, .nils, .int .i64 0, .int .i64 0, .int .i64 0, .int .i64 0, .bool false, .nils]⟩),
 (72, ⟨.int .i64, 1, 8, [.int .i64 0]⟩),
 (91, ⟨.struct [(0, 3), (1, 3)], 2, 16, [.int .i64 0, .int .i64 0]⟩),
 (92, ⟨.mp 96 4, 1, 8, [.nilm]⟩),
 (93, ⟨.slc 96, 1, 24, [.nils]⟩),
 (96, ⟨.struct [(0, 3), (1, 3)], 2, 16, [.int .i64 0, .int .i64 0]⟩),
 (104, ⟨.other, 1, 8, [.nilp]⟩),
 (108, ⟨.mp 3 4, 1, 8, [.nilm]⟩),
 (115, ⟨.mp 3 28, 1, 8, [.nilm]⟩),
 (116, ⟨.mp 3 34, 1, 8, [.nilm]⟩),
 (118, ⟨.struct [(0, 3), (1, 115), (2, 115), (3, 116), (4, 116)], 5, 40, [.int .i64 0, .nilm, .nilm, .nilm, .nilm]⟩),
 (119, ⟨.slc 124, 1, 24, [.nils]⟩),
 (121, ⟨.struct [(0, 3), (1, 119)], 2, 32, [.int .i64 0, .nils]⟩),
 (124, ⟨.struct [(0, 3), (1, 28), (2, 28), (3, 34), (4, 34)], 5, 104, [.int .i64 0, .nils, .nils, .nils, .nils]⟩),
 (131, ⟨.mp 3 3, 1, 8, [.nilm]⟩),
 (145, ⟨.slc 147, 1, 24, [.nils]⟩),
 (147, ⟨.struct [(0, 3), (1, 3)], 2, 16, [.int .i64 0, .int .i64 0]⟩),
 (152, ⟨.struct [(0, 9), (1, 3), (2, 3)], 3, 32, [.str .empty, .int .i64 0, .int .i64 0]⟩),
 (154, ⟨.struct [(0, 96), (2, 96)], 4, 32, [.int .i64 0, .int .i64 0, .int .i64 0, .int .i64 0]⟩),
 (157, ⟨.struct [(0, 9), (1, 96), (3, 4)], 4, 40, [.str .empty, .int .i64 0, .int .i64 0, .bool false]⟩),
 (160, ⟨.slc 34, 1, 24, [.nils]⟩),
 (163, ⟨.struct [(0, 9), (1, 28)], 2, 40, [.str .empty, .nils]⟩),
 (164, ⟨.slc 9, 1, 24, [.nils]⟩),
 (169, ⟨.mp 96 96, 1, 8, [.nilm]⟩),
 (170, ⟨.mp 96 3, 1, 8, [.nilm]⟩),
 (171, ⟨.mp 3 174, 1, 8, [.nilm]⟩),
 (173, ⟨.struct [(0, 27), (9, 169), (10, 170), (11, 171), (12, 131)], 13, 168, [.nils, .nils, .nils, .nils, .int .i64 0, .int .i64 0, .int .i64 0, .int .i64 0, .bool false, .nilm, .nilm, .nilm, .nilm]⟩),
 (174, ⟨.arr 2 3, 2, 16, [.int .i64 0, .int .i64 0]⟩),
 (180, ⟨.int .u64, 1, 8, [.int .u64 0]⟩),
 (193, ⟨.other, 1, 8, [.nilp]⟩),
 (195, ⟨.struct [(0, 27), (9, 36), (18, 93)], 19, 312, [.nils, .nils, .nils, .nils, .int .i64 0, .int .i64 0, .int .i64 0, .int .i64 0, .bool false, .int .i64 0, .int .i64 0, .int .i64 0, .nils, .nils, .nils, .nils, .nils, .bool false, .nils]⟩),
 (201, ⟨.arr 4 3, 4, 32, [.int .i64 0, .int .i64 0, .int .i64 0, .int .i64 0]⟩),
 (202, ⟨.arr 3 3, 3, 24, [.int .i64 0, .int .i64 0, .int .i64 0]⟩),
 (222, ⟨.int .i64, 1, 8, [.int .i64 0]⟩),
 (229, ⟨.int .u32, 1, 4, [.int .u32 0]⟩),
 (231, ⟨.int .u64, 1, 8, [.int .u64 0]⟩),
 (233, ⟨.other, 1, 8, [.nilp]⟩),
 (234, ⟨.slc 145, 1, 24, [.nils]⟩),
 (236, ⟨.struct [(0, 3), (1, 33), (2, 28), (3, 234)], 4, 80, [.int .i64 0, .nils, .nils, .nils]⟩),
 (243, ⟨.mp 9 4, 1, 8, [.nilm]⟩),
 (245, ⟨.int .u64, 1, 8, [.int .u64 0]⟩),
 (249, ⟨.other, 1, 8, [.nilp]⟩)]
def XC : List (Nat × List Sh) := [(65, [.int .i64, .int .i64, .int .i64]), (91, [.int .i64, .int .i64]), (96, [.int .i64, .int .i64])]
def T1 : List (Nat × List Sh) := [(96, [.int .i64, .int .i64])]
def T2 : List Nat := [31, 48]
def AB : A9 := ⟨fun t => Ba t ZE, fun t => Ba t XC, fun t => Ba t T1, MO T2, none, false⟩
def AB2 (b : Nat) (l : List Nat) : A9 := ⟨fun t => Ba t ZE, fun t => Ba t XC, fun t => Ba t T1, MO T2, some fun id => Nat.ble b id || MO l id, false⟩
def ABX (b : Nat) (l : List Nat) : A9 := ⟨fun t => Ba t ZE, fun t => Ba t XC, fun t => Ba t T1, MO T2, some fun id => Nat.ble b id || MO l id, true⟩
def AB3 : A9 := ⟨fun t => Ba t ZE, fun t => Ba t XC, fun t => Ba t T1, MO T2, none, true⟩
theorem AAY : ∃ e, Tryz.prog.underlying 31 = some (.pointer e) := ⟨173, by kernel_rfl⟩
theorem AAZ : ∃ e, Tryz.prog.underlying 48 = some (.pointer e) := ⟨118, by kernel_rfl⟩
theorem Qv : OU Tryz.prog AB.tt := YI (by kernel_rfl)
theorem ABY : Pw Tryz.prog 65 [.int .i64, .int .i64, .int .i64] := OQ (by kernel_rfl) (by kernel_rfl) (by kernel_rfl) (by kernel_rfl)
theorem ABZ : Pw Tryz.prog 91 [.int .i64, .int .i64] := OQ (by kernel_rfl) (by kernel_rfl) (by kernel_rfl) (by kernel_rfl)
theorem ZF : Pw Tryz.prog 96 [.int .i64, .int .i64] := OQ (by kernel_rfl) (by kernel_rfl) (by kernel_rfl) (by kernel_rfl)
theorem AAa : QZ Tryz.prog 96 [.int .i64, .int .i64] := Vx (by kernel_rfl) ZF (by kernel_rfl)
theorem AA : BB Tryz.prog AB := by
 refine ⟨Qv, fun t ks h => ?_, fun t ks h => ?_, fun t h => ?_⟩
 .simp only [AB, Bb, XC, AF] at h
  split at h
  .subst_vars; cases h; exact ABY
  split at h
  .subst_vars; cases h; exact ABZ
  split at h
  .subst_vars; cases h; exact ZF
  cases h
 .simp only [AB, Bb, T1, AF] at h
  split at h
  .subst_vars; cases h; exact AAa
  cases h
 simp only [AB, T2, VH, List.mem_cons, List.not_mem_nil, or_false] at h
 rcases h with rfl | rfl
 .exact AAY
 exact AAZ
theorem Gd (b : Nat) (l : List Nat) : BB Tryz.prog (AB2 b l) := ⟨AA.tt, AA.eqk, AA.keyk, AA.ptr⟩
theorem T3 (b : Nat) (l : List Nat) : BB Tryz.prog (ABX b l) := ⟨AA.tt, AA.eqk, AA.keyk, AA.ptr⟩
theorem Zu : BB Tryz.prog AB3 := ⟨AA.tt, AA.eqk, AA.keyk, AA.ptr⟩
theorem mixed : Tryz.prog.follows .mixedOrders = true := by kernel_rfl
end Go.E
