/- Drawn regions: whatever order is drawn, the operations give what they give in one order that a check accepts (Gj). -/
import Derived.Scope
import Derived.Test.YtilbadmonidmhaaProg
import Derived.Test.YtilbadmonidmhaaJ1
set_option linter.unusedVariables false
set_option linter.unusedSimpArgs false
namespace Go.E
open Go Go.RowKit
structure RF (A : BB) (F : Nat -> Prop) (st : St) (a : Act) (w : World) : Prop where
 ex : ∃ μ, HRel A μ st.heap F w /\ ∀ t, t < st.nt -> AW (Aa A μ st.heap) μ w (a.tmps.getD t undef) (Be st.slots t)
 nt : a.tmps.size = st.nt
 defers : a.defers = []
theorem R.toRF {A : BB} {st : St} {a : Act} {w : World} (h : R A st a w) : RF A (Fr st.ctr) st a w := ⟨h.ex, h.nt, h.defers⟩
theorem RF.put' {A : BB} {F F' : Nat -> Prop} {st : St} {a : Act} {w w' : World} {h' : AM} {ctr' : Nat} {μ' : Nat -> Option BV} (hR : RF A F st a w)
  (hs : ∀ t, t < st.nt -> AW (Aa A μ' h') μ' w' (a.tmps.getD t undef) (Be st.slots t))
  (hh : HRel A μ' h' F' w') {dst : Option Tmp} {v : Value} {l : LV} (hv : AW (Aa A μ' h') μ' w' v l) :
  RF A F' (({ st with heap := h', ctr := ctr' } : St).put dst l) (a.put dst v) w' := by
 cases dst with
 | none => exact ⟨⟨μ', hh, hs⟩, hR.nt, hR.defers⟩
 | some d =>
  refine ⟨⟨μ', hh, fun t ht => ?_⟩, by simpa [Act.put, St.put] using hR.nt, hR.defers⟩
  have hn : t < a.tmps.size := by rw [hR.nt]; exact ht
  simp only [Act.put, St.put, Be, AF]
  by_cases e : t = d
  .subst e
   simp only [if_true]
   rw [Array.getD_eq_getD_getElem?, Array.getElem?_setIfInBounds_self_of_lt hn]
   exact hv
  simp only [e, if_false]
  rw [Array.getD_eq_getD_getElem?, Array.getElem?_setIfInBounds_ne (by omega), <- Array.getD_eq_getD_getElem?]
  exact hs t ht
section
variable {P : Program} {A : BB} {AB : Ay} {F : Nat -> Prop} {st : St} {a : Act} {w : World}
theorem WT {μ : Nat -> Option BV} {h : AM} {F : Nat -> Prop} {w w' : World} {v : Value} {ctr e sz : Nat} {elems : List (List DV)} (hh : HRel A μ h F w) (hc : F ctr) (hn : KD w w' (Aa A μ h) v e sz elems) (hb : Below w.heap.size w w') :
  ∃ μ', HRel A μ' ((ctr, .row e sz elems) :: h) (fun id => F id /\ id ≠ ctr) w' /\ AW (Aa A μ' ((ctr, .row e sz elems) :: h)) μ' w' v (.lsl ctr sz 0 elems.length) /\ ∀ v x, AW (Aa A μ h) μ w v x -> AW (Aa A μ' ((ctr, .row e sz elems) :: h)) μ' w' v x := by
 have hno : μ ctr = none := hh.fresh ctr hc
 obtain ⟨hlen, hn⟩ := hn
 have hkm : BR (By μ h) w w' := ⟨hb.size, fun b hb' _ => hb.block b hb'⟩
 have hsub : ∀ id x, AF id ((ctr, A2.row e sz elems) :: h) = some x -> (id = ctr /\ x = .row e sz elems) \/ AF id h = some x := by
  intro id x hx
  simp only [AF] at hx
  split at hx
  .cases hx; exact .inl ⟨‹_›, rfl⟩
  exact .inr hx
 have hold : ∀ id x lc, AF id ((ctr, A2.row e sz elems) :: h) = some x -> id ≠ ctr -> μ id = some lc -> lc.nil = false -> w'.heap[lc.b]? = w.heap[lc.b]? := by
  intro id x lc hx hne hm hnl
  rcases hsub id x hx with ⟨rfl, _⟩ | hx
  .exact absurd rfl hne
  exact hb.block _ (hh.base id x lc hx hm hnl).1
 have fin : ∀ (loc : BV), (loc.nil = false -> loc.b < w'.heap.size /\ w.heap.size <= loc.b) ->
   (∀ O' : Nat -> Prop, (∀ b, O' b -> Aa A μ h b \/ (loc.nil = false /\ b = loc.b)) -> (∀ b, Aa A μ h b -> b < w.heap.size -> O' b \/ True) -> (∀ b, Aa A (Bs μ ctr loc) ((ctr, A2.row e sz elems) :: h) b ↔ O' b) -> DG O' (Bs μ ctr loc) w' loc (.row e sz elems)) ->
   (∀ O', AW O' (Bs μ ctr loc) w' v (.lsl ctr sz 0 elems.length)) ->
   ∃ μ', HRel A μ' ((ctr, .row e sz elems) :: h) (fun id => F id /\ id ≠ ctr) w' /\ AW (Aa A μ' ((ctr, .row e sz elems) :: h)) μ' w' v (.lsl ctr sz 0 elems.length) /\ ∀ v x, AW (Aa A μ h) μ w v x -> AW (Aa A μ' ((ctr, .row e sz elems) :: h)) μ' w' v x := by
  intro loc hloc ho hu
  have hfr : L4 μ h ((ctr, A2.row e sz elems) :: h) w loc := fun hn => .inl (hloc hn).2
  have hown := hh.sub_add loc (.row e sz elems) ((ctr, .row e sz elems) :: h) hfr hsub
  have hcov : ∀ b, Aa A (Bs μ ctr loc) ((ctr, .row e sz elems) :: h) b -> Aa A μ h b \/ (loc.nil = false /\ b = loc.b) := by
   rintro b (hb' | ⟨id, x, lc, h1, h2, h3, h4⟩)
   .exact .inl (.inl hb')
   by_cases e' : id = ctr
   .subst e'
    simp only [Bs, if_true, Option.some.injEq] at h2
    subst h2; exact .inr ⟨h3, h4.symm⟩
   rcases hsub id x h1 with ⟨e'', _⟩ | h1
   .exact absurd e'' e'
   simp only [Bs, e', if_false] at h2
   exact .inl (.inr ⟨id, x, lc, h1, h2, h3, h4⟩)
  have hadd := hh.add (w' := w') hno loc (.row e sz elems) ((ctr, .row e sz elems) :: h) (fun hn => (hloc hn).1) hfr hsub hkm hold hb.os hb.tape hb.output (ho _ hcov (fun _ _ _ => .inr trivial) (fun _ => Iff.rfl))
  exact ⟨_, hadd, hu _, fun v x hv => hv.mono hkm.own hown (I7 hno loc)⟩
 rcases hn with ⟨rfl, rfl⟩ | ⟨a, b, o, cap, c, rfl, h1, h2, h3, h4, h5, h6, h7, h8, h9, h10⟩
 .exact fin ⟨true, 0, 0, sz, 0⟩ (fun hn => by cases hn) (fun O' _ _ _ => ⟨rfl, hlen, .inl ⟨rfl, rfl⟩⟩) (fun O' => .lsln ctr ⟨true, 0, 0, sz, 0⟩ (by simp [Bs]) rfl)
 refine fin ⟨false, b, o, sz, cap⟩ (fun _ => ⟨h2, h1⟩) (fun O' hO' _ _ => ⟨rfl, hlen, .inr ⟨rfl, c, h6, h7, h8, h9, fun i j x d u hx hd hu => ?_⟩⟩) (fun O' => ?_)
 .refine (h10 i j x d u hx hd hu).mono (BR.refl _ _) fun q _ hq => ?_
  rcases hO' q hq with hq | ⟨_, hq⟩
  .exact .inl hq
  exact .inr hq
 exact .lsl ctr 0 elems.length cap a ⟨false, b, o, sz, cap⟩ (by simp [Bs]) rfl (by simp) h8 (fun hc => by rw [h3 hc]; simp) h4 h5
theorem Qo (hE : A4 P AB) {o : Oper} {l : LV} {e : Do} (hR : RF A F st a w) (hc : F st.ctr) (hF : ∃ c0, ∀ q, c0 <= q -> F q) (h : CE P AB st o.op l e) {next : Act -> World -> Prop} {Q : Exit -> Act -> World -> Prop}
  (hK : ∀ a' w', RF A (fun id => F id /\ id ≠ st.ctr) (apS st st.ctr o l e) a' w' -> next a' w') : o.wp P a w next Q := by
 obtain ⟨⟨μ, hh, hs0⟩, hnt, hdef⟩ := id hR
 have hs := fun x => GJ hs0 x
 have less : ∀ {μ h w} (c' : Nat), HRel A μ h (fun id => F id /\ (st.ctr < c' -> id ≠ st.ctr)) w -> HRel A μ h (fun id => F id /\ id ≠ st.ctr) w := fun _ h => h.less fun _ h => ⟨h.1, fun _ => h.2⟩
 have nCase : e = .keep -> nW AB st o.op (· = l) -> o.wp P a w next Q := by
  rintro rfl h
  obtain ⟨u, v, rfl, hv, hg⟩ := Ik hE hs h
  unfold Oper.wp
  rw [hg o rfl w]
  exact hK _ _ (hR.put' (ctr' := st.ctr) hs0 (hh.less fun _ h => h.1) hv)
 have mCase : mW AB st o.op (fun r h _ => r = l /\ h = e.ap st.ctr st.heap) -> o.wp P a w next Q := by
  intro h
  obtain ⟨l', h', c', u, w', μ', ⟨rfl, rfl⟩, ⟨_, hh'⟩, hl, hmono, hrun⟩ := Od (a := a) (F := F) hE hs ⟨hh, hc⟩ h
  have := hK _ _ (hR.put' (ctr' := st.ctr) (fun t ht => hmono _ _ (hs0 t ht)) (less c' hh') hl)
  unfold Oper.wp
  rcases hrun o rfl with hr | ⟨hr, rfl⟩ <;> rw [hr] <;> exact this
 obtain ⟨dst, op, type, pos, after, guard⟩ := o
 simp only at h nCase mCase
 cases op <;> simp only [CE] at h <;> (try exact nCase h.1 h.2)
 case load t x =>
  obtain ⟨rfl, _, ti, h1, h2⟩ := h
  refine mCase ?_
  simp only [mW, Do.ap]
  exact ⟨ti, h1, by
   unfold F5 at *
   split at h2
   .obtain ⟨r, g1, g2⟩ := h2; exact ⟨r, g1, g2, trivial⟩
   .obtain ⟨c, r, g1, g2, g3⟩ := h2; exact ⟨c, r, g1, g2, g3, trivial⟩
   .obtain ⟨c1, c2, c3, c4, r, g1, g2, g3, g4⟩ := h2; exact ⟨c1, c2, c3, c4, r, g1, g2, g3, g4, trivial⟩
   exact h2⟩
 case lookup t x i ok =>
  obtain ⟨rfl, ti, kt, et, te, m, kd, h1, h2, h3, h4, h5, h6, h7, h8⟩ := h
  refine mCase ?_
  simp only [mW, Do.ap]
  exact ⟨ti, kt, et, te, m, kd, h1, h2, h3, h4, h5, h6, h7, h8, trivial⟩
 case store => obtain ⟨_, h', rfl, h⟩ := h; exact mCase h
 case mapUpdate => obtain ⟨h', rfl, h⟩ := h; exact mCase h
 case mapEntry => obtain ⟨h', rfl, h⟩ := h; exact mCase h
 case entryStore => obtain ⟨h', rfl, h⟩ := h; exact mCase h
 case alloc t => obtain ⟨ti, h1, rfl, rfl⟩ := h; exact mCase (by simp only [mW]; exact ⟨ti, h1, trivial, rfl⟩)
 case box t x => obtain ⟨ls, h1, rfl, rfl⟩ := h; exact mCase (by simp only [mW]; exact ⟨ls, h1, trivial, rfl⟩)
 case buildSlice t n ps =>
  obtain ⟨ti, e', te, l', h1, h2, h3, h4, h5, h6, h7, ⟨rfl, rfl⟩ | ⟨rfl, rfl⟩⟩ := h
  .exact mCase (by simp only [mW]; exact ⟨ti, e', te, l', h1, h2, h3, h4, h5, h6, h7, .inl ⟨rfl, rfl⟩⟩)
  exact mCase (by simp only [mW]; exact ⟨ti, e', te, l', h1, h2, h3, h4, h5, h6, h7, .inr ⟨rfl, rfl⟩⟩)
 case makeSlice t x y =>
  obtain ⟨ti, e', te, n, k1, k2, h1, h2, h3, h4, h5, h6, h7, h8, ⟨rfl, rfl⟩ | ⟨rfl, rfl⟩⟩ := h
  .exact mCase (by simp only [mW]; exact ⟨ti, e', te, n, k1, k2, h1, h2, h3, h4, h5, h6, h7, h8, .inl ⟨rfl, rfl⟩⟩)
  exact mCase (by simp only [mW]; exact ⟨ti, e', te, n, k1, k2, h1, h2, h3, h4, h5, h6, h7, h8, .inr ⟨rfl, rfl⟩⟩)
 case makeMap t r => obtain ⟨rfl, rfl, rfl⟩ := h; exact mCase (by simp only [mW]; exact ⟨trivial, trivial, rfl⟩)
 case call c =>
  obtain ⟨callee, args, ats⟩ := c
  cases callee with
  | value f =>
   simp only at h
   split at h
   .obtain ⟨h', rfl, f', k, caps, g1, g2, g3, _, _⟩ := h
    simp only [Callee.value.injEq] at g1
    subst g1
    have hfv := hs f
    rw [g2] at hfv
    generalize hv : a.eval f = v at hfv
    cases hfv with
    | fn _ cs _ hsz hr =>
     have hx : (execOp a.eval ⟨dst, .call ⟨.value f, args, ats⟩, type, pos, after, guard⟩).run P w = .ok (.enter k (args.map a.eval ++ cs)) w := by
      simp [execOp, resolve, Deferred.ofValue, hv, invoke]
      exact g3.1 _ _
     unfold Oper.wp
     rw [hx, Oper.upon_enter]
     refine (g3.2 A F μ w _ hh hc hF (by simp [hsz]) fun i v x hvi hx => ?_).mono fun en w' ⟨u, μ', he, hh', hl, hmono⟩ => ?_
     .rw [List.getElem?_append] at hx
      rw [Array.getElem?_append] at hvi
      by_cases hi' : i < args.size
      .rw [if_pos (by simpa using hi')] at hvi hx
       exact Hv hs args.toList i v _ (by simpa using hvi) hx
      rw [if_neg (by simpa using hi')] at hvi hx
      exact hr _ v _ (by simpa using hvi) (by simpa using hx)
     subst he
     exact hK _ _ (hR.put' (ctr' := st.ctr) (fun t ht => hmono _ _ (hs0 t ht)) hh' hl)
   rcases h with ⟨rfl, k, caps, ds, r, h1, h2, h3, h4, rfl⟩ | ⟨_, k, caps, ds, tt, sz, elems, h1, h2, h3, h4, rfl, rfl⟩
   .have hfv := hs f
    rw [h1] at hfv
    generalize hv : a.eval f = v at hfv
    cases hfv with
    | fn _ cs _ hsz hr =>
     have hx : (execOp a.eval ⟨dst, .call ⟨.value f, args, ats⟩, type, pos, after, guard⟩).run P w = .ok (.enter k (args.map a.eval ++ cs)) w := by
      simp [execOp, resolve, Deferred.ofValue, hv, invoke]
      exact h3.enters _ _
     unfold Oper.wp
     rw [hx, Oper.upon_enter]
     obtain ⟨g1, g2⟩ := ES hh (l := (args.toList.map st.eval ++ caps).flatMap (DZ st.heap)) h2 (fun id hid => hid)
     have hO : ∀ b, Aa A μ (B3 ((args.toList.map st.eval ++ caps).flatMap (DZ st.heap)) st.heap) b -> b < w.heap.size := by
      rintro b (hb | ⟨id, x, lc, h1, h2, h3, rfl⟩)
      .exact Nat.lt_of_lt_of_le (A.hO b hb).1 hh.size
      exact (hh.base id x lc (GH h1).2 h2 h3).1
     refine (h3.run _ w _ hO (by rw [<- g1]; simp [hsz]) fun i v d hvi hdi => ?_).mono fun e w' ⟨v, r', he, hp, hq, hb⟩ => ?_
     .have hi := (List.getElem?_eq_some_iff.1 hdi).1
      have hx : (args.toList.map st.eval ++ caps)[i]? = some ((args.toList.map st.eval ++ caps)[i]'(by omega)) := List.getElem?_eq_getElem _
      refine g2 i v _ d hx hdi ?_
      rw [List.getElem?_append] at hx
      rw [Array.getElem?_append] at hvi
      by_cases hi' : i < args.size
      .rw [if_pos (by simpa using hi')] at hvi hx
       exact Hv hs args.toList i v _ (by simpa using hvi) hx
      rw [if_neg (by simpa using hi')] at hvi hx
      exact hr _ v _ (by simpa using hvi) (by simpa using hx)
     subst he hq
     obtain ⟨hh', hown⟩ := hh.keep (w' := w') (h' := st.heap) (μ' := μ) (fun _ _ h => h) hh.fresh (fun _ _ h => h) hb.block hb.size hb.os hb.tape hb.output
     have hp' : Au (Aa A μ st.heap) w' v r' := by
      rcases h4 with h4 | h4
      .exact hp.scalar h4 _ _
      rw [h4] at hp; exact hp
     exact hK _ _ (hR.put' (ctr' := st.ctr) (fun t ht => (hs0 t ht).mono ⟨hb.size, fun b hb' _ => hb.block b hb'⟩ (fun b _ hb => hb) (fun _ _ h => h)) (hh'.less fun _ h => h.1) (.p _ _ hp'))
   have hfv := hs f
   rw [h1] at hfv
   generalize hv : a.eval f = v at hfv
   cases hfv with
   | fn _ cs _ hsz hr =>
    have hx : (execOp a.eval ⟨dst, .call ⟨.value f, args, ats⟩, type, pos, after, guard⟩).run P w = .ok (.enter k (args.map a.eval ++ cs)) w := by
     simp [execOp, resolve, Deferred.ofValue, hv, invoke]
     exact h3.enters _ _
    unfold Oper.wp
    rw [hx, Oper.upon_enter]
    obtain ⟨g1, g2⟩ := ES hh (l := (args.toList.map st.eval ++ caps).flatMap (DZ st.heap)) h2 (fun id hid => hid)
    have hO : ∀ b, Aa A μ (B3 ((args.toList.map st.eval ++ caps).flatMap (DZ st.heap)) st.heap) b -> b < w.heap.size := by
     rintro b (hb | ⟨id, x, lc, h1, h2, h3, rfl⟩)
     .exact Nat.lt_of_lt_of_le (A.hO b hb).1 hh.size
     exact (hh.base id x lc (GH h1).2 h2 h3).1
    refine (h3.run _ w _ hO (by rw [<- g1]; simp [hsz]) fun i v d hvi hdi => ?_).mono fun e w' ⟨v, he, hn', hb⟩ => ?_
    .have hi := (List.getElem?_eq_some_iff.1 hdi).1
     have hx : (args.toList.map st.eval ++ caps)[i]? = some ((args.toList.map st.eval ++ caps)[i]'(by omega)) := List.getElem?_eq_getElem _
     refine g2 i v _ d hx hdi ?_
     rw [List.getElem?_append] at hx
     rw [Array.getElem?_append] at hvi
     by_cases hi' : i < args.size
     .rw [if_pos (by simpa using hi')] at hvi hx
      exact Hv hs args.toList i v _ (by simpa using hvi) hx
     rw [if_neg (by simpa using hi')] at hvi hx
     exact hr _ v _ (by simpa using hvi) (by simpa using hx)
    subst he
    have hn2 : KD w w' (Aa A μ st.heap) v tt sz elems := by
     rcases h4 with h4 | h4
     .rw [h4] at hn'; exact hn'
     exact hn'.flat h4 _
    obtain ⟨μ', k1, k2, k3⟩ := WT hh hc hn2 hb
    exact hK _ _ (hR.put' (ctr' := st.ctr) (fun t ht => k3 _ _ (hs0 t ht)) k1 k2)
  | builtin b =>
   cases b with
   | append => obtain ⟨-, h', rfl, h⟩ := h; exact mCase h
   | _ => exact nCase h.1 h.2
  | invoke r m => exact nCase h.1 h.2
theorem Og (hE : A4 P AB) {ops : Array Oper} {i : Nat} {o : Oper} (ho : ops[i]? = some o) {l : LV} {e : Do} (hR : RF A F st a w) (hc : F st.ctr) (hF : ∃ c0, ∀ q, c0 <= q -> F q) (h : Cs P AB ops st o l e) {next : Act -> World -> Prop} {Q : Exit -> Act -> World -> Prop}
  (hK : ∀ a' w', RF A (fun id => F id /\ id ≠ st.ctr) (apS st st.ctr o l e) a' w' -> next a' w') : wpOp P ops Q i next a w := by
 obtain ⟨⟨μ, hh, hs0⟩, hnt, hdef⟩ := id hR
 have hs := fun x => GJ hs0 x
 unfold wpOp
 rw [ho]
 simp only
 unfold Cs at h
 have skip : l = .und /\ e = .keep -> next (a.put o.dst undef) w := by
  rintro ⟨rfl, rfl⟩
  exact hK _ _ (hR.put' (ctr' := st.ctr) hs0 (hh.less fun _ h => h.1) .und)
 split at h
 .rename_i hg
  rw [if_pos (by simp [Region.wanted, hg])]
  exact .inl (Qo hE hR hc hF h hK)
 rename_i j want hg
 obtain ⟨g1, g2⟩ := M8 (ops := ops) (j := j) hs
 split at h
 .rename_i b hb
  have hy := g1 b hb
  split at h
  .rename_i e
   rw [if_pos (by simp [Region.wanted, hg, hy, e])]
   exact .inl (Qo hE hR hc hF h hK)
  rename_i e
  rw [if_neg (by simp [Region.wanted, hg, hy, e])]
  exact skip h
 .rename_i hb
  have hy := g2 hb
  rw [if_neg (by simp [Region.wanted, hg, hy])]
  exact skip h
 exact h.elim
end
section
variable {P : Program} {AB : Ay} {md : Region.Mode} {ops : Array Oper} {base : Nat} {Q : St -> Prop}
def Hi (P : Program) (AB : Ay) (md : Region.Mode) (ops : Array Oper) (base : Nat) (Q : St -> Prop) : Nat -> Array Bool -> St -> Prop
 | 0, listed, st => Region.ready md ops listed = [] /\ ∃ st', Fe st st' /\ Q st'
 | fuel + 1, listed, st => (Region.ready md ops listed = [] -> ∃ st', Fe st st' /\ Q st') /\
  ∀ i ∈ Region.ready md ops listed, ∃ o l e, ops[i]? = some o /\ Cs P AB ops (st.at (base + i)) o l e /\ Hi P AB md ops base Q fuel (listed.setIfInBounds i true) (apS st (base + i) o l e)
theorem Fe.trans {a b c : St} (h : Fe a b) (h' : Fe b c) : Fe a c := ⟨h.nt.trans h'.nt, fun t => (h.slots t).trans (h'.slots t), fun i => (h.heap i).trans (h'.heap i)⟩
theorem Fe.symm {a b : St} (h : Fe a b) : Fe b a := ⟨h.nt.symm, fun t => (h.slots t).symm, fun i => (h.heap i).symm⟩
theorem WU {st : St} {dst : Option Tmp} {l : LV} {t : Nat} : Be (st.put dst l).slots t = if dst = some t then l else Be st.slots t := by
 cases dst with
 | none => simp [St.put]
 | some d =>
  simp only [St.put, Be, AF, Option.some.injEq]
  by_cases e : t = d
  .subst e; simp
  rw [if_neg e, if_neg (fun h => e h.symm)]
theorem Ff {st : St} {c : Nat} {o : Oper} {l : LV} {e : Do} : (apS st c o l e).nt = st.nt := by
 unfold apS St.put; split <;> rfl
theorem Bh {st : St} {c : Nat} {o : Oper} {l : LV} {e : Do} : (apS st c o l e).heap = e.ap c st.heap := by
 unfold apS St.put; split <;> rfl
theorem Co {st : St} {c : Nat} {o : Oper} {l : LV} {e : Do} {t : Nat} : Be (apS st c o l e).slots t = if o.dst = some t then l else Be st.slots t := by
 unfold apS; rw [WU]
theorem Fe.at {st st' : St} (h : Fe st st') (c : Nat) : Fe (st.at c) (st'.at c) := ⟨h.nt, h.slots, h.heap⟩
theorem Fe.apS {st st' : St} (h : Fe st st') {c : Nat} {o : Oper} {l : LV} {e e' : Do} (he : ∀ id, AF id (e.ap c st.heap) = AF id (e'.ap c st'.heap)) : Fe (apS st c o l e) (apS st' c o l e') :=
 ⟨by rw [Ff, Ff]; exact h.nt, fun t => by rw [Co, Co, h.slots], fun id => by rw [Bh, Bh]; exact he id⟩
theorem MB : ∀ (fuel : Nat) (listed : Array Bool) (st st' : St), Fe st st' -> Hi P AB md ops base Q fuel listed st -> Hi P AB md ops base Q fuel listed st'
 | 0, _, _, _, he, ⟨h1, s, h2, h3⟩ => ⟨h1, s, he.symm.trans h2, h3⟩
 | fuel + 1, _, st, st', he, ⟨h1, h2⟩ => ⟨fun hr => by obtain ⟨s, a, b⟩ := h1 hr; exact ⟨s, he.symm.trans a, b⟩, fun i hi => by
   obtain ⟨o, l, e, g1, g2, g3⟩ := h2 i hi
   obtain ⟨e', k1, k2⟩ := Va (he.at (base + i)) rfl g2
   exact ⟨o, l, e', g1, k1, MB fuel _ _ _ (he.apS k2) g3⟩⟩
def NF : YZ -> YZ -> Bool
 | .n, .w => true
 | .w, _ | _, .w => false
 | .a, .r => false
 | _, _ => true
def La : Op -> Bool
 | .call c => match c.callee with
  | .value f => !(Cq f)
  | _ => false
 | _ => false
def QF (a b : Op) : Bool := !(La a) || decide (BS b ≠ .r)
theorem WV {st : St} {o : Oper} {l : LV} {e : Do} (h : Cs P AB ops st o l e) (hc : BS o.op = .n \/ BS o.op = .r) (hw : AB.own = true -> La o.op = false) : e = .keep := by
 have big : CE P AB st o.op l e -> e = .keep := by
  intro h
  generalize o.op = op at *
  cases op <;> simp only [BS, reduceCtorEq, or_self] at hc <;> simp only [CE] at h <;> (try exact h.1)
  case call c =>
   obtain ⟨callee, args, ats⟩ := c
   cases callee with
   | builtin b => cases b <;> simp only [reduceCtorEq, or_self] at hc <;> exact h.1
   | value f =>
    have hnd : ¬ Cq f = true := fun hd => by simp [hd] at hc
    simp only [if_neg hnd] at h
    rcases h with h | ⟨h, _⟩
    .exact h.1
    have := hw h
    simp [La, hnd] at this
   | _ => exact h.1
 unfold Cs at h
 split at h
 .exact big h
 split at h
 .split at h
  .exact big h
  exact h.2
 .exact h.2
 exact h.elim
theorem N3 {st : St} {o : Oper} {l : LV} {e : Do} (h : Cs P AB ops st o l e) (hc : BS o.op ≠ .w) : e = .keep \/ ∃ x, e = .new x := by
 have big : CE P AB st o.op l e -> e = .keep \/ ∃ x, e = .new x := by
  intro h
  generalize o.op = op at *
  cases op <;> simp only [CE] at h <;> (try exact .inl h.1)
  case store => exact absurd rfl hc
  case mapUpdate => exact absurd rfl hc
  case mapEntry => exact absurd rfl hc
  case entryStore => exact absurd rfl hc
  case alloc => obtain ⟨_, _, _, h⟩ := h; exact .inr ⟨_, h⟩
  case box => obtain ⟨_, _, _, h⟩ := h; exact .inr ⟨_, h⟩
  case buildSlice => obtain ⟨_, _, _, _, _, _, _, _, _, _, _, ⟨_, h⟩ | ⟨_, h⟩⟩ := h; exact .inr ⟨_, h⟩; exact .inl h
  case makeSlice => obtain ⟨_, _, _, _, _, _, _, _, _, _, _, _, _, _, ⟨_, h⟩ | ⟨_, h⟩⟩ := h; exact .inr ⟨_, h⟩; exact .inl h
  case makeMap => exact .inr ⟨_, h.2.2⟩
  case call c =>
   obtain ⟨callee, args, ats⟩ := c
   cases callee with
   | builtin b =>
    cases b with
    | append => exact absurd rfl hc
    | _ => exact .inl h.1
   | value f =>
    have hnd : ¬ Cq f = true := fun hd => hc (by simp [BS, hd])
    simp only [if_neg hnd] at h
    rcases h with h | ⟨_, _, _, _, _, _, _, _, _, _, _, _, h⟩
    .exact .inl h.1
    exact .inr ⟨_, h⟩
   | _ => exact .inl h.1
 unfold Cs at h
 split at h
 .exact big h
 split at h
 .split at h
  .exact big h
  exact .inl h.2
 .exact .inl h.2
 exact h.elim
theorem Kk {st : St} {o : Oper} {l : LV} {e : Do} (h : Cs P AB ops st o l e) {k : Nat} (hk : k ≠ st.ctr) (hn : AF k st.heap = none) : AF k (e.ap st.ctr st.heap) = none := by
 by_cases hw : BS o.op = .w
 .have big : CE P AB st o.op l e -> AF k (e.ap st.ctr st.heap) = none := by
   intro h
   have : ∃ h1, e = .set h1 /\ wW P AB st o.op l h1 := by
    generalize hq : o.op = op at *
    cases op <;> simp only [BS, reduceCtorEq] at hw <;> simp only [CE] at h ⊢
    case store => exact h.2
    case mapUpdate => exact h
    case mapEntry => exact h
    case entryStore => exact h
    case call c =>
     obtain ⟨callee, args, ats⟩ := c
     cases callee with
     | builtin b =>
      cases b <;> simp only [reduceCtorEq] at hw
      exact h.2
     | value f =>
      have hd : Cq f = true := by simp only at hw; split at hw <;> first | assumption | cases hw
      simp only [hd, if_true] at h
      exact h
     | _ => simp only [reduceCtorEq] at hw
   obtain ⟨h1, rfl, g⟩ := this
   obtain ⟨_, _, _, g⟩ := UW (st' := st) hw (fun _ _ => rfl) rfl (fun _ => rfl) g
   exact g k hk hn
  unfold Cs at h
  split at h
  .exact big h
  split at h
  .split at h
   .exact big h
   rw [h.2]; exact hn
  .rw [h.2]; exact hn
  exact h.elim
 rcases N3 h hw with rfl | ⟨x, rfl⟩
 .exact hn
 simp only [Do.ap, AF, hk, if_false]; exact hn
def QG : Op -> Op -> Bool
 | .load .., .mapUpdate .. | .load .., .mapEntry .. | .load .., .entryStore .. => true
 | _, _ => false
def Oh : Op -> Op -> Bool
 | .load .., .store .. => true
 | .load .., .call c => match c.callee with
  | .builtin .append => true
  | .value f => Cq f
  | _ => false
 | _, _ => false
def NG (q : Bool) (a b : Op) : Bool := QG a b || (q && Oh a b)
def QH (q : Bool) (a b : Op) : Bool := NF (BS a) (BS b) || NG q a b
theorem UX {o : Op} (h : La o = true) : BS o = .r := by
 unfold La at h
 split at h
 .rename_i c
  unfold BS
  split at h
  .rename_i f e
   simp only [Bool.not_eq_true'] at h
   simp only [e, h, Bool.false_eq_true, if_false]
  cases h
 cases h
theorem RV {a b : Op} (h : Oh a b = true) : BS a = .r /\ BS b = .w /\ (∃ t x, a = .load t x) /\ ((∃ t x v, b = .store t x v) \/ ∃ c, b = .call c /\ (c.callee = .builtin .append \/ ∃ f, c.callee = .value f /\ Cq f = true)) := by
 unfold Oh at h
 split at h
 .exact ⟨rfl, rfl, ⟨_, _, rfl⟩, .inl ⟨_, _, _, rfl⟩⟩
 .rename_i c
  split at h
  .rename_i e
   exact ⟨rfl, by simp [BS, e], ⟨_, _, rfl⟩, .inr ⟨_, rfl, .inl e⟩⟩
  .rename_i f e
   exact ⟨rfl, by simp [BS, e, h], ⟨_, _, rfl⟩, .inr ⟨_, rfl, .inr ⟨f, e, h⟩⟩⟩
  cases h
 cases h
theorem SA {a b : Op} (h : QG a b = true) : BS a = .r /\ BS b = .w /\ (∃ t x, a = .load t x) /\ ((∃ t x i v, b = .mapUpdate t x i v) \/ (∃ t x i, b = .mapEntry t x i) \/ ∃ t x i v, b = .entryStore t x i v) := by
 unfold QG at h
 split at h
 .exact ⟨rfl, rfl, ⟨_, _, rfl⟩, .inl ⟨_, _, _, _, rfl⟩⟩
 .exact ⟨rfl, rfl, ⟨_, _, rfl⟩, .inr (.inl ⟨_, _, _, rfl⟩)⟩
 .exact ⟨rfl, rfl, ⟨_, _, rfl⟩, .inr (.inr ⟨_, _, _, _, rfl⟩)⟩
 cases h
theorem G4 {q : Bool} {a b : Op} (h : NG q a b = true) : BS a = .r /\ BS b = .w /\ (∃ t x, a = .load t x) /\
  (((∃ t x i v, b = .mapUpdate t x i v) \/ (∃ t x i, b = .mapEntry t x i) \/ ∃ t x i v, b = .entryStore t x i v) \/ (q = true /\ ((∃ t x v, b = .store t x v) \/ ∃ c, b = .call c /\ (c.callee = .builtin .append \/ ∃ f, c.callee = .value f /\ Cq f = true)))) := by
 simp only [NG, Bool.or_eq_true, Bool.and_eq_true] at h
 rcases h with h | ⟨hq, h⟩
 .obtain ⟨h1, h2, h3, h4⟩ := SA h; exact ⟨h1, h2, h3, .inl h4⟩
 obtain ⟨h1, h2, h3, h4⟩ := RV h; exact ⟨h1, h2, h3, .inr ⟨hq, h4⟩⟩
theorem Xy {st st' : St} {o : Oper} {l : LV} {e : Do} (hld : ∃ t x, o.op = .load t x) (hnt : st.nt = st'.nt) (hs : ∀ t ∈ o.looksAt ops, Be st.slots t = Be st'.slots t)
  (hm : ∀ id x, AF id st.heap = some x -> (∀ m, x ≠ .map m) -> AF id st'.heap = some x) (h : Cs P AB ops st o l e) : Cs P AB ops st' o l e := by
 have hop := Ek hnt hs
 have key : CE P AB st o.op l e -> CE P AB st' o.op l e := by
  obtain ⟨t, x, ho⟩ := hld
  rw [ho] at hop ⊢
  simp only [CE]
  rintro ⟨h1, hc', ti, h2, h3⟩
  have he : st.eval x = st'.eval x := hop x (by simp [Op.operands])
  rw [<- he]
  refine ⟨h1, hc', ti, h2, ?_⟩
  unfold F5 at h3 ⊢
  split at h3
  .rename_i hx; simp only [hx]; exact h3
  .rename_i id off hx
   obtain ⟨cells, r, g1, g2⟩ := h3
   simp only [hx]
   exact ⟨cells, r, hm _ _ g1 (by simp), g2⟩
  .rename_i id i off hx
   obtain ⟨e', sz, elems, y, r, g1, g2⟩ := h3
   simp only [hx]
   exact ⟨e', sz, elems, y, r, hm _ _ g1 (by simp), g2⟩
  exact h3.elim
 unfold Cs at *
 split at h
 .exact key h
 rename_i j want hg
 rw [<- G3 hnt hs hg]
 split at h
 .rename_i hb
  split at h
  .rw [if_pos ‹_›]; exact key h
  rw [if_neg ‹_›]; exact h
 .exact h
 exact h.elim
theorem Ya {st : St} {o : Oper} {l : LV} {e : Do} {c : Nat} (hmu : (∃ t x i v, o.op = .mapUpdate t x i v) \/ (∃ t x i, o.op = .mapEntry t x i) \/ ∃ t x i v, o.op = .entryStore t x i v) (h : Cs P AB ops st o l e) : ∀ id x, AF id st.heap = some x -> (∀ m, x ≠ .map m) -> AF id (e.ap c st.heap) = some x := by
 have key : CE P AB st o.op l e -> ∀ id x, AF id st.heap = some x -> (∀ m, x ≠ .map m) -> AF id (e.ap c st.heap) = some x := by
  have fin : ∀ (id' : Nat) (m m' : List (DV × DV)), AF id' st.heap = some (.map m) -> ∀ id y, AF id st.heap = some y -> (∀ m, y ≠ .map m) -> AF id (Bg id' (.map m') st.heap) = some y := by
   intro id' m m' h4 id y hy hne
   by_cases hii : id = id'
   .subst hii; rw [h4] at hy; cases hy; exact absurd rfl (hne _)
   rw [DJ hii]; exact hy
  rcases hmu with ⟨t, x, i, v, ho⟩ | ⟨t, x, i, ho⟩ | ⟨t, x, i, v, ho⟩
  .rw [ho]
   simp only [CE]
   rintro ⟨h', rfl, hmw⟩ id y hy hne
   obtain ⟨ti, kt, et, id', m, kd, vd, h1, h2, h3, h4, h5, h6, h7, h8, _, rfl⟩ := hmw
   exact fin id' m _ h4 id y hy hne
  .rw [ho]
   simp only [CE]
   rintro ⟨h', rfl, hmw⟩ id y hy hne
   obtain ⟨ti, kt, et, te, id', m, kd, h1, h2, h3, h4, h5, h6, h7, h8, _, rfl⟩ := hmw
   show AF id (match C3 kd m with | some _ => st.heap | none => _) = some y
   split
   .exact hy
   exact fin id' m _ h5 id y hy hne
  rw [ho]
  simp only [CE]
  rintro ⟨h', rfl, hmw⟩ id y hy hne
  obtain ⟨id', m, k1, n, vd, p, h1, h2, h3, h4, h5, h6, _, rfl⟩ := hmw
  exact fin id' m _ h2 id y hy hne
 unfold Cs at h
 split at h
 .exact key h
 split at h
 .split at h
  .exact key h
  obtain ⟨_, rfl⟩ := h; exact fun id x hx _ => hx
 .obtain ⟨_, rfl⟩ := h; exact fun id x hx _ => hx
 exact h.elim
theorem WW {b : Nat -> Bool} (hb0 : AB.calm = some b) {st st' : St} {o : Oper} {l : LV} {e : Do} (hld : ∃ t x, o.op = .load t x) (hnt : st.nt = st'.nt) (hs : ∀ t ∈ o.looksAt ops, Be st.slots t = Be st'.slots t)
  (hm : ∀ id o, (∀ m, o ≠ .map m) -> b id = false -> AF id st.heap = some o -> AF id st'.heap = some o) (h : Cs P AB ops st o l e) : Cs P AB ops st' o l e := by
 have hop := Ek hnt hs
 have key : CE P AB st o.op l e -> CE P AB st' o.op l e := by
  obtain ⟨t, x, ho⟩ := hld
  rw [ho] at hop ⊢
  simp only [CE]
  rintro ⟨h1, hc', ti, h2, h3⟩
  have he : st.eval x = st'.eval x := hop x (by simp [Op.operands])
  rw [<- he]
  refine ⟨h1, hc', ti, h2, ?_⟩
  rw [hb0] at hc'
  unfold F5 at h3 ⊢
  split at h3
  .rename_i hx; simp only [hx]; exact h3
  .rename_i id off hx
   obtain ⟨cells, r, g1, g2⟩ := h3
   simp only [hx]
   simp only [hx, LW] at hc'
   exact ⟨cells, r, hm _ _ (by simp) (by simpa using hc') g1, g2⟩
  .rename_i id i off hx
   obtain ⟨e', sz, elems, y, r, g1, g2⟩ := h3
   simp only [hx]
   simp only [hx, LW] at hc'
   exact ⟨e', sz, elems, y, r, hm _ _ (by simp) (by simpa using hc') g1, g2⟩
  exact h3.elim
 unfold Cs at *
 split at h
 .exact key h
 rename_i j want hg
 rw [<- G3 hnt hs hg]
 split at h
 .rename_i hb
  split at h
  .rw [if_pos ‹_›]; exact key h
  rw [if_neg ‹_›]; exact h
 .exact h
 exact h.elim
theorem Xz {b : Nat -> Bool} (hb0 : AB.calm = some b) {st : St} {o : Oper} {l : LV} {e : Do} (hfr : AF st.ctr st.heap = none) (hmu : (∃ t x v, o.op = .store t x v) \/ ∃ c, o.op = .call c /\ (c.callee = .builtin .append \/ ∃ f, c.callee = .value f /\ Cq f = true)) (h : Cs P AB ops st o l e) :
  ∀ id x, (∀ m, x ≠ .map m) -> b id = false -> AF id st.heap = some x -> AF id (e.ap st.ctr st.heap) = some x := by
 have key : CE P AB st o.op l e -> ∀ id x, (∀ m, x ≠ .map m) -> b id = false -> AF id st.heap = some x -> AF id (e.ap st.ctr st.heap) = some x := by
  intro h id y hnm hid hl
  rcases hmu with ⟨t, x, v, ho⟩ | ⟨c, ho, hcal⟩
  .rw [ho] at h
   simp only [CE] at h
   obtain ⟨hc', h', rfl, ti, h1, hs⟩ := h
   rw [hb0] at hc'
   unfold JQ at hs
   obtain ⟨ls, g1, g2, g3, hs⟩ := hs
   split at hs
   .rename_i id' off hx
    obtain ⟨cells', q1, q2, _, rfl⟩ := hs
    rw [hx] at hc'
    simp only [KE] at hc'
    show AF id (Bg id' _ st.heap) = _
    rw [DJ (fun e2 => by rw [e2, hc'] at hid; cases hid)]; exact hl
   .rename_i hx
    first
    | exact hs.elim
    | (simp only [hx, KE, Bool.false_eq_true] at hc')
   all_goals first
    | exact hs.elim
    | (rename_i hx; simp only [hx, KE, Bool.false_eq_true] at hc')
  obtain ⟨callee, args, ats⟩ := c
  simp only at hcal
  rcases hcal with hcal | ⟨f, hcal, hd⟩
  rotate_left
  .subst hcal
   rw [ho] at h
   simp only [CE, hd, if_true] at h
   obtain ⟨h', rfl, f', k, caps, _, _, _, _, g5⟩ := h
   have hne : id ≠ st.ctr := fun e2 => by rw [e2, hfr] at hl; cases hl
   exact g5 b hb0 id y hnm hne hid hl
  subst hcal
  rw [ho] at h
  simp only [CE, mW] at h
  obtain ⟨hap, h', rfl, _, s, x, t, g1, g2, ti, e', te, q1, q2, q3, q4, new, q5, q6, hs⟩ := h
  have hne : id ≠ st.ctr := fun e2 => by rw [e2, hfr] at hl; cases hl
  show AF id h' = _
  split at hs
  .obtain ⟨_, _, _, rfl⟩ := hs
   simp only [AF, if_neg hne]; exact hl
  .rename_i id' sz off len hx
   obtain ⟨elems, _, hrow, _, _, _, _, rfl⟩ := hs
   have hne2 : id ≠ id' := fun e2 => by
    have := hap s (by rw [g1]; rfl)
    rw [hb0, hx] at this
    simp only [LU] at this
    rw [e2, this] at hid; cases hid
   simp only [AF, if_neg hne]
   rw [DH hne2]; exact hl
  exact hs.elim
 unfold Cs at h
 split at h
 .exact key h
 split at h
 .split at h
  .exact key h
  obtain ⟨_, rfl⟩ := h; exact fun id x _ _ hx => hx
 .obtain ⟨_, rfl⟩ := h; exact fun id x _ _ hx => hx
 exact h.elim
theorem PO (q : Bool) (hq : q = true -> ∃ b, AB.calm = some b) {i : Nat} {oi : Oper} {l : LV} {e : Do} (hi : ops[i]? = some oi) (B : Nat -> Bool)
  (hB : ∀ j, B j = true -> j ≠ i /\ ∀ oj, ops[j]? = some oj -> ∃ x ∈ oj.after, Region.binds md x = true /\ (x.on = i \/ B x.on = true)) :
  ∀ (fuel : Nat) (listed : Array Bool) (st : St), (∀ j, B j = true -> listed.getD j false = false) ->
   (∀ j oj, ops[j]? = some oj -> j ≠ i -> listed.getD j true = false -> B j = false -> oi.apart ops oj = true /\ QH q oi.op oj.op = true /\ (AB.own = true -> QF oi.op oj.op = true)) ->
   (∀ k, listed.getD k true = false -> AF (base + k) st.heap = none) ->
   i ∈ Region.ready md ops listed -> Cs P AB ops (st.at (base + i)) oi l e ->
   Hi P AB md ops base Q fuel (listed.setIfInBounds i true) (apS st (base + i) oi l e) -> Hi P AB md ops base Q (fuel + 1) listed st := by
 intro fuel
 induction fuel with
 | zero =>
  intro listed st _ _ _ hr hy H
  refine ⟨fun h => (by rw [h] at hr; cases hr), fun j hj => ?_⟩
  by_cases hji : j = i
  .subst hji; exact ⟨oi, l, e, hi, hy, H⟩
  have := ready_mono hj hji
  rw [H.1] at this
  cases this
 | succ fuel ih =>
  intro listed st hBl hfree hfresh hr hy H
  refine ⟨fun h => (by rw [h] at hr; cases hr), fun j hj => ?_⟩
  by_cases hji : j = i
  .subst hji; exact ⟨oi, l, e, hi, hy, H⟩
  obtain ⟨oj, lj, ej, hoj, h1, h2⟩ := H.2 j (ready_mono hj hji)
  obtain ⟨hjun, oj', hoj', hall⟩ := mem_ready.1 hj
  rw [hoj] at hoj'; cases hoj'
  have hiun : listed.getD i true = false := (mem_ready.1 hr).1
  have hiF : listed.getD i false = false := by
   rcases Nat.lt_or_ge i listed.size with h' | h'
   .simp [h'] at hiun ⊢; exact hiun
   simp [Array.getElem?_eq_none h']
  have hjB : B j = false := by
   rcases hb : B j with _ | _
   .rfl
   obtain ⟨_, hb2⟩ := hB j hb
   obtain ⟨x, hx, hxb, hxo⟩ := hb2 oj hoj
   have := hall x hx hxb
   rcases hxo with hxo | hxo
   .rw [hxo, hiF] at this; cases this
   rw [hBl _ hxo] at this; cases this
  obtain ⟨hap, hcp, hwp⟩ := hfree j oj hoj hji hjun hjB
  obtain ⟨a1, a2, a3⟩ := Oper.apart_spec hap
  simp only [QH, Bool.or_eq_true] at hcp
  have hwi : BS oi.op ≠ .w := by
   rcases hcp with hcp | hcp
   .intro e; rw [e] at hcp; simp [NF] at hcp
   rw [(G4 hcp).1]; simp
  have hwj : BS oj.op = .w -> BS oi.op = .n \/ NG q oi.op oj.op = true := by
   intro e
   rcases hcp with hcp | hcp
   .rw [e] at hcp; cases hq : BS oi.op <;> rw [hq] at hcp <;> simp [NF] at hcp ⊢
   exact .inr hcp
  have hnr : BS oj.op = .w -> BS oi.op = .n \/ BS oi.op = .r := fun e => (hwj e).imp id fun h => (G4 h).1
  have hcp : BS oj.op ≠ .w -> NF (BS oi.op) (BS oj.op) = true := fun e => hcp.resolve_right fun h => e (G4 h).2.1
  have hkp : BS oi.op = .n \/ BS oi.op = .r -> BS oj.op = .r \/ BS oj.op = .w -> e = .keep := fun hc hj => WV hy hc fun ho => by
   rcases hj with hj | hj
   .have := hwp ho
    simp only [QF, hj, ne_eq, not_true_eq_false, decide_false, Bool.or_false, Bool.not_eq_true'] at this
    exact this
   rcases hwj hj with h | h
   .cases hq : La oi.op with
    | false => rfl
    | true =>
     rw [UX hq] at h
     cases h
   obtain ⟨_, _, ⟨t, x, h⟩, _⟩ := G4 h
   rw [h]; rfl
  have back : ∃ ej', Cs P AB ops (st.at (base + j)) oj lj ej' /\ (∀ id, AF id (ej.ap (base + j) (apS st (base + i) oi l e).heap) = AF id (ej'.ap (base + j) (apS st (base + i) oi l e).heap)) /\ (BS oj.op ≠ .w -> ej' = ej) := by
   have hsl : ∀ t ∈ oj.looksAt ops, Be ((apS st (base + i) oi l e).at (base + j)).slots t = Be (st.at (base + j)).slots t := fun t ht => by
    show Be (apS st (base + i) oi l e).slots t = Be st.slots t
    rw [Co, if_neg]
    intro e'; exact a1 t e' ht
   by_cases hcw : BS oj.op = .w
   .have : e = .keep := hkp (hnr hcw) (.inr hcw)
    subst this
    have heq : Fe ((apS st (base + i) oi l .keep).at (base + j)) { (st.at (base + j)) with slots := (apS st (base + i) oi l .keep).slots } := ⟨by simp [St.at, Ff], fun _ => rfl, fun id => by simp [St.at, Bh, Do.ap]⟩
    obtain ⟨ej', k1, k2⟩ := Va heq rfl h1
    have h3 : ∃ e3, Cs P AB ops (st.at (base + j)) oj lj e3 /\ ∀ id, AF id (ej'.ap (base + j) st.heap) = AF id (e3.ap (base + j) st.heap) :=
     Vb (st := { (st.at (base + j)) with slots := (apS st (base + i) oi l .keep).slots }) (st' := st.at (base + j)) hcw rfl hsl rfl (fun _ => rfl) k1
    obtain ⟨e3, g1, g2⟩ := h3
    refine ⟨e3, g1, fun id => ?_, fun hne => absurd hcw hne⟩
    have e1 : (apS st (base + i) oi l .keep).heap = st.heap := by rw [Bh]; rfl
    have k : AF id (ej.ap (base + j) (apS st (base + i) oi l .keep).heap) = AF id (ej'.ap (base + j) st.heap) := k2 id
    rw [k, e1]; exact g2 id
   refine ⟨ej, ?_, fun _ => rfl, fun _ => rfl⟩
   refine L9 (st := (apS st (base + i) oi l e).at (base + j)) (st' := st.at (base + j)) hcw (by simp [St.at, Ff]) hsl rfl (fun hcr => ?_) h1
   have : e = .keep := by
    refine hkp ?_ (.inl hcr)
    have hcp := hcp hcw
    rw [hcr] at hcp
    cases hq : BS oi.op <;> rw [hq] at hcp <;> simp [NF] at hcp ⊢
   subst this
   intro id o ho
   have ho' : AF id (apS st (base + i) oi l .keep).heap = some o := ho
   rw [Bh] at ho'; exact ho'
  obtain ⟨ej', back, hej, hsame⟩ := back
  have keep : Cs P AB ops ((apS st (base + j) oj lj ej').at (base + i)) oi l e := by
   by_cases hsp : NG q oi.op oj.op = true
   .obtain ⟨_, _, hld, hmu⟩ := G4 hsp
    rcases hmu with hmu | ⟨hqt, hmu⟩
    rotate_left
    .obtain ⟨b, hb0⟩ := hq hqt
     refine WW hb0 (st := st.at (base + i)) (st' := (apS st (base + j) oj lj ej').at (base + i)) hld (by simp [St.at, Ff]) (fun t ht => ?_) (fun id cells hnm hid hx => ?_) hy
     .show Be st.slots t = Be (apS st (base + j) oj lj ej').slots t
      rw [Co, if_neg]
      intro e'; exact a3 t e' ht
     show AF id (apS st (base + j) oj lj ej').heap = some _
     rw [Bh]
     exact Xz hb0 (hfresh j hjun) hmu back id cells hnm hid hx
    refine Xy (st := st.at (base + i)) (st' := (apS st (base + j) oj lj ej').at (base + i)) hld (by simp [St.at, Ff]) (fun t ht => ?_) (fun id x hx hne => ?_) hy
    .show Be st.slots t = Be (apS st (base + j) oj lj ej').slots t
     rw [Co, if_neg]
     intro e'; exact a3 t e' ht
    show AF id (apS st (base + j) oj lj ej').heap = some x
    rw [Bh]
    exact Ya hmu back id x hx hne
   refine L9 (st := st.at (base + i)) (st' := (apS st (base + j) oj lj ej').at (base + i)) hwi (by simp [St.at, Ff]) (fun t ht => ?_) rfl (fun hcr => ?_) hy
   .show Be st.slots t = Be (apS st (base + j) oj lj ej').slots t
    rw [Co, if_neg]
    intro e'; exact a3 t e' ht
   intro id o ho
   show AF id (apS st (base + j) oj lj ej').heap = some o
   rw [Bh]
   have hnw : BS oj.op ≠ .w := fun hc => by rw [(hwj hc).resolve_right hsp] at hcr; cases hcr
   rcases N3 back hnw with rfl | ⟨x, rfl⟩
   .exact ho
   simp only [Do.ap, AF]
   rw [if_neg]
   .exact ho
   intro e'; subst e'
   have := hfresh j hjun
   have ho' : AF (base + j) st.heap = some o := ho
   rw [this] at ho'; cases ho'
  have swap : Fe (apS (apS st (base + i) oi l e) (base + j) oj lj ej) (apS (apS st (base + j) oj lj ej') (base + i) oi l e) := by
   refine ⟨by simp [Ff], fun t => ?_, fun id => ?_⟩
   .rw [Co, Co, Co, Co]
    by_cases c1 : oi.dst = some t
    .have := a2 t c1
     simp [c1, this]
    rw [if_neg c1]; split <;> simp [c1]
   by_cases hcw : BS oj.op = .w
   .have : e = .keep := hkp (hnr hcw) (.inr hcw)
    subst this
    have := hej id
    rw [Bh] at this
    rw [Bh, Bh, Bh, Bh]
    exact this
   have hs2 := hsame hcw
   subst hs2
   rw [Bh, Bh, Bh, Bh]
   rcases N3 back hcw with rfl | ⟨x, rfl⟩ <;> rcases N3 hy hwi with rfl | ⟨y, rfl⟩ <;> simp only [Do.ap, AF]
   by_cases c1 : id = base + j
   .subst c1; simp [hji]
   simp [c1]
  refine ⟨oj, lj, ej', hoj, back, ?_⟩
  refine ih (listed.setIfInBounds j true) _ (fun k hk => ?_) (fun k ok hk hki hun hkB => ?_) (fun k hk => ?_) (ready_mono hr (Ne.symm hji)) keep ?_
  .rw [getD_set_ne false (fun e' => by subst e'; rw [hjB] at hk; cases hk)]; exact hBl k hk
  .refine hfree k ok hk hki ?_ hkB
   by_cases hjk : j = k
   .subst hjk; exact hjun
   rw [getD_set_ne true hjk] at hun; exact hun
  .have hjk : j ≠ k := by
    rintro rfl
    rcases Nat.lt_or_ge j listed.size with h' | h'
    .simp [h'] at hk
    simp [Array.getElem?_eq_none h'] at hk
   rw [Bh]
   have hk' : listed.getD k true = false := by rw [getD_set_ne true hjk] at hk; exact hk
   exact Kk back (by simp only [St.at]; omega) (hfresh k hk')
  rw [Array.setIfInBounds_comm _ _ hji]
  exact MB fuel _ _ _ swap h2
end
end Go.E
/- Drawn regions, the rule (Gj). Condition: the checks GM and mixedOrders, by kernel. -/
namespace Go.E
open Go Go.RowKit
def MC (md : Region.Mode) (ops : Array Oper) (listed : Array Bool) (i : Nat) : List Nat :=
 (List.range ops.size).foldl (fun acc j => if !(j == i) && !(listed.getD j false) && (match ops[j]? with
  | some oj => oj.after.any fun x => Region.binds md x && (x.on == i || acc.contains x.on)
  | none => false) then j :: acc else acc) []
def N4 (q w : Bool) (md : Region.Mode) (ops : Array Oper) (listed : Array Bool) (i : Nat) (oi : Oper) (B : List Nat) : Bool :=
  (B.all fun j => !(j == i) && !(listed.getD j false) && match ops[j]? with
    | some oj => oj.after.any fun x => Region.binds md x && (x.on == i || B.contains x.on)
    | none => false) &&
  ((List.range ops.size).all fun j => j == i || listed.getD j true || B.contains j || match ops[j]? with
    | some oj => oi.apart ops oj && (QH q oi.op oj.op && (!w || QF oi.op oj.op))
    | none => true)
def GM (q w : Bool) (md : Region.Mode) (ops : Array Oper) : List Nat -> Array Bool -> Bool
 | [], listed => (Region.ready md ops listed).isEmpty
 | i :: rest, listed => (match ops[i]? with
  | none => false
  | some oi => (Region.ready md ops listed == [i]) || ((Region.ready md ops listed).contains i && N4 q w md ops listed i oi (MC md ops listed i))) &&
  GM q w md ops rest (listed.setIfInBounds i true)
def F6 (P : Program) (AB : Ay) (ops : Array Oper) (base : Nat) (K : St -> Prop) : List Nat -> St -> Prop
 | [], st => K st
 | i :: rest, st => match ops[i]? with
  | none => False
  | some o => match o.guard with
   | none => ∃ l e, CE P AB (st.at (base + i)) o.op l e /\ F6 P AB ops base K rest (apS st (base + i) o l e)
   | some (j, want) => match DI st ops j with
    | .p (.bool b) => (b = want -> ∃ l e, CE P AB (st.at (base + i)) o.op l e /\ F6 P AB ops base K rest (apS st (base + i) o l e)) /\
      (b = !want -> F6 P AB ops base K rest (apS st (base + i) o .und .keep))
    | .und => F6 P AB ops base K rest (apS st (base + i) o .und .keep)
    | _ => False
section
variable {P : Program} {A : BB} {AB : Ay} {md : Region.Mode} {ops : Array Oper} {base : Nat} {K : St -> Prop}
theorem MD {i : Nat} {rest : List Nat} {st : St} (h : F6 P AB ops base K (i :: rest) st) :
  ∃ o l e, ops[i]? = some o /\ Cs P AB ops (st.at (base + i)) o l e /\ F6 P AB ops base K rest (apS st (base + i) o l e) := by
 simp only [F6] at h
 split at h
 .exact h.elim
 rename_i o ho
 split at h
 .rename_i hg
  obtain ⟨l, e, h1, h2⟩ := h
  exact ⟨o, l, e, ho, by unfold Cs; rw [hg]; exact h1, h2⟩
 rename_i j want hg
 have hgl : DI (st.at (base + i)) ops j = DI st ops j := rfl
 split at h
 .rename_i b hb
  by_cases e : b = want
  .obtain ⟨l, e', h1, h2⟩ := h.1 e
   exact ⟨o, l, e', ho, by unfold Cs; rw [hg]; simp only [hgl, hb]; rw [if_pos e]; exact h1, h2⟩
  exact ⟨o, .und, .keep, ho, by unfold Cs; rw [hg]; simp only [hgl, hb]; rw [if_neg e]; simp, h.2 (by cases b <;> cases want <;> simp_all)⟩
 .rename_i hb
  exact ⟨o, .und, .keep, ho, by unfold Cs; rw [hg]; simp [hgl, hb], h⟩
 exact h.elim
theorem HQ (q : Bool) (hq : q = true -> ∃ b, AB.calm = some b) : ∀ (order : List Nat) (listed : Array Bool) (st : St), GM q AB.own md ops order listed = true -> (∀ k, listed.getD k true = false -> AF (base + k) st.heap = none) ->
  F6 P AB ops base K order st -> Hi P AB md ops base K order.length listed st
 | [], listed, st, hok, _, h => ⟨by simpa [GM] using hok, st, Fe.refl st, h⟩
 | i :: rest, listed, st, hok, hfresh, h => by
  obtain ⟨o, l, e, ho, hd, hrest⟩ := MD h
  simp only [GM, ho, Bool.and_eq_true, Bool.or_eq_true] at hok
  have hrec : Hi P AB md ops base K rest.length (listed.setIfInBounds i true) (apS st (base + i) o l e) := by
   refine HQ q hq rest _ _ hok.2 (fun k hk => ?_) hrest
   have hik : i ≠ k := by
    rintro rfl
    rcases Nat.lt_or_ge i listed.size with h' | h'
    .simp [h'] at hk
    simp [Array.getElem?_eq_none h'] at hk
   rw [Bh]
   exact Kk hd (by simp only [St.at]; omega) (hfresh k (by rw [getD_set_ne true hik] at hk; exact hk))
  rcases hok.1 with h1 | h1
  .have hr : Region.ready md ops listed = [i] := by simpa using h1
   refine ⟨fun h0 => (by rw [hr] at h0; cases h0), fun j hj => ?_⟩
   rw [hr] at hj
   simp at hj
   subst hj
   exact ⟨o, l, e, ho, hd, hrec⟩
  obtain ⟨h1, h2⟩ := h1
  simp only [N4, Bool.and_eq_true, List.all_eq_true, List.mem_range] at h2
  obtain ⟨h2, h3⟩ := h2
  generalize hBe : MC md ops listed i = B at h2 h3
  refine PO q hq ho (fun j => B.contains j) (fun j hj => ?_) rest.length listed st (fun j hj => ?_) (fun j oj hoj hji hun hBj => ?_) hfresh (by simpa using h1) hd hrec
  .have := h2 j (by simpa using hj)
   obtain ⟨⟨a1, a2⟩, a3⟩ := this
   refine ⟨by simpa using a1, fun oj hoj => ?_⟩
   rw [hoj] at a3
   obtain ⟨x, hx, hx2⟩ := Array.any_eq_true'.1 a3
   simp only [Bool.and_eq_true, Bool.or_eq_true, beq_iff_eq] at hx2
   exact ⟨x, hx, hx2.1, hx2.2⟩
  .have := (h2 j (by simpa using hj)).1.2
   simpa using this
  have := h3 j (Array.getElem?_eq_some_iff.1 hoj).1
  simp only [Bool.or_eq_true, beq_iff_eq, hji, false_or, hun, Bool.false_eq_true] at this
  rw [hBj] at this
  simp only [Bool.false_eq_true, false_or, hoj, Bool.and_eq_true] at this
  refine ⟨this.1, this.2.1, fun ho => ?_⟩
  have := this.2.2
  rw [ho] at this; simpa using this
theorem WX {μ : Nat -> Option BV} {h h' : AM} (he : ∀ id, AF id h = AF id h') : By μ h = By μ h' := by
 funext b; simp only [By, he]
theorem RF.eqv {F : Nat -> Prop} {st st' : St} {a : Act} {w : World} (h : RF A F st a w) (he : Fe st st') : RF A F st' a w := by
 obtain ⟨⟨μ, hh, hs⟩, hnt, hdef⟩ := h
 have hm : By μ st.heap = By μ st'.heap := WX he.heap
 have ho : Aa A μ st.heap = Aa A μ st'.heap := by funext b; simp only [Aa, hm]
 refine ⟨⟨μ, ⟨?_, ?_, hh.fresh, ?_, hh.size, hh.block, hh.os, hh.tape, hh.output, hh.ext⟩, fun t ht => ?_⟩, by rw [<- he.nt]; exact hnt, hdef⟩
 .rw [<- ho]; intro id o; rw [<- he.heap]; exact hh.obj id o
 .intro id id' o o' loc loc'; rw [<- he.heap, <- he.heap]; exact hh.inj id id' o o' loc loc'
 .intro id o loc; rw [<- he.heap]; exact hh.base id o loc
 rw [<- ho, <- he.slots]; exact hs t (by rw [he.nt]; exact ht)
def Fl (base n : Nat) (listed : Array Bool) (id : Nat) : Prop := base + n <= id \/ ∃ i, i < n /\ listed.getD i true = false /\ id = base + i
theorem HR (hE : A4 P AB) {n : Nat} (hn : n = ops.size) {Q' : Exit -> Act -> World -> Prop} (hQ : ∀ st a w listed, K st -> RF A (Fl base n listed) st a w -> Q' .normal a w) :
  ∀ (fuel : Nat) (listed : Array Bool) (st : St) (a : Act) (w : World), listed.size = n -> Hi P AB md ops base K fuel listed st -> RF A (Fl base n listed) st a w -> wpAny P md ops Q' fuel listed a w
 | 0, listed, st, a, w, _, ⟨h1, st', he, hk⟩, hR => ⟨h1, hQ st' a w listed hk (hR.eqv he)⟩
 | fuel + 1, listed, st, a, w, hsz, ⟨h1, h2⟩, hR => by
  refine ⟨fun h0 => ?_, fun i hi => ?_⟩
  .obtain ⟨st', he, hk⟩ := h1 h0
   exact hQ st' a w listed hk (hR.eqv he)
  obtain ⟨o, l, e, ho, hd, hrec⟩ := h2 i hi
  have hun := (mem_ready.1 hi).1
  have hlt : i < n := by rw [hn]; exact (Array.getElem?_eq_some_iff.1 ho).1
  refine Og (st := st.at (base + i)) hE ho ⟨hR.ex, hR.nt, hR.defers⟩ (.inr ⟨i, hlt, hun, rfl⟩) ⟨base + n, fun q hq => .inl hq⟩ hd fun a' w' hR' => ?_
  refine HR hE hn hQ fuel _ _ _ _ (by simpa using hsz) hrec ?_
  have hR'' : RF A (fun id => Fl base n listed id /\ id ≠ base + i) (apS st (base + i) o l e) a' w' := by
   obtain ⟨⟨μ, x1, x2⟩, x3, x4⟩ := hR'
   refine ⟨⟨μ, ?_, fun t ht => ?_⟩, ?_, x4⟩
   .rw [Bh] at x1 ⊢; exact x1
   .have := x2 t (by rw [Ff] at ht ⊢; exact ht)
    rw [Bh, Co] at this
    rw [Bh, Co]; exact this
   rw [Ff] at x3 ⊢; exact x3
  obtain ⟨⟨μ, x1, x2⟩, x3, x4⟩ := hR''
  refine ⟨⟨μ, x1.less fun id hid => ?_, x2⟩, x3, x4⟩
  rcases hid with hid | ⟨k, hk1, hk2, rfl⟩
  .exact ⟨.inl hid, by omega⟩
  have hik : i ≠ k := by
   rintro rfl
   simp [show i < listed.size by omega] at hk2
  exact ⟨.inr ⟨k, hk1, by rw [getD_set_ne true hik] at hk2; exact hk2, rfl⟩, by omega⟩
theorem AW.drawn {O : Nat -> Prop} {μ : Nat -> Option BV} {w : World} {v : Value} {l : LV} (n : Nat) (h : AW O μ w v l) : AW O μ { w with drawn := n } v l :=
 AW.mono (w := w) (w' := { w with drawn := n }) ⟨Nat.le_refl _, fun _ _ _ => rfl⟩ (fun _ _ hb => hb) (fun _ _ h => h) h
theorem R.drawn {st : St} {a : Act} {w : World} (n : Nat) (h : R A st a w) : R A st a { w with drawn := n } := by
 obtain ⟨⟨μ, hh, hs⟩, hnt, hdef⟩ := h
 refine ⟨⟨μ, ⟨fun id o ho => ?_, hh.inj, hh.fresh, hh.base, hh.size, hh.block, hh.os, hh.tape, hh.output, hh.ext⟩, fun t ht => (hs t ht).drawn n⟩, hnt, hdef⟩
 obtain ⟨loc, h1, h2⟩ := hh.obj id o ho
 exact ⟨loc, h1, DG.mono (w := w) (w' := { w with drawn := n }) ⟨Nat.le_refl _, fun _ _ _ => rfl⟩ (fun _ _ hb => hb) (fun _ _ h => h) (fun _ => rfl) h2⟩
theorem Gj (q : Bool) (hq : q = true -> ∃ b, AB.calm = some b) (hE : A4 P AB) (hm : P.follows .mixedOrders = true) {id : Nat} {l : List Oper} {order : List Nat} (hok : GM q AB.own .any l.toArray order (Array.replicate l.length false) = true)
  (hlen : order.length = l.length) {st : St} {Q : Exit -> St -> Prop} (h : F6 P AB l.toArray st.ctr (fun st' => Q .normal { st' with ctr := st.ctr + l.length }) order st) :
  B0 P A (.region id l.toArray true) Q st := fun a w hR => by
 refine wp_region_any hm ?_
 have hR' := (hR.drawn (w.drawn + 1)).toRF
 have hfr : ∀ k, AF (st.ctr + k) st.heap = none := by
  intro k
  cases hx : AF (st.ctr + k) st.heap with
  | none => rfl
  | some o =>
   obtain ⟨⟨μ, hh, _⟩, _, _⟩ := hR
   obtain ⟨loc, h1, _⟩ := hh.obj _ _ hx
   rw [hh.fresh _ (by simp [Fr])] at h1; cases h1
 have hD := HQ q hq order (Array.replicate l.length false) st hok (fun k _ => hfr k) h
 have hsz : l.toArray.size = order.length := by simp [hlen]
 rw [hsz]
 have hrep : Array.replicate order.length false = Array.replicate l.length false := by rw [hlen]
 rw [hrep]
 refine HR (A := A) (n := l.length) hE (by simp) (fun st' a' w' listed hk hR'' => ?_) order.length _ st a _ (by simp) hD ?_
 .refine ⟨_, ?_, hk⟩
  obtain ⟨⟨μ, x1, x2⟩, x3, x4⟩ := hR''
  exact ⟨⟨μ, x1.less fun id hid => .inl hid, x2⟩, x3, x4⟩
 obtain ⟨⟨μ, x1, x2⟩, x3, x4⟩ := hR'
 refine ⟨⟨μ, x1.less fun id hid => ?_, x2⟩, x3, x4⟩
 rcases hid with hid | ⟨k, _, _, rfl⟩
 .simp only [Fr]; omega
 simp [Fr]
end
end Go.E
/- Equality and keys of flat structs; operations in a short form, for the walk of a function. No condition. -/
namespace Go.E
open Go Go.RowKit
def FE : Option TypeDesc -> Sh -> Bool
 | some (.int j), .int j' => j == j'
 | some .string, .str => true
 | some .bool, .bool => true
 | _, _ => false
def El (P : Program) : List Field -> Nat -> List Sh -> Bool
 | [], _, [] => true
 | f :: fs, off, k :: ks => f.name != "_" && f.offset == off && FE (P.underlying f.type) k && El P fs (off + 1) ks
 | _, _, _ => false
section
variable {P : Program}
theorem Jk {t : TypeId} {k : Sh} (h : FE (P.underlying t) k = true) {xs : Array Value} {off : Nat} {v : Value} (hx : xs[off]? = some v) (w : World) : (part t xs off).run P w = .ok v w := by
 cases hu : P.underlying t with
 | none => rw [hu] at h; simp [FE] at h
 | some d =>
  rw [hu] at h
  cases d <;> simp [FE] at h <;> simp [part, isAgg, run_underlying hu, hx]
theorem QI {t : TypeId} {k : Sh} {a b : DV} (h : FE (P.underlying t) k = true) (ha : Cj k a = true) (hb : Cj k b = true) (d : Nat) (w : World) :
  (Op.equalIn (d + 1) t (flatV a) (flatV b)).run P w = .ok (Dh a b) w := by
 cases hu : P.underlying t with
 | none => rw [hu] at h; simp [FE] at h
 | some dd =>
  rw [hu] at h
  cases dd <;> cases k <;> simp [FE] at h <;> cases a <;> simp only [Cj, Bool.false_eq_true] at ha <;> cases b <;> simp only [Cj, Bool.false_eq_true] at hb
  .simp [flatV, Dh, Op.equalIn, run_underlying hu]
  .simp only [beq_iff_eq] at ha hb
   subst ha; subst hb
   simp [flatV, Dh, Op.equalIn, run_underlying hu]
  simp [flatV, Dh, Op.equalIn, run_underlying hu, beq_toListBytes]
theorem Jq (d : Nat) (w : World) (xs ys : List DV) : ∀ (fs : List Field) (off : Nat) (ks : List Sh) (xa bs : List DV), El P fs off ks = true -> xs.drop off = xa -> ys.drop off = bs -> fits ks xa = true -> fits ks bs = true ->
  (Op.eqFields (d + 1) (xs.map flatV).toArray (ys.map flatV).toArray fs).run P w = .ok (Ch xa bs) w
 | [], off, [], [], [], _, _, _, _, _ => by simp [Op.eqFields, Ch]
 | f :: fs, off, k :: ks, a :: xa, b :: bs, hB, hx, hy, ha, hb => by
  simp only [El, Bool.and_eq_true, bne_iff_ne, ne_eq, beq_iff_eq] at hB
  simp only [fits, Bool.and_eq_true] at ha hb
  obtain ⟨⟨⟨h1, h2⟩, h3⟩, h4⟩ := hB
  have ex : xs[off]? = some a := by
   have := congrArg List.head? hx
   rw [List.head?_drop] at this; exact this
  have ey : ys[off]? = some b := by
   have := congrArg List.head? hy
   rw [List.head?_drop] at this; exact this
  have hx' : xs.drop (off + 1) = xa := by rw [<- List.tail_drop, hx]; rfl
  have hy' : ys.drop (off + 1) = bs := by rw [<- List.tail_drop, hy]; rfl
  have ih := Jq d w xs ys fs (off + 1) ks xa bs h4 hx' hy' ha.2 hb.2
  have px := Jk (w := w) h3 (xs := (xs.map flatV).toArray) (off := off) (v := flatV a) (by simp [ex])
  have py := Jk (w := w) h3 (xs := (ys.map flatV).toArray) (off := off) (v := flatV b) (by simp [ey])
  have pe := QI h3 ha.1 hb.1 d w
  simp only [Op.eqFields, h1, h2, ne_eq, not_false_eq_true, if_true, Sem.run_bind, px, py, pe, Result.andThen_ok, Ch]
  cases Dh a b with
  | true => simpa using ih
  | false => simp
 | [], _, _ :: _, _, _, hB, _, _, _, _ => by simp [El] at hB
 | _ :: _, _, [], _, _, hB, _, _, _, _ => by simp [El] at hB
 | [], _, [], _ :: _, _, _, _, _, ha, _ => by simp [fits] at ha
 | [], _, [], [], _ :: _, _, _, _, _, hb => by simp [fits] at hb
 | _ :: _, _, _ :: _, [], _, _, _, _, ha, _ => by simp [fits] at ha
 | _ :: _, _, _ :: _, _ :: _, [], _, _, _, _, hb => by simp [fits] at hb
theorem NH {t : TypeId} {ks : List Sh} (hu : P.underlying t = some (.struct (P.fieldsOf t))) (hp : P.stoodInHeld t = false) (hg : P.eqGuardType P.depth t = false)
  (hf : El P (P.fieldsOf t).toList 0 ks = true) : Oi P t ks :=
 ⟨hg, fun w ds es h1 h2 => by
  show (Op.equalIn (9999 + 1) t _ _).run P w = _
  rw [run_equalIn_struct w 9999 t _ _ hu hp]
  exact Jq 9998 w ds es _ 0 ks ds es hf rfl rfl h1 h2⟩
theorem KG (em : Bool) (d : Nat) (w : World) (xs : List DV) : ∀ (fs : List Field) (off : Nat) (ks : List Sh) (xa : List DV), El P fs off ks = true -> xs.drop off = xa -> fits ks xa = true ->
  (forIn fs PUnit.unit fun f (_ : PUnit) => (do
   if f.name ≠ "_" then Instr.checkKey em (d + 1) f.type (<- part f.type (xs.map flatV).toArray f.offset)
   pure (ForInStep.yield PUnit.unit) : Sem (ForInStep PUnit))).run P w = .ok PUnit.unit w
 | [], off, [], [], _, _, _ => by simp
 | f :: fs, off, k :: ks, a :: xa, hB, hx, ha => by
  simp only [El, Bool.and_eq_true, bne_iff_ne, ne_eq, beq_iff_eq] at hB
  simp only [fits, Bool.and_eq_true] at ha
  obtain ⟨⟨⟨h1, h2⟩, h3⟩, h4⟩ := hB
  have ex : xs[off]? = some a := by
   have := congrArg List.head? hx
   rw [List.head?_drop] at this; exact this
  have hx' : xs.drop (off + 1) = xa := by rw [<- List.tail_drop, hx]; rfl
  have ih := KG em d w xs fs (off + 1) ks xa h4 hx' ha.2
  have px := Jk (w := w) h3 (xs := (xs.map flatV).toArray) (off := off) (v := flatV a) (by simp [ex])
  have pc : (Instr.checkKey em (d + 1) f.type (flatV a)).run P w = .ok () w := by
   cases hu : P.underlying f.type with
   | none => rw [hu] at h3; simp [FE] at h3
   | some dd =>
    rw [hu] at h3
    cases dd <;> simp [FE] at h3 <;> simp [Instr.checkKey, run_underlying hu]
  simp only [List.forIn_cons, Sem.run_bind, h1, ne_eq, not_false_eq_true, if_true, h2, px, pc, Result.andThen_ok, Sem.run_pure]
  exact ih
 | [], _, _ :: _, _, hB, _, _ => by simp [El] at hB
 | _ :: _, _, [], _, hB, _, _ => by simp [El] at hB
 | [], _, [], _ :: _, _, _, ha => by simp [fits] at ha
 | _ :: _, _, _ :: _, [], _, _, ha => by simp [fits] at ha
theorem UY {t : TypeId} {ks : List Sh} (hu : P.underlying t = some (.struct (P.fieldsOf t))) (he : Oi P t ks) (hf : El P (P.fieldsOf t).toList 0 ks = true) : PP P t ks := by
 refine ⟨he, by rw [hu]; trivial, fun em w ds h => ?_⟩
 show (Instr.checkKey em (9999 + 1) t _).run P w = _
 unfold Instr.checkKey
 simp only [Sem.run_bind, run_underlying hu, Result.andThen_ok]
 have := KG (P := P) em 9998 w ds (P.fieldsOf t).toList 0 ks ds hf rfl h
 simp only [Array.forIn_toList] at this
 simp at this ⊢
 rw [this]; rfl
end
def St.keep (ts : List Nat) (st : St) : St := { st with slots := ts.map fun t => (t, Be st.slots t) }
theorem Qp {st : St} {t : Nat} : ∀ (ts : List Nat), AF t (ts.map fun t => (t, Be st.slots t)) = if t ∈ ts then some (Be st.slots t) else none
 | [] => by simp [AF]
 | u :: ts => by
  simp only [List.map_cons, AF]
  by_cases e : t = u
  .subst e; simp
  rw [if_neg e, Qp ts]; simp [e]
theorem R.keep {A : BB} {st : St} {a : Act} {w : World} (ts : List Nat) (h : R A st a w) : R A (st.keep ts) a w := by
 obtain ⟨⟨μ, hh, hs⟩, hnt, hdef⟩ := h
 refine ⟨⟨μ, hh, fun t ht => ?_⟩, hnt, hdef⟩
 have : Be (st.keep ts).slots t = if t ∈ ts then Be st.slots t else .any := by
  show (match AF t (ts.map fun t => (t, Be st.slots t)) with | some v => v | none => LV.any) = _
  rw [Qp]
  by_cases e : t ∈ ts <;> simp [e]
 rw [this]
 split
 .exact hs t ht
 exact .any _
end Go.E
/- The walk of a function: operations in a short form (Em), rules for the parts of a body, states made weaker (A3). No condition. -/
namespace Go.E
open Go Go.RowKit
structure G5 where
 dst : Option Tmp
 op : Op
 g : Option (Option Tmp × Bool)
def Ua (ops : List Oper) (j : Nat) : Option Tmp :=
 match ops[j]? with
 | some o => o.dst
 | none => none
def NI (ops : List Oper) (o : Oper) : G5 :=
 ⟨o.dst, o.op, match o.guard with
  | none => none
  | some (j, w) => some (Ua ops j, w)⟩
structure H9 {α : Sort _} (a : α) : Type where
structure A0 (α : Type) where
 f : α -> Prop
 h : H9 f
def CN {α : Type} (o : Option α) (k : A0 α) : Prop :=
 match o with
 | some a => k.f a
 | none => False
def Rf (x : LV) (k : A0 Bool) : Prop :=
 match x with
 | .p (.bool b) => k.f b
 | _ => False
def ME (x : LV) (k : A0 (IntKind × Int)) : Prop :=
 match x with
 | .p (.int kk n) => k.f (kk, n)
 | _ => False
def Qq (x : LV) (k : A0 DV) : Prop :=
 match x with
 | .p d => k.f d
 | _ => False
def LF (s : Sh) (k : A0 Nat) : Prop :=
 match s with
 | .slc e => k.f e
 | _ => False
def N6 (s : Sh) (k : A0 (List (Nat × Nat))) : Prop :=
 match s with
 | .struct fs => k.f fs
 | _ => False
def SB (s : Sh) (k : A0 (Nat × Nat)) : Prop :=
 match s with
 | .mp a b => k.f (a, b)
 | _ => False
def Ck (AB : Ay) (t : Nat) (k : A0 TI) : Prop := CN (AB.tt t) k
def WY (x : LV) (k : A0 LV) : Prop :=
 match x with
 | .lpb i o => k.f (.lpb i o)
 | .lpe i j o => k.f (.lpe i j o)
 | .p (.place l o) => k.f (.p (.place l o))
 | _ => False
def Lb (op : BinOp) (kk : IntKind) (a b : Int) (k : A0 LV) : Prop :=
 match op with
 | .quo | .rem => b ≠ 0 /\ CN (G6 op kk a b) ⟨fun v => k.f (.p v), ⟨⟩⟩
 | _ => CN (G6 op kk a b) ⟨fun v => k.f (.p v), ⟨⟩⟩
def Vc (neg : Bool) (empty : Prop) (k : A0 LV) : Prop := ∀ r, (¬ empty -> r = false) -> k.f (IA neg r)
def Tr (AB : Ay) (neg : Bool) (t : Nat) (x y : LV) (k : A0 LV) : Prop :=
 match x, y with
 | .p (.str a), .p (.str b) => k.f (IA neg (a.toList == b.toList))
 | .p (.bool a), .p (.bool b) => Ck AB t ⟨fun ti => ti.sh = .bool /\ k.f (IA neg (a == b)), ⟨⟩⟩
 | .p (.agg xs), .p (.agg ys) => CN (AB.eqk t) ⟨fun ks => fits ks xs = true /\ fits ks ys = true /\ k.f (IA neg (Ch xs ys)), ⟨⟩⟩
 | .p (.slice _ l), .p .nils => Ck AB t ⟨fun ti => LF ti.sh ⟨fun _ => Vc neg (l = []) k, ⟨⟩⟩, ⟨⟩⟩
 | .p .nils, .p .nils => Ck AB t ⟨fun ti => LF ti.sh ⟨fun _ => k.f (IA neg true), ⟨⟩⟩, ⟨⟩⟩
 | .lsl _ _ _ len, .p .nils => Ck AB t ⟨fun ti => LF ti.sh ⟨fun _ => Vc neg (len = 0) k, ⟨⟩⟩, ⟨⟩⟩
 | .p (.place _ _), .p .nilp => AB.ptr t = true /\ k.f (IA neg false)
 | .p .nilp, .p .nilp => AB.ptr t = true /\ k.f (IA neg true)
 | .lpb _ _, .p .nilp => AB.ptr t = true /\ k.f (IA neg false)
 | _, _ => False
def Oj (AB : Ay) (op : BinOp) (t : Nat) (x y : LV) (k : A0 LV) : Prop :=
 match x, y with
 | .p (.int k1 a), .p (.int k2 b) => k1 = k2 /\ Lb op k1 a b k
 | x, y => match op with
  | .eql => Tr AB false t x y k
  | .neq => Tr AB true t x y k
  | _ => False
def WZ (x : LV) (i : Nat) (k : A0 LV) : Prop :=
 match x with
 | .tup l => CN l[i]? k
 | .p (.tup l) => CN l[i]? ⟨fun v => k.f (.p v), ⟨⟩⟩
 | _ => False
def Wa (x : LV) (k : A0 (List LV)) : Prop :=
 match x with
 | .agg l => k.f l
 | .p (.agg l) => k.f (l.map .p)
 | _ => False
def Ub (off : Nat) (x : LV) (k : A0 LV) : Prop :=
 match x with
 | .lpb id o => k.f (.lpb id (o + off))
 | .lpe id j o => k.f (.lpe id j (o + off))
 | .p (.place l o) => k.f (.p (.place l (o + off)))
 | _ => False
def KH (AB : Ay) (place : Nat -> Option (Nat × Nat)) : List LV -> List (Nat × LV) -> A0 (List LV) -> Prop
 | cells, [], k => k.f cells
 | cells, (i, v) :: rest, k => CN (place i) ⟨fun p => Ck AB p.2 ⟨fun ti => CN v.cells ⟨fun ls => (ls.length = ti.size /\ p.1 + ls.length <= cells.length) /\
   KH AB place (CZ cells p.1 ls) rest k, ⟨⟩⟩, ⟨⟩⟩, ⟨⟩⟩
def NJ (AB : Ay) (sh : Sh) (zero : List LV) (ps : List (Nat × LV)) (k : A0 (List LV)) : Prop :=
 match sh with
 | .struct fs => (fs.all fun p => (AB.tt p.2).isSome) = true /\ KH AB (fun i => fs[i]?) zero ps k
 | .arr _ e => Ck AB e ⟨fun te => KH AB (fun i => some (i * te.size, e)) zero ps k, ⟨⟩⟩
 | _ => False
def Yb (AB : Ay) (sh : Sh) (x : LV) (n : Int) (k : A0 LV) : Prop :=
 match sh, x with
 | .slc e, .p (.slice sz l) => Ck AB e ⟨fun te => te.size = sz /\ 0 <= n /\ CN l[n.toNat]? ⟨fun c => k.f (.p (.place c 0)), ⟨⟩⟩, ⟨⟩⟩
 | .slc e, .lsl id sz off len => Ck AB e ⟨fun te => te.size = sz /\ (0 <= n /\ n < len) /\ k.f (.lpe id (off + n.toNat) 0), ⟨⟩⟩
 | .arr m e, .lpb id o => Ck AB e ⟨fun te => (0 <= n /\ n < m) /\ k.f (.lpb id (o + n.toNat * te.size)), ⟨⟩⟩
 | .arr m e, .p (.place l o) => Ck AB e ⟨fun te => (0 <= n /\ n < m) /\ k.f (.p (.place l (o + n.toNat * te.size))), ⟨⟩⟩
 | _, _ => False
def Yc (AB : Ay) (sh : Sh) (x : LV) (n : Int) (k : A0 LV) : Prop :=
 match sh, x with
 | .arr m e, .agg l => Ck AB e ⟨fun te => n < m /\ CN (DP te (n.toNat * te.size) l) k, ⟨⟩⟩
 | .arr m e, .p (.agg l) => Ck AB e ⟨fun te => n < m /\ CN (DP te (n.toNat * te.size) (l.map .p)) k, ⟨⟩⟩
 | .str, .p (.str s) => CN s[n.toNat]? ⟨fun c => k.f (.p (.int .u8 c.toNat)), ⟨⟩⟩
 | _, _ => False
def LG (dflt : Int) (x : Option LV) (k : A0 Int) : Prop :=
 match x with
 | none => k.f dflt
 | some (.p (.int _ n)) => k.f n
 | some _ => False
def NK (AB : Ay) (t : Nat) (x : LV) (lo hi : Option LV) (k : A0 LV) : Prop :=
 match x with
 | .p (.slice sz l) => Ck AB t ⟨fun ti => LF ti.sh ⟨fun e => Ck AB e ⟨fun te => te.size = sz /\ LG l.length hi ⟨fun h => LG 0 lo ⟨fun lw => (0 <= lw /\ lw <= h /\ h <= l.length) /\ k.f (.p (.slice sz ((l.take h.toNat).drop lw.toNat))), ⟨⟩⟩, ⟨⟩⟩, ⟨⟩⟩, ⟨⟩⟩, ⟨⟩⟩
 | .lsl id sz off len => Ck AB t ⟨fun ti => LF ti.sh ⟨fun e => Ck AB e ⟨fun te => te.size = sz /\ len ≠ 0 /\ LG len hi ⟨fun h => LG 0 lo ⟨fun lw => (0 <= lw /\ lw <= h /\ h <= len) /\ k.f (.lsl id sz (off + lw.toNat) (h - lw).toNat), ⟨⟩⟩, ⟨⟩⟩, ⟨⟩⟩, ⟨⟩⟩, ⟨⟩⟩
 | .p (.str s) => Ck AB t ⟨fun ti => ti.sh = .str /\ LG s.size hi ⟨fun h => LG 0 lo ⟨fun lw => (0 <= lw /\ lw <= h /\ h <= s.size) /\ k.f (.p (.str (s.extract lw.toNat h.toNat))), ⟨⟩⟩, ⟨⟩⟩, ⟨⟩⟩
 | _ => False
def Wb (sh : Sh) (x : LV) (k : A0 LV) : Prop :=
 match sh, x with
 | .arr n _, _ => k.f (.p (.int .i64 n))
 | .slc _, .p (.slice _ l) => l.length <= maxLen -> k.f (.p (.int .i64 l.length))
 | .slc _, .p .nils => k.f (.p (.int .i64 0))
 | .slc _, .lsl _ _ _ len => k.f (.p (.int .i64 len))
 | .str, .p (.str s) => k.f (.p (.int .i64 s.size))
 | _, _ => False
def Uc (o : A2) (k : A0 (List LV)) : Prop :=
 match o with
 | .box cells => k.f cells
 | _ => False
def SC (o : A2) (k : A0 (Nat × Nat × List (List DV))) : Prop :=
 match o with
 | .row e sz l => k.f (e, sz, l)
 | _ => False
def QJ (o : A2) (k : A0 (List (DV × DV))) : Prop :=
 match o with
 | .map m => k.f m
 | _ => False
def PR (h : AM) (ti : TI) (p : LV) (k : A0 LV) : Prop :=
 match p with
 | .p (.place l off) => CN (DP ti off (l.map .p)) k
 | .lpb id off => CN (AF id h) ⟨fun o => Uc o ⟨fun cells => CN (DP ti off cells) k, ⟨⟩⟩, ⟨⟩⟩
 | .lpe id i off => CN (AF id h) ⟨fun o => SC o ⟨fun r => CN r.2.2[i]? ⟨fun x => CN (DP ti off (x.map .p)) k, ⟨⟩⟩, ⟨⟩⟩, ⟨⟩⟩
 | _ => False
def SD (h : AM) (ti : TI) (p : LV) (ls : List LV) (k : A0 AM) : Prop :=
 match p with
 | .lpb id off => CN (AF id h) ⟨fun o => Uc o ⟨fun cells => off + ls.length <= cells.length /\ k.f (Bg id (.box (CZ cells off ls)) h), ⟨⟩⟩, ⟨⟩⟩
 | .lpe id i off => CN (AF id h) ⟨fun o => SC o ⟨fun r => CN r.2.2[i]? ⟨fun x => CN (F2 ls) ⟨fun ds => off + ls.length <= x.length /\ k.f (Bg id (.row r.1 r.2.1 (r.2.2.set i (CZ x off ds))) h), ⟨⟩⟩, ⟨⟩⟩, ⟨⟩⟩, ⟨⟩⟩
 | _ => False
def St.go (st : St) (dst : Option Tmp) (l : LV) (h : AM) (c : Nat) : St := ({ st with heap := h, ctr := c } : St).put dst l
def SE (st : St) (dst : Option Tmp) (e : Nat) (te : TI) (s : LV) (new : List (List DV)) (K : A0 St) : Prop :=
  match s with
  | .p .nils => (new.length * te.bytes <= 140737488355328 /\ new.length <= maxLen) /\ K.f (st.go dst (.lsl st.ctr te.size 0 new.length) ((st.ctr, .row e te.size new) :: st.heap) (st.ctr + 1))
  | .lsl id sz off len => sz = te.size /\ CN (AF id st.heap) ⟨fun o => SC o ⟨fun r => (r.1 = e /\ r.2.1 = te.size /\ off + len <= r.2.2.length /\
        (len + new.length) * te.bytes <= 140737488355328 /\ len + new.length <= maxLen) /\ K.f (st.go dst (.lsl st.ctr te.size 0 (len + new.length)) ((st.ctr, .row e te.size ((r.2.2.drop off).take len ++ new)) :: Du id st.heap) (st.ctr + 1)), ⟨⟩⟩, ⟨⟩⟩
  | _ => False
def N7 (x : LV) (k : A0 Nat) : Prop :=
 match x with
 | .lmap id => k.f id
 | _ => False
def Lc (x : LV) (k : A0 (FuncId × List LV)) : Prop :=
 match x with
 | .fn f caps => k.f (f, caps)
 | _ => False
def IB (P : Program) (A : BB) (h : AM) (ctr k : Nat) (args : List LV) (K : A0 (LV × AM × Nat)) : Prop := C2 P A h ctr k args fun l h c => K.f (l, h, c)
def Jv (P : Program) (A : BB) (AB : Ay) (st : St) (dst : Option Tmp) (c : Call) (K : A0 St) : Prop :=
 match c.callee, c.args.toList, c.argTypes.toList with
 | .value f, args, _ => Lc (st.eval f) ⟨fun g => IB P A st.heap st.ctr g.1 (args.map st.eval ++ g.2) ⟨fun r => K.f (st.go dst r.1 r.2.1 r.2.2), ⟨⟩⟩, ⟨⟩⟩
 | .builtin .append, [s, x], [t, t'] => t' = t /\ Ck AB t ⟨fun ti => LF ti.sh ⟨fun e => Ck AB e ⟨fun te => 0 < te.size /\ CN (Jt st.heap (st.eval x)) ⟨fun new =>
   (∀ y ∈ new, y.length = te.size /\ y.all DV.cell = true) /\ SE st dst e te (st.eval s) new K, ⟨⟩⟩, ⟨⟩⟩, ⟨⟩⟩, ⟨⟩⟩
 | .builtin .delete, [x, i], t :: _ => Ck AB t ⟨fun ti => SB ti.sh ⟨fun m => N7 (st.eval x) ⟨fun id => CN (AF id st.heap) ⟨fun o => QJ o ⟨fun l => Qq (st.eval i) ⟨fun kd =>
   (Bd AB m.1 kd = true /\ (l.all fun p => Bd AB m.1 p.1) = true) /\ K.f (st.go dst (.tup []) (Bg id (.map (MF kd l)) st.heap) st.ctr), ⟨⟩⟩, ⟨⟩⟩, ⟨⟩⟩, ⟨⟩⟩, ⟨⟩⟩, ⟨⟩⟩
 | .builtin .len, [x], [t] => Ck AB t ⟨fun ti => Wb ti.sh (st.eval x) ⟨fun l => K.f (st.put dst l), ⟨⟩⟩, ⟨⟩⟩
 | .builtin .max, args, _ => CN (Bv (fun x y => if y > x then y else x) (args.map st.eval)) ⟨fun r => K.f (st.put dst (.p (.int r.1 r.2))), ⟨⟩⟩
 | .builtin .min, args, _ => CN (Bv (fun x y => if y < x then y else x) (args.map st.eval)) ⟨fun r => K.f (st.put dst (.p (.int r.1 r.2))), ⟨⟩⟩
 | _, _, _ => False
def Ud : Sh -> Option IntKind
 | .int k => some k
 | _ => none
def Wc (l : LV) (k : A0 (List (DV × DV))) : Prop := match l with
 | .p .nilm => k.f []
 | .p (.map m) => k.f m
 | _ => False
def Ue (h : AM) (l : LV) (k0 : Unit -> Prop) (k : Nat -> List (DV × DV) -> Nat -> DV × DV -> Prop) : Prop := match l with
 | .lpb id 0 => match AF id h with
  | some (.iter _ left) => (left = [] -> k0 ()) /\ ∀ j p, left[j]? = some p -> k id left j p
  | _ => False
 | _ => False
def Uf (h : AM) (l : LV) (k : Nat -> DV × DV -> List (DV × DV) -> Prop) : Prop := match l with
 | .lpb id 0 => match AF id h with
  | some (.iter (some p) left) => k id p left
  | _ => False
 | _ => False
def BC (P : Program) (A : BB) (AB : Ay) (st : St) (dst : Option Tmp) (op : Op) (K : A0 St) : Prop :=
 match op with
 | .move x | .assign x => K.f (st.put dst (st.eval x))
 | .pick c a b => Rf (st.eval c) ⟨fun t => K.f (st.put dst (if t then st.eval a else st.eval b)), ⟨⟩⟩
 | .nilCheck x => WY (st.eval x) ⟨fun l => K.f (st.put dst l), ⟨⟩⟩
 | .binOp op t x y _ => Oj AB op t (st.eval x) (st.eval y) ⟨fun l => K.f (st.put dst l), ⟨⟩⟩
 | .unOp .neg _ x => ME (st.eval x) ⟨fun n => K.f (st.put dst (.p (.int n.1 (n.1.wrap (0 - n.2))))), ⟨⟩⟩
 | .unOp .not _ x => Rf (st.eval x) ⟨fun b => K.f (st.put dst (.p (.bool !b))), ⟨⟩⟩
 | .convert s d x => ME (st.eval x) ⟨fun n => Ck AB s ⟨fun _ => Ck AB d ⟨fun ti => CN (Ud ti.sh) ⟨fun kd => K.f (st.put dst (.p (.int kd (kd.wrap n.2)))), ⟨⟩⟩, ⟨⟩⟩, ⟨⟩⟩, ⟨⟩⟩
 | .extract t i => WZ (st.eval t) i ⟨fun l => K.f (st.put dst l), ⟨⟩⟩
 | .field t x i => Ck AB t ⟨fun ti => N6 ti.sh ⟨fun fs => CN fs[i]? ⟨fun f => Ck AB f.2 ⟨fun tf => Wa (st.eval x) ⟨fun ls => CN (DP tf f.1 ls) ⟨fun l => K.f (st.put dst l), ⟨⟩⟩, ⟨⟩⟩, ⟨⟩⟩, ⟨⟩⟩, ⟨⟩⟩, ⟨⟩⟩
 | .build t ps => Ck AB t ⟨fun ti => NJ AB ti.sh (ti.zero.map .p) (ps.toList.map fun p => (p.1, st.eval p.2)) ⟨fun cells => K.f (st.put dst (Ee cells)), ⟨⟩⟩, ⟨⟩⟩
 | .fieldAddr t x i => Ck AB t ⟨fun ti => N6 ti.sh ⟨fun fs => CN fs[i]? ⟨fun f => Ck AB f.2 ⟨fun tf => tf.size ≠ 0 /\ Ub f.1 (st.eval x) ⟨fun l => K.f (st.put dst l), ⟨⟩⟩, ⟨⟩⟩, ⟨⟩⟩, ⟨⟩⟩, ⟨⟩⟩
 | .indexAddr t x i => ME (st.eval i) ⟨fun n => Ck AB t ⟨fun ti => Yb AB ti.sh (st.eval x) n.2 ⟨fun l => K.f (st.put dst l), ⟨⟩⟩, ⟨⟩⟩, ⟨⟩⟩
 | .index t x i => ME (st.eval i) ⟨fun n => Ck AB t ⟨fun ti => 0 <= n.2 /\ Yc AB ti.sh (st.eval x) n.2 ⟨fun l => K.f (st.put dst l), ⟨⟩⟩, ⟨⟩⟩, ⟨⟩⟩
 | .makeFunc (.func f) first caps => first.toList = [] /\ K.f (st.put dst (.fn f (caps.toList.map st.eval)))
 | .slice t x lo hi none => NK AB t (st.eval x) (lo.map st.eval) (hi.map st.eval) ⟨fun l => K.f (st.put dst l), ⟨⟩⟩
 | .load t x => Ck AB t ⟨fun ti => PR st.heap ti (st.eval x) ⟨fun l => K.f (st.put dst l), ⟨⟩⟩, ⟨⟩⟩
 | .store t x v => Ck AB t ⟨fun ti => CN (st.eval v).cells ⟨fun ls => (ls.length = ti.size /\ ls.all LV.one = true) /\ SD st.heap ti (st.eval x) ls ⟨fun h => K.f (st.go dst .any h st.ctr), ⟨⟩⟩, ⟨⟩⟩, ⟨⟩⟩
 | .alloc t => Ck AB t ⟨fun ti => K.f (st.go dst (.lpb st.ctr 0) ((st.ctr, .box (ti.zero.map .p)) :: st.heap) (st.ctr + 1)), ⟨⟩⟩
 | .box _ x => CN (st.eval x).cells ⟨fun ls => K.f (st.go dst (.lpb st.ctr 0) ((st.ctr, .box ls) :: st.heap) (st.ctr + 1)), ⟨⟩⟩
 | .buildSlice t n ps => Ck AB t ⟨fun ti => LF ti.sh ⟨fun e => Ck AB e ⟨fun te => (0 < te.size /\ n * te.size <= 16777216) /\ CN (GF te.size 0 (ps.toList.map fun p => (p.1, st.eval p.2))) ⟨fun l =>
   l.length = n /\ (K.f (st.go dst (.lsl st.ctr te.size 0 n) ((st.ctr, .row e te.size l) :: st.heap) (st.ctr + 1)) \/ K.f (st.put dst (.p (.slice te.size l)))), ⟨⟩⟩, ⟨⟩⟩, ⟨⟩⟩, ⟨⟩⟩
 | .makeSlice t l c => Ck AB t ⟨fun ti => LF ti.sh ⟨fun e => Ck AB e ⟨fun te => ME (st.eval l) ⟨fun n => ME (st.eval c) ⟨fun n' => (n'.2 = n.2 /\ 0 <= n.2 /\ te.bytes * n.2.toNat <= 281474976710656 /\ n.2.toNat <= maxLen) /\
   (K.f (st.go dst (.lsl st.ctr te.size 0 n.2.toNat) ((st.ctr, .row e te.size (List.replicate n.2.toNat te.zero)) :: st.heap) (st.ctr + 1)) \/ K.f (st.put dst (.p (.slice te.size (List.replicate n.2.toNat te.zero))))), ⟨⟩⟩, ⟨⟩⟩, ⟨⟩⟩, ⟨⟩⟩, ⟨⟩⟩
 | .makeMap _ none => K.f (st.go dst (.lmap st.ctr) ((st.ctr, .map []) :: st.heap) (st.ctr + 1))
 | .lookup t x i ok => Ck AB t ⟨fun ti => SB ti.sh ⟨fun m => Ck AB m.2 ⟨fun te => CN (Ju st.heap (st.eval x)) ⟨fun l => Qq (st.eval i) ⟨fun kd => (Bd AB m.1 kd = true /\ (l.all fun p => Bd AB m.1 p.1) = true) /\
   K.f (st.put dst (if ok then .tup [.p ((Gz kd l).getD (zV AB te)), .p (.bool (Gz kd l).isSome)] else .p ((Gz kd l).getD (zV AB te)))), ⟨⟩⟩, ⟨⟩⟩, ⟨⟩⟩, ⟨⟩⟩, ⟨⟩⟩
 | .mapUpdate t x i v => Ck AB t ⟨fun ti => SB ti.sh ⟨fun m => N7 (st.eval x) ⟨fun id => CN (AF id st.heap) ⟨fun o => QJ o ⟨fun l => Qq (st.eval i) ⟨fun kd => Qq (st.eval v) ⟨fun vd =>
   (Bd AB m.1 kd = true /\ (l.all fun p => Bd AB m.1 p.1) = true) /\ K.f (st.go dst .any (Bg id (.map (LD kd vd l)) st.heap) st.ctr), ⟨⟩⟩, ⟨⟩⟩, ⟨⟩⟩, ⟨⟩⟩, ⟨⟩⟩, ⟨⟩⟩, ⟨⟩⟩
 | .mapEntry t x i => Ck AB t ⟨fun ti => SB ti.sh ⟨fun m => Ck AB m.2 ⟨fun te => N7 (st.eval x) ⟨fun id => CN (AF id st.heap) ⟨fun o => QJ o ⟨fun l => Qq (st.eval i) ⟨fun kd =>
   ((false && Bd AB m.1 kd) = true /\ (l.all fun p => Bd AB m.1 p.1) = true) /\
   K.f (st.go dst (.tup [.p ((Gz kd l).getD te.zeroDV), .p (.int .i64 (((C3 kd l).map (·.1)).getD l.length))]) (match C3 kd l with
    | some _ => st.heap
    | none => Bg id (.map (l ++ [(kd, te.zeroDV)])) st.heap) st.ctr), ⟨⟩⟩, ⟨⟩⟩, ⟨⟩⟩, ⟨⟩⟩, ⟨⟩⟩, ⟨⟩⟩, ⟨⟩⟩
 | .entryStore _ x s v => N7 (st.eval x) ⟨fun id => CN (AF id st.heap) ⟨fun o => QJ o ⟨fun m => ME (st.eval s) ⟨fun n => Qq (st.eval v) ⟨fun vd => (0 <= n.2 /\ False) /\ CN m[n.2.toNat]? ⟨fun p =>
   K.f (st.go dst .any (Bg id (.map (m.set n.2.toNat (p.1, vd))) st.heap) st.ctr), ⟨⟩⟩, ⟨⟩⟩, ⟨⟩⟩, ⟨⟩⟩, ⟨⟩⟩, ⟨⟩⟩
 | .range t x => Ck AB t ⟨fun ti => SB ti.sh ⟨fun _ => Wc (st.eval x) ⟨fun m => K.f (st.go dst (.lpb st.ctr 0) ((st.ctr, .iter none m) :: st.heap) (st.ctr + 1)), ⟨⟩⟩, ⟨⟩⟩, ⟨⟩⟩
 | .next x false => Ue st.heap (st.eval x) (fun _ => K.f (st.go dst (.tup [.p (.bool false)]) st.heap st.ctr)) fun id left j p => ∃ cur', (cur' = none \/ cur' = some p) /\ K.f (st.go dst (.tup [.p (.bool true), .p p.1, .p p.2]) (Bg id (.iter cur' (left.eraseIdx j)) st.heap) st.ctr)
 | .entry x => Uf st.heap (st.eval x) fun id p left => K.f (st.go dst (.tup [.p p.1, .p p.2]) (Bg id (.iter none left) st.heap) st.ctr)
 | .call c => Jv P A AB st dst c K
 | _ => False
def gW (b want : Bool) (X Y : A0 Unit) : Prop := (b = want -> X.f ()) /\ (b = !want -> Y.f ())
def gM (v : LV) (want : Bool) (X Y : A0 Unit) : Prop :=
 match v with
 | .p (.bool b) => gW b want X Y
 | .und => Y.f ()
 | _ => False
def Fg (st : St) (d : Option Tmp) : LV :=
 match d with
 | some t => st.eval (.tmp t)
 | none => .any
structure Yd (K : A0 St) (st : St) : Prop where
 h : K.f st
def Em (P : Program) (A : BB) (AB : Ay) (K : A0 St) : List G5 -> St -> Prop
 | [], st => Yd K st
 | ⟨dst, op, none⟩ :: rest, st => BC P A AB st dst op ⟨Em P A AB K rest, ⟨⟩⟩
 | ⟨dst, op, some (d, want)⟩ :: rest, st => gM (Fg st d) want ⟨fun _ => BC P A AB st dst op ⟨Em P A AB K rest, ⟨⟩⟩, ⟨⟩⟩ ⟨fun _ => Em P A AB K rest (st.put dst .und), ⟨⟩⟩
section
variable {P : Program} {A : BB} {AB : Ay}
theorem AP {α : Type} {o : Option α} {k : A0 α} : CN o k ↔ ∃ a, o = some a /\ k.f a := by cases o <;> simp [CN]
theorem AR {t : Nat} {k : A0 TI} : Ck AB t k ↔ ∃ a, AB.tt t = some a /\ k.f a := AP
theorem Kl {x : LV} {k : A0 Bool} : Rf x k ↔ ∃ b, x = .p (.bool b) /\ k.f b := by
 unfold Rf; split <;> simp_all
theorem CR {x : LV} {k : A0 (IntKind × Int)} : ME x k ↔ ∃ kk n, x = .p (.int kk n) /\ k.f (kk, n) := by
 unfold ME; split
 .exact ⟨fun h => ⟨_, _, rfl, h⟩, fun ⟨_, _, e, h⟩ => by cases e; exact h⟩
 simp_all
theorem C6 {x : LV} {k : A0 DV} : Qq x k ↔ ∃ d, x = .p d /\ k.f d := by
 unfold Qq; split <;> simp_all
theorem CW {x : Sh} {k : A0 Nat} : LF x k ↔ ∃ e, x = .slc e /\ k.f e := by
 unfold LF; split <;> simp_all
theorem ET {x : Sh} {k : A0 (List (Nat × Nat))} : N6 x k ↔ ∃ e, x = .struct e /\ k.f e := by
 unfold N6; split <;> simp_all
theorem Dr {x : Sh} {k : A0 (Nat × Nat)} : SB x k ↔ ∃ a b, x = .mp a b /\ k.f (a, b) := by
 unfold SB; split
 .exact ⟨fun h => ⟨_, _, rfl, h⟩, fun ⟨_, _, e, h⟩ => by cases e; exact h⟩
 simp_all
theorem EF {x : LV} {k : A0 Nat} : N7 x k ↔ ∃ id, x = .lmap id /\ k.f id := by
 unfold N7; split <;> simp_all
theorem Ts {x : LV} {k : A0 (FuncId × List LV)} : Lc x k ↔ ∃ f c, x = .fn f c /\ k.f (f, c) := by
 unfold Lc; split
 .exact ⟨fun h => ⟨_, _, rfl, h⟩, fun ⟨_, _, e, h⟩ => by cases e; exact h⟩
 simp_all
theorem FF {x : A2} {k : A0 (List (DV × DV))} : QJ x k ↔ ∃ m, x = .map m /\ k.f m := by
 unfold QJ; split <;> simp_all
theorem Il {x : A2} {k : A0 (List LV)} : Uc x k ↔ ∃ m, x = .box m /\ k.f m := by
 unfold Uc; split <;> simp_all
theorem EU {x : A2} {k : A0 (Nat × Nat × List (List DV))} : SC x k ↔ ∃ a b c, x = .row a b c /\ k.f (a, b, c) := by
 unfold SC; split
 .exact ⟨fun h => ⟨_, _, _, rfl, h⟩, fun ⟨_, _, _, e, h⟩ => by cases e; exact h⟩
 simp_all
theorem Im {d : Int} {x : Option LV} {k : A0 Int} {k' : Int -> Prop} (hk : ∀ n, k.f n -> k' n) (h : LG d x k) : Fh d x k' := by
 unfold LG at h; unfold Fh
 split at h <;> first | exact hk _ h | exact h.elim
theorem Tt {neg : Bool} {t : Nat} {x y : LV} {k : A0 LV} (h : Tr AB neg t x y k) : Qr AB neg t x y k.f := by
 unfold Tr at h
 unfold Qr
 split at h
 .exact h
 .obtain ⟨ti, h1, h2, h3⟩ := AR.1 h; exact ⟨⟨ti, h1, h2⟩, h3⟩
 .obtain ⟨ks, h1, h2⟩ := AP.1 h; exact ⟨ks, h1, h2⟩
 .obtain ⟨ti, h1, h2⟩ := AR.1 h
  obtain ⟨e, h3, h4⟩ := CW.1 h2
  exact ⟨⟨ti, e, h1, h3⟩, h4⟩
 .obtain ⟨ti, h1, h2⟩ := AR.1 h
  obtain ⟨e, h3, h4⟩ := CW.1 h2
  exact ⟨⟨ti, e, h1, h3⟩, h4⟩
 .obtain ⟨ti, h1, h2⟩ := AR.1 h
  obtain ⟨e, h3, h4⟩ := CW.1 h2
  exact ⟨⟨ti, e, h1, h3⟩, h4⟩
 .exact h
 .exact h
 .exact h
 exact h.elim
theorem OR {op : BinOp} {kk : IntKind} {a b : Int} {k : A0 LV} (h : Lb op kk a b k) : ∃ v, G6 op kk a b = some v /\ k.f (.p v) := by
 unfold Lb at h
 split at h
 .exact AP.1 h.2
 .exact AP.1 h.2
 exact AP.1 h
theorem Wd {op : BinOp} {t : Nat} {x y : LV} {k : A0 LV} (h : Oj AB op t x y k) : QK AB op t x y k.f := by
 unfold Oj at h
 unfold QK
 split at h
 .exact ⟨h.1, OR h.2⟩
 rename_i hne
 split
 .exact absurd rfl (hne _ _ _ _ rfl)
 split at h
 .exact Tt h
 .exact Tt h
 exact h.elim
theorem MG {place : Nat -> Option (Nat × Nat)} {k : A0 (List LV)} : ∀ {ps : List (Nat × LV)} {cells : List LV}, KH AB place cells ps k -> IC AB place cells ps k.f
 | [], _, h => h
 | (i, v) :: rest, cells, h => by
  obtain ⟨p, h1, h⟩ := AP.1 h
  obtain ⟨ti, h2, h⟩ := AR.1 h
  obtain ⟨ls, h3, ⟨h4, h5⟩, h⟩ := AP.1 h
  exact ⟨p.1, p.2, ti, ls, h1, h2, h3, h4, h5, MG h⟩
theorem Vd {h : AM} {ti : TI} {p : LV} {k : A0 LV} (hl : PR h ti p k) : F5 h ti p k.f := by
 unfold PR at hl
 unfold F5
 split at hl
 .exact AP.1 hl
 .obtain ⟨o, h1, hl⟩ := AP.1 hl
  obtain ⟨cells, rfl, hl⟩ := Il.1 hl
  obtain ⟨r, h2, h3⟩ := AP.1 hl
  exact ⟨cells, r, h1, h2, h3⟩
 .obtain ⟨o, h1, hl⟩ := AP.1 hl
  obtain ⟨e, sz, elems, rfl, hl⟩ := EU.1 hl
  obtain ⟨x, h2, hl⟩ := AP.1 hl
  obtain ⟨r, h3, h4⟩ := AP.1 hl
  exact ⟨e, sz, elems, x, r, h1, h2, h3, h4⟩
 exact hl.elim
theorem Wf {a b c d : Prop} (h : (a /\ b /\ c) /\ d) : a /\ b /\ c /\ d := ⟨h.1.1, h.1.2.1, h.1.2.2, h.2⟩
theorem Ug {t : Nat} {x : LV} {lo hi : Option LV} {k : A0 LV} (h : NK AB t x lo hi k) : KJ AB t x lo hi k.f := by
 unfold NK at h
 unfold KJ
 split at h
 .obtain ⟨ti, h1, h⟩ := AR.1 h
  obtain ⟨e, h2, h⟩ := CW.1 h
  obtain ⟨te, h3, h4, h⟩ := AR.1 h
  exact ⟨⟨ti, e, h1, h2, te, h3, h4⟩, Im (fun n hn => Im (fun m hm => Wf hm) hn) h⟩
 .obtain ⟨ti, h1, h⟩ := AR.1 h
  obtain ⟨e, h2, h⟩ := CW.1 h
  obtain ⟨te, h3, h4, h5, h⟩ := AR.1 h
  exact ⟨⟨ti, e, h1, h2, te, h3, h4⟩, h5, Im (fun n hn => Im (fun m hm => Wf hm) hn) h⟩
 .obtain ⟨ti, h1, h2, h⟩ := AR.1 h
  exact ⟨⟨ti, h1, h2⟩, Im (fun n hn => Im (fun m hm => Wf hm) hn) h⟩
 exact h.elim
end
end Go.E
/- The walk of a function: the short form holds what the long one says (QL); rules for the parts of a body, states made weaker (A3). No condition. -/
namespace Go.E
open Go Go.RowKit
section
variable {P : Program} {A : BB} {AB : Ay} {K : St -> Prop}
theorem QL {st : St} {o : Oper} {K : A0 St} (h : BC P A AB st o.dst o.op K) : Xa P A AB st o K.f := by
 obtain ⟨dst, op, type, pos, after, guard⟩ := o
 simp only at h
 cases op <;> simp only [BC] at h <;> simp only [Xa]
 case move x => exact h
 case assign x => exact h
 case pick c a b => obtain ⟨t, h1, h2⟩ := Kl.1 h; exact ⟨t, h1, h2⟩
 case nilCheck x =>
  try dsimp only at h
  unfold WY at h
  simp only [nW]
  split at h <;> first | (rename_i e; simp only [e]; exact ⟨trivial, h⟩) | exact h.elim
 case binOp op t x y z => exact Wd h
 case unOp op t x =>
  cases op <;> simp only [BC] at h
  case neg => obtain ⟨kk, n, h1, h2⟩ := CR.1 h; simp only [nW, Tu, h1]; exact h2
  case not => obtain ⟨b, h1, h2⟩ := Kl.1 h; simp only [nW, Tu, h1]; exact h2
 case convert s d x =>
  obtain ⟨kk, n, h1, h⟩ := CR.1 h
  obtain ⟨tj, h2, h⟩ := AR.1 h
  obtain ⟨ti, h3, h⟩ := AR.1 h
  obtain ⟨kd, h4, h⟩ := AP.1 h
  refine ⟨kk, n, ti, tj, h1, h2, h3, kd, ?_, h⟩
  generalize ti.sh = q at h4
  cases q <;> simp [Ud] at h4
  rw [h4]
 case extract t i =>
  try dsimp only at h
  unfold WZ at h
  simp only [nW]
  split at h
  .rename_i l hl; simp only [hl]; exact AP.1 h
  .rename_i l hl; simp only [hl]; exact AP.1 h
  exact h.elim
 case field t x i =>
  obtain ⟨ti, h1, h⟩ := AR.1 h
  obtain ⟨fs, h2, h⟩ := ET.1 h
  obtain ⟨f, h3, h⟩ := AP.1 h
  obtain ⟨tf, h4, h⟩ := AR.1 h
  try dsimp only at h
  unfold Wa at h
  split at h
  .rename_i l hl
   obtain ⟨v, h5, h6⟩ := AP.1 h
   exact ⟨ti, fs, f.1, f.2, tf, l, v, h1, h2, h3, h4, by rw [hl]; rfl, by rw [hl]; trivial, h5, h6⟩
  .rename_i l hl
   obtain ⟨v, h5, h6⟩ := AP.1 h
   exact ⟨ti, fs, f.1, f.2, tf, l.map .p, v, h1, h2, h3, h4, by rw [hl]; rfl, by rw [hl]; trivial, h5, h6⟩
  exact h.elim
 case build t ps =>
  obtain ⟨ti, h1, h⟩ := AR.1 h
  refine ⟨ti, h1, ?_⟩
  try dsimp only at h
  unfold NJ at h
  split at h
  .rename_i fs hsh; simp only [hsh]; exact ⟨h.1, MG h.2⟩
  .rename_i n e hsh
   obtain ⟨te, h2, h⟩ := AR.1 h
   simp only [hsh]
   exact ⟨te, h2, MG h⟩
  exact h.elim
 case fieldAddr t x i =>
  obtain ⟨ti, h1, h⟩ := AR.1 h
  obtain ⟨fs, h2, h⟩ := ET.1 h
  obtain ⟨f, h3, h⟩ := AP.1 h
  obtain ⟨tf, h4, h5, h⟩ := AR.1 h
  refine ⟨ti, fs, f.1, f.2, tf, h1, h2, h3, h4, h5, ?_⟩
  try dsimp only at h
  unfold Ub at h
  split at h <;> first | (rename_i e; simp only [e]; exact h) | exact h.elim
 case indexAddr t x i =>
  obtain ⟨kk, n, h1, h⟩ := CR.1 h
  obtain ⟨ti, h2, h⟩ := AR.1 h
  refine ⟨kk, n, ti, h1, h2, ?_⟩
  try dsimp only at h
  unfold Yb at h
  split at h
  .rename_i e1 e2
   obtain ⟨te, g1, g2, g3, h⟩ := AR.1 h
   simp only [e1, e2]
   exact ⟨⟨te, g1, g2⟩, g3, AP.1 h⟩
  .rename_i e1 e2
   obtain ⟨te, g1, g2, ⟨g3, g4⟩, h⟩ := AR.1 h
   simp only [e1, e2]
   exact ⟨⟨te, g1, g2⟩, g3, g4, h⟩
  .rename_i e1 e2
   obtain ⟨te, g1, ⟨g2, g3⟩, h⟩ := AR.1 h
   simp only [e1, e2]
   exact ⟨te, g1, g2, g3, h⟩
  .rename_i e1 e2
   obtain ⟨te, g1, ⟨g2, g3⟩, h⟩ := AR.1 h
   simp only [e1, e2]
   exact ⟨te, g1, g2, g3, h⟩
  exact h.elim
 case index t x i =>
  obtain ⟨kk, n, h1, h⟩ := CR.1 h
  obtain ⟨ti, h2, h0, h⟩ := AR.1 h
  refine ⟨kk, n, ti, h1, h2, h0, ?_⟩
  try dsimp only at h
  unfold Yc at h
  split at h
  .rename_i e1 e2
   obtain ⟨te, g1, g2, h⟩ := AR.1 h
   obtain ⟨v, g3, g4⟩ := AP.1 h
   simp only [e1, e2]
   exact ⟨te, v, g1, g2, g3, g4⟩
  .rename_i e1 e2
   obtain ⟨te, g1, g2, h⟩ := AR.1 h
   obtain ⟨v, g3, g4⟩ := AP.1 h
   simp only [e1, e2]
   exact ⟨te, v, g1, g2, g3, g4⟩
  .rename_i e1 e2
   simp only [e1, e2]
   exact AP.1 h
  exact h.elim
 case makeFunc fn first caps =>
  cases fn <;> simp only [BC] at h
  rename_i f
  exact ⟨by simpa using h.1, f, rfl, h.2⟩
 case slice t x lo hi mx =>
  cases mx with
  | some m => exact h.elim
  | none => exact ⟨rfl, Ug h⟩
 case load t x => obtain ⟨ti, h1, h2⟩ := AR.1 h; exact ⟨ti, h1, Vd h2⟩
 case store t x v =>
  obtain ⟨ti, h1, h⟩ := AR.1 h
  obtain ⟨ls, h2, ⟨h3, h4⟩, h⟩ := AP.1 h
  refine ⟨ti, h1, ls, h2, h3, h4, ?_⟩
  try dsimp only at h
  unfold SD at h
  split at h
  .rename_i id off e
   obtain ⟨o, g1, h⟩ := AP.1 h
   obtain ⟨cells, rfl, g2, h⟩ := Il.1 h
   try simp only [e]
   exact ⟨cells, g1, g2, h⟩
  .rename_i id i off e
   obtain ⟨o, g1, h⟩ := AP.1 h
   obtain ⟨e', sz, elems, rfl, h⟩ := EU.1 h
   obtain ⟨x, g2, h⟩ := AP.1 h
   obtain ⟨ds, g3, g4, h⟩ := AP.1 h
   try simp only [e]
   exact ⟨e', sz, elems, x, ds, g1, g2, g4, g3, h⟩
  exact h.elim
 case alloc t => obtain ⟨ti, h1, h2⟩ := AR.1 h; exact ⟨ti, h1, h2⟩
 case box t x => obtain ⟨ls, h1, h2⟩ := AP.1 h; exact ⟨ls, h1, h2⟩
 case buildSlice t n ps =>
  obtain ⟨ti, h1, h⟩ := AR.1 h
  obtain ⟨e, h2, h⟩ := CW.1 h
  obtain ⟨te, h3, ⟨h4, h5⟩, h⟩ := AR.1 h
  obtain ⟨l, h6, h7, h⟩ := AP.1 h
  exact ⟨ti, e, te, l, h1, h2, h3, h4, h5, h6, h7, h⟩
 case makeSlice t l c =>
  obtain ⟨ti, h1, h⟩ := AR.1 h
  obtain ⟨e, h2, h⟩ := CW.1 h
  obtain ⟨te, h3, h⟩ := AR.1 h
  obtain ⟨k1, n, h4, h⟩ := CR.1 h
  obtain ⟨k2, n', h5, ⟨h9, h6, h7, h8⟩, h⟩ := CR.1 h
  simp only at h9
  subst h9
  exact ⟨ti, e, te, n', k1, k2, h1, h2, h3, h4, h5, h6, h7, h8, h⟩
 case makeMap t r =>
  cases r with
  | some r => exact h.elim
  | none => exact ⟨rfl, h⟩
 case lookup t x i ok =>
  obtain ⟨ti, h1, h⟩ := AR.1 h
  obtain ⟨kt, et, h2, h⟩ := Dr.1 h
  obtain ⟨te, h3, h⟩ := AR.1 h
  obtain ⟨m, h4, h⟩ := AP.1 h
  obtain ⟨kd, h5, ⟨h6, h7⟩, h⟩ := C6.1 h
  exact ⟨ti, kt, et, te, m, kd, h1, h2, h3, h4, h5, h6, h7, h⟩
 case mapUpdate t x i v =>
  obtain ⟨ti, h1, h⟩ := AR.1 h
  obtain ⟨kt, et, h2, h⟩ := Dr.1 h
  obtain ⟨id, h3, h⟩ := EF.1 h
  obtain ⟨o, h4, h⟩ := AP.1 h
  obtain ⟨m, rfl, h⟩ := FF.1 h
  obtain ⟨kd, h5, h⟩ := C6.1 h
  obtain ⟨vd, h6, ⟨h7, h8⟩, h⟩ := C6.1 h
  exact ⟨ti, kt, et, id, m, kd, vd, h1, h2, h3, h4, h5, h6, h7, h8, h⟩
 case mapEntry t x i =>
  obtain ⟨ti, h1, h⟩ := AR.1 h
  obtain ⟨kt, et, h2, h⟩ := Dr.1 h
  obtain ⟨te, h3, h⟩ := AR.1 h
  obtain ⟨id, h4, h⟩ := EF.1 h
  obtain ⟨o, h5, h⟩ := AP.1 h
  obtain ⟨m, rfl, h⟩ := FF.1 h
  obtain ⟨kd, h6, ⟨h7, h8⟩, h⟩ := C6.1 h
  exact ⟨ti, kt, et, te, id, m, kd, h1, h2, h3, h4, h5, h6, h7, h8, h⟩
 case entryStore t x s v =>
  obtain ⟨id, h1, h⟩ := EF.1 h
  obtain ⟨o, h2, h⟩ := AP.1 h
  obtain ⟨m, rfl, h⟩ := FF.1 h
  obtain ⟨kk, n, h3, h⟩ := CR.1 h
  obtain ⟨vd, h4, h0, h⟩ := C6.1 h
  obtain ⟨p, h5, h⟩ := AP.1 h
  exact ⟨id, m, kk, n, vd, p, h1, h2, h3, h0, h5, h4, h⟩
 case range t x =>
  obtain ⟨ti, h1, h⟩ := AR.1 h
  obtain ⟨kt, et, h2, h⟩ := Dr.1 h
  try dsimp only at h
  unfold Wc at h
  split at h
  .rename_i e; exact ⟨ti, kt, et, [], h1, h2, .inl ⟨e, rfl⟩, h⟩
  .rename_i m e; exact ⟨ti, kt, et, m, h1, h2, .inr e, h⟩
  exact h.elim
 case next x s =>
  cases s with
  | true => exact h.elim
  | false =>
   simp only [BC] at h
   unfold Ue at h
   split at h
   .rename_i id e
    split at h
    .rename_i cur left hl
     exact ⟨rfl, id, cur, left, e, hl, h.1, h.2⟩
    exact h.elim
   exact h.elim
 case entry x =>
  unfold Uf at h
  split at h
  .rename_i id e
   split at h
   .rename_i p left hl
    exact ⟨id, p, left, e, hl, h⟩
   exact h.elim
  exact h.elim
 case call c =>
  obtain ⟨callee, args, ats⟩ := c
  try dsimp only at h
  unfold Jv at h
  simp only at h
  split at h
  .rename_i f
   obtain ⟨k, caps, g1, g2⟩ := Ts.1 h
   simp only [g1]
   exact g2
  .rename_i s x t t' e2 e3
   obtain ⟨rfl, h⟩ := h
   obtain ⟨ti, h1, h⟩ := AR.1 h
   obtain ⟨e, h2, h⟩ := CW.1 h
   obtain ⟨te, h3, h4, h⟩ := AR.1 h
   obtain ⟨new, h5, h6, h⟩ := AP.1 h
   have ha : args = #[s, x] := by rw [<- Array.toList_inj, e2]
   have hb : ats = #[t', t'] := by rw [<- Array.toList_inj, e3]
   simp only [mW]
   refine ⟨trivial, s, x, t', ha, hb, ti, e, te, h1, h2, h3, h4, new, h5, h6, ?_⟩
   try dsimp only at h
   unfold SE at h
   split at h
   .rename_i e; simp only [e]; exact ⟨h.1.1, h.1.2, h.2⟩
   .rename_i id sz off len e
    obtain ⟨hsz, h⟩ := h
    obtain ⟨o, g1, h⟩ := AP.1 h
    obtain ⟨e', sz', elems, rfl, ⟨k1, k2, g2, g3, g4⟩, h9⟩ := EU.1 h
    subst k1; subst k2
    try simp only [e]
    exact ⟨elems, hsz, g1, g2, g3, g4, h9⟩
   exact h.elim
  .rename_i x i t r e2 e3
   obtain ⟨ti, h1, h⟩ := AR.1 h
   obtain ⟨kt, et, h2, h⟩ := Dr.1 h
   obtain ⟨id, h3, h⟩ := EF.1 h
   obtain ⟨o, h4, h⟩ := AP.1 h
   obtain ⟨m, rfl, h⟩ := FF.1 h
   obtain ⟨kd, h5, ⟨h6, h7⟩, h⟩ := C6.1 h
   exact ⟨x, i, t, r, by rw [<- Array.toList_inj, e2], e3, ti, kt, et, id, m, kd, h1, h2, h3, h4, h5, h6, h7, h⟩
  .rename_i x t e2 e3
   obtain ⟨ti, h1, h⟩ := AR.1 h
   have ha : args = #[x] := by rw [<- Array.toList_inj, e2]
   have hb : ats = #[t] := by rw [<- Array.toList_inj, e3]
   simp only [nW]
   refine ⟨x, t, ti, ha, hb, h1, ?_⟩
   try dsimp only at h
   unfold Wb at h
   split at h
   .rename_i g; simp only [g]; exact h
   .rename_i g1 g2; simp only [g1, g2, KK]; exact h
   .rename_i g1 g2; simp only [g1, g2, KK]; exact h
   .rename_i g1 g2; simp only [g1, g2, KK]; exact h
   .rename_i g1 g2; simp only [g1, g2, KK]; exact h
   exact h.elim
  .obtain ⟨r, h1, h⟩ := AP.1 h
   simp only [nW]
   exact ⟨r, h1, h⟩
  .obtain ⟨r, h1, h⟩ := AP.1 h
   simp only [nW]
   exact ⟨r, h1, h⟩
  exact h.elim
 all_goals exact h.elim
theorem Qs (st : St) (ops : List Oper) (j : Nat) : Fg st (Ua ops j) = DI st ops.toArray j := by
 unfold Fg DI Ua
 simp only [List.getElem?_toArray]
 cases ops[j]? with
 | none => rfl
 | some o => cases hd : o.dst <;> simp [hd]
theorem Km (hE : A4 P AB) {ops : List Oper} {K : A0 St} {Q : Exit -> Act -> World -> Prop} (hQ : ∀ st a w, K.f st -> R A st a w -> Q .normal a w) :
  ∀ (l : List Oper) (st : St) (a : Act) (w : World), Em P A AB K (l.map (NI ops)) st -> R A st a w -> wpList P ops.toArray Q l a w
 | [], st, a, w, h, hR => hQ st a w h.h hR
 | o :: rest, st, a, w, h, hR => by
  have run : BC P A AB st o.dst o.op ⟨Em P A AB K (rest.map (NI ops)), ⟨⟩⟩ -> o.wp P a w (wpList P ops.toArray Q rest) Q := fun h =>
   Qn hE (QL h) hR fun st' a' w' hk hR' => Km hE hQ rest st' a' w' hk hR'
  have skip : Em P A AB K (rest.map (NI ops)) (st.put o.dst .und) -> wpList P ops.toArray Q rest (a.put o.dst undef) w := fun h => by
   obtain ⟨μ, hh, hs⟩ := hR.ex
   exact Km hE hQ rest _ _ _ h (hR.put hs hh .und)
  unfold wpList
  simp only [List.map_cons, NI] at h
  cases hg : o.guard with
  | none =>
   rw [hg] at h
   rw [if_pos (by simp [Region.wanted, hg])]
   exact .inl (run h)
  | some g =>
   obtain ⟨j, want⟩ := g
   rw [hg] at h
   simp only [Em, Qs] at h
   obtain ⟨μ, hh, hs⟩ := hR.ex
   obtain ⟨g1, g2⟩ := M8 (ops := ops.toArray) (j := j) (fun x => GJ hs x)
   unfold gM at h
   split at h
   .rename_i b hb
    have hy := g1 b hb
    by_cases e : b = want
    .rw [if_pos (by simp [Region.wanted, hg, hy, e])]
     exact .inl (run (h.1 e))
    rw [if_neg (by simp [Region.wanted, hg, hy, e])]
    exact skip (h.2 (by cases b <;> cases want <;> simp_all))
   .rename_i hb
    have hy := g2 hb
    rw [if_neg (by simp [Region.wanted, hg, hy])]
    exact skip h
   exact h.elim
theorem X0 (hE : A4 P AB) {id : Nat} {ops : List Oper} {ms : List G5} {y : Code} {Q : Exit -> St -> Prop} {st : St} (hm : ops.map (NI ops) = ms) (h : Em P A AB ⟨fun st' => B0 P A y Q st', ⟨⟩⟩ ms st) :
  B0 P A (.seq (.region id ops.toArray false) y) Q st :=
 AC fun a w hR => wp_region_lit (Km hE (fun st' _ _ hk hR' => ⟨st', hR', hk⟩) ops st a w (by rw [hm]; exact h) hR)
theorem Wg (hE : A4 P AB) {id : Nat} {ops : List Oper} {ms : List G5} {Q : Exit -> St -> Prop} {st : St} (hm : ops.map (NI ops) = ms) (h : Em P A AB ⟨fun st' => Q .normal st', ⟨⟩⟩ ms st) :
  B0 P A (.region id ops.toArray false) Q st :=
 fun a w hR => wp_region_lit (Km hE (fun st' _ _ hk hR' => ⟨st', hR', hk⟩) ops st a w (by rw [hm]; exact h) hR)
def A3 (A : BB) (st st' : St) : Prop := ∀ a w, R A st a w -> R A st' a w
theorem A3.refl (st : St) : A3 A st st := fun _ _ h => h
theorem A3.trans {a b c : St} (h : A3 A a b) (h' : A3 A b c) : A3 A a c := fun x w hR => h' x w (h x w hR)
theorem EV {c : Code} {Q : Exit -> St -> Prop} {st st' : St} (hw : A3 A st st') (h : B0 P A c Q st') : B0 P A c Q st := fun a w hR => h a w (hw a w hR)
def EW (gl : List (Nat × Nat)) : LV -> LV
 | .lsl id sz off len => .lsl ((AF id gl).getD 0) sz off len
 | .lpb id off => .lpb ((AF id gl).getD 0) off
 | .lpe id i off => .lpe ((AF id gl).getD 0) i off
 | .lmap id => .lmap ((AF id gl).getD 0)
 | .agg l => .agg (renLs gl l)
 | .tup l => .tup (renLs gl l)
 | .fn f l => .fn f (renLs gl l)
 | l => l
where renLs (gl : List (Nat × Nat)) : List LV -> List LV
 | [] => []
 | x :: l => EW gl x :: renLs gl l
def DT (gl : List (Nat × Nat)) : LV -> Bool
 | .lsl id _ _ _ | .lpb id _ | .lpe id _ _ | .lmap id => (AF id gl).isSome
 | .agg l | .tup l | .fn _ l => namesLs gl l
 | _ => true
where namesLs (gl : List (Nat × Nat)) : List LV -> Bool
 | [] => true
 | x :: l => DT gl x && namesLs gl l
theorem JR {gl : List (Nat × Nat)} : ∀ {ls : List LV} {i : Nat}, (EW.renLs gl ls)[i]? = (ls[i]?).map (EW gl)
 | [], i => by simp [EW.renLs]
 | x :: l, 0 => by simp [EW.renLs]
 | x :: l, i + 1 => by simpa [EW.renLs] using JR (ls := l)
theorem JS {gl : List (Nat × Nat)} : ∀ {ls : List LV}, (EW.renLs gl ls).length = ls.length
 | [] => rfl
 | x :: l => by simp [EW.renLs, JS (ls := l)]
theorem G7 {gl : List (Nat × Nat)} : ∀ {ls : List LV} {i : Nat} {x : LV}, DT.namesLs gl ls = true -> ls[i]? = some x -> DT gl x = true
 | [], i, x, _, h => by simp at h
 | y :: l, 0, x, hn, h => by simp at h; subst h; simp only [DT.namesLs, Bool.and_eq_true] at hn; exact hn.1
 | y :: l, i + 1, x, hn, h => by simp only [DT.namesLs, Bool.and_eq_true] at hn; exact G7 hn.2 (by simpa using h)
def FG (gl : List (Nat × Nat)) (μ : Nat -> Option BV) (id : Nat) : Option BV :=
 match AF id gl with
 | some old => μ old
 | none => none
theorem KL {O O' : Nat -> Prop} {μ : Nat -> Option BV} {w : World} {gl : List (Nat × Nat)} (hO : ∀ b, b < w.heap.size -> O' b -> O b) :
  ∀ (l : LV) (v : Value), DT gl l = true -> AW O μ w v (EW gl l) -> AW O' (FG gl μ) w v l
 | .p d, v, _, h => .p _ _ (h.p_inv.mono (BR.refl _ _) hO)
 | .und, v, _, h => by cases h; exact .und
 | .any, v, _, h => .any _
 | .lsl id sz off len, v, hn, h => by
  simp only [DT] at hn
  cases hl : AF id gl with
  | none => rw [hl] at hn; cases hn
  | some old =>
   simp only [EW, hl, Option.getD_some] at h
   have hm : ∀ loc, μ old = some loc -> FG gl μ id = some loc := fun loc h => by simp [FG, hl, h]
   cases h with
   | lsln _ loc h1 h2 => exact .lsln id loc (hm _ h1) h2
   | lsl _ _ _ cap a loc h1 h2 h3 h4 h5 h6 h7 => exact .lsl id _ _ cap a loc (hm _ h1) h2 h3 h4 h5 h6 h7
 | .lpb id off, v, hn, h => by
  simp only [DT] at hn
  cases hl : AF id gl with
  | none => rw [hl] at hn; cases hn
  | some old =>
   simp only [EW, hl, Option.getD_some] at h
   have hm : ∀ loc, μ old = some loc -> FG gl μ id = some loc := fun loc h => by simp [FG, hl, h]
   cases h with
   | lpb _ _ loc h1 h2 => exact .lpb id _ loc (hm _ h1) h2
 | .lpe id i off, v, hn, h => by
  simp only [DT] at hn
  cases hl : AF id gl with
  | none => rw [hl] at hn; cases hn
  | some old =>
   simp only [EW, hl, Option.getD_some] at h
   have hm : ∀ loc, μ old = some loc -> FG gl μ id = some loc := fun loc h => by simp [FG, hl, h]
   cases h with
   | lpe _ _ _ loc h1 h2 => exact .lpe id _ _ loc (hm _ h1) h2
 | .lmap id, v, hn, h => by
  simp only [DT] at hn
  cases hl : AF id gl with
  | none => rw [hl] at hn; cases hn
  | some old =>
   simp only [EW, hl, Option.getD_some] at h
   have hm : ∀ loc, μ old = some loc -> FG gl μ id = some loc := fun loc h => by simp [FG, hl, h]
   cases h with
   | lmap _ loc h1 h2 => exact .lmap id loc (hm _ h1) h2
 | .agg ls, v, hn, h => by
  simp only [EW] at h
  simp only [DT] at hn
  cases h with
  | agg vs _ hsz hr =>
   rw [JS] at hsz
   refine .agg vs ls hsz fun i u x h1 h2 => ?_
   have : SizeOf.sizeOf x < SizeOf.sizeOf ls := List.sizeOf_lt_of_mem (List.mem_of_getElem? h2)
   exact KL hO x u (G7 hn h2) (hr i u _ h1 (by rw [JR, h2]; rfl))
 | .tup ls, v, hn, h => by
  simp only [EW] at h
  simp only [DT] at hn
  cases h with
  | tup vs _ hsz hr =>
   rw [JS] at hsz
   refine .tup vs ls hsz fun i u x h1 h2 => ?_
   have : SizeOf.sizeOf x < SizeOf.sizeOf ls := List.sizeOf_lt_of_mem (List.mem_of_getElem? h2)
   exact KL hO x u (G7 hn h2) (hr i u _ h1 (by rw [JR, h2]; rfl))
 | .fn f ls, v, hn, h => by
  simp only [EW] at h
  simp only [DT] at hn
  cases h with
  | fn _ vs _ hsz hr =>
   rw [JS] at hsz
   refine .fn f vs ls hsz fun i u x h1 h2 => ?_
   have : SizeOf.sizeOf x < SizeOf.sizeOf ls := List.sizeOf_lt_of_mem (List.mem_of_getElem? h2)
   exact KL hO x u (G7 hn h2) (hr i u _ h1 (by rw [JR, h2]; rfl))
def Uh (gl : List (Nat × Nat)) : A2 -> A2
 | .box cells => .box (EW.renLs gl cells)
 | o => o
def SF (gl : List (Nat × Nat)) : A2 -> Bool
 | .box cells => DT.namesLs gl cells
 | _ => true
def Rg (gl : List (Nat × Nat)) (sl : List (Nat × LV)) : List (Nat × LV) -> Prop
 | [] => True
 | (t, l) :: rest => (DT gl l = true /\ Be sl t = EW gl l) /\ Rg gl sl rest
def Rh (gl : List (Nat × Nat)) (h : AM) : AM -> Prop
 | [] => True
 | (id, o) :: rest => (SF gl o = true /\ ∃ old, AF id gl = some old /\ AF old h = some (Uh gl o)) /\ Rh gl h rest
theorem PS {gl : List (Nat × Nat)} {sl : List (Nat × LV)} : ∀ {sl' : List (Nat × LV)}, Rg gl sl sl' -> ∀ t l, AF t sl' = some l -> DT gl l = true /\ Be sl t = EW gl l
 | [], _, t, l, h => by simp [AF] at h
 | (u, x) :: rest, ⟨h1, h2⟩, t, l, h => by
  simp only [AF] at h
  split at h
  .cases h; subst_vars; exact h1
  exact PS h2 t l h
theorem Gk {gl : List (Nat × Nat)} {hp : AM} : ∀ {h' : AM}, Rh gl hp h' -> ∀ id o, AF id h' = some o -> SF gl o = true /\ ∃ old, AF id gl = some old /\ AF old hp = some (Uh gl o)
 | [], _, id, o, h => by simp [AF] at h
 | (u, x) :: rest, ⟨h1, h2⟩, id, o, h => by
  simp only [AF] at h
  split at h
  .cases h; subst_vars; exact h1
  exact Gk h2 id o h
theorem MH {α : Type} {t : Nat} {v : α} : ∀ {l : List (Nat × α)}, AF t l = some v -> (t, v) ∈ l
 | [], h => by simp [AF] at h
 | (k, u) :: l, h => by
  simp only [AF] at h
  split at h
  .cases h; subst_vars; simp
  exact List.mem_cons_of_mem _ (MH h)
def PT (gl : List (Nat × Nat)) (h : AM) (c : Nat) : Bool := decide (h.map fun p => (AF p.1 gl).getD 0).Nodup && gl.all fun p => decide (p.1 < c)
theorem Wh {gl : List (Nat × Nat)} {h : AM} (hn : (h.map fun p => (AF p.1 gl).getD 0).Nodup) {a b : Nat × A2} (ha : a ∈ h) (hb : b ∈ h) (e : (AF a.1 gl).getD 0 = (AF b.1 gl).getD 0) : a = b := by
 induction h with
 | nil => simp at ha
 | cons x l ih =>
  simp only [List.map_cons, List.nodup_cons, List.mem_map, not_exists, not_and] at hn
  rcases List.mem_cons.1 ha with e1 | ha' <;> rcases List.mem_cons.1 hb with e2 | hb'
  .rw [e1, e2]
  .subst e1; exact absurd e.symm (hn.1 b hb')
  .subst e2; exact absurd e (hn.1 a ha')
  exact ih hn.2 ha' hb'
theorem Wi (gl : List (Nat × Nat)) {nt : Nat} {sl sl' : List (Nat × LV)} {h h' : AM} {c c' : Nat} (hext : ∀ id, A.μ0 id ≠ none -> AF id gl = some id) (ho : PT gl h' c' = true)
  (hs : Rg gl sl sl') (hh' : Rh gl h h') : A3 A ⟨nt, sl, h, c⟩ ⟨nt, sl', h', c'⟩ := fun a w ⟨⟨μ, hh, hr⟩, hnt, hdef⟩ => by
 simp only [PT, Bool.and_eq_true, decide_eq_true_eq, List.all_eq_true] at ho
 have hmine : ∀ b, By (FG gl μ) h' b -> By μ h b := by
  rintro b ⟨id, o, loc, h1, h2, h3, h4⟩
  obtain ⟨_, old, g1, g2⟩ := Gk hh' id o h1
  simp only [FG, g1] at h2
  exact ⟨old, _, loc, g2, h2, h3, h4⟩
 have hown : ∀ b, b < w.heap.size -> Aa A (FG gl μ) h' b -> Aa A μ h b := fun b _ hb => hb.imp id (hmine b)
 refine ⟨⟨FG gl μ, ⟨?_, ?_, ?_, ?_, hh.size, hh.block, hh.os, hh.tape, hh.output, ?_⟩, fun t ht => ?_⟩, hnt, hdef⟩
 .intro id o hid
  obtain ⟨hn, old, g1, g2⟩ := Gk hh' id o hid
  obtain ⟨loc, k1, k2⟩ := hh.obj old _ g2
  refine ⟨loc, by simp only [FG, g1]; exact k1, ?_⟩
  cases o with
  | box cells =>
   obtain ⟨a1, cs, ty, a2, a3, a4⟩ := k2
   rw [JS] at a3
   refine ⟨a1, cs, ty, a2, a3, fun i v l hv hl => KL hown l v (G7 hn hl) (a4 i v _ hv (by rw [JR, hl]; rfl))⟩
  | row e sz elems =>
   obtain ⟨a1, a2, a3⟩ := k2
   refine ⟨a1, a2, ?_⟩
   rcases a3 with a3 | ⟨b1, cs, b2, b3, b4, b5, b6⟩
   .exact .inl a3
   exact .inr ⟨b1, cs, b2, b3, b4, b5, fun i j x d v hx hd hv => (b6 i j x d v hx hd hv).mono (BR.refl _ _) hown⟩
  | map m =>
   obtain ⟨a1, es, clock, a2, a3, a4, a5⟩ := k2
   exact ⟨a1, es, clock, a2, a3, a4, fun i e p he hp => ⟨(a5 i e p he hp).1.mono (BR.refl _ _) hown, (a5 i e p he hp).2.mono (BR.refl _ _) hown⟩⟩
  | iter cur left => exact ⟨k2.1, k2.2.mono (BR.refl _ _) hown rfl⟩
 .intro id id' o o' loc loc' h1 h2 m1 m2 n1 n2 hb
  obtain ⟨_, old, g1, g2⟩ := Gk hh' id o h1
  obtain ⟨_, old', g1', g2'⟩ := Gk hh' id' o' h2
  simp only [FG, g1] at m1
  simp only [FG, g1'] at m2
  have := hh.inj _ _ _ _ _ _ g2 g2' m1 m2 n1 n2 hb
  have := Wh ho.1 (MH h1) (MH h2) (by simp only [g1, g1', Option.getD_some]; exact this)
  exact congrArg (·.1) this
 .intro id hid
  simp only [FG]
  cases hl : AF id gl with
  | none => rfl
  | some old =>
   have := ho.2 _ (MH hl)
   simp only [Fr] at hid
   omega
 .intro id o loc h1 m1 n1
  obtain ⟨_, old, g1, g2⟩ := Gk hh' id o h1
  simp only [FG, g1] at m1
  exact hh.base _ _ _ g2 m1 n1
 .intro id loc hm
  have := hext id (by rw [hm]; simp)
  simp only [FG, this]
  exact hh.ext _ _ hm
 show AW _ _ _ _ (match AF t sl' with | some v => v | none => .any)
 cases hl : AF t sl' with
 | none => exact .any _
 | some l =>
  obtain ⟨g1, g2⟩ := PS hs t l hl
  have := hr t ht
  simp only at this
  rw [g2] at this
  exact KL hown l _ g1 this
theorem CM {nt : Nat} {sl : List (Nat × LV)} {h : AM} {c : Nat} (t e sz : Nat) (ht : Be sl t = .p .nils) : A3 A ⟨nt, sl, h, c⟩ ⟨nt, (t, .lsl c sz 0 0) :: sl, (c, .row e sz []) :: h, c + 1⟩ := fun a w ⟨⟨μ, hh, hr⟩, hnt, hdef⟩ => by
 have hno := hh.fresh c (Nat.le_refl _)
 let loc : BV := ⟨true, 0, 0, sz, 0⟩
 have hsub : ∀ id x, AF id ((c, A2.row e sz []) :: h) = some x -> (id = c /\ x = .row e sz []) \/ AF id h = some x := by
  intro id x hx
  simp only [AF] at hx
  split at hx
  .cases hx; exact .inl ⟨‹_›, rfl⟩
  exact .inr hx
 have hadd := hh.add hno loc (.row e sz []) ((c, .row e sz []) :: h) (fun hn => by cases hn) (fun hn => by cases hn) hsub (BR.refl _ _) (fun _ _ _ _ _ _ _ => rfl) rfl rfl rfl ⟨rfl, by simp, .inl ⟨rfl, rfl⟩⟩
 have hown := hh.sub_add loc (.row e sz []) ((c, .row e sz []) :: h) (fun hn => by cases hn) hsub
 refine ⟨⟨_, hadd.less (F' := Fr (c + 1)) fun id hid => ?_, fun u hu => ?_⟩, hnt, hdef⟩
 .simp only [Fr] at hid ⊢; omega
 show AW _ _ _ _ (match AF u ((t, LV.lsl c sz 0 0) :: sl) with | some v => v | none => .any)
 simp only [AF]
 by_cases hut : u = t
 .subst hut
  rw [if_pos rfl]
  have := hr u hu
  simp only at this
  rw [ht] at this
  rw [this.nils_inv]
  exact .lsln c loc (by simp [Bs]) rfl
 rw [if_neg hut]
 exact (hr u hu).mono (BR.refl _ _) hown (I7 hno loc)
end
end Go.E
/- Loops whose states are told outright; parts of a body. No condition. -/
namespace Go.E
open Go Go.RowKit
section
variable {P : Program} {A : BB} {AB : Ay} {Q : Exit -> St -> Prop} {st : St}
theorem AE {next : St -> Prop} (h : next st) : N2 next Q .normal st := h
theorem AK {next : St -> Prop} (h : Q .ret st) : N2 next Q .ret st := h
theorem Al {next : St -> Prop} {id : Nat} (h : Q (.exit id) st) : N2 next Q (.exit id) st := h
theorem Aq {id : Nat} (h : Q .normal st) : GK id Q .normal st := h
theorem Ac {id : Nat} (h : Q .ret st) : GK id Q .ret st := h
theorem A5 {id : Nat} (h : Q .normal st) : GK id Q (.exit id) st := by simp only [GK, if_true]; exact h
theorem Zd {id id' : Nat} (hne : (id' == id) = false) (h : Q (.exit id') st) : GK id Q (.exit id') st := by
 simp only [GK]
 rw [if_neg (by simpa using hne)]; exact h
theorem Ye {P : Program} {AB : Ay} (hE : A4 P AB) {k : Nat} {fn : Func} {c : Code} (hf : P.funcs[k]? = some fn) (hb : fn.body = some c) (hn : (fn.name == "runtime.NumGoroutine") = false) (nt : Nat) (hnt : fn.ntmps = nt)
  (rs : List ResultVar) (hrs : fn.results.toList = rs) {ds : List DV} (hlen : ds.length <= nt) {Q : DV -> Prop}
  (h : ∀ A : BB, (∀ id, A.μ0 id = none) -> B0 P A c (L8 fun st => ∃ r, FC AB.tt rs st = some r /\ Q r) ⟨nt, C8 0 ds, [], 0⟩) : Bf P k ds Q := by
 subst hnt hrs
 exact PL hE hf hb hn hlen h
theorem Ze {h : AM} {c k : Nat} {args : List LV} {ds : List DV} {r : DV} {f : LV × AM × Nat -> Prop} {hf : H9 f} (hds : Bm h args = some ds) (hF : Bf P k ds (· = r))
  (hs : r.scalar = true \/ args.flatMap (DZ h) = []) (hK : f (.p r, h, c)) : IB P A h c k args ⟨f, hf⟩ :=
 C2.pure hds hF fun q hq => by
  subst hq
  split
  .exact hK
  rcases hs with hs | hs
  .exact absurd hs ‹_›
  rw [hs]; exact hK
theorem Zf {h h' : AM} {c k : Nat} {args : List LV} {ds : List DV} {r : DV} {f : LV × AM × Nat -> Prop} {hf : H9 f} (hds : Bm h args = some ds) (hF : Bf P k ds (· = r))
  (hs : r.scalar = false) (hd : B3 (args.flatMap (DZ h)) h = h') (hK : f (.p r, h', c)) : IB P A h c k args ⟨f, hf⟩ :=
 C2.pure hds hF fun q hq => by
  subst hq
  rw [if_neg (by simp [hs]), hd]; exact hK
def Le (r d : DV) : Prop := ∀ (O : Nat -> Prop) (w : World) (v : Value), Au O w v r -> Au O w v d
theorem Le.of_eq {r d : DV} (h : r = d) : Le r d := fun _ _ _ hv => h ▸ hv
theorem Le.nil (sz : Nat) : Le .nils (.slice sz []) := fun _ _ _ hv => by cases hv; exact .snil sz
theorem Le.tup {l m : List DV} (hl : l.length = m.length) (h : ∀ (i : Nat) (a b : DV), l[i]? = some a -> m[i]? = some b -> Le a b) : Le (.tup l) (.tup m) := fun O w v hv => by
 cases hv with
 | tup vs _ hsz hr =>
  refine .tup vs m (by omega) fun i u d h1 h2 => ?_
  have hi := (List.getElem?_eq_some_iff.1 h2).1
  have hx : l[i]? = some (l[i]'(by omega)) := List.getElem?_eq_getElem _
  exact h i _ d hx h2 O w u (hr i u _ h1 hx)
theorem Le.agg {l m : List DV} (hl : l.length = m.length) (h : ∀ (i : Nat) (a b : DV), l[i]? = some a -> m[i]? = some b -> Le a b) : Le (.agg l) (.agg m) := fun O w v hv => by
 cases hv with
 | agg vs _ hsz hr =>
  refine .agg vs m (by omega) fun i u d h1 h2 => ?_
  have hi := (List.getElem?_eq_some_iff.1 h2).1
  have hx : l[i]? = some (l[i]'(by omega)) := List.getElem?_eq_getElem _
  exact h i _ d hx h2 O w u (hr i u _ h1 hx)
theorem Le.cons {a b : DV} {l m : List DV} (h : Le a b) (hr : ∀ (i : Nat) (a b : DV), l[i]? = some a -> m[i]? = some b -> Le a b) : ∀ (i : Nat) (x y : DV), (a :: l)[i]? = some x -> (b :: m)[i]? = some y -> Le x y := fun i x y h1 h2 => by
 cases i with
 | zero => simp at h1 h2; subst h1 h2; exact h
 | succ i => exact hr i x y (by simpa using h1) (by simpa using h2)
theorem Yf {P : Program} {AB : Ay} (hE : A4 P AB) {k : Nat} {fn : Func} {c : Code} (hf : P.funcs[k]? = some fn) (hb : fn.body = some c) (hn : (fn.name == "runtime.NumGoroutine") = false) (nt : Nat) (hnt : fn.ntmps = nt)
  (rs : List ResultVar) (hrs : fn.results.toList = rs) {ds : List DV} (hlen : ds.length <= nt) {d : DV}
  (h : ∀ A : BB, (∀ id, A.μ0 id = none) -> B0 P A c (L8 fun st => ∃ r, FC AB.tt rs st = some r /\ Le r d) ⟨nt, C8 0 ds, [], 0⟩) : Bf P k ds (· = d) := by
 have := Ye hE hf hb hn nt hnt rs hrs hlen h
 exact ⟨this.enters, fun O w vs h1 h2 h3 => (this.run O w vs h1 h2 h3).mono fun _ _ ⟨v, r, e, hr, q, hb⟩ => ⟨v, d, e, q _ _ _ hr, rfl, hb⟩⟩
end
end Go.E
/- The equations by which a walk is reckoned. Written by a program (mkev.py). No condition. -/
namespace Go.E
open Go Go.RowKit
theorem SG : ∀ l : List DV, F2 (l.map .p) = some l
 | [] => rfl
 | x :: l => by simp [F2, SG l]
end Go.E
/- Drawn regions in short form. Conditions: GM and mixedOrders, by kernel. -/
namespace Go.E
open Go Go.RowKit
def Wj (P : Program) (h : AM) (k : Nat) (args : List LV) (K : A0 DV) : Prop :=
 ∃ ds r, Bm h args = some ds /\ Bf P k ds (· = r) /\ (r.scalar = true \/ args.flatMap (DZ h) = []) /\ K.f r
def AAB (P : Program) (AB : Ay) (h : AM) (k : Nat) (args : List LV) (K : A0 (Nat × Nat × List (List DV))) : Prop :=
 AB.own = true /\ ∃ ds t sz elems, Bm h args = some ds /\ FD P k ds t sz elems /\ UV (args.flatMap (DZ h)) elems /\ K.f (t, sz, elems)
def Xb (AB : Ay) (neg : Bool) (t : Nat) (x y : LV) (k : A0 LV) : Prop :=
 match y with
 | .p .nils => False
 | y => Tr AB neg t x y k
def SH (AB : Ay) (op : BinOp) (t : Nat) (x y : LV) (k : A0 LV) : Prop :=
 match x, y with
 | .p (.int k1 a), .p (.int k2 b) => k1 = k2 /\ Lb op k1 a b k
 | x, y => match op with
  | .eql => Xb AB false t x y k
  | .neq => Xb AB true t x y k
  | _ => False
def Ui (sh : Sh) (x : LV) (k : A0 LV) : Prop :=
 match sh, x with
 | .arr n _, _ => k.f (.p (.int .i64 n))
 | .slc _, .p (.slice _ l) => k.f (.p (.int .i64 l.length))
 | .slc _, .p .nils => k.f (.p (.int .i64 0))
 | .slc _, .lsl _ _ _ len => k.f (.p (.int .i64 len))
 | .str, .p (.str s) => k.f (.p (.int .i64 s.size))
 | _, _ => False
def Hw (P : Program) (A : BB) (AB : Ay) (st : St) (dst : Option Tmp) (op : Op) (K : A0 St) : Prop :=
 match op with
 | .binOp op t x y _ => SH AB op t (st.eval x) (st.eval y) ⟨fun l => K.f (st.put dst l), ⟨⟩⟩
 | .call c => match c.callee, c.args.toList, c.argTypes.toList with
  | .builtin .len, [x], [t] => Ck AB t ⟨fun ti => Ui ti.sh (st.eval x) ⟨fun l => K.f (st.put dst l), ⟨⟩⟩, ⟨⟩⟩
  | .builtin .len, _, _ => False
  | .builtin .delete, _, _ => False
  | .builtin .append, s :: _, _ => LU AB.calm (st.eval s) = true /\ BC P A AB st dst (.call c) K
  | .value f, args, _ => if Cq f = true then ∃ l h', Re P AB st c l h' /\ K.f (st.go dst l h' (st.ctr + 1)) else Lc (st.eval f) ⟨fun g => Wj P st.heap g.1 (args.map st.eval ++ g.2) ⟨fun r => K.f (st.put dst (.p r)), ⟨⟩⟩ \/
    AAB P AB st.heap g.1 (args.map st.eval ++ g.2) ⟨fun r => K.f (({ st with heap := (st.ctr, .row r.1 r.2.1 r.2.2) :: st.heap, ctr := st.ctr + 1 } : St).put dst (.lsl st.ctr r.2.1 0 r.2.2.length)), ⟨⟩⟩, ⟨⟩⟩
  | _, _, _ => BC P A AB st dst (.call c) K
 | .range _ _ => False
 | .next _ _ => False
 | .entry _ => False
 | .load t x => LW AB.calm (st.eval x) = true /\ BC P A AB st dst (.load t x) K
 | .store t x v => KE AB.calm (st.eval x) = true /\ BC P A AB st dst (.store t x v) K
 | op => BC P A AB st dst op K
def C4 (P : Program) (A : BB) (AB : Ay) (base n : Nat) (K : A0 St) : List (Nat × G5) -> St -> Prop
 | [], st => Yd K (st.at (base + n))
 | (i, ⟨dst, op, none⟩) :: rest, st => Hw P A AB (st.at (base + i)) dst op ⟨C4 P A AB base n K rest, ⟨⟩⟩
 | (i, ⟨dst, op, some (d, want)⟩) :: rest, st => gM (Fg st d) want ⟨fun _ => Hw P A AB (st.at (base + i)) dst op ⟨C4 P A AB base n K rest, ⟨⟩⟩, ⟨⟩⟩ ⟨fun _ => C4 P A AB base n K rest (st.put dst .und), ⟨⟩⟩
section
variable {P : Program} {A : BB} {AB : Ay}
theorem St.at_at (st : St) (c d : Nat) : (st.at c).at d = st.at d := rfl
theorem X1 {v : LV} {want : Bool} {f f' g g' : Unit -> Prop} (h1 : f () = f' ()) (h2 : g () = g' ()) : gM v want ⟨f, ⟨⟩⟩ ⟨g, ⟨⟩⟩ = gM v want ⟨f', ⟨⟩⟩ ⟨g', ⟨⟩⟩ := by
 unfold gM
 split
 .simp only [gW, h1, h2]
 .exact h2
 rfl
theorem PU (base n : Nat) (K : A0 St) (l : List (Nat × G5)) : ∀ (st : St) (c : Nat), C4 P A AB base n K l (st.at c) = C4 P A AB base n K l st := by
 induction l with
 | nil => intro st c; rfl
 | cons p l ih =>
  intro st c
  obtain ⟨i, dst, op, g⟩ := p
  cases g with
  | none => rfl
  | some g =>
   obtain ⟨d, want⟩ := g
   have e1 : Fg (st.at c) d = Fg st d := by cases d <;> rfl
   have e2 : C4 P A AB base n K l ((st.at c).put dst .und) = C4 P A AB base n K l (st.put dst .und) := by
    have : (st.at c).put dst .und = (st.put dst .und).at c := by cases dst <;> rfl
    rw [this, ih]
   simp only [C4, e1, St.at_at]
   exact X1 rfl e2
theorem Tv {neg : Bool} {t : Nat} {x y : LV} {k : A0 LV} (h : Xb AB neg t x y k) : ∃ l, Qr AB neg t x y (· = l) /\ k.f l := by
 unfold Xb at h
 split at h
 .exact h.elim
 rename_i hne
 unfold Tr at h
 unfold Qr
 split at h
 .exact ⟨_, rfl, h⟩
 .obtain ⟨ti, h1, h2, h3⟩ := AR.1 h; exact ⟨_, ⟨⟨ti, h1, h2⟩, rfl⟩, h3⟩
 .obtain ⟨ks, h1, h2, h3, h4⟩ := AP.1 h; exact ⟨_, ⟨ks, h1, h2, h3, rfl⟩, h4⟩
 .exact absurd rfl hne
 .exact absurd rfl hne
 .exact absurd rfl hne
 .exact ⟨_, ⟨h.1, rfl⟩, h.2⟩
 .exact ⟨_, ⟨h.1, rfl⟩, h.2⟩
 .exact ⟨_, ⟨h.1, rfl⟩, h.2⟩
 exact h.elim
theorem Wk {op : BinOp} {t : Nat} {x y : LV} {k : A0 LV} (h : SH AB op t x y k) : ∃ l, QK AB op t x y (· = l) /\ k.f l := by
 unfold SH at h
 unfold QK
 split at h
 .obtain ⟨v, h1, h2⟩ := OR h.2
  exact ⟨_, ⟨h.1, v, h1, rfl⟩, h2⟩
 rename_i hne
 split
 .exact absurd rfl (hne _ _ _ _ rfl)
 split at h
 .exact Tv h
 .exact Tv h
 exact h.elim
theorem MI {place : Nat -> Option (Nat × Nat)} {k : A0 (List LV)} : ∀ {ps : List (Nat × LV)} {cells : List LV}, KH AB place cells ps k -> ∃ l, IC AB place cells ps (· = l) /\ k.f l
 | [], _, h => ⟨_, rfl, h⟩
 | (i, v) :: rest, cells, h => by
  obtain ⟨p, h1, h⟩ := AP.1 h
  obtain ⟨ti, h2, h⟩ := AR.1 h
  obtain ⟨ls, h3, ⟨h4, h5⟩, h⟩ := AP.1 h
  obtain ⟨l, h6, h7⟩ := MI h
  exact ⟨l, ⟨p.1, p.2, ti, ls, h1, h2, h3, h4, h5, h6⟩, h7⟩
theorem MJ {place : Nat -> Option (Nat × Nat)} {f : List LV -> LV} {l : List LV} : ∀ {ps : List (Nat × LV)} {cells : List LV}, IC AB place cells ps (· = l) -> IC AB place cells ps fun c => f c = f l
 | [], _, h => congrArg f h
 | (i, v) :: rest, cells, ⟨off, t, ti, ls, h1, h2, h3, h4, h5, h6⟩ => ⟨off, t, ti, ls, h1, h2, h3, h4, h5, MJ h6⟩
theorem Io {d : Int} {x : Option LV} {k : A0 Int} (h : LG d x k) : ∃ n, (∀ k' : Int -> Prop, k' n -> Fh d x k') /\ k.f n := by
 unfold LG at h; unfold Fh
 split at h
 .exact ⟨_, fun _ h => h, h⟩
 .exact ⟨_, fun _ h => h, h⟩
 exact h.elim
theorem Ve {h : AM} {ti : TI} {p : LV} {k : A0 LV} (hl : PR h ti p k) : ∃ l, F5 h ti p (· = l) /\ k.f l := by
 unfold PR at hl
 unfold F5
 split at hl
 .obtain ⟨r, h1, h2⟩ := AP.1 hl
  exact ⟨r, ⟨r, h1, rfl⟩, h2⟩
 .obtain ⟨o, h1, hl⟩ := AP.1 hl
  obtain ⟨cells, rfl, hl⟩ := Il.1 hl
  obtain ⟨r, h2, h3⟩ := AP.1 hl
  exact ⟨r, ⟨cells, r, h1, h2, rfl⟩, h3⟩
 .obtain ⟨o, h1, hl⟩ := AP.1 hl
  obtain ⟨e, sz, elems, rfl, hl⟩ := EU.1 hl
  obtain ⟨x, h2, hl⟩ := AP.1 hl
  obtain ⟨r, h3, h4⟩ := AP.1 hl
  exact ⟨r, ⟨e, sz, elems, x, r, h1, h2, h3, rfl⟩, h4⟩
 exact hl.elim
theorem Uj {t : Nat} {x : LV} {lo hi : Option LV} {k : A0 LV} (h : NK AB t x lo hi k) : ∃ l, KJ AB t x lo hi (· = l) /\ k.f l := by
 unfold NK at h
 unfold KJ
 split at h
 .obtain ⟨ti, h1, h⟩ := AR.1 h
  obtain ⟨e, h2, h⟩ := CW.1 h
  obtain ⟨te, h3, h4, h⟩ := AR.1 h
  obtain ⟨a, ka, h⟩ := Io h
  obtain ⟨b, kb, h5, h⟩ := Io h
  exact ⟨_, ⟨⟨ti, e, h1, h2, te, h3, h4⟩, ka _ (kb _ ⟨h5.1, h5.2.1, h5.2.2, rfl⟩)⟩, h⟩
 .obtain ⟨ti, h1, h⟩ := AR.1 h
  obtain ⟨e, h2, h⟩ := CW.1 h
  obtain ⟨te, h3, h4, h6, h⟩ := AR.1 h
  obtain ⟨a, ka, h⟩ := Io h
  obtain ⟨b, kb, h5, h⟩ := Io h
  exact ⟨_, ⟨⟨ti, e, h1, h2, te, h3, h4⟩, h6, ka _ (kb _ ⟨h5.1, h5.2.1, h5.2.2, rfl⟩)⟩, h⟩
 .obtain ⟨ti, h1, h2, h⟩ := AR.1 h
  obtain ⟨a, ka, h⟩ := Io h
  obtain ⟨b, kb, h5, h⟩ := Io h
  exact ⟨_, ⟨⟨ti, h1, h2⟩, ka _ (kb _ ⟨h5.1, h5.2.1, h5.2.2, rfl⟩)⟩, h⟩
 exact h.elim
theorem X2 {st : St} {dst : Option Tmp} {op : Op} {K : A0 St} (hK : ∀ (s : St) (c : Nat), K.f (s.at c) -> K.f s) (h : Hw P A AB st dst op K) {o : Oper} (ho : o.dst = dst) :
  ∃ l e, CE P AB st op l e /\ K.f (apS st st.ctr o l e) := by
 subst ho
 have keep : ∀ l, K.f (st.put o.dst l) -> K.f (apS st st.ctr o l .keep) := fun l h => by
  have : apS st st.ctr o l .keep = st.put o.dst l := rfl
  rw [this]; exact h
 have goes : ∀ l e h' c, e.ap st.ctr st.heap = h' -> K.f (st.go o.dst l h' c) -> K.f (apS st st.ctr o l e) := fun l e h' c he hk => by
  refine hK _ c ?_
  have : (apS st st.ctr o l e).at c = st.go o.dst l h' c := by
   unfold apS St.go St.at St.put
   rw [he]
   cases o.dst <;> rfl
  rw [this]; exact hk
 have nC : ∀ l, nW AB st op (· = l) -> (CE P AB st op l .keep ↔ (Do.keep = Do.keep /\ nW AB st op (· = l))) -> K.f (st.put o.dst l) -> ∃ l e, CE P AB st op l e /\ K.f (apS st st.ctr o l e) :=
  fun l h1 h2 h3 => ⟨l, .keep, h2.2 ⟨rfl, h1⟩, keep l h3⟩
 cases op <;> simp only [Hw, BC] at h
 case move x => exact nC _ rfl Iff.rfl h
 case assign x => exact nC _ rfl Iff.rfl h
 case pick c a b => obtain ⟨t, h1, h2⟩ := Kl.1 h; exact nC _ ⟨t, h1, rfl⟩ Iff.rfl h2
 case nilCheck x =>
  unfold WY at h
  split at h <;> first | exact h.elim | (rename_i e; refine nC _ ?_ Iff.rfl h; simp only [nW, e]; exact ⟨trivial, trivial⟩)
 case binOp op t x y z => obtain ⟨l, h1, h2⟩ := Wk h; exact nC l h1 Iff.rfl h2
 case unOp op t x =>
  cases op <;> simp only at h
  case neg => obtain ⟨kk, n, h1, h2⟩ := CR.1 h; exact nC _ (by simp only [nW, Tu, h1]) Iff.rfl h2
  case not => obtain ⟨b, h1, h2⟩ := Kl.1 h; exact nC _ (by simp only [nW, Tu, h1]) Iff.rfl h2
 case convert s d x =>
  obtain ⟨kk, n, h1, h⟩ := CR.1 h
  obtain ⟨tj, h2, h⟩ := AR.1 h
  obtain ⟨ti, h3, h⟩ := AR.1 h
  obtain ⟨kd, h4, h⟩ := AP.1 h
  refine nC _ ⟨kk, n, ti, tj, h1, h2, h3, kd, ?_, rfl⟩ Iff.rfl h
  generalize ti.sh = q at h4
  cases q <;> simp [Ud] at h4
  rw [h4]
 case extract t i =>
  unfold WZ at h
  split at h
  .rename_i l hl; obtain ⟨v, h1, h2⟩ := AP.1 h; exact nC v (by simp only [nW, hl]; exact ⟨v, h1, rfl⟩) Iff.rfl h2
  .rename_i l hl; obtain ⟨v, h1, h2⟩ := AP.1 h; exact nC _ (by simp only [nW, hl]; exact ⟨v, h1, rfl⟩) Iff.rfl h2
  exact h.elim
 case field t x i =>
  obtain ⟨ti, h1, h⟩ := AR.1 h
  obtain ⟨fs, h2, h⟩ := ET.1 h
  obtain ⟨f, h3, h⟩ := AP.1 h
  obtain ⟨tf, h4, h⟩ := AR.1 h
  try dsimp only at h
  unfold Wa at h
  split at h
  .rename_i l hl
   obtain ⟨v, h5, h6⟩ := AP.1 h
   exact nC v ⟨ti, fs, f.1, f.2, tf, l, v, h1, h2, h3, h4, by rw [hl]; rfl, by rw [hl]; trivial, h5, rfl⟩ Iff.rfl h6
  .rename_i l hl
   obtain ⟨v, h5, h6⟩ := AP.1 h
   exact nC v ⟨ti, fs, f.1, f.2, tf, l.map .p, v, h1, h2, h3, h4, by rw [hl]; rfl, by rw [hl]; trivial, h5, rfl⟩ Iff.rfl h6
  exact h.elim
 case build t ps =>
  obtain ⟨ti, h1, h⟩ := AR.1 h
  try dsimp only at h
  unfold NJ at h
  split at h
  .rename_i fs hsh
   obtain ⟨l, h2, h3⟩ := MI h.2
   exact nC _ ⟨ti, h1, by simp only [hsh]; exact ⟨h.1, MJ h2⟩⟩ Iff.rfl h3
  .rename_i n e hsh
   obtain ⟨te, h2, h⟩ := AR.1 h
   obtain ⟨l, h3, h4⟩ := MI h
   exact nC _ ⟨ti, h1, by simp only [hsh]; exact ⟨te, h2, MJ h3⟩⟩ Iff.rfl h4
  exact h.elim
 case fieldAddr t x i =>
  obtain ⟨ti, h1, h⟩ := AR.1 h
  obtain ⟨fs, h2, h⟩ := ET.1 h
  obtain ⟨f, h3, h⟩ := AP.1 h
  obtain ⟨tf, h4, h5, h⟩ := AR.1 h
  try dsimp only at h
  unfold Ub at h
  split at h <;> first | exact h.elim | (rename_i e; exact nC _ ⟨ti, fs, f.1, f.2, tf, h1, h2, h3, h4, h5, by simp only [e]⟩ Iff.rfl h)
 case indexAddr t x i =>
  obtain ⟨kk, n, h1, h⟩ := CR.1 h
  obtain ⟨ti, h2, h⟩ := AR.1 h
  try dsimp only at h
  unfold Yb at h
  split at h
  .rename_i e1 e2
   obtain ⟨te, g1, g2, g3, h⟩ := AR.1 h
   obtain ⟨c, g4, g5⟩ := AP.1 h
   exact nC _ ⟨kk, n, ti, h1, h2, by simp only [e1, e2]; exact ⟨⟨te, g1, g2⟩, g3, c, g4, rfl⟩⟩ Iff.rfl g5
  .rename_i e1 e2
   obtain ⟨te, g1, g2, ⟨g3, g4⟩, h⟩ := AR.1 h
   exact nC _ ⟨kk, n, ti, h1, h2, by simp only [e1, e2]; exact ⟨⟨te, g1, g2⟩, g3, g4, trivial⟩⟩ Iff.rfl h
  .rename_i e1 e2
   obtain ⟨te, g1, ⟨g2, g3⟩, h⟩ := AR.1 h
   exact nC _ ⟨kk, n, ti, h1, h2, by simp only [e1, e2]; exact ⟨te, g1, g2, g3, rfl⟩⟩ Iff.rfl h
  .rename_i e1 e2
   obtain ⟨te, g1, ⟨g2, g3⟩, h⟩ := AR.1 h
   exact nC _ ⟨kk, n, ti, h1, h2, by simp only [e1, e2]; exact ⟨te, g1, g2, g3, rfl⟩⟩ Iff.rfl h
  exact h.elim
 case index t x i =>
  obtain ⟨kk, n, h1, h⟩ := CR.1 h
  obtain ⟨ti, h2, h0, h⟩ := AR.1 h
  try dsimp only at h
  unfold Yc at h
  split at h
  .rename_i e1 e2
   obtain ⟨te, g1, g2, h⟩ := AR.1 h
   obtain ⟨v, g3, g4⟩ := AP.1 h
   exact nC v ⟨kk, n, ti, h1, h2, h0, by simp only [e1, e2]; exact ⟨te, v, g1, g2, g3, rfl⟩⟩ Iff.rfl g4
  .rename_i e1 e2
   obtain ⟨te, g1, g2, h⟩ := AR.1 h
   obtain ⟨v, g3, g4⟩ := AP.1 h
   exact nC v ⟨kk, n, ti, h1, h2, h0, by simp only [e1, e2]; exact ⟨te, v, g1, g2, g3, rfl⟩⟩ Iff.rfl g4
  .rename_i e1 e2
   obtain ⟨c, g1, g2⟩ := AP.1 h
   exact nC _ ⟨kk, n, ti, h1, h2, h0, by simp only [e1, e2]; exact ⟨c, g1, rfl⟩⟩ Iff.rfl g2
  exact h.elim
 case makeFunc fn first caps =>
  cases fn <;> simp only at h
  rename_i f
  exact nC _ ⟨by simpa using h.1, f, rfl, rfl⟩ Iff.rfl h.2
 case slice t x lo hi mx =>
  cases mx with
  | some m => exact h.elim
  | none => obtain ⟨l, h1, h2⟩ := Uj h; exact nC l ⟨rfl, h1⟩ Iff.rfl h2
 case load t x =>
  obtain ⟨hc', h⟩ := h
  obtain ⟨ti, h1, h2⟩ := AR.1 h
  obtain ⟨l, h3, h4⟩ := Ve h2
  exact ⟨l, .keep, ⟨rfl, hc', ti, h1, h3⟩, keep l h4⟩
 case store t x v =>
  obtain ⟨hc', h⟩ := h
  obtain ⟨ti, h1, h⟩ := AR.1 h
  obtain ⟨ls, h2, ⟨h3, h4⟩, h⟩ := AP.1 h
  try dsimp only at h
  unfold SD at h
  split at h
  .rename_i id off e
   obtain ⟨o', g1, h⟩ := AP.1 h
   obtain ⟨cells, rfl, g2, h⟩ := Il.1 h
   refine ⟨.any, .set _, ⟨hc', _, rfl, ?_⟩, goes _ _ _ _ rfl h⟩
   simp only [mW, JQ]
   exact ⟨ti, h1, ls, h2, h3, h4, by simp only [e]; exact ⟨cells, g1, g2, trivial, rfl⟩⟩
  .rename_i id i off e
   obtain ⟨o', g1, h⟩ := AP.1 h
   obtain ⟨e', sz, elems, rfl, h⟩ := EU.1 h
   obtain ⟨x, g2, h⟩ := AP.1 h
   obtain ⟨ds, g3, g4, h⟩ := AP.1 h
   refine ⟨.any, .set _, ⟨hc', _, rfl, ?_⟩, goes _ _ _ _ rfl h⟩
   simp only [mW, JQ]
   exact ⟨ti, h1, ls, h2, h3, h4, by simp only [e]; exact ⟨e', sz, elems, x, ds, g1, g2, g4, g3, trivial, rfl⟩⟩
  exact h.elim
 case alloc t => obtain ⟨ti, h1, h2⟩ := AR.1 h; exact ⟨_, .new _, ⟨ti, h1, rfl, rfl⟩, goes _ _ _ _ rfl h2⟩
 case box t x => obtain ⟨ls, h1, h2⟩ := AP.1 h; exact ⟨_, .new _, ⟨ls, h1, rfl, rfl⟩, goes _ _ _ _ rfl h2⟩
 case buildSlice t n ps =>
  obtain ⟨ti, h1, h⟩ := AR.1 h
  obtain ⟨e, h2, h⟩ := CW.1 h
  obtain ⟨te, h3, ⟨h4, h5⟩, h⟩ := AR.1 h
  obtain ⟨l, h6, h7, h⟩ := AP.1 h
  rcases h with h | h
  .exact ⟨_, .new _, ⟨ti, e, te, l, h1, h2, h3, h4, h5, h6, h7, .inl ⟨rfl, rfl⟩⟩, goes _ _ _ _ rfl h⟩
  exact ⟨_, .keep, ⟨ti, e, te, l, h1, h2, h3, h4, h5, h6, h7, .inr ⟨rfl, rfl⟩⟩, keep _ h⟩
 case makeSlice t l c =>
  obtain ⟨ti, h1, h⟩ := AR.1 h
  obtain ⟨e, h2, h⟩ := CW.1 h
  obtain ⟨te, h3, h⟩ := AR.1 h
  obtain ⟨k1, n, h4, h⟩ := CR.1 h
  obtain ⟨k2, n', h5, ⟨h9, h6, h7, h8⟩, h⟩ := CR.1 h
  simp only at h9
  subst h9
  rcases h with h | h
  .exact ⟨_, .new _, ⟨ti, e, te, n', k1, k2, h1, h2, h3, h4, h5, h6, h7, h8, .inl ⟨rfl, rfl⟩⟩, goes _ _ _ _ rfl h⟩
  exact ⟨_, .keep, ⟨ti, e, te, n', k1, k2, h1, h2, h3, h4, h5, h6, h7, h8, .inr ⟨rfl, rfl⟩⟩, keep _ h⟩
 case makeMap t r =>
  cases r with
  | some r => exact h.elim
  | none => exact ⟨_, .new _, ⟨rfl, rfl, rfl⟩, goes _ _ _ _ rfl h⟩
 case lookup t x i ok =>
  obtain ⟨ti, h1, h⟩ := AR.1 h
  obtain ⟨kt, et, h2, h⟩ := Dr.1 h
  obtain ⟨te, h3, h⟩ := AR.1 h
  obtain ⟨m, h4, h⟩ := AP.1 h
  obtain ⟨kd, h5, ⟨h6, h7⟩, h⟩ := C6.1 h
  exact ⟨_, .keep, ⟨rfl, ti, kt, et, te, m, kd, h1, h2, h3, h4, h5, h6, h7, rfl⟩, keep _ h⟩
 case mapUpdate t x i v =>
  obtain ⟨ti, h1, h⟩ := AR.1 h
  obtain ⟨kt, et, h2, h⟩ := Dr.1 h
  obtain ⟨id, h3, h⟩ := EF.1 h
  obtain ⟨o', h4, h⟩ := AP.1 h
  obtain ⟨m, rfl, h⟩ := FF.1 h
  obtain ⟨kd, h5, h⟩ := C6.1 h
  obtain ⟨vd, h6, ⟨h7, h8⟩, h⟩ := C6.1 h
  refine ⟨.any, .set _, ⟨_, rfl, ?_⟩, goes _ _ _ _ rfl h⟩
  simp only [mW, LY]
  exact ⟨ti, kt, et, id, m, kd, vd, h1, h2, h3, h4, h5, h6, h7, h8, trivial, rfl⟩
 case mapEntry t x i =>
  obtain ⟨ti, h1, h⟩ := AR.1 h
  obtain ⟨kt, et, h2, h⟩ := Dr.1 h
  obtain ⟨te, h3, h⟩ := AR.1 h
  obtain ⟨id, h4, h⟩ := EF.1 h
  obtain ⟨o', h5, h⟩ := AP.1 h
  obtain ⟨m, rfl, h⟩ := FF.1 h
  obtain ⟨kd, h6, ⟨h7, h8⟩, h⟩ := C6.1 h
  refine ⟨_, .set _, ⟨_, rfl, ?_⟩, goes _ _ _ _ rfl h⟩
  simp only [mW, LZ]
  exact ⟨ti, kt, et, te, id, m, kd, h1, h2, h3, h4, h5, h6, h7, h8, rfl, rfl⟩
 case entryStore t x s v =>
  obtain ⟨id, h1, h⟩ := EF.1 h
  obtain ⟨o', h2, h⟩ := AP.1 h
  obtain ⟨m, rfl, h⟩ := FF.1 h
  obtain ⟨kk, n, h3, h⟩ := CR.1 h
  obtain ⟨vd, h4, h0, h⟩ := C6.1 h
  obtain ⟨p, h5, h⟩ := AP.1 h
  refine ⟨.any, .set _, ⟨_, rfl, ?_⟩, goes _ _ _ _ rfl h⟩
  simp only [mW, NE]
  exact ⟨id, m, kk, n, vd, p, h1, h2, h3, h0, h5, h4, trivial, rfl⟩
 case call c =>
  obtain ⟨callee, args, ats⟩ := c
  simp only at h
  split at h
  .rename_i x t e2 e3
   obtain ⟨ti, h1, h⟩ := AR.1 h
   have ha : args = #[x] := by rw [<- Array.toList_inj, e2]
   have hb : ats = #[t] := by rw [<- Array.toList_inj, e3]
   try dsimp only at h
   unfold Ui at h
   split at h
   .rename_i g; exact nC _ (by simp only [nW]; exact ⟨x, t, ti, ha, hb, h1, by simp only [g]⟩) Iff.rfl h
   .rename_i g1 g2; exact nC _ (by simp only [nW]; exact ⟨x, t, ti, ha, hb, h1, by simp only [g1, g2, KK]; try (intros; trivial)⟩) Iff.rfl h
   .rename_i g1 g2; exact nC _ (by simp only [nW]; exact ⟨x, t, ti, ha, hb, h1, by simp only [g1, g2, KK]; try (intros; trivial)⟩) Iff.rfl h
   .rename_i g1 g2; exact nC _ (by simp only [nW]; exact ⟨x, t, ti, ha, hb, h1, by simp only [g1, g2, KK]; try (intros; trivial)⟩) Iff.rfl h
   .rename_i g1 g2; exact nC _ (by simp only [nW]; exact ⟨x, t, ti, ha, hb, h1, by simp only [g1, g2, KK]; try (intros; trivial)⟩) Iff.rfl h
   exact h.elim
  .exact h.elim
  .exact h.elim
  .rename_i s0 r0 e20
   obtain ⟨hap, h⟩ := h
   have h : Jv P A AB st o.dst ⟨.builtin .append, args, ats⟩ K := h
   unfold Jv at h
   simp only at h
   split at h
   .simp_all
   .rename_i s x t t' _ e2 e3
    obtain ⟨rfl, h⟩ := h
    obtain ⟨ti, h1, h⟩ := AR.1 h
    obtain ⟨e, h2, h⟩ := CW.1 h
    obtain ⟨te, h3, h4, h⟩ := AR.1 h
    obtain ⟨new, h5, h6, h⟩ := AP.1 h
    have ha : args = #[s, x] := by rw [<- Array.toList_inj, e2]
    have hap : VW AB st ⟨.builtin .append, args, ats⟩ := fun s' hs' => by
     rw [ha] at hs'; cases hs'
     have : s0 = s := by rw [e20] at e2; injection e2
     rw [<- this]; exact hap
    have hb : ats = #[t', t'] := by rw [<- Array.toList_inj, e3]
    try dsimp only at h
    unfold SE at h
    split at h
    .rename_i e9
     refine ⟨_, .set _, ⟨hap, _, rfl, ?_⟩, goes _ _ _ _ rfl h.2⟩
     simp only [mW]
     exact ⟨trivial, s, x, t', ha, hb, ti, e, te, h1, h2, h3, h4, new, h5, h6, by simp only [e9]; exact ⟨h.1.1, h.1.2, trivial, trivial⟩⟩
    .rename_i id sz off len e9
     obtain ⟨hsz, h⟩ := h
     obtain ⟨o', g1, h⟩ := AP.1 h
     obtain ⟨e', sz', elems, rfl, ⟨k1, k2, g2, g3, g4⟩, h9⟩ := EU.1 h
     subst k1; subst k2
     refine ⟨_, .set _, ⟨hap, _, rfl, ?_⟩, goes _ _ _ _ rfl h9⟩
     simp only [mW]
     exact ⟨trivial, s, x, t', ha, hb, ti, e', te, h1, h2, h3, h4, new, h5, h6, by simp only [e9]; exact ⟨elems, hsz, g1, g2, g3, g4, trivial, rfl⟩⟩
    exact h.elim
   all_goals simp_all
  .rename_i f
   split at h
   .rename_i hd
    obtain ⟨l, h', g1, g2⟩ := h
    exact ⟨l, .set h', by show (if Cq f = true then _ else _); rw [if_pos hd]; exact ⟨h', rfl, g1⟩, goes _ _ _ _ rfl g2⟩
   rename_i hnd
   obtain ⟨k, caps, g1, g2⟩ := Ts.1 h
   rcases g2 with ⟨ds, r, g3, g4, g5, g6⟩ | ⟨g0, ds, t, sz, elems, g3, g4, g5, g6⟩
   .exact ⟨_, .keep, by show (if Cq f = true then _ else _); rw [if_neg hnd]; exact .inl ⟨rfl, k, caps, ds, r, g1, g3, g4, g5, rfl⟩, keep _ g6⟩
   exact ⟨_, .new _, by show (if Cq f = true then _ else _); rw [if_neg hnd]; exact .inr ⟨g0, k, caps, ds, t, sz, elems, g1, g3, g4, g5, rfl, rfl⟩, goes _ _ _ _ rfl g6⟩
  rename_i hne
  unfold Jv at h
  simp only at h
  split at h
  .simp_all
  .simp_all
  .simp_all
  .rename_i x t e2 e3
   simp_all
  .obtain ⟨r, h1, h⟩ := AP.1 h
   exact nC _ (by simp only [nW]; exact ⟨r, h1, rfl⟩) Iff.rfl h
  .obtain ⟨r, h1, h⟩ := AP.1 h
   exact nC _ (by simp only [nW]; exact ⟨r, h1, rfl⟩) Iff.rfl h
  exact h.elim
 all_goals exact h.elim
def Ef (ops : List Oper) (order : List Nat) : List (Nat × G5) :=
 match order with
 | [] => []
 | i :: rest => match ops[i]? with
  | some o => (i, NI ops o) :: Ef ops rest
  | none => []
theorem GN {ops : List Oper} {base : Nat} {K : A0 St} : ∀ (order : List Nat) (st : St), (order.all fun i => decide (i < ops.length)) = true -> C4 P A AB base ops.length K (Ef ops order) st ->
  F6 P AB ops.toArray base (fun st' => K.f { st' with ctr := base + ops.length }) order st
 | [], st, _, h => h.h
 | i :: rest, st, hb, h => by
  simp only [List.all_cons, Bool.and_eq_true, decide_eq_true_eq] at hb
  obtain ⟨o, ho⟩ : ∃ o, ops[i]? = some o := ⟨_, List.getElem?_eq_getElem hb.1⟩
  have ih := GN (ops := ops) (base := base) (K := K) rest
  have hp : Ef ops (i :: rest) = (i, NI ops o) :: Ef ops rest := by simp [Ef, ho]
  rw [hp] at h
  have ho' : ops.toArray[i]? = some o := by simpa using ho
  have step : Hw P A AB (st.at (base + i)) o.dst o.op ⟨C4 P A AB base ops.length K (Ef ops rest), ⟨⟩⟩ ->
    ∃ l e, CE P AB (st.at (base + i)) o.op l e /\ F6 P AB ops.toArray base (fun st' => K.f { st' with ctr := base + ops.length }) rest (apS st (base + i) o l e) := fun h => by
   obtain ⟨l, e, h1, h2⟩ := X2 (fun s c hk => by
    have := PU (P := P) (A := A) (AB := AB) base ops.length K (Ef ops rest) s c
    simp only at hk ⊢
    rw [<- this]; exact hk) h (o := o) rfl
   refine ⟨l, e, h1, ih _ hb.2 ?_⟩
   have e1 : apS (st.at (base + i)) (st.at (base + i)).ctr o l e = (apS st (base + i) o l e).at (base + i) := by
    unfold apS St.at St.put
    cases o.dst <;> rfl
   simp only at h2
   rw [e1, PU] at h2
   exact h2
  simp only [F6, ho']
  simp only [NI] at h
  cases hg : o.guard with
  | none =>
   rw [hg] at h
   exact step h
  | some g =>
   obtain ⟨j, want⟩ := g
   rw [hg] at h
   simp only [C4, Qs] at h
   unfold gM at h
   have sk : C4 P A AB base ops.length K (Ef ops rest) (st.put o.dst .und) -> F6 P AB ops.toArray base (fun st' => K.f { st' with ctr := base + ops.length }) rest (apS st (base + i) o .und .keep) := fun h => by
    have e1 : apS st (base + i) o .und .keep = st.put o.dst .und := rfl
    rw [e1]; exact ih _ hb.2 h
   simp only
   split at h
   .rename_i b e
    try simp only [e]
    exact ⟨fun hb => step (h.1 hb), fun hb => sk (h.2 hb)⟩
   .rename_i e
    try simp only [e]
    exact sk h
   exact h.elim
end
end Go.E
/- The equations by which a drawn region is reckoned. Written by a program (mkev.py). No condition. -/
namespace Go.E
open Go Go.RowKit
section
variable {P : Program}
theorem AAC {h : AM} {k : Nat} {args : List LV} {ds : List DV} {r : DV} {f : DV -> Prop} {hf : H9 f} (hds : Bm h args = some ds) (hF : Bf P k ds (· = r))
  (hs : r.scalar = true \/ args.flatMap (DZ h) = []) (hK : f r) : Wj P h k args ⟨f, hf⟩ := ⟨ds, r, hds, hF, hs, hK⟩
end
end Go.E
/- Functions that hand back a slice of their own: the caller may write into it. No condition. -/
namespace Go.E
open Go Go.RowKit
section
variable {P : Program} {A : BB} {AB : Ay}
theorem C2.own {h : AM} {ctr k : Nat} {args : List LV} {ds : List DV} {e sz : Nat} {elems : List (List DV)} {K : LV -> AM -> Nat -> Prop} (hds : Bm h args = some ds) (hf : FD P k ds e sz elems)
  (hl : args.flatMap (DZ h) = []) (hK : K (.lsl ctr sz 0 elems.length) ((ctr, .row e sz elems) :: h) (ctr + 1)) : C2 P A h ctr k args K := by
 refine ⟨hf.enters, fun μ w vs hh hsz hr => ?_⟩
 obtain ⟨g1, g2⟩ := ES hh (l := args.flatMap (DZ h)) hds (fun id hid => hid)
 rw [hl] at g2
 have hO : ∀ b, Aa A μ h b -> b < w.heap.size := by
  rintro b (hb | ⟨id, x, lc, h1, h2, h3, rfl⟩)
  .exact Nat.lt_of_lt_of_le (A.hO b hb).1 hh.size
  exact (hh.base id x lc h1 h2 h3).1
 refine (hf.run (Aa A μ h) w vs hO (by omega) fun i v d hv hd => ?_).mono fun en w' ⟨v, he, hn, hb⟩ => ?_
 .have hi := (List.getElem?_eq_some_iff.1 hd).1
  have hx : args[i]? = some (args[i]'(by omega)) := List.getElem?_eq_getElem _
  exact g2 i v _ d hx hd (hr i v _ hv hx)
 have hno : μ ctr = none := hh.fresh ctr (Nat.le_refl _)
 obtain ⟨hlen, hn⟩ := hn
 have hkm : BR (By μ h) w w' := ⟨hb.size, fun b hb' _ => hb.block b hb'⟩
 have hsub : ∀ id x, AF id ((ctr, A2.row e sz elems) :: h) = some x -> (id = ctr /\ x = .row e sz elems) \/ AF id h = some x := by
  intro id x hx
  simp only [AF] at hx
  split at hx
  .cases hx; exact .inl ⟨‹_›, rfl⟩
  exact .inr hx
 have hold : ∀ id x lc, AF id ((ctr, A2.row e sz elems) :: h) = some x -> id ≠ ctr -> μ id = some lc -> lc.nil = false -> w'.heap[lc.b]? = w.heap[lc.b]? := by
  intro id x lc hx hne hm hnl
  rcases hsub id x hx with ⟨rfl, _⟩ | hx
  .exact absurd rfl hne
  exact hb.block _ (hh.base id x lc hx hm hnl).1
 have fin : ∀ (loc : BV), (loc.nil = false -> loc.b < w'.heap.size /\ w.heap.size <= loc.b) ->
   (∀ O' : Nat -> Prop, (∀ b, O' b -> Aa A μ h b \/ (loc.nil = false /\ b = loc.b)) -> DG O' (Bs μ ctr loc) w' loc (.row e sz elems)) ->
   (∀ O', AW O' (Bs μ ctr loc) w' v (.lsl ctr sz 0 elems.length)) ->
   ∃ u l h' c' μ', en = .returned u /\ K l h' c' /\ HRel A μ' h' (Fr c') w' /\ AW (Aa A μ' h') μ' w' u l /\ ∀ v x, AW (Aa A μ h) μ w v x -> AW (Aa A μ' h') μ' w' v x := by
  intro loc hloc ho hu
  have hfr : L4 μ h ((ctr, A2.row e sz elems) :: h) w loc := fun hn => .inl (hloc hn).2
  have hown := hh.sub_add loc (.row e sz elems) ((ctr, .row e sz elems) :: h) hfr hsub
  have hcov : ∀ b, Aa A (Bs μ ctr loc) ((ctr, .row e sz elems) :: h) b -> Aa A μ h b \/ (loc.nil = false /\ b = loc.b) := by
   rintro b (hb' | ⟨id, x, lc, h1, h2, h3, h4⟩)
   .exact .inl (.inl hb')
   by_cases e' : id = ctr
   .subst e'
    simp only [Bs, if_true, Option.some.injEq] at h2
    subst h2; exact .inr ⟨h3, h4.symm⟩
   rcases hsub id x h1 with ⟨e'', _⟩ | h1
   .exact absurd e'' e'
   simp only [Bs, e', if_false] at h2
   exact .inl (.inr ⟨id, x, lc, h1, h2, h3, h4⟩)
  have hadd := hh.add (w' := w') hno loc (.row e sz elems) ((ctr, .row e sz elems) :: h) (fun hn => (hloc hn).1) hfr hsub hkm hold hb.os hb.tape hb.output (ho _ hcov)
  exact ⟨v, _, _, _, _, he, hK, hadd.less (fun id hid => by simp only [Fr] at hid ⊢; omega), hu _, fun v x hv => hv.mono hkm.own hown (I7 hno loc)⟩
 rcases hn with ⟨rfl, rfl⟩ | ⟨a, b, o, cap, c, rfl, h1, h2, h3, h4, h5, h6, h7, h8, h9, h10⟩
 .exact fin ⟨true, 0, 0, sz, 0⟩ (fun hn => by cases hn) (fun O' _ => ⟨rfl, hlen, .inl ⟨rfl, rfl⟩⟩) (fun O' => .lsln ctr ⟨true, 0, 0, sz, 0⟩ (by simp [Bs]) rfl)
 refine fin ⟨false, b, o, sz, cap⟩ (fun _ => ⟨h2, h1⟩) (fun O' hO' => ⟨rfl, hlen, .inr ⟨rfl, c, h6, h7, h8, h9, fun i j x d u hx hd hu => ?_⟩⟩) (fun O' => ?_)
 .refine (h10 i j x d u hx hd hu).mono (BR.refl _ _) fun q _ hq => ?_
  rcases hO' q hq with hq | ⟨_, hq⟩
  .exact .inl hq
  exact .inr hq
 exact .lsl ctr 0 elems.length cap a ⟨false, b, o, sz, cap⟩ (by simp [Bs]) rfl (by simp) h8 (fun hc => by rw [h3 hc]; simp) h4 h5
def Uk (t e sz : Nat) (elems : List (List DV)) : Exit -> St -> Prop := L8 fun st =>
 (∃ id, st.eval (.tmp t) = .lsl id sz 0 elems.length /\ AF id st.heap = some (.row e sz elems)) \/ (st.eval (.tmp t) = .p .nils /\ elems = [])
theorem X3 {k : Nat} {fn : Func} {c : Code} (hf : P.funcs[k]? = some fn) (hb : fn.body = some c) (hn : (fn.name == "runtime.NumGoroutine") = false) (nt : Nat) (hnt : fn.ntmps = nt) (t : Nat) (hrs : fn.results.toList = [.tmp t]) {ds : List DV} (hlen : ds.length <= nt)
  {e sz : Nat} {elems : List (List DV)} (hel : ∀ x ∈ elems, x.length = sz)
  (h : ∀ A : BB, (∀ id, A.μ0 id = none) -> B0 P A c (Uk t e sz elems) ⟨nt, C8 0 ds, [], 0⟩) : FD P k ds e sz elems := by
 subst hnt
 refine ⟨JN hf hb hn, fun O w vs hO hsz hrel => ?_⟩
 let A : BB := ⟨w, O, fun _ => False, fun _ => none, fun b hb => ⟨hO b hb, id⟩⟩
 have hR : R A ⟨fn.ntmps, C8 0 ds, [], 0⟩ { tmps := vs ++ Array.replicate (fn.ntmps - vs.size) undef, defers := [] } w := by
  refine ⟨⟨fun _ => none, ⟨by simp [AF], by simp [AF], fun _ _ => rfl, by simp [AF], Nat.le_refl _, fun _ _ _ => rfl, rfl, rfl, rfl, by simp [A]⟩, fun t ht => ?_⟩, by simp; omega, rfl⟩
  have hown : ∀ b, Aa A (fun _ => none) [] b -> O b := by
   rintro b (hb | ⟨id, x, lc, h1, _⟩)
   .exact hb
   simp [AF] at h1
  simp only [Be, M9, Nat.zero_le, if_true, Nat.sub_zero]
  by_cases hlt : t < ds.length
  .have hv : t < vs.size := by omega
   have e : ds[t]? = some ds[t] := by simp [hlt]
   rw [e]
   simp only [Option.map_some]
   have e2 : (vs ++ Array.replicate (fn.ntmps - vs.size) undef).getD t undef = vs[t] := by
    rw [Array.getD_eq_getD_getElem?, Array.getElem?_append_left hv]; simp [hv]
   rw [e2]
   exact .p _ _ ((hrel t _ _ (by simp [hv]) e).mono (BR.refl _ _) (fun b _ hb => hown b hb))
  have e : ds[t]? = none := by simp; omega
  rw [e]; exact .any _
 refine calls_of_wp hf hb (wp_mono (h A (fun _ => rfl) _ _ hR) ?_)
 rintro en a' w' ⟨st', ⟨⟨μ, hh, hs⟩, hnt, hdef⟩, hq⟩
 have hres : (results fn a'.tmps).run P w' = .ok (a'.eval (.tmp t)) w' := by
  have : (fn.results.toList.mapM (K9 P a'.tmps)).run P w' = .ok [a'.eval (.tmp t)] w' := by
   rw [hrs]; simp [List.mapM_cons, K9, Act.eval]
  exact LB this
 have hbel : Below w.heap.size w w' := ⟨hh.os, hh.tape, hh.output, hh.size, fun b hb => hh.block b hb id⟩
 have fin : ((∃ id, st'.eval (.tmp t) = .lsl id sz 0 elems.length /\ AF id st'.heap = some (.row e sz elems)) \/ (st'.eval (.tmp t) = .p .nils /\ elems = [])) ->
   a'.defers = [] /\ ∃ v, (results fn a'.tmps).run P w' = .ok v w' /\ ∃ u, Ending.returned v = .returned u /\ KD w w' O u e sz elems /\ Below w.heap.size w w' := by
  intro hc
  refine ⟨hdef, _, hres, _, rfl, ?_, hbel⟩
  have hv := GJ hs (.tmp t)
  rcases hc with ⟨id, h1, h2⟩ | ⟨h1, rfl⟩
  .rw [h1] at hv
   generalize a'.eval (.tmp t) = v at hv
   obtain ⟨loc, m1, ⟨_, m2, m3⟩⟩ := hh.obj id _ h2
   refine ⟨hel, ?_⟩
   generalize hq0 : (0 : Nat) = off at hv
   generalize hq1 : elems.length = n at hv
   cases hv with
   | lsln _ loc' k1 k2 => exact .inl ⟨rfl, by cases elems <;> simp_all⟩
   | lsl _ _ _ cap ad loc' k1 k2 k3 k4 k5 k6 k7 =>
    subst hq0; subst hq1
    rw [m1] at k1; cases k1
    rcases m3 with ⟨m4, _⟩ | ⟨m4, c, m5, m6, m7, m8, m9⟩
    .rw [k2] at m4; cases m4
    have hbase := hh.base id _ loc h2 m1 k2
    refine .inr ⟨ad, loc.b, loc.o, cap, c, rfl, ?_, hbase.1, fun hc => by simpa using k5 hc, k6, k7, m5, by rw [show cap = loc.cap by omega]; exact m6, k4, by omega, fun i j x d u hx hd hu => ?_⟩
    .rcases hbase.2.2 with hb | hb
     .exact hb
     exact hb.elim
    refine (m9 i j x d u hx hd hu).mono (BR.refl _ _) fun q _ hq => ?_
    rcases hq with hq | rfl
    .exact .inl hq
    exact .inr ⟨id, _, loc, h2, m1, k2, rfl⟩
  rw [h1] at hv
  exact ⟨by simp, .inl ⟨hv.nils_inv, rfl⟩⟩
 cases en with
 | normal => exact fin hq
 | ret => exact fin hq
 | _ => exact hq.elim
theorem Zg {h : AM} {c k : Nat} {args : List LV} {ds : List DV} {e sz : Nat} {elems : List (List DV)} {f : LV × AM × Nat -> Prop} {hf : H9 f} (hds : Bm h args = some ds) (hF : FD P k ds e sz elems)
  (hs : args.flatMap (DZ h) = []) (hK : f (.lsl c sz 0 elems.length, (c, .row e sz elems) :: h, c + 1)) : IB P A h c k args ⟨f, hf⟩ :=
 C2.own hds hF hs hK
end
end Go.E
/- Operations reckoned by unfolding alone (FH, FJ, FK): a run of operations of which each gives its value at once. No condition. -/
namespace Go.E
open Go Go.RowKit
def BN {α : Type} (t : Nat) : List (Nat × α) -> Option α
 | [] => none
 | p :: l => match Nat.beq t p.1 with
  | true => some p.2
  | false => BN t l
theorem BO {α : Type} {t : Nat} : ∀ {l : List (Nat × α)}, BN t l = AF t l
 | [] => rfl
 | (k, v) :: l => by
  simp only [BN, AF]
  by_cases h : t = k
  .subst h; simp
  rw [if_neg h]
  have : Nat.beq t k = false := by
   cases hb : Nat.beq t k with
   | false => rfl
   | true => exact absurd (Nat.eq_of_beq_eq_true hb) h
  rw [this]
  exact BO
def A9 (nt : Nat) (sl : List (Nat × LV)) (x : Operand) : LV :=
 match x with
 | .tmp t => match Nat.blt t nt with
  | true => match BN t sl with
   | some v => v
   | none => .any
  | false => .any
 | .const v => N5 v
 | .func f => .fn f []
 | .global _ => .any
theorem BD {nt : Nat} {sl : List (Nat × LV)} {h : AM} {c : Nat} {x : Operand} : A9 nt sl x = (⟨nt, sl, h, c⟩ : St).eval x := by
 cases x with
 | tmp t =>
  simp only [A9, St.eval, Be, BO]
  by_cases hb : t < nt
  .rw [if_pos hb]
   have : Nat.blt t nt = true := Nat.ble_eq_true_of_le hb
   rw [this]; rfl
  rw [if_neg hb]
  have : Nat.blt t nt = false := by
   cases hq : Nat.blt t nt with
   | false => rfl
   | true => exact absurd (Nat.le_of_ble_eq_true hq) hb
  rw [this]
 | const v => rfl
 | func f => rfl
 | global g => rfl
section
variable {α β γ : Type}
def D5 : List α -> Nat -> List α
 | l, 0 => l
 | [], _ + 1 => []
 | _ :: l, n + 1 => D5 l n
theorem Iq : ∀ {l : List α} {n : Nat}, D5 l n = l.drop n
 | l, 0 => by simp [D5]
 | [], _ + 1 => by simp [D5]
 | _ :: l, n + 1 => by simp only [D5, List.drop_succ_cons]; exact Iq
def Jw : List α -> Nat -> (List α -> Option β) -> Option β
 | _, 0, k => k []
 | x :: l, n + 1, k => Jw l n (fun r => k (x :: r))
 | [], _ + 1, _ => none
theorem Ok : ∀ {l : List α} {n : Nat} {k : List α -> Option β}, Jw l n k = (DQ l n).bind k
 | _, 0, k => by simp [Jw, DQ]
 | x :: l, n + 1, k => by
  simp only [Jw, DQ]
  rw [Ok]
  cases DQ l n <;> rfl
 | [], _ + 1, _ => by simp [Jw, DQ]
def QM : List LV -> (List DV -> Option β) -> Option β -> Option β
 | [], k, _ => k []
 | .p d :: l, k, e => QM l (fun ds => k (d :: ds)) e
 | _ :: _, _, e => e
theorem QN : ∀ {l : List LV} {k : List DV -> Option β} {e : Option β}, QM l k e = match F2 l with | some ds => k ds | none => e
 | [], k, e => by simp [QM, F2]
 | x :: l, k, e => by
  cases x with
  | p d =>
   simp only [QM, F2]
   rw [QN]
   cases F2 l <;> rfl
  | _ => rfl
def QO (l : List LV) (k : LV -> Option β) : Option β := QM l (fun ds => k (.p (.agg ds))) (k (.agg l))
theorem QP {l : List LV} {k : LV -> Option β} : QO l k = k (Ee l) := by
 unfold QO Ee
 rw [QN]
 cases F2 l <;> rfl
def Ri (ti : TI) (off : Nat) (l : List LV) (k : LV -> Option β) : Option β :=
 match ti.sh with
 | .struct _ | .arr _ _ => Jw (D5 l off) ti.size (fun r => QO r k)
 | _ => match D5 l off with
  | v :: _ => k v
  | [] => none
theorem SK {ti : TI} {off : Nat} {l : List LV} {k : LV -> Option β} : Ri ti off l k = (DP ti off l).bind k := by
 have hd : (match D5 l off with
  | v :: _ => k v
  | [] => none) = l[off]?.bind k := by
  rw [Iq]
  cases hq : l.drop off with
  | nil => simp at hq; simp [List.getElem?_eq_none hq]
  | cons v r =>
   have : l[off]? = some v := by
    have := congrArg (·[0]?) hq
    simpa [List.getElem?_drop] using this
   simp [this]
 have ha : Jw (D5 l off) ti.size (fun r => QO r k) = ((DQ (l.drop off) ti.size).map Ee).bind k := by
  rw [Ok, Iq]
  cases DQ (l.drop off) ti.size with
  | none => rfl
  | some r => simp [QP]
 unfold Ri DP
 cases hsh : ti.sh <;> simp only [Sh.isAgg] <;> first | exact ha | exact hd
def PV (ti : TI) (off : Nat) (l : List DV) (k : LV -> Option β) : Option β :=
 match ti.sh with
 | .struct _ | .arr _ _ => Jw (D5 l off) ti.size (fun r => k (.p (.agg r)))
 | _ => match D5 l off with
  | v :: _ => k (.p v)
  | [] => none
theorem Qt {f : α -> γ} : ∀ {l : List α} {n : Nat}, DQ (l.map f) n = (DQ l n).map (List.map f)
 | _, 0 => by simp [DQ]
 | x :: l, n + 1 => by
  simp only [List.map_cons, DQ]
  rw [Qt]
  cases DQ l n <;> rfl
 | [], _ + 1 => by simp [DQ]
theorem Vf {l : List DV} : Ee (l.map .p) = .p (.agg l) := by simp [Ee, SG]
theorem Ol {ti : TI} {off : Nat} {l : List DV} {k : LV -> Option β} : PV ti off l k = (DP ti off (l.map .p)).bind k := by
 have hd : (match D5 l off with
  | v :: _ => k (.p v)
  | [] => none) = (l.map LV.p)[off]?.bind k := by
  rw [Iq, List.getElem?_map]
  cases hq : l.drop off with
  | nil => simp at hq; simp [List.getElem?_eq_none hq]
  | cons v r =>
   have : l[off]? = some v := by
    have := congrArg (·[0]?) hq
    simpa [List.getElem?_drop] using this
   simp [this]
 have ha : Jw (D5 l off) ti.size (fun r => k (.p (.agg r))) = ((DQ ((l.map LV.p).drop off) ti.size).map Ee).bind k := by
  rw [Ok, Iq, <- List.map_drop, Qt]
  cases DQ (l.drop off) ti.size with
  | none => rfl
  | some r => simp [Vf]
 unfold PV DP
 cases hsh : ti.sh <;> simp only [Sh.isAgg] <;> first | exact ha | exact hd
def ML : List DV -> (List LV -> Option β) -> Option β
 | [], k => k []
 | d :: l, k => ML l (fun r => k (.p d :: r))
theorem KM : ∀ {l : List DV} {k : List LV -> Option β}, ML l k = k (l.map .p)
 | [], k => rfl
 | d :: l, k => by simp only [ML, List.map_cons]; rw [KM]
def JU (v : LV) (k : List LV -> Option β) : Option β :=
 match v with
 | .p (.agg l) => ML l k
 | .agg l => k l
 | .p (.tup _) | .tup _ | .any | .und => none
 | v => k [v]
theorem Hx {v : LV} {k : List LV -> Option β} : JU v k = v.cells.bind k := by
 cases v with
 | p d => cases d <;> first | rfl | (simp only [JU, LV.cells]; rw [KM]; rfl)
 | _ => rfl
def N8 : List LV -> List LV -> (List LV -> Option β) -> Option β
 | l, [], k => k l
 | [], _ :: _, _ => none
 | _ :: l, v :: vs, k => N8 l vs (fun r => k (v :: r))
def Om : List LV -> Nat -> List LV -> (List LV -> Option β) -> Option β
 | l, 0, vs, k => N8 l vs k
 | [], _ + 1, _, _ => none
 | x :: l, n + 1, vs, k => Om l n vs (fun r => k (x :: r))
theorem SL : ∀ {l vs : List LV} {k : List LV -> Option β} {y : β}, N8 l vs k = some y -> vs.length <= l.length /\ k (CZ.over l vs) = some y
 | l, [], k, y, h => by simp only [N8] at h; exact ⟨by simp, by simpa [CZ.over] using h⟩
 | [], _ :: _, _, _, h => by simp [N8] at h
 | _ :: l, v :: vs, k, y, h => by
  simp only [N8] at h
  obtain ⟨h1, h2⟩ := SL h
  exact ⟨by simpa using h1, h2⟩
theorem QQ : ∀ {l : List LV} {n : Nat} {vs : List LV} {k : List LV -> Option β} {y : β}, Om l n vs k = some y -> n + vs.length <= l.length /\ k (CZ l n vs) = some y
 | l, 0, vs, k, y, h => by
  obtain ⟨h1, h2⟩ := SL (by simpa only [Om] using h)
  cases l <;> exact ⟨by simpa using h1, h2⟩
 | [], _ + 1, _, _, _, h => by simp [Om] at h
 | x :: l, n + 1, vs, k, y, h => by
  simp only [Om] at h
  obtain ⟨h1, h2⟩ := QQ h
  exact ⟨by simp only [List.length_cons]; omega, h2⟩
def Hj (t : Nat) (v : A2) : AM -> (AM -> Option β) -> Option β
 | [], k => k []
 | (q, u) :: l, k => match Nat.beq t q with
  | true => k ((q, v) :: l)
  | false => Hj t v l (fun r => k ((q, u) :: r))
theorem EA {t : Nat} {v : A2} : ∀ {l : AM} {k : AM -> Option β}, Hj t v l k = k (Bg t v l)
 | [], k => rfl
 | (q, u) :: l, k => by
  simp only [Hj, Bg]
  by_cases h : t = q
  .subst h; simp
  have : Nat.beq t q = false := by
   cases hb : Nat.beq t q with
   | false => rfl
   | true => exact absurd (Nat.eq_of_beq_eq_true hb) h
  rw [this, if_neg h]
  exact EA
def Lf : List LV -> Bool
 | [] => true
 | v :: l => match v.one with
  | true => Lf l
  | false => false
theorem Kn : ∀ {l : List LV}, Lf l = l.all LV.one
 | [] => rfl
 | v :: l => by
  simp only [Lf, List.all_cons]
  cases v.one with
  | true => rw [Kn]; rfl
  | false => rfl
def PW (sz : Nat) : Nat -> List (Nat × LV) -> (List (List DV) -> Option β) -> Option β
 | _, [], k => k []
 | n, p :: rest, k => match Nat.beq p.1 n with
  | true => JU p.2 fun ls => QM ls (fun ds => match Nat.beq ds.length sz with
   | true => PW sz (n + 1) rest (fun r => k (ds :: r))
   | false => none) none
  | false => none
theorem Qu {sz : Nat} : ∀ {ps : List (Nat × LV)} {n : Nat} {k : List (List DV) -> Option β} {y : β}, PW sz n ps k = some y -> ∃ l, GF sz n ps = some l /\ k l = some y
 | [], n, k, y, h => ⟨[], by simp [GF], h⟩
 | (i, v) :: rest, n, k, y, h => by
  simp only [PW] at h
  split at h
  .rename_i hb
   have hi : i = n := Nat.eq_of_beq_eq_true hb
   subst hi
   rw [Hx] at h
   cases hc : v.cells with
   | none => rw [hc] at h; simp at h
   | some ls =>
    rw [hc] at h
    simp only [Option.bind_some] at h
    rw [QN] at h
    cases ha : F2 ls with
    | none => rw [ha] at h; simp at h
    | some ds =>
     rw [ha] at h
     simp only at h
     split at h
     .rename_i hl
      obtain ⟨r, h1, h2⟩ := Qu h
      refine ⟨ds :: r, ?_, h2⟩
      simp only [GF, if_true, hc, ha, h1]
      rw [if_pos (Nat.eq_of_beq_eq_true hl)]
     cases h
  cases h
def QR (v : LV) (k : LV -> Option β) : Option β :=
 match v with
 | .p d => k (.p d)
 | .lsl a b c d => k (.lsl a b c d)
 | .lpb a b => k (.lpb a b)
 | .lpe a b c => k (.lpe a b c)
 | .lmap a => k (.lmap a)
 | .agg l => k (.agg l)
 | .tup l => k (.tup l)
 | .fn g l => k (.fn g l)
 | .und => k .und
 | .any => k .any
theorem Lg {v : LV} {k : LV -> Option β} : QR v k = k v := by cases v <;> rfl
def N9 (nt : Nat) (sl : List (Nat × LV)) : List (Nat × Operand) -> (List (Nat × LV) -> Option β) -> Option β
 | [], k => k []
 | (i, x) :: l, k => QR (A9 nt sl x) fun v => N9 nt sl l (fun r => k ((i, v) :: r))
theorem MM {nt : Nat} {sl : List (Nat × LV)} : ∀ {l : List (Nat × Operand)} {k : List (Nat × LV) -> Option β}, N9 nt sl l k = k (l.map fun p => (p.1, A9 nt sl p.2))
 | [], k => rfl
 | (i, x) :: l, k => by simp only [N9, List.map_cons]; rw [Lg, MM]
def DU (nt : Nat) (sl : List (Nat × LV)) : List Operand -> (List LV -> Option β) -> Option β
 | [], k => k []
 | p :: l, k => QR (A9 nt sl p) fun v => DU nt sl l (fun r => k (v :: r))
theorem JV {nt : Nat} {sl : List (Nat × LV)} : ∀ {l : List Operand} {k : List LV -> Option β}, DU nt sl l k = k (l.map fun p => A9 nt sl p)
 | [], k => rfl
 | p :: l, k => by simp only [DU, List.map_cons]; rw [Lg, JV]
def NM (AB : Ay) (pl : Nat -> Option (Nat × Nat)) : List LV -> List (Nat × LV) -> (List LV -> Option β) -> Option β
 | cells, [], k => k cells
 | cells, (i, v) :: rest, k => match pl i with
  | some (o, ft) => match AB.tt ft with
   | some ti => JU v fun ls => match Nat.beq ls.length ti.size with
    | true => Om cells o ls fun cells' => NM AB pl cells' rest k
    | false => none
   | none => none
  | none => none
theorem NN {AB : Ay} {pl : Nat -> Option (Nat × Nat)} : ∀ {ps : List (Nat × LV)} {cells : List LV} {k : List LV -> Option β} {y : β}, NM AB pl cells ps k = some y ->
  ∃ l, k l = some y /\ ∀ K : A0 (List LV), K.f l -> KH AB pl cells ps K
 | [], cells, k, y, h => ⟨cells, h, fun _ => id⟩
 | (i, v) :: rest, cells, k, y, h => by
  simp only [NM] at h
  split at h
  .rename_i o ft hq
   split at h
   .rename_i ti hti
    rw [Hx] at h
    cases hc : v.cells with
    | none => rw [hc] at h; simp at h
    | some ls =>
     rw [hc] at h
     simp only [Option.bind_some] at h
     split at h
     .rename_i hl
      obtain ⟨h1, h2⟩ := QQ h
      obtain ⟨l, h3, h4⟩ := NN h2
      refine ⟨l, h3, fun K hk => ?_⟩
      simp only [KH]
      exact AP.2 ⟨(o, ft), hq, AR.2 ⟨ti, hti, AP.2 ⟨ls, hc, ⟨Nat.eq_of_beq_eq_true hl, h1⟩, h4 K hk⟩⟩⟩
     cases h
   cases h
  cases h
def Rj (AB : Ay) : List (Nat × Nat) -> Bool
 | [] => true
 | p :: l => match AB.tt p.2 with
  | some _ => Rj AB l
  | none => false
theorem SM {AB : Ay} : ∀ {l : List (Nat × Nat)}, Rj AB l = l.all fun p => (AB.tt p.2).isSome
 | [] => rfl
 | p :: l => by
  simp only [Rj, List.all_cons]
  cases AB.tt p.2 with
  | some _ => simp [SM]
  | none => simp
def Wl (op : BinOp) (kk : IntKind) (a b : Int) (k : LV -> Option β) : Option β :=
 match op with
 | .add => k (.p (.int kk (kk.wrap (a + b))))
 | .sub => k (.p (.int kk (kk.wrap (a - b))))
 | .mul => k (.p (.int kk (kk.wrap (a * b))))
 | .eql => k (.p (.bool (a == b)))
 | .neq => k (.p (.bool (a != b)))
 | .lss => k (.p (.bool (decide (a < b))))
 | .leq => k (.p (.bool (decide (a <= b))))
 | .gtr => k (.p (.bool (decide (b < a))))
 | .geq => k (.p (.bool (decide (b <= a))))
 | .xor => k (.p (.int kk (kk.wrap (BitVec.ofInt kk.bits a ^^^ BitVec.ofInt kk.bits b).toNat)))
 | .or => k (.p (.int kk (kk.wrap (BitVec.ofInt kk.bits a ||| BitVec.ofInt kk.bits b).toNat)))
 | _ => none
def QS (AB : Ay) (t : Nat) : Bool :=
 match AB.tt t with
 | some ti => match ti.sh with
  | .bool => true
  | _ => false
 | none => false
def NO : IntKind -> IntKind -> Bool
 | .i8, .i8 | .i16, .i16 | .i32, .i32 | .i64, .i64 | .u8, .u8 | .u16, .u16 | .u32, .u32 | .u64, .u64 => true
 | _, _ => false
theorem NQ {a b : IntKind} (h : NO a b = true) : a = b := by cases a <;> cases b <;> first | rfl | simp [NO] at h
def Wm (AB : Ay) (op : BinOp) (t : Nat) (x y : LV) (k : LV -> Option β) : Option β :=
 match x, y with
 | .p (.int k1 a), .p (.int k2 b) => match NO k1 k2 with
  | true => Wl op k1 a b k
  | false => none
 | .p (.str a), .p (.str b) => match op with
  | .eql => k (.p (.bool (a.toList == b.toList)))
  | .neq => k (.p (.bool (!(a.toList == b.toList))))
  | _ => none
 | .p (.bool a), .p (.bool b) => match QS AB t with
  | true => match op with
   | .eql => k (.p (.bool (a == b)))
   | .neq => k (.p (.bool (!(a == b))))
   | _ => none
  | false => none
 | .p (.place _ _), .p .nilp => match AB.ptr t with
  | true => match op with
   | .eql => k (.p (.bool false))
   | .neq => k (.p (.bool true))
   | _ => none
  | false => none
 | .lpb _ _, .p .nilp => match AB.ptr t with
  | true => match op with
   | .eql => k (.p (.bool false))
   | .neq => k (.p (.bool true))
   | _ => none
  | false => none
 | .p .nilp, .p .nilp => match AB.ptr t with
  | true => match op with
   | .eql => k (.p (.bool true))
   | .neq => k (.p (.bool false))
   | _ => none
  | false => none
 | _, _ => none
def Wn (off : Nat) (x : LV) (k : LV -> Option β) : Option β :=
 match x with
 | .lpb id o => k (.lpb id (o + off))
 | .lpe id j o => k (.lpe id j (o + off))
 | .p (.place l o) => k (.p (.place l (o + off)))
 | _ => none
def SN : IntKind -> Int -> List LV -> (Int -> Option β) -> Option β
 | _, n, [], k => k n
 | kk, n, .p (.int j m) :: rest, k => match NO j kk with
  | true => SN kk (if m > n then m else n) rest k
  | false => none
 | _, _, _ :: _, _ => none
def SO : IntKind -> Int -> List LV -> (Int -> Option β) -> Option β
 | _, n, [], k => k n
 | kk, n, .p (.int j m) :: rest, k => match NO j kk with
  | true => SO kk (if m < n then m else n) rest k
  | false => none
 | _, _, _ :: _, _ => none
def FH (AB : Ay) (nt : Nat) (sl : List (Nat × LV)) (h : AM) (c : Nat) (op : Op) (k : LV -> AM -> Nat -> Option β) : Option β :=
  match op with
  | .move x | .assign x => QR (A9 nt sl x) fun v => k v h c
  | .pick b x y => match A9 nt sl b with
    | .p (.bool b) => match b with
      | true => QR (A9 nt sl x) fun v => k v h c
      | false => QR (A9 nt sl y) fun v => k v h c
    | _ => none
  | .nilCheck x => match A9 nt sl x with
    | .lpb i o => k (.lpb i o) h c
    | .lpe i j o => k (.lpe i j o) h c
    | .p (.place l o) => k (.p (.place l o)) h c
    | _ => none
  | .binOp op t x y _ => Wm AB op t (A9 nt sl x) (A9 nt sl y) fun l => k l h c
  | .unOp op _ x => match op with
    | .not => match A9 nt sl x with
      | .p (.bool b) => k (.p (.bool !b)) h c
      | _ => none
    | .neg => match A9 nt sl x with
      | .p (.int kk n) => k (.p (.int kk (kk.wrap (0 - n)))) h c
      | _ => none
    | _ => none
  | .convert s d x => match A9 nt sl x with
    | .p (.int _ n) => match AB.tt s with
      | some _ => match AB.tt d with
        | some ti => match ti.sh with
          | .int kd => k (.p (.int kd (kd.wrap n))) h c
          | _ => none
        | none => none
      | none => none
    | _ => none
  | .extract t i => match A9 nt sl t with
    | .tup l => match D5 l i with
      | v :: _ => k v h c
      | [] => none
    | .p (.tup l) => match D5 l i with
      | v :: _ => k (.p v) h c
      | [] => none
    | _ => none
  | .field t x i => match AB.tt t with
    | some ti => match ti.sh with
      | .struct fs => match D5 fs i with
        | (o, ft) :: _ => match AB.tt ft with
          | some tf => match A9 nt sl x with
            | .agg ls => Ri tf o ls fun l => k l h c
            | .p (.agg ds) => PV tf o ds fun l => k l h c
            | _ => none
          | none => none
        | [] => none
      | _ => none
    | none => none
  | .build t ps => match AB.tt t with
    | some ti => match ti.sh with
      | .struct fs => match Rj AB fs with
        | true => ML ti.zero fun z => N9 nt sl ps.toList fun ps' => NM AB (fun i => fs[i]?) z ps' fun cells => QO cells fun l => k l h c
        | false => none
      | .arr _ e => match AB.tt e with
        | some te => ML ti.zero fun z => N9 nt sl ps.toList fun ps' => NM AB (fun i => some (i * te.size, e)) z ps' fun cells => QO cells fun l => k l h c
        | none => none
      | _ => none
    | none => none
  | .fieldAddr t x i => match AB.tt t with
    | some ti => match ti.sh with
      | .struct fs => match D5 fs i with
        | (o, ft) :: _ => match AB.tt ft with
          | some tf => match Nat.blt 0 tf.size with
            | true => Wn o (A9 nt sl x) fun l => k l h c
            | false => none
          | none => none
        | [] => none
      | _ => none
    | none => none
  | .makeFunc (.func f) first caps => match first.toList with
    | [] => DU nt sl caps.toList fun l => k (.fn f l) h c
    | _ => none
  | .load t x => match LW AB.calm (A9 nt sl x) with
   | false => none
   | true => match AB.tt t with
    | some ti => match A9 nt sl x with
      | .p (.place l off) => PV ti off l fun v => k v h c
      | .lpb id off => match BN id h with
        | some (.box cells) => Ri ti off cells fun v => k v h c
        | _ => none
      | _ => none
    | none => none
  | .store t x v => match KE AB.calm (A9 nt sl x) with
   | false => none
   | true => match AB.tt t with
    | some ti => match A9 nt sl x with
      | .lpb id off => JU (A9 nt sl v) fun ls => match Nat.beq ls.length ti.size with
        | true => match Lf ls with
          | true => match BN id h with
            | some (.box cells) => Om cells off ls fun cells' => Hj id (.box cells') h fun h' => k .any h' c
            | _ => none
          | false => none
        | false => none
      | _ => none
    | none => none
  | .alloc t => match AB.tt t with
    | some ti => ML ti.zero fun z => k (.lpb c 0) ((c, .box z) :: h) (c + 1)
    | none => none
  | .box _ x => JU (A9 nt sl x) fun ls => k (.lpb c 0) ((c, .box ls) :: h) (c + 1)
  | .buildSlice t n ps => match AB.tt t with
    | some ti => match ti.sh with
      | .slc e => match AB.tt e with
        | some te => match Nat.blt 0 te.size && Nat.ble (n * te.size) 16777216 with
          | true => N9 nt sl ps.toList fun ps' => PW te.size 0 ps' fun l => match Nat.beq l.length n with
            | true => k (.lsl c te.size 0 n) ((c, .row e te.size l) :: h) (c + 1)
            | false => none
          | false => none
        | none => none
      | _ => none
    | none => none
  | .makeMap _ none => k (.lmap c) ((c, .map []) :: h) (c + 1)
  | .call ⟨.builtin .len, args, ts⟩ => match args.toList, ts.toList with
    | [x], [t] => match AB.tt t with
      | some ti => match ti.sh, A9 nt sl x with
        | .arr n _, _ => k (.p (.int .i64 n)) h c
        | .slc _, .p .nils => k (.p (.int .i64 0)) h c
        | .slc _, .lsl _ _ _ len => k (.p (.int .i64 len)) h c
        | .str, .p (.str s) => k (.p (.int .i64 s.size)) h c
        | _, _ => none
      | none => none
    | _, _ => none
  | .call ⟨.builtin .max, args, _⟩ => DU nt sl args.toList fun l => match l with
    | .p (.int kk n) :: rest => SN kk n rest fun m => k (.p (.int kk m)) h c
    | _ => none
  | .call ⟨.builtin .min, args, _⟩ => DU nt sl args.toList fun l => match l with
    | .p (.int kk n) :: rest => SO kk n rest fun m => k (.p (.int kk m)) h c
    | _ => none
  | _ => none
end
end Go.E
/- Operations reckoned by unfolding alone: they are sound (G8); runs of operations (FJ, FK). No condition. -/
namespace Go.E
open Go Go.RowKit
section
variable {β : Type} {AB : Ay} {nt : Nat} {sl : List (Nat × LV)} {hp : AM} {c : Nat}
theorem X5 {op : BinOp} {kk : IntKind} {a b : Int} {k : LV -> Option β} {y : β} (h : Wl op kk a b k = some y) : ∃ l, k l = some y /\ ∀ K : A0 LV, K.f l -> Lb op kk a b K := by
 cases op <;> simp only [Wl] at h <;> first | cases h | exact ⟨_, h, fun K hk => hk⟩
theorem Um {t : Nat} (h : QS AB t = true) : ∃ ti, AB.tt t = some ti /\ ti.sh = .bool := by
 unfold QS at h
 split at h
 .rename_i ti hti
  split at h
  .exact ⟨ti, hti, ‹_›⟩
  cases h
 cases h
theorem X6 {op : BinOp} {t : Nat} {x y : LV} {k : LV -> Option β} {z : β} (h : Wm AB op t x y k = some z) : ∃ l, k l = some z /\ ∀ K : A0 LV, K.f l -> Oj AB op t x y K /\ SH AB op t x y K := by
 unfold Wm at h
 split at h
 .rename_i k1 a k2 b
  split at h
  .rename_i hk
   have := NQ hk
   subst this
   obtain ⟨l, h1, h2⟩ := X5 h
   exact ⟨l, h1, fun K hk => ⟨⟨rfl, h2 K hk⟩, ⟨rfl, h2 K hk⟩⟩⟩
  cases h
 .rename_i a b
  split at h
  .exact ⟨_, h, fun K hk => ⟨hk, hk⟩⟩
  .exact ⟨_, h, fun K hk => ⟨hk, hk⟩⟩
  cases h
 .rename_i a b
  split at h
  .rename_i hb
   obtain ⟨ti, hti, hsh⟩ := Um hb
   split at h
   .exact ⟨_, h, fun K hk => ⟨AR.2 ⟨ti, hti, hsh, hk⟩, AR.2 ⟨ti, hti, hsh, hk⟩⟩⟩
   .exact ⟨_, h, fun K hk => ⟨AR.2 ⟨ti, hti, hsh, hk⟩, AR.2 ⟨ti, hti, hsh, hk⟩⟩⟩
   cases h
  cases h
 .split at h
  .rename_i hb
   split at h
   .exact ⟨_, h, fun K hk => ⟨⟨hb, hk⟩, ⟨hb, hk⟩⟩⟩
   .exact ⟨_, h, fun K hk => ⟨⟨hb, hk⟩, ⟨hb, hk⟩⟩⟩
   cases h
  cases h
 .split at h
  .rename_i hb
   split at h
   .exact ⟨_, h, fun K hk => ⟨⟨hb, hk⟩, ⟨hb, hk⟩⟩⟩
   .exact ⟨_, h, fun K hk => ⟨⟨hb, hk⟩, ⟨hb, hk⟩⟩⟩
   cases h
  cases h
 .split at h
  .rename_i hb
   split at h
   .exact ⟨_, h, fun K hk => ⟨⟨hb, hk⟩, ⟨hb, hk⟩⟩⟩
   .exact ⟨_, h, fun K hk => ⟨⟨hb, hk⟩, ⟨hb, hk⟩⟩⟩
   cases h
  cases h
 cases h
theorem X7 {off : Nat} {x : LV} {k : LV -> Option β} {y : β} (h : Wn off x k = some y) : ∃ l, k l = some y /\ ∀ K : A0 LV, K.f l -> Ub off x K := by
 unfold Wn at h
 split at h
 .exact ⟨_, h, fun K hk => hk⟩
 .exact ⟨_, h, fun K hk => hk⟩
 .exact ⟨_, h, fun K hk => hk⟩
 cases h
theorem ID {α : Type} {l r : List α} {n : Nat} {x : α} (h : D5 l n = x :: r) : l[n]? = some x := by
 rw [Iq] at h
 have := congrArg (·[0]?) h
 simpa [List.getElem?_drop] using this
theorem Tw {kk : IntKind} : ∀ {l : List LV} {n : Int} {k : Int -> Option β} {y : β}, SN kk n l k = some y -> ∃ m, k m = some y /\ Bv.go (fun x y => if y > x then y else x) kk n l = some m
 | [], n, k, y, h => ⟨n, h, rfl⟩
 | .p (.int j m) :: rest, n, k, y, h => by
  simp only [SN] at h
  split at h
  .rename_i hj
   have := NQ hj
   subst this
   obtain ⟨r, h1, h2⟩ := Tw h
   exact ⟨r, h1, by simp only [Bv.go, if_true]; exact h2⟩
  cases h
 | .p .nils :: _, _, _, _, h | .p .nilp :: _, _, _, _, h | .p .nilm :: _, _, _, _, h | .p (.bool _) :: _, _, _, _, h | .p (.str _) :: _, _, _, _, h | .p (.agg _) :: _, _, _, _, h | .p (.tup _) :: _, _, _, _, h
 | .p (.slice _ _) :: _, _, _, _, h | .p (.place _ _) :: _, _, _, _, h | .p (.map _) :: _, _, _, _, h | .lsl .. :: _, _, _, _, h | .lpb .. :: _, _, _, _, h | .lpe .. :: _, _, _, _, h | .lmap _ :: _, _, _, _, h | .p (.fn _ _) :: _, _, _, _, h
 | .agg _ :: _, _, _, _, h | .tup _ :: _, _, _, _, h | .fn .. :: _, _, _, _, h | .und :: _, _, _, _, h | .any :: _, _, _, _, h => by simp [SN] at h
theorem Tx {kk : IntKind} : ∀ {l : List LV} {n : Int} {k : Int -> Option β} {y : β}, SO kk n l k = some y -> ∃ m, k m = some y /\ Bv.go (fun x y => if y < x then y else x) kk n l = some m
 | [], n, k, y, h => ⟨n, h, rfl⟩
 | .p (.int j m) :: rest, n, k, y, h => by
  simp only [SO] at h
  split at h
  .rename_i hj
   have := NQ hj
   subst this
   obtain ⟨r, h1, h2⟩ := Tx h
   exact ⟨r, h1, by simp only [Bv.go, if_true]; exact h2⟩
  cases h
 | .p .nils :: _, _, _, _, h | .p .nilp :: _, _, _, _, h | .p .nilm :: _, _, _, _, h | .p (.bool _) :: _, _, _, _, h | .p (.str _) :: _, _, _, _, h | .p (.agg _) :: _, _, _, _, h | .p (.tup _) :: _, _, _, _, h
 | .p (.slice _ _) :: _, _, _, _, h | .p (.place _ _) :: _, _, _, _, h | .p (.map _) :: _, _, _, _, h | .lsl .. :: _, _, _, _, h | .lpb .. :: _, _, _, _, h | .lpe .. :: _, _, _, _, h | .lmap _ :: _, _, _, _, h | .p (.fn _ _) :: _, _, _, _, h
 | .agg _ :: _, _, _, _, h | .tup _ :: _, _, _, _, h | .fn .. :: _, _, _, _, h | .und :: _, _, _, _, h | .any :: _, _, _, _, h => by simp [SO] at h
def Vg (AB : Ay) (st : St) (op : Op) (l : LV) (h' : AM) (c' : Nat) : Prop :=
 ∀ (P : Program) (A : BB) (dst : Option Tmp) (K : A0 St), K.f (st.go dst l h' c') -> BC P A AB st dst op K /\ Hw P A AB st dst op K
theorem G8 {op : Op} {k : LV -> AM -> Nat -> Option β} {y : β} (h : FH AB nt sl hp c op k = some y) : ∃ l h' c', k l h' c' = some y /\ Vg AB ⟨nt, sl, hp, c⟩ op l h' c' := by
 have hev : ∀ x, A9 nt sl x = (⟨nt, sl, hp, c⟩ : St).eval x := fun x => BD
 cases op <;> simp only [FH] at h <;> try (cases h; done)
 case move x => rw [Lg] at h; exact ⟨_, _, _, h, fun P A dst K hk => by rw [hev] at hk; exact ⟨hk, hk⟩⟩
 case assign x => rw [Lg] at h; exact ⟨_, _, _, h, fun P A dst K hk => by rw [hev] at hk; exact ⟨hk, hk⟩⟩
 case pick b x z =>
  split at h
  .rename_i b' hb
   rw [hev] at hb
   simp only [Lg] at h
   split at h
   .exact ⟨_, _, _, h, fun P A dst K hk => by
     rw [hev] at hk
     have : BC P A AB ⟨nt, sl, hp, c⟩ dst (.pick b x z) K := by simp only [BC]; rw [hb]; exact hk
     exact ⟨this, this⟩⟩
   exact ⟨_, _, _, h, fun P A dst K hk => by
    rw [hev] at hk
    have : BC P A AB ⟨nt, sl, hp, c⟩ dst (.pick b x z) K := by simp only [BC]; rw [hb]; exact hk
    exact ⟨this, this⟩⟩
  cases h
 case nilCheck x =>
  split at h
  .rename_i hx; rw [hev] at hx
   exact ⟨_, _, _, h, fun P A dst K hk => by
    have : BC P A AB ⟨nt, sl, hp, c⟩ dst (.nilCheck x) K := by simp only [BC]; rw [hx]; exact hk
    exact ⟨this, this⟩⟩
  .rename_i hx; rw [hev] at hx
   exact ⟨_, _, _, h, fun P A dst K hk => by
    have : BC P A AB ⟨nt, sl, hp, c⟩ dst (.nilCheck x) K := by simp only [BC]; rw [hx]; exact hk
    exact ⟨this, this⟩⟩
  .rename_i hx; rw [hev] at hx
   exact ⟨_, _, _, h, fun P A dst K hk => by
    have : BC P A AB ⟨nt, sl, hp, c⟩ dst (.nilCheck x) K := by simp only [BC]; rw [hx]; exact hk
    exact ⟨this, this⟩⟩
  cases h
 case binOp op t x z w =>
  obtain ⟨l, h1, h2⟩ := X6 h
  refine ⟨l, _, _, h1, fun P A dst K hk => ?_⟩
  rw [hev, hev] at h2
  exact ⟨(h2 ⟨fun l => K.f (St.put ⟨nt, sl, hp, c⟩ dst l), ⟨⟩⟩ hk).1, (h2 ⟨fun l => K.f (St.put ⟨nt, sl, hp, c⟩ dst l), ⟨⟩⟩ hk).2⟩
 case unOp op t x =>
  split at h
  .split at h
   .rename_i hx; rw [hev] at hx
    exact ⟨_, _, _, h, fun P A dst K hk => by
     have : BC P A AB ⟨nt, sl, hp, c⟩ dst (.unOp .not t x) K := by simp only [BC]; rw [hx]; exact hk
     exact ⟨this, this⟩⟩
   cases h
  .split at h
   .rename_i hx; rw [hev] at hx
    exact ⟨_, _, _, h, fun P A dst K hk => by
     have : BC P A AB ⟨nt, sl, hp, c⟩ dst (.unOp .neg t x) K := by simp only [BC]; rw [hx]; exact hk
     exact ⟨this, this⟩⟩
   cases h
  cases h
 case convert s d x =>
  split at h
  .rename_i kk n hx; rw [hev] at hx
   split at h
   .rename_i ts hs
    split at h
    .rename_i ti ht
     split at h
     .rename_i kd hsh
      exact ⟨_, _, _, h, fun P A dst K hk => by
       have : BC P A AB ⟨nt, sl, hp, c⟩ dst (.convert s d x) K := by
        simp only [BC]; rw [hx]
        exact AR.2 ⟨ts, hs, AR.2 ⟨ti, ht, AP.2 ⟨kd, by rw [hsh]; rfl, hk⟩⟩⟩
       exact ⟨this, this⟩⟩
     cases h
    cases h
   cases h
  cases h
 case extract t i =>
  split at h
  .rename_i l hx; rw [hev] at hx
   split at h
   .rename_i v r hd
    exact ⟨_, _, _, h, fun P A dst K hk => by
     have : BC P A AB ⟨nt, sl, hp, c⟩ dst (.extract t i) K := by
      simp only [BC]; rw [hx]
      exact AP.2 ⟨v, ID hd, hk⟩
     exact ⟨this, this⟩⟩
   cases h
  .rename_i l hx; rw [hev] at hx
   split at h
   .rename_i v r hd
    exact ⟨_, _, _, h, fun P A dst K hk => by
     have : BC P A AB ⟨nt, sl, hp, c⟩ dst (.extract t i) K := by
      simp only [BC]; rw [hx]
      exact AP.2 ⟨v, ID hd, hk⟩
     exact ⟨this, this⟩⟩
   cases h
  cases h
 case field t x i =>
  split at h
  .rename_i ti ht
   split at h
   .rename_i fs hsh
    split at h
    .rename_i o ft r hd
     split at h
     .rename_i tf htf
      split at h
      .rename_i ls hx; rw [hev] at hx
       rw [SK, Option.bind_eq_some_iff] at h
       obtain ⟨v, hv, h⟩ := h
       exact ⟨_, _, _, h, fun P A dst K hk => by
        have : BC P A AB ⟨nt, sl, hp, c⟩ dst (.field t x i) K := by
         simp only [BC]; rw [hx]
         exact AR.2 ⟨ti, ht, ET.2 ⟨fs, hsh, AP.2 ⟨(o, ft), ID hd, AR.2 ⟨tf, htf, AP.2 ⟨v, hv, hk⟩⟩⟩⟩⟩
        exact ⟨this, this⟩⟩
      .rename_i ds hx; rw [hev] at hx
       rw [Ol, Option.bind_eq_some_iff] at h
       obtain ⟨v, hv, h⟩ := h
       exact ⟨_, _, _, h, fun P A dst K hk => by
        have : BC P A AB ⟨nt, sl, hp, c⟩ dst (.field t x i) K := by
         simp only [BC]; rw [hx]
         exact AR.2 ⟨ti, ht, ET.2 ⟨fs, hsh, AP.2 ⟨(o, ft), ID hd, AR.2 ⟨tf, htf, AP.2 ⟨v, hv, hk⟩⟩⟩⟩⟩
        exact ⟨this, this⟩⟩
      cases h
     cases h
    cases h
   cases h
  cases h
 case build t ps =>
  split at h
  .rename_i ti ht
   split at h
   .rename_i fs hsh
    split at h
    .rename_i hall
     rw [KM, MM] at h
     obtain ⟨l, h1, h2⟩ := NN h
     rw [QP] at h1
     exact ⟨_, _, _, h1, fun P A dst K hk => by
      have : BC P A AB ⟨nt, sl, hp, c⟩ dst (.build t ps) K := by
       simp only [BC]
       refine AR.2 ⟨ti, ht, ?_⟩
       simp only [NJ, hsh]
       rw [SM] at hall
       refine ⟨hall, ?_⟩
       have := h2 ⟨fun cells => K.f (St.put ⟨nt, sl, hp, c⟩ dst (Ee cells)), ⟨⟩⟩ hk
       simpa only [hev] using this
      exact ⟨this, this⟩⟩
    cases h
   .rename_i n e hsh
    split at h
    .rename_i te hte
     rw [KM, MM] at h
     obtain ⟨l, h1, h2⟩ := NN h
     rw [QP] at h1
     exact ⟨_, _, _, h1, fun P A dst K hk => by
      have : BC P A AB ⟨nt, sl, hp, c⟩ dst (.build t ps) K := by
       simp only [BC]
       refine AR.2 ⟨ti, ht, ?_⟩
       simp only [NJ, hsh]
       refine AR.2 ⟨te, hte, ?_⟩
       have := h2 ⟨fun cells => K.f (St.put ⟨nt, sl, hp, c⟩ dst (Ee cells)), ⟨⟩⟩ hk
       simpa only [hev] using this
      exact ⟨this, this⟩⟩
    cases h
   cases h
  cases h
 case fieldAddr t x i =>
  split at h
  .rename_i ti ht
   split at h
   .rename_i fs hsh
    split at h
    .rename_i o ft r hd
     split at h
     .rename_i tf htf
      split at h
      .rename_i hsz
       obtain ⟨l, h1, h2⟩ := X7 h
       rw [hev] at h2
       exact ⟨_, _, _, h1, fun P A dst K hk => by
        have : BC P A AB ⟨nt, sl, hp, c⟩ dst (.fieldAddr t x i) K := by
         simp only [BC]
         refine AR.2 ⟨ti, ht, ET.2 ⟨fs, hsh, AP.2 ⟨(o, ft), ID hd, AR.2 ⟨tf, htf, ?_, h2 ⟨fun l => K.f (St.put ⟨nt, sl, hp, c⟩ dst l), ⟨⟩⟩ hk⟩⟩⟩⟩
         have := Nat.le_of_ble_eq_true hsz
         omega
        exact ⟨this, this⟩⟩
      cases h
     cases h
    cases h
   cases h
  cases h
 case makeFunc fn first caps =>
  cases fn <;> simp only at h <;> try (cases h; done)
  rename_i f
  split at h
  .rename_i hf
   rw [JV] at h
   exact ⟨_, _, _, h, fun P A dst K hk => by
    have : BC P A AB ⟨nt, sl, hp, c⟩ dst (.makeFunc (.func f) first caps) K := by
     simp only [BC]
     refine ⟨hf, ?_⟩
     have e : (caps.toList.map fun p => A9 nt sl p) = caps.toList.map (St.eval ⟨nt, sl, hp, c⟩) := List.map_congr_left fun x _ => hev x
     rw [e] at hk
     exact hk
    exact ⟨this, this⟩⟩
  cases h
 case load t x =>
  split at h
  .cases h
  rename_i hc'
  rw [hev] at hc'
  split at h
  .rename_i ti ht
   split at h
   .rename_i l off hx; rw [hev] at hx
    rw [Ol, Option.bind_eq_some_iff] at h
    obtain ⟨v, hv, h⟩ := h
    exact ⟨_, _, _, h, fun P A dst K hk => by
     have : BC P A AB ⟨nt, sl, hp, c⟩ dst (.load t x) K := by
      simp only [BC]; rw [hx]
      exact AR.2 ⟨ti, ht, AP.2 ⟨v, hv, hk⟩⟩
     exact ⟨this, hc', this⟩⟩
   .rename_i id off hx; rw [hev] at hx
    split at h
    .rename_i cells hl
     rw [BO] at hl
     rw [SK, Option.bind_eq_some_iff] at h
     obtain ⟨v, hv, h⟩ := h
     exact ⟨_, _, _, h, fun P A dst K hk => by
      have : BC P A AB ⟨nt, sl, hp, c⟩ dst (.load t x) K := by
       simp only [BC]; rw [hx]
       exact AR.2 ⟨ti, ht, AP.2 ⟨_, hl, by dsimp only; refine Il.2 ⟨cells, rfl, ?_⟩; exact AP.2 ⟨v, hv, hk⟩⟩⟩
      exact ⟨this, hc', this⟩⟩
    cases h
   cases h
  cases h
 case store t x v =>
  split at h
  .cases h
  rename_i hc'
  rw [hev] at hc'
  split at h
  .rename_i ti ht
   split at h
   .rename_i id off hx; rw [hev] at hx
    rw [Hx, Option.bind_eq_some_iff] at h
    obtain ⟨ls, hls, h⟩ := h
    rw [hev] at hls
    split at h
    .rename_i hlen
     split at h
     .rename_i hone
      rw [Kn] at hone
      split at h
      .rename_i cells hl
       rw [BO] at hl
       obtain ⟨h1, h2⟩ := QQ h
       rw [EA] at h2
       exact ⟨_, _, _, h2, fun P A dst K hk => by
        have : BC P A AB ⟨nt, sl, hp, c⟩ dst (.store t x v) K := by
         simp only [BC]; rw [hx]
         exact AR.2 ⟨ti, ht, AP.2 ⟨ls, hls, ⟨Nat.eq_of_beq_eq_true hlen, hone⟩, AP.2 ⟨_, hl, by dsimp only; refine Il.2 ⟨cells, rfl, ?_⟩; exact ⟨h1, hk⟩⟩⟩⟩
        exact ⟨this, hc', this⟩⟩
      cases h
     cases h
    cases h
   cases h
  cases h
 case alloc t =>
  split at h
  .rename_i ti ht
   rw [KM] at h
   exact ⟨_, _, _, h, fun P A dst K hk => by
    have : BC P A AB ⟨nt, sl, hp, c⟩ dst (.alloc t) K := by
     simp only [BC]
     exact AR.2 ⟨ti, ht, hk⟩
    exact ⟨this, this⟩⟩
  cases h
 case box t x =>
  rw [Hx, Option.bind_eq_some_iff] at h
  obtain ⟨ls, hls, h⟩ := h
  rw [hev] at hls
  exact ⟨_, _, _, h, fun P A dst K hk => by
   have : BC P A AB ⟨nt, sl, hp, c⟩ dst (.box t x) K := by
    simp only [BC]
    exact AP.2 ⟨ls, hls, hk⟩
   exact ⟨this, this⟩⟩
 case buildSlice t n ps =>
  split at h
  .rename_i ti ht
   split at h
   .rename_i e hsh
    split at h
    .rename_i te hte
     split at h
     .rename_i hb
      rw [MM] at h
      obtain ⟨l, h1, h2⟩ := Qu h
      split at h2
      .rename_i hlen
       simp only [Bool.and_eq_true] at hb
       exact ⟨_, _, _, h2, fun P A dst K hk => by
        have : BC P A AB ⟨nt, sl, hp, c⟩ dst (.buildSlice t n ps) K := by
         simp only [BC]
         simp only [hev] at h1
         exact AR.2 ⟨ti, ht, CW.2 ⟨e, hsh, AR.2 ⟨te, hte, ⟨Nat.le_of_ble_eq_true hb.1, Nat.le_of_ble_eq_true hb.2⟩, AP.2 ⟨l, h1, Nat.eq_of_beq_eq_true hlen, .inl hk⟩⟩⟩⟩
        exact ⟨this, this⟩⟩
      cases h2
     cases h
    cases h
   cases h
  cases h
 case makeMap t r =>
  cases r with
  | some r => cases h
  | none => exact ⟨_, _, _, h, fun P A dst K hk => ⟨hk, hk⟩⟩
 case call cl =>
  obtain ⟨callee, args, ts⟩ := cl
  cases callee with
  | value f => cases h
  | invoke r m => cases h
  | builtin b =>
   cases b <;> simp only at h <;> try (cases h; done)
   case len =>
    split at h
    .rename_i x t hargs hts
     split at h
     .rename_i ti ht
      have ha : args = #[x] := by cases args; simpa using hargs
      have ht' : ts = #[t] := by cases ts; simpa using hts
      subst ha ht'
      have fin : ∀ l, k l hp c = some y -> (∀ K : A0 LV, K.f l -> Wb ti.sh ((⟨nt, sl, hp, c⟩ : St).eval x) K /\ Ui ti.sh ((⟨nt, sl, hp, c⟩ : St).eval x) K) ->
        ∃ l h' c', k l h' c' = some y /\ Vg AB ⟨nt, sl, hp, c⟩ (.call ⟨.builtin .len, #[x], #[t]⟩) l h' c' := fun l h1 h2 => ⟨l, hp, c, h1, fun P A dst K hk => by
       have := h2 ⟨fun l => K.f (St.put ⟨nt, sl, hp, c⟩ dst l), ⟨⟩⟩ hk
       exact ⟨AR.2 ⟨ti, ht, this.1⟩, AR.2 ⟨ti, ht, this.2⟩⟩⟩
      split at h
      .rename_i hsh
       exact fin _ h fun K hk => by rw [hsh]; exact ⟨hk, hk⟩
      .rename_i hsh hx; rw [hev] at hx
       exact fin _ h fun K hk => by rw [hsh, hx]; exact ⟨hk, hk⟩
      .rename_i hsh hx; rw [hev] at hx
       exact fin _ h fun K hk => by rw [hsh, hx]; exact ⟨hk, hk⟩
      .rename_i hsh hx; rw [hev] at hx
       exact fin _ h fun K hk => by rw [hsh, hx]; exact ⟨hk, hk⟩
      cases h
     cases h
    cases h
   case max =>
    rw [JV] at h
    split at h
    .rename_i kk n rest hl
     obtain ⟨m, h1, h2⟩ := Tw h
     exact ⟨_, _, _, h1, fun P A dst K hk => by
      have : BC P A AB ⟨nt, sl, hp, c⟩ dst (.call ⟨.builtin .max, args, ts⟩) K := by
       simp only [BC, Jv]
       simp only [hev] at hl
       refine AP.2 ⟨(kk, m), ?_, hk⟩
       show Bv _ (args.toList.map fun x => St.eval _ x) = _
       rw [hl]
       simp only [Bv, h2]; rfl
      exact ⟨this, this⟩⟩
    cases h
   case min =>
    rw [JV] at h
    split at h
    .rename_i kk n rest hl
     obtain ⟨m, h1, h2⟩ := Tx h
     exact ⟨_, _, _, h1, fun P A dst K hk => by
      have : BC P A AB ⟨nt, sl, hp, c⟩ dst (.call ⟨.builtin .min, args, ts⟩) K := by
       simp only [BC, Jv]
       simp only [hev] at hl
       refine AP.2 ⟨(kk, m), ?_, hk⟩
       show Bv _ (args.toList.map fun x => St.eval _ x) = _
       rw [hl]
       simp only [Bv, h2]; rfl
      exact ⟨this, this⟩⟩
    cases h
end
end Go.E
/- Runs of operations (FJ, FK), loops and joins told by plain Lean (AO, D8), rules for a walk in step with a plain function. No condition. -/
namespace Go.E
open Go Go.RowKit
section
variable {β : Type}
def KN : Bool -> Bool -> Bool
 | true, true | false, false => true
 | _, _ => false
theorem KO {a b : Bool} (h : KN a b = true) : a = b := by cases a <;> cases b <;> first | rfl | cases h
theorem MN {a b : Bool} (h : KN a b = false) : a = !b := by cases a <;> cases b <;> first | rfl | cases h
def FJ (AB : Ay) : Nat -> List G5 -> Nat -> List (Nat × LV) -> AM -> Nat -> Option (List G5 × St)
 | 0, ms, nt, sl, h, c => some (ms, ⟨nt, sl, h, c⟩)
 | _ + 1, [], _, _, _, _ => none
 | n + 1, m :: ms, nt, sl, h, c => match m with
  | ⟨dst, op, g⟩ => match g with
   | none => FH AB nt sl h c op fun l h' c' => match dst with
    | some t => FJ AB n ms nt ((t, l) :: sl) h' c'
    | none => FJ AB n ms nt sl h' c'
   | some (some d, want) => match A9 nt sl (.tmp d) with
    | .p (.bool b) => match KN b want with
     | true => FH AB nt sl h c op fun l h' c' => match dst with
      | some t => FJ AB n ms nt ((t, l) :: sl) h' c'
      | none => FJ AB n ms nt sl h' c'
     | false => match dst with
      | some t => FJ AB n ms nt ((t, .und) :: sl) h c
      | none => FJ AB n ms nt sl h c
    | .und => match dst with
     | some t => FJ AB n ms nt ((t, .und) :: sl) h c
     | none => FJ AB n ms nt sl h c
    | _ => none
   | some (none, _) => none
def Hk (AB : Ay) : List G5 -> Nat -> List (Nat × LV) -> AM -> Nat -> Option St
 | [], nt, sl, h, c => some ⟨nt, sl, h, c⟩
 | m :: ms, nt, sl, h, c => match m with
  | ⟨dst, op, g⟩ => match g with
   | none => FH AB nt sl h c op fun l h' c' => match dst with
    | some t => Hk AB ms nt ((t, l) :: sl) h' c'
    | none => Hk AB ms nt sl h' c'
   | some (some d, want) => match A9 nt sl (.tmp d) with
    | .p (.bool b) => match KN b want with
     | true => FH AB nt sl h c op fun l h' c' => match dst with
      | some t => Hk AB ms nt ((t, l) :: sl) h' c'
      | none => Hk AB ms nt sl h' c'
     | false => match dst with
      | some t => Hk AB ms nt ((t, .und) :: sl) h c
      | none => Hk AB ms nt sl h c
    | .und => match dst with
     | some t => Hk AB ms nt ((t, .und) :: sl) h c
     | none => Hk AB ms nt sl h c
    | _ => none
   | some (none, _) => none
def FK (AB : Ay) (base : Nat) : Nat -> List (Nat × G5) -> Nat -> List (Nat × LV) -> AM -> Option (List (Nat × G5) × List (Nat × LV) × AM)
 | 0, ms, _, sl, h => some (ms, sl, h)
 | _ + 1, [], _, _, _ => none
 | n + 1, m :: ms, nt, sl, h => match m with
  | (i, ⟨dst, op, g⟩) => match g with
   | none => FH AB nt sl h (base + i) op fun l h' _ => match dst with
    | some t => FK AB base n ms nt ((t, l) :: sl) h'
    | none => FK AB base n ms nt sl h'
   | some (some d, want) => match A9 nt sl (.tmp d) with
    | .p (.bool b) => match KN b want with
     | true => FH AB nt sl h (base + i) op fun l h' _ => match dst with
      | some t => FK AB base n ms nt ((t, l) :: sl) h'
      | none => FK AB base n ms nt sl h'
     | false => match dst with
      | some t => FK AB base n ms nt ((t, .und) :: sl) h
      | none => FK AB base n ms nt sl h
    | .und => match dst with
     | some t => FK AB base n ms nt ((t, .und) :: sl) h
     | none => FK AB base n ms nt sl h
    | _ => none
   | some (none, _) => none
def FL (AB : Ay) (base : Nat) : List (Nat × G5) -> Nat -> List (Nat × LV) -> AM -> Option (List (Nat × LV) × AM)
 | [], _, sl, h => some (sl, h)
 | m :: ms, nt, sl, h => match m with
  | (i, ⟨dst, op, g⟩) => match g with
   | none => FH AB nt sl h (base + i) op fun l h' _ => match dst with
    | some t => FL AB base ms nt ((t, l) :: sl) h'
    | none => FL AB base ms nt sl h'
   | some (some d, want) => match A9 nt sl (.tmp d) with
    | .p (.bool b) => match KN b want with
     | true => FH AB nt sl h (base + i) op fun l h' _ => match dst with
      | some t => FL AB base ms nt ((t, l) :: sl) h'
      | none => FL AB base ms nt sl h'
     | false => match dst with
      | some t => FL AB base ms nt ((t, .und) :: sl) h
      | none => FL AB base ms nt sl h
    | .und => match dst with
     | some t => FL AB base ms nt ((t, .und) :: sl) h
     | none => FL AB base ms nt sl h
    | _ => none
   | some (none, _) => none
end
section
variable {P : Program} {A : BB} {AB : Ay} {f : St -> Prop} {hf : H9 f} {nt : Nat} {sl : List (Nat × LV)} {h : AM} {c : Nat}
theorem MO {dst : Option Tmp} {l : LV} {h' : AM} {c' : Nat} : (⟨nt, sl, h, c⟩ : St).go dst l h' c' = match dst with | some t => ⟨nt, (t, l) :: sl, h', c'⟩ | none => ⟨nt, sl, h', c'⟩ := by
 cases dst <;> rfl
theorem rn (n : Nat) {ms ms' : List G5} {st' : St} (hr : FJ AB n ms nt sl h c = some (ms', st')) (k : Em P A AB ⟨f, hf⟩ ms' st') : Em P A AB ⟨f, hf⟩ ms ⟨nt, sl, h, c⟩ := by
  induction n generalizing ms nt sl h c with
  | zero =>
    have : (ms, (⟨nt, sl, h, c⟩ : St)) = (ms', st') := by simpa [FJ] using hr
    cases this; exact k
  | succ n ih =>
    cases ms with
    | nil => simp [FJ] at hr
    | cons m ms =>
      obtain ⟨dst, op, g⟩ := m
      have run : (FH AB nt sl h c op fun l h' c' => match (generalizing := false) dst with
            | some t => FJ AB n ms nt ((t, l) :: sl) h' c'
            | none => FJ AB n ms nt sl h' c') = some (ms', st') -> BC P A AB ⟨nt, sl, h, c⟩ dst op ⟨Em P A AB ⟨f, hf⟩ ms, ⟨⟩⟩ := fun hs => by
        obtain ⟨l, h', c', h1, h2⟩ := G8 hs
        refine (h2 P A dst _ ?_).1
        rw [MO]
        cases dst with
        | some t => exact ih h1
        | none => exact ih h1
      have skip : (match (generalizing := false) dst with
          | some t => FJ AB n ms nt ((t, .und) :: sl) h c
          | none => FJ AB n ms nt sl h c) = some (ms', st') -> Em P A AB ⟨f, hf⟩ ms ((⟨nt, sl, h, c⟩ : St).put dst .und) := fun hs => by
        cases dst with
        | some t => exact ih hs
        | none => exact ih hs
      simp only [FJ] at hr
      cases g with
      | none => exact run hr
      | some g =>
        obtain ⟨d, want⟩ := g
        cases d with
        | none => simp at hr
        | some d =>
          simp only at hr
          simp only [Em, Fg, <- BD (h := h) (c := c)]
          generalize A9 nt sl (.tmp d) = v at hr ⊢
          split at hr
          . rename_i b
            split at hr
            . rename_i hb
              refine ⟨fun _ => run hr, fun e => ?_⟩
              rw [KO hb] at e; cases want <;> cases e
            rename_i hb
            refine ⟨fun e => ?_, fun _ => skip hr⟩
            rw [MN hb] at e; cases want <;> cases e
          . exact skip hr
          cases hr
theorem rl {ms : List G5} {st' : St} (hr : Hk AB ms nt sl h c = some st') (k : f st') : Em P A AB ⟨f, hf⟩ ms ⟨nt, sl, h, c⟩ := by
  induction ms generalizing nt sl h c with
  | nil =>
    have : (⟨nt, sl, h, c⟩ : St) = st' := by simpa [Hk] using hr
    subst this; exact ⟨k⟩
  | cons m ms ih =>
      obtain ⟨dst, op, g⟩ := m
      have run : (FH AB nt sl h c op fun l h' c' => match (generalizing := false) dst with
            | some t => Hk AB ms nt ((t, l) :: sl) h' c'
            | none => Hk AB ms nt sl h' c') = some st' -> BC P A AB ⟨nt, sl, h, c⟩ dst op ⟨Em P A AB ⟨f, hf⟩ ms, ⟨⟩⟩ := fun hs => by
        obtain ⟨l, h', c', h1, h2⟩ := G8 hs
        refine (h2 P A dst _ ?_).1
        rw [MO]
        cases dst with
        | some t => exact ih h1
        | none => exact ih h1
      have skip : (match (generalizing := false) dst with
          | some t => Hk AB ms nt ((t, .und) :: sl) h c
          | none => Hk AB ms nt sl h c) = some st' -> Em P A AB ⟨f, hf⟩ ms ((⟨nt, sl, h, c⟩ : St).put dst .und) := fun hs => by
        cases dst with
        | some t => exact ih hs
        | none => exact ih hs
      simp only [Hk] at hr
      cases g with
      | none => exact run hr
      | some g =>
        obtain ⟨d, want⟩ := g
        cases d with
        | none => simp at hr
        | some d =>
          simp only at hr
          simp only [Em, Fg, <- BD (h := h) (c := c)]
          generalize A9 nt sl (.tmp d) = v at hr ⊢
          split at hr
          . rename_i b
            split at hr
            . rename_i hb
              refine ⟨fun _ => run hr, fun e => ?_⟩
              rw [KO hb] at e; cases want <;> cases e
            rename_i hb
            refine ⟨fun e => ?_, fun _ => skip hr⟩
            rw [MN hb] at e; cases want <;> cases e
          . exact skip hr
          cases hr
theorem A1 (n : Nat) {base m : Nat} {ms ms' : List (Nat × G5)} {sl' : List (Nat × LV)} {h' : AM} (hr : FK AB base n ms nt sl h = some (ms', sl', h')) (k : C4 P A AB base m ⟨f, hf⟩ ms' ⟨nt, sl', h', c⟩) : C4 P A AB base m ⟨f, hf⟩ ms ⟨nt, sl, h, c⟩ := by
  induction n generalizing ms sl h with
  | zero =>
    have : (ms, sl, h) = (ms', sl', h') := by simpa [FK] using hr
    cases this; exact k
  | succ n ih =>
    cases ms with
    | nil => simp [FK] at hr
    | cons p ms =>
      obtain ⟨i, dst, op, g⟩ := p
      have at_ : ∀ {sl h c'} , C4 P A AB base m ⟨f, hf⟩ ms ⟨nt, sl, h, c⟩ -> C4 P A AB base m ⟨f, hf⟩ ms ⟨nt, sl, h, c'⟩ := fun {sl h c'} hd => by
        have := PU (P := P) (A := A) (AB := AB) base m ⟨f, hf⟩ ms ⟨nt, sl, h, c⟩ c'
        rw [<- this] at hd; exact hd
      have run : (FH AB nt sl h (base + i) op fun l h' c' => match (generalizing := false) dst with
            | some t => FK AB base n ms nt ((t, l) :: sl) h'
            | none => FK AB base n ms nt sl h') = some (ms', sl', h') -> Hw P A AB ((⟨nt, sl, h, c⟩ : St).at (base + i)) dst op ⟨C4 P A AB base m ⟨f, hf⟩ ms, ⟨⟩⟩ := fun hs => by
        obtain ⟨l, h', c', h1, h2⟩ := G8 hs
        refine (h2 P A dst _ ?_).2
        rw [MO]
        cases dst with
        | some t => exact at_ (ih h1)
        | none => exact at_ (ih h1)
      have skip : (match (generalizing := false) dst with
          | some t => FK AB base n ms nt ((t, .und) :: sl) h
          | none => FK AB base n ms nt sl h) = some (ms', sl', h') -> C4 P A AB base m ⟨f, hf⟩ ms ((⟨nt, sl, h, c⟩ : St).put dst .und) := fun hs => by
        cases dst with
        | some t => exact ih hs
        | none => exact ih hs
      simp only [FK] at hr
      cases g with
      | none => exact run hr
      | some g =>
        obtain ⟨d, want⟩ := g
        cases d with
        | none => simp at hr
        | some d =>
          simp only at hr
          simp only [C4, Fg, <- BD (h := h) (c := c)]
          generalize A9 nt sl (.tmp d) = v at hr ⊢
          split at hr
          . rename_i b
            split at hr
            . rename_i hb
              refine ⟨fun _ => run hr, fun e => ?_⟩
              rw [KO hb] at e; cases want <;> cases e
            rename_i hb
            refine ⟨fun e => ?_, fun _ => skip hr⟩
            rw [MN hb] at e; cases want <;> cases e
          . exact skip hr
          cases hr
theorem Bb {base m : Nat} {ms : List (Nat × G5)} {sl' : List (Nat × LV)} {h' : AM} (hr : FL AB base ms nt sl h = some (sl', h')) (k : f ⟨nt, sl', h', base + m⟩) : C4 P A AB base m ⟨f, hf⟩ ms ⟨nt, sl, h, c⟩ := by
  induction ms generalizing sl h with
  | nil =>
    have : (sl, h) = (sl', h') := by simpa [FL] using hr
    cases this; exact ⟨k⟩
  | cons p ms ih =>
      obtain ⟨i, dst, op, g⟩ := p
      have at_ : ∀ {sl h c'} , C4 P A AB base m ⟨f, hf⟩ ms ⟨nt, sl, h, c⟩ -> C4 P A AB base m ⟨f, hf⟩ ms ⟨nt, sl, h, c'⟩ := fun {sl h c'} hd => by
        have := PU (P := P) (A := A) (AB := AB) base m ⟨f, hf⟩ ms ⟨nt, sl, h, c⟩ c'
        rw [<- this] at hd; exact hd
      have run : (FH AB nt sl h (base + i) op fun l h' c' => match (generalizing := false) dst with
            | some t => FL AB base ms nt ((t, l) :: sl) h'
            | none => FL AB base ms nt sl h') = some (sl', h') -> Hw P A AB ((⟨nt, sl, h, c⟩ : St).at (base + i)) dst op ⟨C4 P A AB base m ⟨f, hf⟩ ms, ⟨⟩⟩ := fun hs => by
        obtain ⟨l, h', c', h1, h2⟩ := G8 hs
        refine (h2 P A dst _ ?_).2
        rw [MO]
        cases dst with
        | some t => exact at_ (ih h1)
        | none => exact at_ (ih h1)
      have skip : (match (generalizing := false) dst with
          | some t => FL AB base ms nt ((t, .und) :: sl) h
          | none => FL AB base ms nt sl h) = some (sl', h') -> C4 P A AB base m ⟨f, hf⟩ ms ((⟨nt, sl, h, c⟩ : St).put dst .und) := fun hs => by
        cases dst with
        | some t => exact ih hs
        | none => exact ih hs
      simp only [FL] at hr
      cases g with
      | none => exact run hr
      | some g =>
        obtain ⟨d, want⟩ := g
        cases d with
        | none => simp at hr
        | some d =>
          simp only at hr
          simp only [C4, Fg, <- BD (h := h) (c := c)]
          generalize A9 nt sl (.tmp d) = v at hr ⊢
          split at hr
          . rename_i b
            split at hr
            . rename_i hb
              refine ⟨fun _ => run hr, fun e => ?_⟩
              rw [KO hb] at e; cases want <;> cases e
            rename_i hb
            refine ⟨fun e => ?_, fun _ => skip hr⟩
            rw [MN hb] at e; cases want <;> cases e
          . exact skip hr
          cases hr
end
end Go.E
/- Rules for a walk in step with a plain function. No condition. -/
namespace Go.E
open Go Go.RowKit
def LH : List Nat -> Nat -> Bool
 | [], _ => false
 | x :: l, t => match Nat.beq t x with
  | true => true
  | false => LH l t
theorem Tz : ∀ {l : List Nat} {t : Nat}, LH l t = true ↔ t ∈ l
 | [], t => by simp [LH]
 | x :: l, t => by
  simp only [LH, List.mem_cons]
  split
  .rename_i h; have := Nat.eq_of_beq_eq_true h; subst this; simp
  rename_i h
  have hne : t ≠ x := by rintro rfl; simp at h
  rw [Tz]; simp [hne]
theorem Wo {P : Program} {l : List (Nat × TI)} (h : (l.map fun p => Ul P p.1) = l.map fun p => some p.2) : NL P (fun t => BN t l) := by
 have := SJ h
 intro t ti ht
 exact this t ti (by simpa only [BO] using ht)
section
variable {α β γ : Type}
theorem bd {o : Option α} {f : α -> Option β} {b : β} (h : o.bind f = some b) : ∃ a, o = some a /\ f a = some b := Option.bind_eq_some_iff.1 h
def Ad (l : List α) (n : Int) : Option α := match n with
 | .ofNat k => l[k]?
 | .negSucc _ => none
theorem Hl {l : List α} {n : Int} {y : α} (h : Ad l n = some y) : 0 <= n /\ n.toNat < l.length /\ l[n.toNat]? = some y := by
 cases n with
 | ofNat k => exact ⟨Int.natCast_nonneg k, (List.getElem?_eq_some_iff.1 h).1, h⟩
 | negSucc k => cases h
def MP (s : ByteArray) (n : Int) : Option UInt8 := match n with
 | .ofNat k => s[k]?
 | .negSucc _ => none
def Yh (l : List α) (lo hi : Int) : Option (List α) := if 0 <= lo /\ lo <= hi /\ hi <= l.length then some ((l.take hi.toNat).drop lo.toNat) else none
def BJ (l m : List α) : Option (List α) := if l.length + m.length <= 4294967296 then some (l ++ m) else none
def PX (n : Int) (z : α) : Option (List α) := if 0 <= n /\ n <= 4294967296 then some (List.replicate n.toNat z) else none
def Bq (l : List α) (n : Int) (z : α) : List α := l.set n.toNat z
def SP (a b : Int) : Option Int := if b = 0 then none else some (IntKind.wrap .u8 (a.tdiv b))
def NR (a b : Int) : Option Int := if b = 0 then none else some (a.tmod b)
def Eg (step : α -> Option (α ⊕ β)) : Nat -> α -> Option β
 | 0, _ => none
 | n + 1, s => match step s with
  | none => none
  | some (.inl s') => Eg step n s'
  | some (.inr b) => some b
theorem NS {step : α -> Option (α ⊕ β)} : ∀ {n m : Nat} {s : α} {b : β}, Eg step n s = some b -> Eg step (n + m) s = some b
 | 0, _, _, _, h => by cases h
 | n + 1, m, s, b, h => by
  rw [show n + 1 + m = (n + m) + 1 by omega]
  simp only [Eg] at h ⊢
  split at h
  .cases h
  .exact NS h
  exact h
open Classical in
noncomputable def PY (step : α -> Option (α ⊕ β)) (s : α) : Option β := if h : ∃ b n, Eg step n s = some b then some h.choose else none
noncomputable def AO (step : α -> Option (α ⊕ β)) (s : α) : Option β := match Eg step 18446744073709551616 s with
 | some b => some b
 | none => PY step s
theorem SQ {step : α -> Option (α ⊕ β)} {n : Nat} {s : α} {b : β} (h : Eg step n s = some b) : PY step s = some b := by
 have hex : ∃ b n, Eg step n s = some b := ⟨b, n, h⟩
 unfold PY
 rw [dif_pos hex]
 obtain ⟨m, hm⟩ := hex.choose_spec
 have h1 := NS (m := m) h
 have h2 := NS (m := n) hm
 rw [show m + n = n + m by omega, h1] at h2
 exact h2.symm
theorem T0 (step : α -> Option (α ⊕ β)) (s : α) : AO step s = PY step s := by
 unfold AO
 split
 .rename_i h; exact (SQ h).symm
 rfl
theorem Oo {step : α -> Option (α ⊕ β)} {n : Nat} {s : α} {b : β} (h : Eg step n s = some b) : AO step s = some b := by
 rw [T0]; exact SQ h
theorem Jx {step : α -> Option (α ⊕ β)} {s : α} {b : β} (h : AO step s = some b) : ∃ n, Eg step n s = some b := by
 rw [T0] at h
 unfold PY at h
 split at h
 .rename_i hex
  obtain ⟨m, hm⟩ := hex.choose_spec
  simp only [Option.some.injEq] at h
  rw [h] at hm
  exact ⟨m, hm⟩
 cases h
theorem Hm (step : α -> Option (α ⊕ β)) (s : α) : AO step s = match step s with
  | none => none
  | some (.inl s') => AO step s'
  | some (.inr b) => some b := by
 cases hs : step s with
 | none =>
  cases hl : AO step s with
  | none => rfl
  | some b =>
   obtain ⟨n, hn⟩ := Jx hl
   cases n with
   | zero => cases hn
   | succ n => simp [Eg, hs] at hn
 | some r =>
  cases r with
  | inl s' =>
   simp only
   cases hl : AO step s' with
   | some b => obtain ⟨n, hn⟩ := Jx hl; exact Oo (n := n + 1) (by simp only [Eg, hs]; exact hn)
   | none =>
    cases hl' : AO step s with
    | none => rfl
    | some b =>
     obtain ⟨n, hn⟩ := Jx hl'
     cases n with
     | zero => cases hn
     | succ n =>
      simp only [Eg, hs] at hn
      rw [Oo hn] at hl; cases hl
  | inr b => exact Oo (n := 1) (by simp [Eg, hs])
def D8 (sp : Option (α ⊕ β)) (rest : α -> Option β) : Option β := match sp with
 | none => none
 | some (.inl t) => rest t
 | some (.inr b) => some b
end
section
variable {P : Program} {A : BB} {AB : Ay} {st : St} {σ Ans : Type}
def LP (A : BB) (S : σ -> St) (Q : Ans -> Exit -> St -> Prop) : σ ⊕ Ans -> Exit -> St -> Prop
 | .inl s, e, st => e = .normal /\ A3 A st (S s)
 | .inr a, e, st => e ≠ .normal /\ Q a e st
theorem lp {c : Code} {Q : Ans -> Exit -> St -> Prop} {a : Ans} (I : σ -> St) {step : σ -> Option (σ ⊕ Ans)} {s0 : σ} (h : AO step s0 = some a) (hw : A3 A st (I s0))
  (hb : ∀ s b, step s = some b -> B0 P A c (LP A I Q b) (I s)) : B0 P A (.loop c) (Q a) st := by
 obtain ⟨n, hn⟩ := Jx h
 refine R9 (ι := Nat × σ) (fun i s => Eg step i.1 i.2 = some a /\ A3 A s (I i.2)) (fun i => i.1) (n, s0) ⟨hn, hw⟩ ?_
 rintro ⟨n, s⟩ st' ⟨hi, hws⟩
 refine EV hws ?_
 cases n with
 | zero => cases hi
 | succ n =>
  simp only [Eg] at hi
  cases hs : step s with
  | none => rw [hs] at hi; cases hi
  | some r =>
   rw [hs] at hi
   refine GL (hb s r hs) fun e st'' q => ?_
   cases r with
   | inl s' =>
    obtain ⟨he, hw'⟩ := q
    subst he
    exact ⟨(n, s'), ⟨hi, hw'⟩, Nat.lt_succ_self n⟩
   | inr a' =>
    obtain ⟨he, hq⟩ := q
    simp only [Option.some.injEq] at hi
    subst hi
    cases e <;> first | exact absurd rfl he | exact hq
theorem jn {x y : Code} {Q : Ans -> Exit -> St -> Prop} {a : Ans} (S : σ -> St) {sp : Option (σ ⊕ Ans)} {rest : σ -> Option Ans} (h : D8 sp rest = some a)
  (hx : ∀ b, sp = some b -> B0 P A x (LP A S Q b) st) (hy : ∀ t, rest t = some a -> B0 P A y (Q a) (S t)) : B0 P A (.seq x y) (Q a) st := by
 refine AC ?_
 cases hs : sp with
 | none => rw [hs] at h; cases h
 | some r =>
  rw [hs] at h
  refine GL (hx r hs) fun e st' q => ?_
  cases r with
  | inl t =>
   obtain ⟨he, hw⟩ := q
   subst he
   exact EV hw (hy t h)
  | inr a' =>
   obtain ⟨he, hq⟩ := q
   simp only [D8, Option.some.injEq] at h
   subst h
   cases e <;> first | exact absurd rfl he | exact hq
def NP (A : BB) (S : σ -> St) (s : σ) (e : Exit) (st : St) : Prop := e = .normal /\ A3 A st (S s)
theorem jb {x y : Code} {Q : Exit -> St -> Prop} {a : Ans} (S : σ -> St) {sp : Option σ} {rest : σ -> Option Ans} (h : sp.bind rest = some a)
  (hx : ∀ t, sp = some t -> B0 P A x (NP A S t) st) (hy : ∀ t, rest t = some a -> B0 P A y Q (S t)) : B0 P A (.seq x y) Q st := by
 obtain ⟨t, h1, h2⟩ := bd h
 refine AC (GL (hx t h1) fun e st' q => ?_)
 obtain ⟨he, hw⟩ := q
 subst he
 exact EV hw (hy t h2)
theorem rg (hE : A4 P AB) {id : Nat} {ops : List Oper} {Q : Exit -> St -> Prop} (k : Em P A AB ⟨Q .normal, ⟨⟩⟩ (ops.map (NI ops)) st) : B0 P A (.region id ops.toArray false) Q st := Wg hE rfl k
theorem rs (hE : A4 P AB) {id : Nat} {ops : List Oper} {y : Code} {Q : Exit -> St -> Prop} (k : Em P A AB ⟨B0 P A y Q, ⟨⟩⟩ (ops.map (NI ops)) st) : B0 P A (.seq (.region id ops.toArray false) y) Q st := X0 hE rfl k
theorem Ct (hE : A4 P AB) (hm : P.follows .mixedOrders = true) {id : Nat} {ops : List Oper} {Q : Exit -> St -> Prop} {nt : Nat} {sl : List (Nat × LV)} {h : AM} {c : Nat} (order : List Nat) (n : Nat)
  (hok : GM false AB.own .any ops.toArray order (Array.replicate ops.length false) = true) (hl : Nat.beq order.length ops.length = true) (hb : (order.all fun i => Nat.blt i ops.length) = true) (hn : Nat.beq ops.length n = true)
  (k : C4 P A AB c n ⟨Q .normal, ⟨⟩⟩ (Ef ops order) ⟨nt, sl, h, c⟩) : B0 P A (.region id ops.toArray true) Q ⟨nt, sl, h, c⟩ := by
 have hb' : (order.all fun i => decide (i < ops.length)) = true := by
  rw [List.all_eq_true] at hb ⊢
  intro i hi
  have := Nat.le_of_ble_eq_true (hb i hi)
  simp only [decide_eq_true_eq]; omega
 have hn' := Nat.eq_of_beq_eq_true hn
 subst hn'
 exact Gj false (fun h => by cases h) hE hm hok (Nat.eq_of_beq_eq_true hl) (GN order _ hb' k)
theorem Un (hE : A4 P AB) (hm : P.follows .mixedOrders = true) {id : Nat} {ops : List Oper} {Q : Exit -> St -> Prop} {nt : Nat} {sl : List (Nat × LV)} {h : AM} {c : Nat} (order : List Nat) (n : Nat)
  (hq : AB.calm.isSome = true) (hok : GM true AB.own .any ops.toArray order (Array.replicate ops.length false) = true) (hl : Nat.beq order.length ops.length = true) (hb : (order.all fun i => Nat.blt i ops.length) = true) (hn : Nat.beq ops.length n = true)
  (k : C4 P A AB c n ⟨Q .normal, ⟨⟩⟩ (Ef ops order) ⟨nt, sl, h, c⟩) : B0 P A (.region id ops.toArray true) Q ⟨nt, sl, h, c⟩ := by
 have hb' : (order.all fun i => decide (i < ops.length)) = true := by
  rw [List.all_eq_true] at hb ⊢
  intro i hi
  have := Nat.le_of_ble_eq_true (hb i hi)
  simp only [decide_eq_true_eq]; omega
 have hn' := Nat.eq_of_beq_eq_true hn
 subst hn'
 exact Gj true (fun _ => Option.isSome_iff_exists.1 hq) hE hm hok (Nat.eq_of_beq_eq_true hl) (GN order _ hb' k)
theorem cd {x : Operand} {cx cy : Code} {Q : Exit -> St -> Prop} {nt : Nat} {sl : List (Nat × LV)} {h : AM} {c : Nat} {b : Bool} {p q : Option Ans} {a : Ans} (hb : A9 nt sl x = .p (.bool b)) (hh : cond b p q = some a)
  (hx : p = some a -> B0 P A cx Q ⟨nt, sl, h, c⟩) (hy : q = some a -> B0 P A cy Q ⟨nt, sl, h, c⟩) : B0 P A (.cond x cx cy) Q ⟨nt, sl, h, c⟩ := by
 refine Oe (b := b) (by rw [<- BD]; exact hb) (fun e => ?_) (fun e => ?_)
 .subst e; exact hx hh
 subst e; exact hy hh
theorem Qv {x : Operand} {cx cy : Code} {Q : Exit -> St -> Prop} {nt : Nat} {sl : List (Nat × LV)} {h : AM} {c : Nat} (hb : A9 nt sl x = .p (.bool true)) (hx : B0 P A cx Q ⟨nt, sl, h, c⟩) : B0 P A (.cond x cx cy) Q ⟨nt, sl, h, c⟩ :=
 Oe (b := true) (by rw [<- BD]; exact hb) (fun _ => hx) (fun e => by cases e)
theorem PZ {x : Operand} {cx cy : Code} {Q : Exit -> St -> Prop} {nt : Nat} {sl : List (Nat × LV)} {h : AM} {c : Nat} (hb : A9 nt sl x = .p (.bool false)) (hx : B0 P A cy Q ⟨nt, sl, h, c⟩) : B0 P A (.cond x cx cy) Q ⟨nt, sl, h, c⟩ :=
 Oe (b := false) (by rw [<- BD]; exact hb) (fun e => by cases e) (fun _ => hx)
end
end Go.E
/- Rules for single operations of a walk in step with a plain function. No condition. -/
namespace Go.E
open Go Go.RowKit
section
variable {β : Type}
def Uo (t : Nat) (v : LV) : List (Nat × LV) -> (List (Nat × LV) -> Option β) -> Option β
 | [], _ => none
 | (q, u) :: l, k => match Nat.beq t q with
  | true => k ((q, v) :: l)
  | false => Uo t v l (fun r => k ((q, u) :: r))
theorem T1 {t : Nat} {v : LV} : ∀ {l : List (Nat × LV)} {k : List (Nat × LV) -> Option β} {y : β}, BN t l = some v -> Uo t v l k = some y -> k l = some y
 | [], _, _, h, _ => by simp [BN] at h
 | (q, u) :: l, k, y, h, hr => by
  simp only [BN] at h
  simp only [Uo] at hr
  split at h
  .rename_i hb
   rw [hb] at hr
   simp only [Option.some.injEq] at h
   subst h; exact hr
  rename_i hb
  rw [hb] at hr
  exact T1 (k := fun r => k ((q, u) :: r)) h hr
def Vh (t : Nat) (v : LV) (l : List (Nat × LV)) : Option (List (Nat × LV)) := Uo t v l some
theorem Pa {t : Nat} {v : LV} {l l' : List (Nat × LV)} (h : BN t l = some v) (hr : Vh t v l = some l') : l = l' := by
 have := T1 h hr
 simpa using this
theorem MQ {nt t : Nat} {sl : List (Nat × LV)} {d : DV} (h : A9 nt sl (.tmp t) = .p d) : BN t sl = some (.p d) := by
 simp only [A9] at h
 split at h
 .split at h
  .subst h; assumption
  cases h
 cases h
def Xc (nt : Nat) (sl : List (Nat × LV)) : Option (Option Tmp × Bool) -> Bool
 | none => true
 | some (some d, want) => match A9 nt sl (.tmp d) with
  | .p (.bool b) => KN b want
  | _ => false
 | some (none, _) => false
theorem SR {nt : Nat} {sl : List (Nat × LV)} {d : Tmp} {want : Bool} (h : Xc nt sl (some (some d, want)) = true) : A9 nt sl (.tmp d) = .p (.bool want) := by
 simp only [Xc] at h
 split at h
 .rename_i b hb; rw [hb, KO h]
 cases h
end
section
variable {P : Program} {A : BB} {AB : Ay} {f : St -> Prop} {hf : H9 f} {nt : Nat} {sl : List (Nat × LV)} {h : AM} {c : Nat} {Ans : Type}
theorem gs (t : Nat) {ms : List G5} {b : Bool} {p q : Option Ans} {a : Ans} {slT slF : List (Nat × LV)} (hh : cond b p q = some a) (hv : A9 nt sl (.tmp t) = .p (.bool b))
  (hT : Vh t (.p (.bool true)) sl = some slT) (hF : Vh t (.p (.bool false)) sl = some slF)
  (hx : p = some a -> Em P A AB ⟨f, hf⟩ ms ⟨nt, slT, h, c⟩) (hy : q = some a -> Em P A AB ⟨f, hf⟩ ms ⟨nt, slF, h, c⟩) : Em P A AB ⟨f, hf⟩ ms ⟨nt, sl, h, c⟩ := by
 cases b with
 | true => rw [Pa (MQ hv) hT]; exact hx hh
 | false => rw [Pa (MQ hv) hF]; exact hy hh
theorem Mu (t : Nat) {base m : Nat} {ms : List (Nat × G5)} {b : Bool} {p q : Option Ans} {a : Ans} {slT slF : List (Nat × LV)} (hh : cond b p q = some a) (hv : A9 nt sl (.tmp t) = .p (.bool b))
  (hT : Vh t (.p (.bool true)) sl = some slT) (hF : Vh t (.p (.bool false)) sl = some slF)
  (hx : p = some a -> C4 P A AB base m ⟨f, hf⟩ ms ⟨nt, slT, h, c⟩) (hy : q = some a -> C4 P A AB base m ⟨f, hf⟩ ms ⟨nt, slF, h, c⟩) : C4 P A AB base m ⟨f, hf⟩ ms ⟨nt, sl, h, c⟩ := by
 cases b with
 | true => rw [Pa (MQ hv) hT]; exact hx hh
 | false => rw [Pa (MQ hv) hF]; exact hy hh
theorem sx {dst : Option Tmp} {op : Op} {g : Option (Option Tmp × Bool)} {rest : List G5} (hg : Xc nt sl g = true) (k : BC P A AB ⟨nt, sl, h, c⟩ dst op ⟨Em P A AB ⟨f, hf⟩ rest, ⟨⟩⟩) :
  Em P A AB ⟨f, hf⟩ (⟨dst, op, g⟩ :: rest) ⟨nt, sl, h, c⟩ := by
 cases g with
 | none => exact k
 | some g =>
  obtain ⟨d, want⟩ := g
  cases d with
  | none => cases hg
  | some d =>
   have := SR hg
   simp only [Em, Fg, <- BD (h := h) (c := c), this, gM, gW]
   exact ⟨fun _ => k, fun e => by cases want <;> cases e⟩
theorem An {base m i : Nat} {dst : Option Tmp} {op : Op} {g : Option (Option Tmp × Bool)} {rest : List (Nat × G5)} (hg : Xc nt sl g = true) (k : Hw P A AB ⟨nt, sl, h, base + i⟩ dst op ⟨C4 P A AB base m ⟨f, hf⟩ rest, ⟨⟩⟩) :
  C4 P A AB base m ⟨f, hf⟩ ((i, ⟨dst, op, g⟩) :: rest) ⟨nt, sl, h, c⟩ := by
 cases g with
 | none => exact k
 | some g =>
  obtain ⟨d, want⟩ := g
  cases d with
  | none => cases hg
  | some d =>
   have := SR hg
   simp only [C4, Fg, <- BD (h := h) (c := c), this, gM, gW]
   exact ⟨fun _ => k, fun e => by cases want <;> cases e⟩
def X8 : Op -> Bool
 | .binOp .. | .call _ | .range .. | .next .. | .entry .. | .load .. | .store .. => false
 | _ => true
theorem Ak {st : St} {dst : Option Tmp} {op : Op} {K : A0 St} (hp : X8 op = true) (k : BC P A AB st dst op K) : Hw P A AB st dst op K := by
 cases op <;> first | exact k | cases hp
theorem Fi {nt : Nat} {sl : List (Nat × LV)} {h : AM} {c : Nat} {dst : Option Tmp} {t : TypeId} {x : Operand} {K : A0 St} (hc : LW AB.calm (A9 nt sl x) = true) (k : BC P A AB ⟨nt, sl, h, c⟩ dst (.load t x) K) : Hw P A AB ⟨nt, sl, h, c⟩ dst (.load t x) K := ⟨by rw [<- BD (h := h) (c := c)]; exact hc, k⟩
theorem Yi {nt : Nat} {sl : List (Nat × LV)} {h : AM} {c : Nat} {dst : Option Tmp} {t : TypeId} {x v : Operand} {K : A0 St} (hc : KE AB.calm (A9 nt sl x) = true) (k : BC P A AB ⟨nt, sl, h, c⟩ dst (.store t x v) K) : Hw P A AB ⟨nt, sl, h, c⟩ dst (.store t x v) K := ⟨by rw [<- BD (h := h) (c := c)]; exact hc, k⟩
theorem Bi {nt : Nat} {sl : List (Nat × LV)} {h : AM} {c : Nat} {dst : Option Tmp} {args : Array Operand} {ts : Array TypeId} {K : A0 St} (hc : (match args.toList with | s :: _ => LU AB.calm (A9 nt sl s) | [] => false) = true) (k : BC P A AB ⟨nt, sl, h, c⟩ dst (.call ⟨.builtin .append, args, ts⟩) K) : Hw P A AB ⟨nt, sl, h, c⟩ dst (.call ⟨.builtin .append, args, ts⟩) K := by
 unfold Hw
 simp only
 split
 all_goals simp_all
 rw [<- BD (h := h) (c := c)]; exact hc
def Pb (AB : Ay) (t : Nat) : Bool := match AB.tt t with
 | some ti => match ti.sh with
  | .slc _ => true
  | _ => false
 | none => false
def Uq (AB : Ay) (t : Nat) : Bool := match AB.tt t with
 | some ti => match ti.sh with
  | .str => true
  | _ => false
 | none => false
theorem Wp {t : Nat} (h : Uq AB t = true) : ∃ ti, AB.tt t = some ti /\ ti.sh = .str := by
 unfold Uq at h
 split at h
 .rename_i ti hti
  split at h
  .rename_i he; exact ⟨ti, hti, he⟩
  cases h
 cases h
theorem Oq {t : Nat} (h : Pb AB t = true) : ∃ ti e, AB.tt t = some ti /\ ti.sh = .slc e := by
 unfold Pb at h
 split at h
 .rename_i ti hti
  split at h
  .rename_i e he; exact ⟨ti, e, hti, he⟩
  cases h
 cases h
def Rk (AB : Ay) (t sz : Nat) : Bool := match AB.tt t with
 | some ti => match ti.sh with
  | .slc e => match AB.tt e with
   | some te => Nat.beq te.size sz
   | none => false
  | _ => false
 | none => false
theorem SS {t sz : Nat} (h : Rk AB t sz = true) : ∃ ti e te, AB.tt t = some ti /\ ti.sh = .slc e /\ AB.tt e = some te /\ te.size = sz := by
 unfold Rk at h
 split at h
 .rename_i ti hti
  split at h
  .rename_i e he
   split at h
   .rename_i te hte; exact ⟨ti, e, te, hti, he, hte, Nat.eq_of_beq_eq_true h⟩
   cases h
  cases h
 cases h
variable {α : Type} {enc : α -> List DV} {l : List α} {d : Tmp} {t sz : Nat} {x : Operand}
theorem Ax (ht : Pb AB t = true) (hx : A9 nt sl x = .p (.slice sz (l.map enc))) (k : f ⟨nt, (d, .p (.int .i64 l.length)) :: sl, h, c⟩) : BC P A AB ⟨nt, sl, h, c⟩ (some d) (.call ⟨.builtin .len, #[x], #[t]⟩) ⟨f, hf⟩ := by
 obtain ⟨ti, e, h1, h2⟩ := Oq ht
 refine AR.2 ⟨ti, h1, ?_⟩
 rw [BD (h := h) (c := c)] at hx
 dsimp only
 rw [h2, hx]
 intro _
 simp only [List.length_map]
 exact k
theorem KP (ht : Pb AB t = true) (hx : A9 nt sl x = .p (.slice sz (l.map enc))) (k : f ⟨nt, (d, .p (.int .i64 l.length)) :: sl, h, c⟩) : Hw P A AB ⟨nt, sl, h, c⟩ (some d) (.call ⟨.builtin .len, #[x], #[t]⟩) ⟨f, hf⟩ := by
 obtain ⟨ti, e, h1, h2⟩ := Oq ht
 refine AR.2 ⟨ti, h1, ?_⟩
 rw [BD (h := h) (c := c)] at hx
 dsimp only
 rw [h2, hx]
 simp only [Ui, List.length_map]
 exact k
theorem Am {i : Operand} {kk : IntKind} {n : Int} {y : α} (hy : Ad l n = some y) (ht : Rk AB t sz = true) (hx : A9 nt sl x = .p (.slice sz (l.map enc))) (hi : A9 nt sl i = .p (.int kk n))
  (k : f ⟨nt, (d, .p (.place (enc y) 0)) :: sl, h, c⟩) : BC P A AB ⟨nt, sl, h, c⟩ (some d) (.indexAddr t x i) ⟨f, hf⟩ := by
 obtain ⟨ti, e, te, h1, h2, h3, h4⟩ := SS ht
 obtain ⟨g1, g2, g3⟩ := Hl hy
 rw [BD (h := h) (c := c)] at hx hi
 refine CR.2 ⟨kk, n, hi, AR.2 ⟨ti, h1, ?_⟩⟩
 dsimp only
 rw [h2, hx]
 exact AR.2 ⟨te, h3, h4, g1, AP.2 ⟨enc y, by rw [List.getElem?_map, g3]; rfl, k⟩⟩
theorem Yj {s : ByteArray} {i : Operand} {kk : IntKind} {n : Int} {y : UInt8} (hy : MP s n = some y) (ht : Uq AB t = true) (hx : A9 nt sl x = .p (.str s)) (hi : A9 nt sl i = .p (.int kk n))
  (k : f ⟨nt, (d, .p (.int .u8 y.toNat)) :: sl, h, c⟩) : BC P A AB ⟨nt, sl, h, c⟩ (some d) (.index t x i) ⟨f, hf⟩ := by
 obtain ⟨ti, hti, hsh⟩ := Wp ht
 rw [BD (h := h) (c := c)] at hx hi
 cases n with
 | negSucc n => cases hy
 | ofNat n =>
  refine CR.2 ⟨kk, _, hi, AR.2 ⟨ti, hti, Int.natCast_nonneg n, ?_⟩⟩
  dsimp only
  rw [hsh, hx]
  exact AP.2 ⟨y, hy, k⟩
end
end Go.E
/- Rules for single operations: calls, what is appended, made, looked up, set against another. No condition. -/
namespace Go.E
open Go Go.RowKit
inductive Jr : List DV -> List DV -> Prop where
 | nil : Jr [] []
 | cons {a b : DV} {l m : List DV} (h : Le a b) (t : Jr l m) : Jr (a :: l) (b :: m)
theorem Le.rfl {d : DV} : Le d d := fun _ _ _ h => h
theorem Jr.rfl : ∀ {l : List DV}, Jr l l
 | [] => .nil
 | _ :: _ => .cons Le.rfl Jr.rfl
theorem Jr.len {l m : List DV} (h : Jr l m) : l.length = m.length := by induction h with
 | nil => exact Eq.refl _
 | cons _ _ ih => simp [ih]
theorem Jr.get {l m : List DV} (h : Jr l m) : ∀ (i : Nat) (a b : DV), l[i]? = some a -> m[i]? = some b -> Le a b := by
 induction h with
 | nil => intro i a b h1; simp at h1
 | cons h _ ih =>
  intro i x y h1 h2
  cases i with
  | zero => simp at h1 h2; subst h1 h2; exact h
  | succ i => exact ih i x y (by simpa using h1) (by simpa using h2)
theorem Le.tup' {l m : List DV} (h : Jr l m) : Le (.tup l) (.tup m) := Le.tup h.len h.get
theorem Le.agg' {l m : List DV} (h : Jr l m) : Le (.agg l) (.agg m) := Le.agg h.len h.get
theorem Le.nilm : Le .nilm (.map []) := fun _ _ _ hv => by cases hv; exact .mnil
theorem Le.own {α : Type} {enc : α -> List DV} {l : List α} {sz : Nat} : Le (.slice sz (((l.map enc).drop 0).take l.length)) (.slice sz (l.map enc)) := Le.of_eq (by rw [List.drop_zero, List.take_of_length_le (by simp)])
theorem Bf.le {P : Program} {k : Nat} {ds ds' : List DV} {Q : DV -> Prop} (h : Bf P k ds Q) (hl : Jr ds' ds) : Bf P k ds' Q :=
 ⟨h.enters, fun O w vs h1 h2 h3 => h.run O w vs h1 (by rw [h2, hl.len]) fun i v d hv hd => by
  have hi := (List.getElem?_eq_some_iff.1 hd).1
  have hlen := hl.len
  have hx : ds'[i]? = some (ds'[i]'(by omega)) := List.getElem?_eq_getElem _
  exact hl.get i _ d hx hd _ _ _ (h3 i v _ hv hx)⟩
theorem FD.le {P : Program} {k : Nat} {ds ds' : List DV} {e sz : Nat} {el : List (List DV)} (h : FD P k ds e sz el) (hl : Jr ds' ds) : FD P k ds' e sz el :=
 ⟨h.enters, fun O w vs h1 h2 h3 => h.run O w vs h1 (by rw [h2, hl.len]) fun i v d hv hd => by
  have hi := (List.getElem?_eq_some_iff.1 hd).1
  have hlen := hl.len
  have hx : ds'[i]? = some (ds'[i]'(by omega)) := List.getElem?_eq_getElem _
  exact hl.get i _ d hx hd _ _ _ (h3 i v _ hv hx)⟩
section
variable {κ υ : Type} [BEq κ]
def AU (m : List (κ × υ)) (x : κ) : Option υ := match m with
 | [] => none
 | p :: m => if x == p.1 then some p.2 else AU m x
def Av (x : κ) (v : υ) : List (κ × υ) -> List (κ × υ)
 | [] => [(x, v)]
 | p :: m => if x == p.1 then (p.1, v) :: m else p :: Av x v m
structure Jl (AB : Ay) (kt : Nat) (ke : κ -> DV) : Prop where
 eq : ∀ a b, DR (ke a) (ke b) = (a == b)
 fits : ∀ a, Bd AB kt (ke a) = true
theorem Jl.to {AB env' : Ay} {kt : Nat} {ke : κ -> DV} (h : Jl AB kt ke) (hf : ∀ a, Bd env' kt (ke a) = Bd AB kt (ke a)) : Jl env' kt ke := ⟨h.eq, fun a => (hf a).trans (h.fits a)⟩
def Ae (ke : κ -> DV) (ve : υ -> DV) (m : List (κ × υ)) : List (DV × DV) := m.map fun p => (ke p.1, ve p.2)
variable {AB : Ay} {kt : Nat} {ke : κ -> DV} {ve : υ -> DV}
theorem NT (hk : Jl AB kt ke) (x : κ) : ∀ m : List (κ × υ), Gz (ke x) (Ae ke ve m) = (AU m x).map ve
 | [] => by simp [Ae, Gz, C3, AU]
 | p :: m => by
  have ih := NT hk x m
  simp only [Ae, Gz] at ih
  simp only [Ae, List.map_cons, Gz, C3, hk.eq, AU]
  by_cases h : (x == p.1) = true
  .simp [h]
  simp only [h]
  simp only [Bool.false_eq_true, if_false, Option.map_map]
  rw [<- ih]
  cases C3 (ke x) (m.map fun p => (ke p.1, ve p.2)) <;> simp
theorem Qw (hk : Jl AB kt ke) (x : κ) (v : υ) : ∀ m : List (κ × υ), LD (ke x) (ve v) (Ae ke ve m) = Ae ke ve (Av x v m)
 | [] => by simp [Ae, LD, Av]
 | p :: m => by
  have ih := Qw hk x v m
  simp only [Ae] at ih
  simp only [Ae, List.map_cons, LD, hk.eq, Av]
  by_cases h : (x == p.1) = true
  .simp [h]
  simp only [h]
  simp only [Bool.false_eq_true, if_false, List.map_cons, ih]
theorem Ko (hk : Jl AB kt ke) (m : List (κ × υ)) : ((Ae ke ve m).all fun p => Bd AB kt p.1) = true := by
 simp only [Ae, List.all_map, List.all_eq_true, Function.comp]
 intro p _; exact hk.fits _
end
section
variable {β : Type}
def Ot (t : Nat) : AM -> (AM -> Option β) -> Option β
 | [], k => k []
 | (q, u) :: l, k => match Nat.beq t q with
  | true => Ot t l k
  | false => Ot t l (fun r => k ((q, u) :: r))
theorem Lh {t : Nat} : ∀ {l : AM} {k : AM -> Option β}, Ot t l k = k (Du t l)
 | [], k => rfl
 | (q, u) :: l, k => by
  simp only [Ot, Du]
  by_cases h : t = q
  .subst h; simp only [Nat.beq_refl, if_true]; exact Lh
  have : Nat.beq t q = false := by
   cases hb : Nat.beq t q with
   | false => rfl
   | true => exact absurd (Nat.eq_of_beq_eq_true hb) h
  rw [this, if_neg h]
  exact Lh
end
section
variable {P : Program} {A : BB} {AB : Ay} {f : St -> Prop} {hf : H9 f} {nt : Nat} {sl : List (Nat × LV)} {h : AM} {c : Nat} {d : Tmp}
theorem En {args : List Operand} {ls : List LV} (hl : DU nt sl args some = some ls) : args.map (St.eval ⟨nt, sl, h, c⟩) = ls := by
 rw [JV, Option.some.injEq] at hl
 rw [<- hl]
 exact List.map_congr_left fun x _ => (BD (h := h) (c := c)).symm
theorem Ah {fo : Operand} {args : Array Operand} {ts : Array TypeId} {k : Nat} {caps ls : List LV} {ds : List DV} {r : DV} (hF : Bf P k ds (· = r)) (hs : r.scalar = true \/ (ls ++ caps).flatMap (DZ h) = [])
  (hfn : A9 nt sl fo = .fn k caps) (hl : DU nt sl args.toList some = some ls) (hds : Bm h (ls ++ caps) = some ds) (kk : f ⟨nt, (d, .p r) :: sl, h, c⟩) : BC P A AB ⟨nt, sl, h, c⟩ (some d) (.call ⟨.value fo, args, ts⟩) ⟨f, hf⟩ := by
 rw [BD (h := h) (c := c)] at hfn
 show Lc _ _
 rw [hfn]
 show IB P A h c k (args.toList.map _ ++ caps) _
 rw [En hl]
 exact Ze hds hF hs kk
theorem X9 {fo : Operand} {args : Array Operand} {ts : Array TypeId} {k : Nat} {caps ls : List LV} {ds : List DV} {r : DV} {h' : AM} (hF : Bf P k ds (· = r)) (hs : r.scalar = false)
  (hfn : A9 nt sl fo = .fn k caps) (hl : DU nt sl args.toList some = some ls) (hds : Bm h (ls ++ caps) = some ds) (hd : B3 ((ls ++ caps).flatMap (DZ h)) h = h') (kk : f ⟨nt, (d, .p r) :: sl, h', c⟩) : BC P A AB ⟨nt, sl, h, c⟩ (some d) (.call ⟨.value fo, args, ts⟩) ⟨f, hf⟩ := by
 rw [BD (h := h) (c := c)] at hfn
 show Lc _ _
 rw [hfn]
 show IB P A h c k (args.toList.map _ ++ caps) _
 rw [En hl]
 exact Zf hds hF hs hd kk
theorem Bo {fo : Operand} {args : Array Operand} {ts : Array TypeId} {k : Nat} {caps ls : List LV} {ds : List DV} {r : DV} (hF : Bf P k ds (· = r)) (hs : r.scalar = true \/ (ls ++ caps).flatMap (DZ h) = [])
  (hfn : (Cq fo, A9 nt sl fo) = (false, .fn k caps)) (hl : DU nt sl args.toList some = some ls) (hds : Bm h (ls ++ caps) = some ds) (kk : f ⟨nt, (d, .p r) :: sl, h, c⟩) : Hw P A AB ⟨nt, sl, h, c⟩ (some d) (.call ⟨.value fo, args, ts⟩) ⟨f, hf⟩ := by
 obtain ⟨hnd, hfn⟩ := Prod.mk.inj hfn
 rw [BD (h := h) (c := c)] at hfn
 show (if Cq fo = true then _ else Lc _ _)
 rw [if_neg (by rw [hnd]; decide)]
 rw [hfn]
 refine .inl ?_
 show Wj P h k (args.toList.map _ ++ caps) _
 rw [En hl]
 exact AAC hds hF hs kk
def Ou (AB : Ay) (t e sz : Nat) : Bool := match AB.tt t with
 | some ti => match ti.sh with
  | .slc e' => match AB.tt e with
   | some te => Nat.beq e' e && (Nat.beq te.size sz && (Nat.blt 0 sz && Nat.ble te.bytes 32768))
   | none => false
  | _ => false
 | none => false
theorem Li {t e sz : Nat} (h : Ou AB t e sz = true) : ∃ ti te, AB.tt t = some ti /\ ti.sh = .slc e /\ AB.tt e = some te /\ te.size = sz /\ 0 < sz /\ te.bytes <= 32768 := by
 unfold Ou at h
 split at h
 .rename_i ti hti
  split at h
  .rename_i e' he
   split at h
   .rename_i te hte
    simp only [Bool.and_eq_true] at h
    obtain ⟨h1, h2, h3, h4⟩ := h
    have := Nat.eq_of_beq_eq_true h1
    subst this
    exact ⟨ti, te, hti, he, hte, Nat.eq_of_beq_eq_true h2, Nat.le_of_ble_eq_true h3, Nat.le_of_ble_eq_true h4⟩
   cases h
  cases h
 cases h
variable {α : Type} {enc : α -> List DV} {l m r : List α} {t e sz : Nat} {s x : Operand}
def Rl (enc : α -> List DV) (sz : Nat) : Prop := ∀ a, (enc a).length = sz /\ (enc a).all DV.cell = true
theorem Qx (hr : BJ l m = some r) : r = l ++ m /\ l.length + m.length <= 4294967296 := by
 simp only [BJ] at hr
 split at hr
 .simp only [Option.some.injEq] at hr; exact ⟨hr.symm, ‹_›⟩
 cases hr
theorem NU {n b : Nat} (hb : b <= 32768) (hn : n <= 4294967296) : n * b <= 140737488355328 :=
 Nat.le_trans (Nat.mul_le_mul hn hb) (by decide)
theorem QT {n : Nat} (hn : n <= 4294967296) : n <= maxLen := by unfold maxLen; omega
theorem Vi (hr : BJ [] m = some r) (hen : Rl enc sz) (hs : A9 nt sl s = .p .nils) (hx : Jt h (A9 nt sl x) = some (m.map enc)) (ht : Ou AB t e sz = true)
  (k : f ⟨nt, (d, .lsl c sz 0 r.length) :: sl, (c, .row e sz (r.map enc)) :: h, c + 1⟩) : BC P A AB ⟨nt, sl, h, c⟩ (some d) (.call ⟨.builtin .append, #[s, x], #[t, t]⟩) ⟨f, hf⟩ := by
 obtain ⟨ti, te, h1, h2, h3, h4, h5, h6⟩ := Li ht
 obtain ⟨rfl, hn⟩ := Qx hr
 simp only [List.length_nil, Nat.zero_add] at hn
 rw [BD (h := h) (c := c)] at hs hx
 subst h4
 refine ⟨rfl, AR.2 ⟨ti, h1, CW.2 ⟨e, h2, AR.2 ⟨te, h3, h5, AP.2 ⟨_, hx, ?_, ?_⟩⟩⟩⟩⟩
 .intro y hy
  obtain ⟨a, _, rfl⟩ := List.mem_map.1 hy
  exact hen a
 rw [hs]
 simp only [SE, List.length_map]
 exact ⟨⟨NU h6 hn, QT hn⟩, k⟩
theorem A7 {id n : Nat} {h' : AM} (hr : BJ l m = some r) (hen : Rl enc sz) (hs : A9 nt sl s = .lsl id sz 0 n) (hl : BN id h = some (.row e sz (l.map enc))) (hn : n = l.length) (hd : Ot id h some = some h')
  (hx : Jt h (A9 nt sl x) = some (m.map enc)) (ht : Ou AB t e sz = true)
  (k : f ⟨nt, (d, .lsl c sz 0 r.length) :: sl, (c, .row e sz (r.map enc)) :: h', c + 1⟩) : BC P A AB ⟨nt, sl, h, c⟩ (some d) (.call ⟨.builtin .append, #[s, x], #[t, t]⟩) ⟨f, hf⟩ := by
 obtain ⟨ti, te, h1, h2, h3, h4, h5, h6⟩ := Li ht
 obtain ⟨rfl, hb⟩ := Qx hr
 rw [BD (h := h) (c := c)] at hs hx
 rw [Lh, Option.some.injEq] at hd
 rw [BO] at hl
 subst h4 hn hd
 refine ⟨rfl, AR.2 ⟨ti, h1, CW.2 ⟨e, h2, AR.2 ⟨te, h3, h5, AP.2 ⟨_, hx, ?_, ?_⟩⟩⟩⟩⟩
 .intro y hy
  obtain ⟨a, _, rfl⟩ := List.mem_map.1 hy
  exact hen a
 rw [hs]
 simp only [SE]
 refine ⟨trivial, AP.2 ⟨_, hl, ?_⟩⟩
 dsimp only
 refine EU.2 ⟨e, te.size, l.map enc, rfl, ?_⟩
 refine ⟨⟨rfl, rfl, by simp, by rw [List.length_map]; exact NU h6 hb, by rw [List.length_map]; exact QT hb⟩, ?_⟩
 have e1 : ((l.map enc).drop 0).take l.length ++ m.map enc = (l ++ m).map enc := by rw [List.drop_zero, List.take_of_length_le (by simp), List.map_append]
 rw [List.length_append] at k
 simp only [e1, List.length_map]
 exact k
theorem Yk {n : Int} {z : α} {kk kk' : IntKind} {lo co : Operand} (hr : PX n z = some r) (hl : A9 nt sl lo = .p (.int kk n)) (hc : A9 nt sl co = .p (.int kk' n)) (ht : Ou AB t e sz = true) (hz : (AB.tt e).map (·.zero) = some (enc z))
  (k : f ⟨nt, (d, .lsl c sz 0 r.length) :: sl, (c, .row e sz (r.map enc)) :: h, c + 1⟩) : BC P A AB ⟨nt, sl, h, c⟩ (some d) (.makeSlice t lo co) ⟨f, hf⟩ := by
 obtain ⟨ti, te, h1, h2, h3, h4, h5, h6⟩ := Li ht
 rw [BD (h := h) (c := c)] at hl hc
 rw [h3] at hz
 simp only [Option.map_some, Option.some.injEq] at hz
 simp only [PX] at hr
 split at hr
 .rename_i hb
  simp only [Option.some.injEq] at hr
  subst hr h4
  have hn : n.toNat <= 4294967296 := by omega
  refine AR.2 ⟨ti, h1, CW.2 ⟨e, h2, AR.2 ⟨te, h3, CR.2 ⟨kk, n, hl, CR.2 ⟨kk', n, hc, ?_⟩⟩⟩⟩⟩
  refine ⟨⟨rfl, hb.1, ?_, QT hn⟩, ?_⟩
  .have := NU h6 hn
   rw [Nat.mul_comm]; exact Nat.le_trans this (by decide)
  dsimp only
  rw [hz]
  rw [List.length_replicate, List.map_replicate] at k
  exact .inl k
 cases hr
theorem CQ {i : Operand} {kk : IntKind} {n : Int} {id len : Nat} {y : α} (hy : Ad l n = some y) (ht : Rk AB t sz = true) (hx : A9 nt sl x = .lsl id sz 0 len) (hi : A9 nt sl i = .p (.int kk n)) (hn : len = l.length)
  (k : f ⟨nt, (d, .lpe id n.toNat 0) :: sl, h, c⟩) : BC P A AB ⟨nt, sl, h, c⟩ (some d) (.indexAddr t x i) ⟨f, hf⟩ := by
 obtain ⟨ti, e, te, h1, h2, h3, h4⟩ := SS ht
 obtain ⟨g1, g2, g3⟩ := Hl hy
 rw [BD (h := h) (c := c)] at hx hi
 refine CR.2 ⟨kk, n, hi, AR.2 ⟨ti, h1, ?_⟩⟩
 dsimp only
 rw [h2, hx]
 refine AR.2 ⟨te, h3, h4, ⟨g1, by omega⟩, ?_⟩
 simp only [Nat.zero_add]
 exact k
theorem Dm {n : Int} {id o : Nat} {y : α} {v : LV} (hy : Ad l n = some y) (hx : A9 nt sl x = .lpe id n.toNat o) (hl : BN id h = some (.row e sz (l.map enc)))
  (hv : (match AB.tt t with | some ti => PV ti o (enc y) some | none => none) = some v) (k : f ⟨nt, (d, v) :: sl, h, c⟩) : BC P A AB ⟨nt, sl, h, c⟩ (some d) (.load t x) ⟨f, hf⟩ := by
 obtain ⟨g1, g2, g3⟩ := Hl hy
 rw [BD (h := h) (c := c)] at hx
 rw [BO] at hl
 split at hv
 .rename_i ti hti
  rw [Ol] at hv
  obtain ⟨u, h1, h2⟩ := Option.bind_eq_some_iff.1 hv
  simp only [Option.some.injEq] at h2
  subst h2
  refine AR.2 ⟨ti, hti, ?_⟩
  rw [hx]
  refine AP.2 ⟨_, hl, ?_⟩
  dsimp only
  refine EU.2 ⟨e, sz, l.map enc, rfl, ?_⟩
  exact AP.2 ⟨enc y, by rw [List.getElem?_map, g3]; rfl, AP.2 ⟨u, h1, k⟩⟩
 cases hv
theorem OA {n : Int} {id o : Nat} {y z : α} {v : Operand} {ls : List LV} {ds : List DV} {h' : AM} (hy : Ad l n = some y) (hx : A9 nt sl x = .lpe id n.toNat o) (hl : BN id h = some (.row e sz (l.map enc)))
  (hc : JU (A9 nt sl v) some = some ls) (hds : F2 ls = some ds) (hsz : (match AB.tt t with | some ti => Nat.beq ls.length ti.size && Lf ls | none => false) = true) (hz : CZ (enc y) o ds = enc z) (hlen : Nat.ble (o + ls.length) (enc y).length = true)
  (hu : Hj id (.row e sz ((Bq l n z).map enc)) h some = some h') (k : f ⟨nt, sl, h', c⟩) : BC P A AB ⟨nt, sl, h, c⟩ none (.store t x v) ⟨f, hf⟩ := by
 obtain ⟨g1, g2, g3⟩ := Hl hy
 rw [BD (h := h) (c := c)] at hx hc
 rw [BO] at hl
 rw [EA, Option.some.injEq] at hu
 subst hu
 split at hsz
 .rename_i ti hti
  simp only [Bool.and_eq_true] at hsz
  rw [Hx, Option.bind_eq_some_iff] at hc
  obtain ⟨ls', h1, h2⟩ := hc
  simp only [Option.some.injEq] at h2
  subst h2
  refine AR.2 ⟨ti, hti, AP.2 ⟨ls', h1, ⟨Nat.eq_of_beq_eq_true hsz.1, by rw [<- Kn]; exact hsz.2⟩, ?_⟩⟩
  rw [hx]
  refine AP.2 ⟨_, hl, ?_⟩
  dsimp only
  refine EU.2 ⟨e, sz, l.map enc, rfl, ?_⟩
  refine AP.2 ⟨enc y, by rw [List.getElem?_map, g3]; rfl, AP.2 ⟨ds, hds, Nat.le_of_ble_eq_true hlen, ?_⟩⟩
  dsimp only
  rw [hz]
  simp only [Bq, List.map_set] at k
  exact k
 cases hsz
theorem Zh {n : Int} {id o : Nat} {y : α} {zs : List DV} {v : Operand} {ls : List LV} {ds : List DV} {h' : AM} (hy : Ad l n = some y) (hx : A9 nt sl x = .lpe id n.toNat o) (hl : BN id h = some (.row e sz (l.map enc)))
  (hc : JU (A9 nt sl v) some = some ls) (hds : F2 ls = some ds) (hsz : (match AB.tt t with | some ti => Nat.beq ls.length ti.size && Lf ls | none => false) = true) (hz : CZ (enc y) o ds = zs) (hlen : Nat.ble (o + ls.length) (enc y).length = true)
  (hu : Hj id (.row e sz ((l.map enc).set n.toNat zs)) h some = some h') (k : f ⟨nt, sl, h', c⟩) : BC P A AB ⟨nt, sl, h, c⟩ none (.store t x v) ⟨f, hf⟩ := by
 obtain ⟨g1, g2, g3⟩ := Hl hy
 rw [BD (h := h) (c := c)] at hx hc
 rw [BO] at hl
 rw [EA, Option.some.injEq] at hu
 subst hu
 split at hsz
 .rename_i ti hti
  simp only [Bool.and_eq_true] at hsz
  rw [Hx, Option.bind_eq_some_iff] at hc
  obtain ⟨ls', h1, h2⟩ := hc
  simp only [Option.some.injEq] at h2
  subst h2
  refine AR.2 ⟨ti, hti, AP.2 ⟨ls', h1, ⟨Nat.eq_of_beq_eq_true hsz.1, by rw [<- Kn]; exact hsz.2⟩, ?_⟩⟩
  rw [hx]
  refine AP.2 ⟨_, hl, ?_⟩
  dsimp only
  refine EU.2 ⟨e, sz, l.map enc, rfl, ?_⟩
  refine AP.2 ⟨enc y, by rw [List.getElem?_map, g3]; rfl, AP.2 ⟨ds, hds, Nat.le_of_ble_eq_true hlen, ?_⟩⟩
  dsimp only
  rw [hz]
  exact k
 cases hsz
def T2 (AB : Ay) (t kt et : Nat) : Bool := match AB.tt t with
 | some ti => match ti.sh with
  | .mp k e => Nat.beq k kt && Nat.beq e et
  | _ => false
 | none => false
theorem Pc {kt et : Nat} (h : T2 AB t kt et = true) : ∃ ti, AB.tt t = some ti /\ ti.sh = .mp kt et := by
 unfold T2 at h
 split at h
 .rename_i ti hti
  split at h
  .rename_i k e he
   simp only [Bool.and_eq_true] at h
   have h1 := Nat.eq_of_beq_eq_true h.1; have h2 := Nat.eq_of_beq_eq_true h.2
   subst h1 h2
   exact ⟨ti, hti, he⟩
  cases h
 cases h
variable {κ υ : Type} [BEq κ] {ke : κ -> DV} {ve : υ -> DV} {mp : List (κ × υ)} {kt et : Nat} {i : Operand}
theorem SU {o : Option υ} {z : υ} : (o.map ve).getD (ve z) = ve (o.getD z) := by cases o <;> rfl
theorem Zi {y : κ} (z : υ) (hk : Jl AB kt ke) (hm : Ju h (A9 nt sl x) = some (Ae ke ve mp)) (hi : A9 nt sl i = .p (ke y)) (ht : T2 AB t kt et = true) (hz : (AB.tt et).map (zV AB) = some (ve z))
  (k : f ⟨nt, (d, .tup [.p (ve ((AU mp y).getD z)), .p (.bool (AU mp y).isSome)]) :: sl, h, c⟩) : BC P A AB ⟨nt, sl, h, c⟩ (some d) (.lookup t x i true) ⟨f, hf⟩ := by
 obtain ⟨ti, h1, h2⟩ := Pc ht
 rw [BD (h := h) (c := c)] at hm hi
 obtain ⟨te, h3, h4⟩ := Option.map_eq_some_iff.1 hz
 refine AR.2 ⟨ti, h1, Dr.2 ⟨kt, et, h2, AR.2 ⟨te, h3, AP.2 ⟨_, hm, C6.2 ⟨_, hi, ⟨hk.fits y, Ko hk mp⟩, ?_⟩⟩⟩⟩⟩
 simp only [if_true, NT hk, h4, SU, Option.isSome_map]
 exact k
theorem JC {y : κ} (z : υ) (hk : Jl AB kt ke) (hm : Ju h (A9 nt sl x) = some (Ae ke ve mp)) (hi : A9 nt sl i = .p (ke y)) (ht : T2 AB t kt et = true) (hz : (AB.tt et).map (zV AB) = some (ve z))
  (k : f ⟨nt, (d, .p (ve ((AU mp y).getD z))) :: sl, h, c⟩) : BC P A AB ⟨nt, sl, h, c⟩ (some d) (.lookup t x i false) ⟨f, hf⟩ := by
 obtain ⟨ti, h1, h2⟩ := Pc ht
 rw [BD (h := h) (c := c)] at hm hi
 obtain ⟨te, h3, h4⟩ := Option.map_eq_some_iff.1 hz
 refine AR.2 ⟨ti, h1, Dr.2 ⟨kt, et, h2, AR.2 ⟨te, h3, AP.2 ⟨_, hm, C6.2 ⟨_, hi, ⟨hk.fits y, Ko hk mp⟩, ?_⟩⟩⟩⟩⟩
 simp only [Bool.false_eq_true, if_false, NT hk, h4, SU]
 exact k
theorem Kp {y : κ} {z : υ} {id : Nat} {v : Operand} {h' : AM} (hk : Jl AB kt ke) (hx : A9 nt sl x = .lmap id) (hm : BN id h = some (.map (Ae ke ve mp))) (hi : A9 nt sl i = .p (ke y)) (hv : A9 nt sl v = .p (ve z)) (ht : T2 AB t kt et = true)
  (hu : Hj id (.map (Ae ke ve (Av y z mp))) h some = some h') (k : f ⟨nt, sl, h', c⟩) : BC P A AB ⟨nt, sl, h, c⟩ none (.mapUpdate t x i v) ⟨f, hf⟩ := by
 obtain ⟨ti, h1, h2⟩ := Pc ht
 rw [BD (h := h) (c := c)] at hx hi hv
 rw [BO] at hm
 rw [EA, Option.some.injEq] at hu
 subst hu
 refine AR.2 ⟨ti, h1, Dr.2 ⟨kt, et, h2, EF.2 ⟨id, hx, AP.2 ⟨_, hm, ?_⟩⟩⟩⟩
 dsimp only
 refine FF.2 ⟨Ae ke ve mp, rfl, ?_⟩
 refine C6.2 ⟨_, hi, C6.2 ⟨_, hv, ⟨hk.fits y, Ko hk mp⟩, ?_⟩⟩
 rw [Qw hk]
 exact k
def Dv (y : κ) : List (κ × υ) -> List (κ × υ)
 | [] => []
 | p :: m => if y == p.1 then m else p :: Dv y m
theorem Qy (hk : Jl AB kt ke) (x : κ) : ∀ m : List (κ × υ), MF (ke x) (Ae ke ve m) = Ae ke ve (Dv x m)
 | [] => by simp [Ae, MF, Dv]
 | p :: m => by
  have ih := Qy hk x m
  simp only [Ae] at ih
  simp only [Ae, List.map_cons, MF, hk.eq, Dv]
  split
  .rfl
  simp only [List.map_cons, ih]
theorem Kq {y : κ} {id t : Nat} {r : List TypeId} {c0 : Call} {h' : AM} (hk : Jl AB kt ke) (hc : c0.callee = .builtin .delete) (ha : c0.args.toList = [x, i]) (hat : c0.argTypes.toList = t :: r) (hx : A9 nt sl x = .lmap id) (hm : BN id h = some (.map (Ae ke ve mp))) (hi : A9 nt sl i = .p (ke y)) (ht : T2 AB t kt et = true)
  (hu : Hj id (.map (Ae ke ve (Dv y mp))) h some = some h') (k : f ⟨nt, sl, h', c⟩) : BC P A AB ⟨nt, sl, h, c⟩ none (.call c0) ⟨f, hf⟩ := by
 obtain ⟨ti, h1, h2⟩ := Pc ht
 rw [BD (h := h) (c := c)] at hx hi
 rw [BO] at hm
 rw [EA, Option.some.injEq] at hu
 subst hu
 show Jv P A AB ⟨nt, sl, h, c⟩ none c0 ⟨f, hf⟩
 unfold Jv
 rw [hc, ha, hat]
 refine AR.2 ⟨ti, h1, Dr.2 ⟨kt, et, h2, EF.2 ⟨id, hx, AP.2 ⟨_, hm, ?_⟩⟩⟩⟩
 dsimp only
 refine FF.2 ⟨Ae ke ve mp, rfl, ?_⟩
 refine C6.2 ⟨_, hi, ⟨hk.fits y, Ko hk mp⟩, ?_⟩
 rw [Qy hk]
 exact k
theorem Lj {ks : List Sh} {xs ys : List DV} {b : Bool} {y : Operand} {t' : Nat} (hb : Ch xs ys = b) (hx : A9 nt sl x = .p (.agg xs)) (hy : A9 nt sl y = .p (.agg ys)) (hk : AB.eqk t = some ks) (f1 : fits ks xs = true) (f2 : fits ks ys = true)
  (k : f ⟨nt, (d, .p (.bool b)) :: sl, h, c⟩) : Hw P A AB ⟨nt, sl, h, c⟩ (some d) (.binOp .eql t x y t') ⟨f, hf⟩ := by
 rw [BD (h := h) (c := c)] at hx hy
 show SH AB .eql t _ _ _
 rw [hx, hy]
 exact AP.2 ⟨ks, hk, f1, f2, by rw [hb]; exact k⟩
end
end Go.E
/- Rules for a function's beginning and end, and for states that are made weaker, by unfolding alone. No condition. -/
namespace Go.E
open Go Go.RowKit
abbrev li (n : Int) : LV := .p (.int .i64 n)
abbrev lb (b : Bool) : LV := .p (.bool b)
abbrev lq (l : List DV) : LV := .p (.place l 0)
abbrev ls {α : Type} (sz : Nat) (enc : α -> List DV) (l : List α) : LV := .p (.slice sz (l.map enc))
section
variable {P : Program} {A : BB} {AB : Ay}
theorem fn (hE : A4 P AB) {k : Nat} {fn : Func} {c : Code} {ds : List DV} {d : DV} (hf : P.funcs[k]? = some fn) (hb : fn.body = some c) (hn : (fn.name == "runtime.NumGoroutine") = false) (nt : Nat) (hnt : Nat.beq fn.ntmps nt = true)
  (rs : List ResultVar) (hrs : fn.results.toList = rs) (sl : List (Nat × LV)) (hsl : C8 0 ds = sl) (hlen : Nat.ble ds.length nt = true)
  (h : ∀ A : BB, (∀ id, A.μ0 id = none) -> B0 P A c (L8 fun st => ∃ r, FC AB.tt rs st = some r /\ Le r d) ⟨nt, sl, [], 0⟩) : Bf P k ds (· = d) := by
 subst hsl
 exact Yf hE hf hb hn nt (Nat.eq_of_beq_eq_true hnt) rs hrs (Nat.le_of_ble_eq_true hlen) h
theorem er {rs : List ResultVar} {st : St} {r d : DV} (h : FC AB.tt rs st = some r) (hle : Le r d) : L8 (fun st => ∃ r, FC AB.tt rs st = some r /\ Le r d) .ret st := ⟨r, h, hle⟩
theorem en {rs : List ResultVar} {st : St} {r d : DV} (h : FC AB.tt rs st = some r) (hle : Le r d) : L8 (fun st => ∃ r, FC AB.tt rs st = some r /\ Le r d) .normal st := ⟨r, h, hle⟩
inductive Kr (h : AM) : LV -> DV -> Prop where
 | p (d : DV) : Kr h (.p d) d
 | own {α : Type} {enc : α -> List DV} (l : List α) {id e sz n : Nat} (hl : BN id h = some (.row e sz (l.map enc))) (hn : n = l.length) : Kr h (.lsl id sz 0 n) (.slice sz (l.map enc))
 | map {id : Nat} {m : List (DV × DV)} (hl : BN id h = some (.map m)) : Kr h (.lmap id) (.map m)
 | sub {α : Type} {enc : α -> List DV} (l r : List α) {id e sz off n : Nat} (hl : BN id h = some (.row e sz (l.map enc))) (hr : off + n <= l.length /\ (l.drop off).take n = r) : Kr h (.lsl id sz off n) (.slice sz (r.map enc))
inductive Pd (h : AM) : List LV -> List DV -> Prop where
 | nil : Pd h [] []
 | cons {v : LV} {d : DV} {vs : List LV} {ds : List DV} (k : Kr h v d) (r : Pd h vs ds) : Pd h (v :: vs) (d :: ds)
inductive Qz (h : AM) : List LV -> List DV -> Prop where
 | nil : Qz h [] []
 | box {us : List LV} {es : List DV} {id off : Nat} {vs : List LV} {ds : List DV} (hl : BN id h = some (.box us)) (k : Pd h us es) (r : Qz h vs ds) : Qz h (.lpb id off :: vs) (.place es off :: ds)
 | cons {v : LV} {d : DV} {vs : List LV} {ds : List DV} (k : Kr h v d) (r : Qz h vs ds) : Qz h (v :: vs) (d :: ds)
inductive Ld (h : AM) : LV -> DV -> Prop where
 | one {v : LV} {d : DV} (k : Kr h v d) : Ld h v d
 | agg {vs : List LV} {ds : List DV} (k : Pd h vs ds) : Ld h (.agg vs) (.agg ds)
 | tup {vs : List LV} {ds : List DV} (k : Pd h vs ds) : Ld h (.tup vs) (.tup ds)
 | box {vs : List LV} {ds : List DV} {id off : Nat} (hl : BN id h = some (.box vs)) (k : Pd h vs ds) : Ld h (.lpb id off) (.place ds off)
 | fn {f : Nat} {vs : List LV} {ds : List DV} (k : Qz h vs ds) : Ld h (.fn f vs) (.fn f ds)
inductive Dw (h : AM) : List LV -> List DV -> Prop where
 | nil : Dw h [] []
 | cons {v : LV} {d : DV} {vs : List LV} {ds : List DV} (k : Ld h v d) (r : Dw h vs ds) : Dw h (v :: vs) (d :: ds)
theorem Kr.eq {h : AM} {v : LV} {d : DV} (k : Kr h v d) : FB h v = some d := by
 cases k with
 | p => rfl
 | own l hl hn =>
  rw [BO] at hl
  subst hn
  simp only [FB, hl, Nat.zero_add, List.length_map, Nat.le_refl, and_self, if_true, List.drop_zero]
  rw [List.take_of_length_le (by simp)]
 | map hl => rw [BO] at hl; simp only [FB, hl]
 | sub l r hl hr =>
  rw [BO] at hl
  simp only [FB, hl, List.length_map]
  rw [if_pos ⟨trivial, hr.1⟩, <- List.map_drop, <- List.map_take, hr.2]
theorem Pd.eq {h : AM} {vs : List LV} {ds : List DV} (k : Pd h vs ds) : F4 h vs = some ds := by
 induction k with
 | nil => rfl
 | cons k _ ih => simp only [F4, k.eq, ih]
theorem Kr.eqb {h : AM} {v : LV} {d : DV} (k : Kr h v d) : I9 h v = some d := by
 have := k.eq
 cases k <;> exact this
theorem Qz.eq {h : AM} {vs : List LV} {ds : List DV} (k : Qz h vs ds) : Fd h vs = some ds := by
 induction k with
 | nil => rfl
 | box hl k _ ih => rw [BO] at hl; simp only [Fd, I9, hl, k.eq, ih, Option.map_some]
 | cons k _ ih => simp only [Fd, k.eqb, ih]
theorem Ld.eq {h : AM} {v : LV} {d : DV} (k : Ld h v d) : Ej h v = some d := by
 cases k with
 | one k => cases k with
  | p => rfl
  | own l hl hn => exact Kr.eq (.own l hl hn)
  | map hl => exact Kr.eq (.map hl)
  | sub l r hl hr => exact Kr.eq (.sub l r hl hr)
 | agg k => simp only [Ej, k.eq, Option.map_some]
 | tup k => simp only [Ej, k.eq, Option.map_some]
 | box hl k => rw [BO] at hl; simp only [Ej, hl, k.eq, Option.map_some]
 | fn k => simp only [Ej, k.eq, Option.map_some]
theorem Dw.eq {h : AM} {vs : List LV} {ds : List DV} (k : Dw h vs ds) : Bm h vs = some ds := by
 induction k with
 | nil => rfl
 | cons k _ ih => simp only [Bm, k.eq, ih]
theorem Lk {rs : List ResultVar} {st : St} {v : LV} {d : DV} (hr : JA AB.tt st rs = some [v]) (k : Ld st.heap v d) : FC AB.tt rs st = some d := by
 simp only [FC, hr, k.eq]
theorem Xd {rs : List ResultVar} {st : St} {v u : LV} {vs : List LV} {ds : List DV} (hr : JA AB.tt st rs = some (v :: u :: vs)) (k : Dw st.heap (v :: u :: vs) ds) : FC AB.tt rs st = some (.tup ds) := by
 simp only [FC, hr, k.eq, Option.map_some]
def Ur (sl : List (Nat × LV)) (t : Nat) : LV := match BN t sl with
 | some v => v
 | none => .any
theorem YA {sl : List (Nat × LV)} {t : Nat} : Ur sl t = Be sl t := by simp only [Ur, Be, BO]; rfl
inductive T3 (gl : List (Nat × Nat)) (sl : List (Nat × LV)) : List (Nat × LV) -> Prop where
 | nil : T3 gl sl []
 | cons {t : Nat} {l : LV} {r : List (Nat × LV)} (h : Ur sl t = EW gl l) (k : T3 gl sl r) : T3 gl sl ((t, l) :: r)
inductive T4 (gl : List (Nat × Nat)) (h : AM) : AM -> Prop where
 | nil : T4 gl h []
 | cons {id old : Nat} {o : A2} {r : AM} (h1 : BN id gl = some old) (h2 : BN old h = some (Uh gl o)) (k : T4 gl h r) : T4 gl h ((id, o) :: r)
def Ll (gl : List (Nat × Nat)) : List (Nat × LV) -> Bool
 | [] => true
 | (_, l) :: r => match DT gl l with
  | true => Ll gl r
  | false => false
def Lm (gl : List (Nat × Nat)) : AM -> Bool
 | [] => true
 | (_, o) :: r => match SF gl o with
  | true => Lm gl r
  | false => false
theorem Wq {gl : List (Nat × Nat)} {sl sl' : List (Nat × LV)} (h : T3 gl sl sl') : Ll gl sl' = true -> Rg gl sl sl' := by
 induction h with
 | nil => intro _; trivial
 | cons h _ ih =>
  intro hn
  simp only [Ll] at hn
  split at hn
  .rename_i hq; exact ⟨⟨hq, by rw [<- YA]; exact h⟩, ih hn⟩
  cases hn
theorem Wr {gl : List (Nat × Nat)} {h h' : AM} (k : T4 gl h h') : Lm gl h' = true -> Rh gl h h' := by
 induction k with
 | nil => intro _; trivial
 | cons h1 h2 _ ih =>
  intro hn
  simp only [Lm] at hn
  split at hn
  .rename_i hq; exact ⟨⟨hq, _, by rw [<- BO]; exact h1, by rw [<- BO]; exact h2⟩, ih hn⟩
  cases hn
theorem wk (gl : List (Nat × Nat)) {nt : Nat} {sl sl' : List (Nat × LV)} {h h' : AM} {c c' : Nat} (hext : ∀ id, A.μ0 id ≠ none -> AF id gl = some id) (ho : PT gl h' c' = true) (hn : Ll gl sl' = true) (hm : Lm gl h' = true)
  (hs : T3 gl sl sl') (hh : T4 gl h h') : A3 A ⟨nt, sl, h, c⟩ ⟨nt, sl', h', c'⟩ := Wi gl hext ho (Wq hs hn) (Wr hh hm)
def Rm (sl : List (Nat × LV)) : List (Nat × LV) -> List LV
 | [] => []
 | (t, _) :: r => Ur sl t :: Rm sl r
def Rn (gl : List (Nat × Nat)) : List (Nat × LV) -> List LV
 | [] => []
 | (_, l) :: r => EW gl l :: Rn gl r
def Yl (gl : List (Nat × Nat)) (h : AM) (id : Nat) : Option A2 := match BN id gl with
 | some old => BN old h
 | none => none
def Ro (gl : List (Nat × Nat)) (h : AM) : AM -> List (Option A2)
 | [] => []
 | (id, _) :: r => Yl gl h id :: Ro gl h r
def Rp (gl : List (Nat × Nat)) : AM -> List (Option A2)
 | [] => []
 | (_, o) :: r => some (Uh gl o) :: Rp gl r
theorem SV {gl : List (Nat × Nat)} {sl : List (Nat × LV)} : ∀ {sl' : List (Nat × LV)}, Rm sl sl' = Rn gl sl' -> T3 gl sl sl'
 | [], _ => .nil
 | (_, _) :: _, h => .cons (List.cons.inj h).1 (SV (List.cons.inj h).2)
theorem SW {gl : List (Nat × Nat)} {h : AM} : ∀ {h' : AM}, Ro gl h h' = Rp gl h' -> T4 gl h h'
 | [], _ => .nil
 | (id, o) :: _, e => by
  have e1 := (List.cons.inj e).1
  unfold Yl at e1
  split at e1
  .rename_i old hl; exact .cons hl e1 (SW (List.cons.inj e).2)
  cases e1
def Us (gl : List (Nat × Nat)) (sl' : List (Nat × LV)) (h' : AM) (c' : Nat) : Bool := match PT gl h' c' with
 | true => match Ll gl sl' with
  | true => Lm gl h'
  | false => false
 | false => false
theorem J7 {gl : List (Nat × Nat)} {sl' : List (Nat × LV)} {h' : AM} {c' : Nat} (h : Us gl sl' h' c' = true) : PT gl h' c' = true /\ Ll gl sl' = true /\ Lm gl h' = true := by
 unfold Us at h
 split at h
 .split at h
  .exact ⟨‹_›, ‹_›, h⟩
  cases h
 cases h
def gi : Nat -> List (Nat × Nat) -> List (Nat × Nat)
 | 0, l => l
 | n + 1, l => gi n ((n, n) :: l)
theorem wf {nt : Nat} {sl sl' : List (Nat × LV)} {h h' : AM} {c c' : Nat} (hA : ∀ id, A.μ0 id = none) (gl : List (Nat × Nat)) (ha : Us gl sl' h' c' = true) (hs : Rm sl sl' = Rn gl sl') (hh : Ro gl h h' = Rp gl h') : A3 A ⟨nt, sl, h, c⟩ ⟨nt, sl', h', c'⟩ :=
 wk gl (fun id h => absurd (hA id) h) (J7 ha).1 (J7 ha).2.1 (J7 ha).2.2 (SV hs) (SW hh)
theorem Ut (hA : ∀ id, A.μ0 id = none) (gl : List (Nat × Nat)) : ∀ id, A.μ0 id ≠ none -> AF id gl = some id := fun id h => absurd (hA id) h
section
variable {σ Ans : Type} {S : σ -> St} {Q : Ans -> Exit -> St -> Prop} {st : St}
theorem lpn {s : σ} (hw : A3 A st (S s)) : LP A S Q (.inl s) .normal st := ⟨rfl, hw⟩
theorem Z5 {a : Ans} {id : Nat} (k : Q a (.exit id) st) : LP A S Q (.inr a) (.exit id) st := ⟨nofun, k⟩
theorem Z6 {a : Ans} (k : Q a .ret st) : LP A S Q (.inr a) .ret st := ⟨nofun, k⟩
theorem npn {s : σ} (hw : A3 A st (S s)) : NP A S s .normal st := ⟨rfl, hw⟩
end
theorem mp {σ Ans : Type} {o : Option Ans} {b : σ ⊕ Ans} (h : o.map .inr = some b) : ∃ a, o = some a /\ b = .inr a := by
 cases o with
 | none => cases h
 | some a => exact ⟨a, rfl, (Option.some.inj h).symm⟩
theorem mps {σ Ans : Type} {x : Ans} {b : σ ⊕ Ans} (h : some (.inr x) = some b) : ∃ a, some x = some a /\ b = .inr a := ⟨x, rfl, (Option.some.inj h).symm⟩
end
end Go.E
/- Scopes, slices set against nil, functions walked where they are called (Ir), slices handed back (FD). No condition. -/
namespace Go.E
open Go Go.RowKit
section
variable {α : Type} [DecidableEq α]
def agree (a b : Option α) : Option α := if a = b then a else none
theorem Uu {a b : Option α} {x : α} (h : agree a b = some x) : a = some x /\ b = some x := by
 unfold agree at h
 split at h
 .rename_i e; exact ⟨h, e ▸ h⟩
 cases h
def LI {β : Type} (l : List β) (a b : Option α) : Option α := match l with
 | [] => agree a b
 | _ :: _ => b
end
section
variable {P : Program} {A : BB} {AB : Ay} {st : St}
section
variable {f : St -> Prop} {hf : H9 f} {nt : Nat} {sl : List (Nat × LV)} {h : AM} {c : Nat} {α Ans : Type} [DecidableEq Ans] {enc : α -> List DV} {l : List α} {d : Tmp} {t t' sz : Nat} {x y : Operand} {p q : Option Ans} {a : Ans}
theorem Pe (hh : LI l p q = some a) (ht : Pb AB t = true) (hx : A9 nt sl x = .p (.slice sz (l.map enc))) (hy : A9 nt sl y = .p .nils)
  (k1 : p = some a -> f ⟨nt, (d, .p (.bool true)) :: sl, h, c⟩) (k2 : q = some a -> f ⟨nt, (d, .p (.bool false)) :: sl, h, c⟩) : BC P A AB ⟨nt, sl, h, c⟩ (some d) (.binOp .eql t x y t') ⟨f, hf⟩ := by
 obtain ⟨ti, e, h1, h2⟩ := Oq ht
 rw [BD (h := h) (c := c)] at hx hy
 show Oj AB .eql t _ _ _
 rw [hx, hy]
 refine AR.2 ⟨ti, h1, CW.2 ⟨e, h2, ?_⟩⟩
 intro r hr
 cases l with
 | nil =>
  obtain ⟨g1, g2⟩ := Uu hh
  cases r with
  | true => exact k1 g1
  | false => exact k2 g2
 | cons z l => rw [hr (by simp)]; exact k2 hh
end
def IE (tt : Nat -> Option TI) (rs : List ResultVar) (st : St) : Option LV :=
 match JA tt st rs with
 | some [l] => some l
 | some ls => some (.tup ls)
 | none => none
def Ks : Nat -> List LV -> List (Nat × LV)
 | _, [] => []
 | n, d :: ds => (n, d) :: Ks (n + 1) ds
theorem Pf : ∀ (ds : List LV) (n t : Nat), AF t (Ks n ds) = if n <= t then ds[t - n]? else none
 | [], n, t => by simp [Ks, AF]
 | d :: ds, n, t => by
  simp only [Ks, AF]
  by_cases e : t = n
  .subst e; simp
  rw [if_neg e, Pf ds (n + 1) t]
  by_cases h : n + 1 <= t
  .rw [if_pos h, if_pos (by omega), show t - n = t - (n + 1) + 1 by omega, List.getElem?_cons_succ]
  rw [if_neg h, if_neg (by omega)]
theorem TX (hE : A4 P AB) {A : BB} {μ : Nat -> Option BV} {F : Nat -> Prop} {st : St} {a : Act} {w : World} (hs : ∀ x, AW (Aa A μ st.heap) μ w (a.eval x) (st.eval x)) (hh : HRel A μ st.heap F w) {fn : Func} {r : LV} (h : IE AB.tt fn.results.toList st = some r) :
  ∃ v, (results fn a.tmps).run P w = .ok v w /\ AW (Aa A μ st.heap) μ w v r := by
 unfold IE at h
 cases hr : JA AB.tt st fn.results.toList with
 | none => rw [hr] at h; cases h
 | some ls =>
  rw [hr] at h
  obtain ⟨vs, g1, g2, g3⟩ := LA (P := P) hE hs hh hr
  have hrun := LB g1
  match ls, vs, g2 with
  | [], [], _ => cases h; exact ⟨_, hrun, .tup _ _ rfl (by simp)⟩
  | [l], [v], _ => simp only [Option.some.injEq] at h; subst h; exact ⟨_, hrun, g3 0 v l rfl rfl⟩
  | l :: m :: ls, u :: v :: vs, g2 => simp only [Option.some.injEq] at h; subst h; exact ⟨_, hrun, .tup _ _ (by simpa using g2) fun i x d hx hd => g3 i x d (by simpa using hx) hd⟩
theorem T5 {c : Code} {Q : Exit -> St -> Prop} (h : B0 P A c (fun e s => ∃ s', A3 A s s' /\ Q e s') st) : B0 P A c Q st := fun a w hR =>
 wp_mono (h a w hR) fun _ a' w' ⟨_, hR', s', hw, q⟩ => ⟨s', hw a' w' hR', q⟩
theorem SX (hE : A4 P AB) {k : Nat} {fn : Func} {cd : Code} (hf : P.funcs[k]? = some fn) (hb : fn.body = some cd) (hn : (fn.name == "runtime.NumGoroutine") = false) (nt : Nat) (hnt : fn.ntmps = nt) (rs : List ResultVar) (hrs : fn.results.toList = rs)
  {h : AM} {ctr : Nat} {args : List LV} (hlen : args.length <= nt) {K : LV -> AM -> Nat -> Prop}
  (body : ∀ A' : BB, (∀ id, A'.μ0 id ≠ none -> id < ctr) -> B0 P A' cd (L8 fun st => ∃ l, IE AB.tt rs st = some l /\ K l st.heap st.ctr) ⟨nt, Ks 0 args, h, ctr⟩) : C2 P A h ctr k args K := by
 subst hnt hrs
 refine ⟨JN hf hb hn, fun μ w vs hh hsz hr => ?_⟩
 have hlt : ∀ id loc, μ id = some loc -> id < ctr := by
  intro id loc hm
  by_cases hi : id < ctr
  .exact hi
  rw [hh.fresh id (by simp only [Fr]; omega)] at hm; cases hm
 let A' : BB := ⟨w, A.O, By μ h, fun id => if id < ctr then μ id else none, fun b hb' => ⟨Nat.lt_of_lt_of_le (A.hO b hb').1 hh.size, by
  rintro ⟨id, o, loc, h1, h2, h3, rfl⟩
  exact (hh.base id o loc h1 h2 h3).2.1 hb'⟩⟩
 have hA' : ∀ id, A'.μ0 id ≠ none -> id < ctr := by
  intro id hid
  by_cases hi : id < ctr
  .exact hi
  simp [A', hi] at hid
 have hown : ∀ b, Aa A' μ h b ↔ Aa A μ h b := fun b => Iff.rfl
 have hh' : HRel A' μ h (Fr ctr) w := ⟨hh.obj, hh.inj, hh.fresh, fun id o loc h1 h2 h3 => ⟨(hh.base id o loc h1 h2 h3).1, (hh.base id o loc h1 h2 h3).2.1, .inr ⟨id, o, loc, h1, h2, h3, rfl⟩⟩, Nat.le_refl _, fun _ _ _ => rfl, rfl, rfl, rfl, fun id loc hm => by
  simp only [A'] at hm
  split at hm
  .exact hm
  cases hm⟩
 have hR : R A' ⟨fn.ntmps, Ks 0 args, h, ctr⟩ { tmps := vs ++ Array.replicate (fn.ntmps - vs.size) undef, defers := [] } w := by
  refine ⟨⟨μ, hh', fun t ht => ?_⟩, by simp; omega, rfl⟩
  simp only [Be, Pf, Nat.zero_le, if_true, Nat.sub_zero]
  by_cases hlt' : t < args.length
  .have hv : t < vs.size := by omega
   have e : args[t]? = some args[t] := by simp [hlt']
   rw [e]
   have e2 : (vs ++ Array.replicate (fn.ntmps - vs.size) undef).getD t undef = vs[t] := by
    rw [Array.getD_eq_getD_getElem?, Array.getElem?_append_left hv]; simp [hv]
   rw [e2]
   exact hr t _ _ (by simp [hv]) e
  have e : args[t]? = none := by simp; omega
  rw [e]; exact .any _
 refine calls_of_wp hf hb (wp_mono (body A' hA' _ _ hR) ?_)
 rintro e a' w' ⟨st', ⟨⟨μ', hh2, hs⟩, hnt, hdef⟩, hq⟩
 have fin : (∃ l, IE AB.tt fn.results.toList st' = some l /\ K l st'.heap st'.ctr) -> a'.defers = [] /\ ∃ v, (results fn a'.tmps).run P w' = .ok v w' /\
   ∃ u l h' c' μ', Ending.returned v = .returned u /\ K l h' c' /\ HRel A μ' h' (Fr c') w' /\ AW (Aa A μ' h') μ' w' u l /\ ∀ v x, AW (Aa A μ h) μ w v x -> AW (Aa A μ' h') μ' w' v x := by
  rintro ⟨l, h1, h2⟩
  obtain ⟨v, g1, g2⟩ := TX (P := P) hE (fun x => GJ hs x) hh2 h1
  have mineof : ∀ b, b < w.heap.size -> By μ' st'.heap b -> By μ h b := by
   rintro b hb' ⟨id, o, loc, k1, k2, k3, rfl⟩
   rcases (hh2.base id o loc k1 k2 k3).2.2 with hb2 | hb2
   .exact absurd hb2 (by show ¬ w.heap.size <= _; omega)
   exact hb2
  have keepμ' : ∀ id loc, μ id = some loc -> μ' id = some loc := fun id loc hm => hh2.ext id loc (by simp only [A']; rw [if_pos (hlt id loc hm)]; exact hm)
  refine ⟨hdef, v, g1, v, l, st'.heap, st'.ctr, μ', rfl, h2, ⟨hh2.obj, hh2.inj, hh2.fresh, fun id o loc k1 k2 k3 => ⟨(hh2.base id o loc k1 k2 k3).1, (hh2.base id o loc k1 k2 k3).2.1, ?_⟩, Nat.le_trans hh.size hh2.size, fun b hb' hnf => ?_, hh2.os.trans hh.os, hh2.tape.trans hh.tape, hh2.output.trans hh.output, fun id loc hm => keepμ' id loc (hh.ext id loc hm)⟩, g2, fun v x hv => hv.mono ⟨hh2.size, fun b hb' hno => hh2.block b hb' fun hm => hno (.inr hm)⟩ (fun b hb' ho => ?_) keepμ'⟩
  .rcases (hh2.base id o loc k1 k2 k3).2.2 with hb2 | ⟨id2, o2, loc2, m1, m2, m3, m4⟩
   .exact .inl (Nat.le_trans hh.size hb2)
   rw [<- m4]; exact (hh.base id2 o2 loc2 m1 m2 m3).2.2
  .have hnm : ¬ By μ h b := by
    rintro ⟨id2, o2, loc2, m1, m2, m3, rfl⟩
    rcases (hh.base id2 o2 loc2 m1 m2 m3).2.2 with hb2 | hb2
    .omega
    exact hnf hb2
   rw [hh2.block b (Nat.lt_of_lt_of_le hb' hh.size) hnm]
   exact hh.block b hb' hnf
  rcases ho with ho | ho
  .exact .inl ho
  exact .inr (mineof b hb' ho)
 cases e with
 | normal => exact fin hq
 | ret => exact fin hq
 | _ => exact hq.elim
def IP (tt : Nat -> Option TI) (rs : List ResultVar) (A : BB) (L : LV) (H : AM) (C : Nat) (e : Exit) (st : St) : Prop :=
 ∃ s', A3 A st s' /\ L8 (fun s => IE tt rs s = some L /\ s.heap = H /\ s.ctr = C) e s'
theorem E7 {rs : List ResultVar} {L : LV} {nt C : Nat} {sl : List (Nat × LV)} {H : AM} (hw : A3 A st ⟨nt, sl, H, C⟩) (hr : IE AB.tt rs ⟨nt, sl, H, C⟩ = some L) : IP AB.tt rs A L H C .ret st := ⟨_, hw, hr, rfl, rfl⟩
theorem Ih {rs : List ResultVar} {L : LV} {nt C : Nat} {sl : List (Nat × LV)} {H : AM} (hw : A3 A st ⟨nt, sl, H, C⟩) (hr : IE AB.tt rs ⟨nt, sl, H, C⟩ = some L) : IP AB.tt rs A L H C .normal st := ⟨_, hw, hr, rfl, rfl⟩
section
variable {f : St -> Prop} {hf : H9 f} {nt : Nat} {sl : List (Nat × LV)} {h : AM} {c : Nat} {σ Ans : Type}
theorem Ir (hE : A4 P AB) (L : σ -> LV) (H : σ -> AM) (C : Nat) {sp : Option σ} {rest : σ -> Option Ans} {a : Ans} {dst : Option Tmp} {fo : Operand} {args : Array Operand} {ts : Array TypeId} {k : Nat} {fn : Func} {cd : Code} {caps ls : List LV}
  (hh : sp.bind rest = some a) (hfun : P.funcs[k]? = some fn) (nt' : Nat) (rs : List ResultVar) (sl' : List (Nat × LV)) (hb : fn.body = some cd) (hn : (fn.name == "runtime.NumGoroutine") = false) (hnt : Nat.beq fn.ntmps nt' = true) (hrs : fn.results.toList = rs)
  (hfn : A9 nt sl fo = .fn k caps) (hl : DU nt sl args.toList some = some ls) (hlen : Nat.ble (ls ++ caps).length nt' = true) (hsl : Ks 0 (ls ++ caps) = sl')
  (body : ∀ A : BB, (∀ id, A.μ0 id ≠ none -> id < c) -> ∀ t, sp = some t -> B0 P A cd (IP AB.tt rs A (L t) (H t) C) ⟨nt', sl', h, c⟩)
  (kk : ∀ t, rest t = some a -> f (match dst with | some d => ⟨nt, (d, L t) :: sl, H t, C⟩ | none => ⟨nt, sl, H t, C⟩)) : BC P A AB ⟨nt, sl, h, c⟩ dst (.call ⟨.value fo, args, ts⟩) ⟨f, hf⟩ := by
 obtain ⟨t, h1, h2⟩ := bd hh
 rw [BD (h := h) (c := c)] at hfn
 show Lc _ _
 rw [hfn]
 show IB P A h c k (args.toList.map _ ++ caps) _
 rw [En hl]
 subst hsl
 refine SX hE hfun hb hn nt' (Nat.eq_of_beq_eq_true hnt) rs hrs (Nat.le_of_ble_eq_true hlen) fun A' hA' => ?_
 have := T5 (body A' hA' t h1)
 refine GL this fun e s q => ?_
 have fin : (IE AB.tt rs s = some (L t) /\ s.heap = H t /\ s.ctr = C) -> ∃ l, IE AB.tt rs s = some l /\ f (St.go ⟨nt, sl, h, c⟩ dst l s.heap s.ctr) := by
  rintro ⟨q1, q2, q3⟩
  refine ⟨_, q1, ?_⟩
  rw [q2, q3, MO]
  have := kk t h2
  cases dst <;> exact this
 cases e <;> first | exact fin q | exact q.elim
end
def Pg : Nat -> List (Nat × Nat) -> Bool
 | 0, _ => true
 | n + 1, gl => match BN n gl with
  | some m => match Nat.beq n m with
   | true => Pg n gl
   | false => false
  | none => false
theorem SY : ∀ {n : Nat} {gl : List (Nat × Nat)}, Pg n gl = true -> ∀ i, i < n -> AF i gl = some i
 | 0, _, _, i, h => by omega
 | n + 1, gl, hk, i, hi => by
  simp only [Pg] at hk
  split at hk
  .rename_i m hm
   split at hk
   .rename_i hb
    have := Nat.eq_of_beq_eq_true hb
    subst this
    by_cases e : i = n
    .subst e; rw [<- BO]; exact hm
    exact SY hk i (by omega)
   cases hk
  cases hk
theorem Ym {n : Nat} (hA : ∀ id, A.μ0 id ≠ none -> id < n) (gl : List (Nat × Nat)) (hk : Pg n gl = true) : ∀ id, A.μ0 id ≠ none -> AF id gl = some id := fun id h => SY hk id (hA id h)
theorem wj {n nt : Nat} {sl sl' : List (Nat × LV)} {h h' : AM} {c c' : Nat} (hA : ∀ id, A.μ0 id ≠ none -> id < n) (gl : List (Nat × Nat)) (hk : Pg n gl = true) (ha : Us gl sl' h' c' = true) (hs : Rm sl sl' = Rn gl sl') (hh : Ro gl h h' = Rp gl h') : A3 A ⟨nt, sl, h, c⟩ ⟨nt, sl', h', c'⟩ :=
 wk gl (Ym hA gl hk) (J7 ha).1 (J7 ha).2.1 (J7 ha).2.2 (SV hs) (SW hh)
section
variable {f : St -> Prop} {hf : H9 f} {nt : Nat} {sl : List (Nat × LV)} {h : AM} {c : Nat} {d : Tmp} {α : Type} {enc : α -> List DV}
theorem Ln {fo : Operand} {args : Array Operand} {ts : Array TypeId} {k e sz : Nat} {caps ls : List LV} {ds : List DV} {r : List α} (hF : FD P k ds e sz (r.map enc))
  (hs : (ls ++ caps).flatMap (DZ h) = []) (hfn : A9 nt sl fo = .fn k caps) (hl : DU nt sl args.toList some = some ls) (hds : Bm h (ls ++ caps) = some ds)
  (kk : f ⟨nt, (d, .lsl c sz 0 r.length) :: sl, (c, .row e sz (r.map enc)) :: h, c + 1⟩) : BC P A AB ⟨nt, sl, h, c⟩ (some d) (.call ⟨.value fo, args, ts⟩) ⟨f, hf⟩ := by
 rw [BD (h := h) (c := c)] at hfn
 show Lc _ _
 rw [hfn]
 show IB P A h c k (args.toList.map _ ++ caps) _
 rw [En hl]
 refine Zg hds hF hs ?_
 rw [List.length_map]
 exact kk
theorem SZ {fo : Operand} {args : Array Operand} {ts : Array TypeId} {k e sz : Nat} {caps ls : List LV} {ds : List DV} {r : List α} (hF : FD P k ds e sz (r.map enc)) (hw : AB.own = true)
  (hs : (ls ++ caps).flatMap (DZ h) = []) (hfn : (Cq fo, A9 nt sl fo) = (false, .fn k caps)) (hl : DU nt sl args.toList some = some ls) (hds : Bm h (ls ++ caps) = some ds)
  (kk : f ⟨nt, (d, .lsl c sz 0 r.length) :: sl, (c, .row e sz (r.map enc)) :: h, c + 1⟩) : Hw P A AB ⟨nt, sl, h, c⟩ (some d) (.call ⟨.value fo, args, ts⟩) ⟨f, hf⟩ := by
 obtain ⟨hnd, hfn⟩ := Prod.mk.inj hfn
 rw [BD (h := h) (c := c)] at hfn
 show (if Cq fo = true then _ else Lc _ _)
 rw [if_neg (by rw [hnd]; decide)]
 rw [hfn]
 refine .inr ⟨hw, ds, e, sz, r.map enc, ?_, hF, ?_, ?_⟩
 .show Bm h (args.toList.map _ ++ caps) = _
  rw [En hl]; exact hds
 .show UV (List.flatMap _ (args.toList.map _ ++ caps)) _
  rw [En hl]; exact .inl hs
 show f ⟨nt, (d, .lsl c sz 0 (r.map enc).length) :: sl, _, _⟩
 rw [List.length_map]
 exact kk
theorem Vj {k : Nat} {fn : Func} {cd : Code} {ds : List DV} {e sz : Nat} {r : List α} (hen : Rl enc sz) (hf : P.funcs[k]? = some fn) (hb : fn.body = some cd) (hn : (fn.name == "runtime.NumGoroutine") = false) (nt : Nat) (hnt : Nat.beq fn.ntmps nt = true)
  (t : Nat) (hrs : fn.results.toList = [.tmp t]) (sl : List (Nat × LV)) (hsl : C8 0 ds = sl) (hlen : Nat.ble ds.length nt = true)
  (h : ∀ A : BB, (∀ id, A.μ0 id = none) -> B0 P A cd (Uk t e sz (r.map enc)) ⟨nt, sl, [], 0⟩) : FD P k ds e sz (r.map enc) := by
 subst hsl
 refine X3 hf hb hn nt (Nat.eq_of_beq_eq_true hnt) t hrs (Nat.le_of_ble_eq_true hlen) (fun x hx => ?_) h
 obtain ⟨a, _, rfl⟩ := List.mem_map.1 hx
 exact (hen a).1
theorem Vk {t e sz id n : Nat} {r : List α} (hv : A9 nt sl (.tmp t) = .lsl id sz 0 n) (hl : BN id h = some (.row e sz (r.map enc))) (hn : n = r.length) : Uk t e sz (r.map enc) .ret ⟨nt, sl, h, c⟩ := by
 rw [BD (h := h) (c := c)] at hv
 rw [BO] at hl
 refine .inl ⟨id, ?_, hl⟩
 rw [hv, hn, List.length_map]
theorem Yn {t e sz : Nat} (hv : A9 nt sl (.tmp t) = .p .nils) : Uk t e sz (([] : List α).map enc) .ret ⟨nt, sl, h, c⟩ := by
 rw [BD (h := h) (c := c)] at hv
 exact .inr ⟨hv, rfl⟩
end
end
end Go.E
/- Rules for single operations: arrays, division, a nil slice as an empty one. No condition. -/
namespace Go.E
open Go Go.RowKit
section
variable {P : Program} {A : BB} {AB : Ay} {f : St -> Prop} {hf : H9 f} {nt : Nat} {sl : List (Nat × LV)} {h : AM} {c : Nat} {d : Tmp} {α : Type} {l : List α} {t : Nat} {x i : Operand}
theorem FM {α : Type} (l : List α) (n : Int) (z : α) : (Bq l n z).length = l.length := by simp [Bq]
theorem Yo {a b r : Int} {y : Operand} {t' : Nat} (hr : SP a b = some r) (hx : A9 nt sl x = .p (.int .u8 a)) (hy : A9 nt sl y = .p (.int .u8 b)) (k : f ⟨nt, (d, .p (.int .u8 r)) :: sl, h, c⟩) :
  BC P A AB ⟨nt, sl, h, c⟩ (some d) (.binOp .quo t x y t') ⟨f, hf⟩ := by
 rw [BD (h := h) (c := c)] at hx hy
 simp only [SP] at hr
 split at hr
 .cases hr
 rename_i hb
 simp only [Option.some.injEq] at hr
 subst hr
 show Oj AB .quo t _ _ _
 rw [hx, hy]
 exact ⟨rfl, hb, by rw [G6, if_neg hb]; exact k⟩
theorem Uv {kk : IntKind} {a b r : Int} {y : Operand} {t' : Nat} (hr : NR a b = some r) (hx : A9 nt sl x = .p (.int kk a)) (hy : A9 nt sl y = .p (.int kk b)) (k : f ⟨nt, (d, .p (.int kk r)) :: sl, h, c⟩) :
  BC P A AB ⟨nt, sl, h, c⟩ (some d) (.binOp .rem t x y t') ⟨f, hf⟩ := by
 rw [BD (h := h) (c := c)] at hx hy
 simp only [NR] at hr
 split at hr
 .cases hr
 rename_i hb
 simp only [Option.some.injEq] at hr
 subst hr
 show Oj AB .rem t _ _ _
 rw [hx, hy]
 exact ⟨rfl, hb, by rw [G6, if_neg hb]; exact k⟩
section
variable {κ υ : Type} [BEq κ] {ke : κ -> DV} {ve : υ -> DV} {mp : List (κ × υ)} {kt et : Nat}
end
end
end Go.E
/- The types that the functions of this seat use, as plain data. Written by a program (mkenv.py). No condition. -/
namespace Go.E
open Go Go.RowKit Go.Proofs
def Xe : List (Nat × TI) := [
 (3, ⟨.int .i64, 1, 8, [.int .i64 0]⟩),
 (4, ⟨.bool, 1, 1, [.bool false]⟩),
 (5, ⟨.int .u8, 1, 1, [.int .u8 0]⟩),
 (9, ⟨.str, 1, 16, [.str .empty]⟩),
 (22, ⟨.slc 130, 1, 24, [.nils]⟩),
 (23, ⟨.slc 132, 1, 24, [.nils]⟩),
 (24, ⟨.slc 135, 1, 24, [.nils]⟩),
 (25, ⟨.slc 140, 1, 24, [.nils]⟩),
 (27, ⟨.struct [(0, 22), (1, 23), (2, 24), (3, 25), (4, 3), (5, 3), (6, 3), (7, 3), (8, 4)], 9, 136, [.nils, .nils, .nils, .nils, .int .i64 0, .int .i64 0, .int .i64 0, .int .i64 0, .bool false]⟩),
 (30, ⟨.other, 1, 8, [.nilp]⟩),
 (32, ⟨.slc 90, 1, 24, [.nils]⟩),
 (33, ⟨.slc 46, 1, 24, [.nils]⟩),
 (34, ⟨.slc 3, 1, 24, [.nils]⟩),
 (36, ⟨.struct [(0, 3), (1, 3), (2, 3), (3, 32), (4, 33), (5, 33), (6, 34), (7, 34), (8, 4)], 9, 152, [.int .i64 0, .int .i64 0, .int .i64 0, .nils, .nils, .nils, .nils, .nils, .bool false]⟩),
 (43, ⟨.slc 4, 1, 24, [.nils]⟩),
 (46, ⟨.struct [(0, 3), (1, 3)], 2, 16, [.int .i64 0, .int .i64 0]⟩),
 (51, ⟨.slc 5, 1, 24, [.nils]⟩),
 (52, ⟨.slc 36, 1, 24, [.nils]⟩),
 (55, ⟨.other, 1, 8, [.nilp]⟩),
 (57, ⟨.slc 34, 1, 24, [.nils]⟩),
 (58, ⟨.int .i64, 1, 8, [.int .i64 0]⟩),
 (75, ⟨.struct [(0, 27), (9, 52)], 10, 160, [.nils, .nils, .nils, .nils, .int .i64 0, .int .i64 0, .int .i64 0, .int .i64 0, .bool false, .nils]⟩),
 (90, ⟨.struct [(0, 3), (1, 3), (2, 3)], 3, 24, [.int .i64 0, .int .i64 0, .int .i64 0]⟩),
 (92, ⟨.mp 96 4, 1, 8, [.nilm]⟩),
 (93, ⟨.slc 96, 1, 24, [.nils]⟩),
 (96, ⟨.struct [(0, 3), (1, 3)], 2, 16, [.int .i64 0, .int .i64 0]⟩),
 (103, ⟨.other, 1, 8, [.nilp]⟩),
 (107, ⟨.other, 1, 8, [.nilp]⟩),
 (109, ⟨.struct [(0, 27), (9, 36), (18, 93)], 19, 312, [.nils, .nils, .nils, .nils, .int .i64 0, .int .i64 0, .int .i64 0, .int .i64 0, .bool false, .int .i64 0, .int .i64 0, .int .i64 0, .nils, .nils, .nils, .nils, .nils, .bool false, .nils]⟩),
 (111, ⟨.slc 33, 1, 24, [.nils]⟩),
 (115, ⟨.mp 3 34, 1, 8, [.nilm]⟩),
 (116, ⟨.mp 3 33, 1, 8, [.nilm]⟩),
 (118, ⟨.struct [(0, 3), (1, 115), (2, 115), (3, 116), (4, 116)], 5, 40, [.int .i64 0, .nilm, .nilm, .nilm, .nilm]⟩),
 (130, ⟨.struct [(0, 9), (1, 3), (2, 3)], 3, 32, [.str .empty, .int .i64 0, .int .i64 0]⟩),
 (132, ⟨.struct [(0, 96), (2, 96)], 4, 32, [.int .i64 0, .int .i64 0, .int .i64 0, .int .i64 0]⟩),
 (135, ⟨.struct [(0, 9), (1, 96), (3, 4)], 4, 40, [.str .empty, .int .i64 0, .int .i64 0, .bool false]⟩),
 (140, ⟨.struct [(0, 9), (1, 34)], 2, 40, [.str .empty, .nils]⟩),
 (141, ⟨.slc 9, 1, 24, [.nils]⟩),
 (146, ⟨.mp 96 96, 1, 8, [.nilm]⟩),
 (147, ⟨.mp 96 3, 1, 8, [.nilm]⟩),
 (148, ⟨.mp 3 152, 1, 8, [.nilm]⟩),
 (149, ⟨.mp 3 3, 1, 8, [.nilm]⟩),
 (151, ⟨.struct [(0, 27), (9, 146), (10, 147), (11, 148), (12, 149)], 13, 168, [.nils, .nils, .nils, .nils, .int .i64 0, .int .i64 0, .int .i64 0, .int .i64 0, .bool false, .nilm, .nilm, .nilm, .nilm]⟩),
 (152, ⟨.arr 2 3, 2, 16, [.int .i64 0, .int .i64 0]⟩),
 (164, ⟨.int .u64, 1, 8, [.int .u64 0]⟩),
 (169, ⟨.slc 171, 1, 24, [.nils]⟩),
 (171, ⟨.struct [(0, 3), (1, 3)], 2, 16, [.int .i64 0, .int .i64 0]⟩),
 (200, ⟨.mp 3 4, 1, 8, [.nilm]⟩),
 (202, ⟨.int .i64, 1, 8, [.int .i64 0]⟩),
 (209, ⟨.int .u32, 1, 4, [.int .u32 0]⟩),
 (211, ⟨.int .u64, 1, 8, [.int .u64 0]⟩),
 (212, ⟨.other, 1, 8, [.nilp]⟩),
 (213, ⟨.slc 169, 1, 24, [.nils]⟩),
 (215, ⟨.struct [(0, 3), (1, 32), (2, 34), (3, 213)], 4, 80, [.int .i64 0, .nils, .nils, .nils]⟩),
 (218, ⟨.arr 4 3, 4, 32, [.int .i64 0, .int .i64 0, .int .i64 0, .int .i64 0]⟩),
 (219, ⟨.arr 3 3, 3, 24, [.int .i64 0, .int .i64 0, .int .i64 0]⟩),
 (220, ⟨.mp 9 4, 1, 8, [.nilm]⟩),
 (222, ⟨.int .u64, 1, 8, [.int .u64 0]⟩),
 (226, ⟨.other, 1, 8, [.nilp]⟩)]
def Vn : List (Nat × List Sh) := [(46, [.int .i64, .int .i64]), (90, [.int .i64, .int .i64, .int .i64]), (96, [.int .i64, .int .i64])]
def Sd : List (Nat × List Sh) := [(96, [.int .i64, .int .i64])]
def Se : List Nat := [30, 55]
def AB : Ay := ⟨fun t => BN t Xe, fun t => BN t Vn, fun t => BN t Sd, LH Se, none, false⟩
def AAE (b : Nat) (l : List Nat) : Ay := ⟨fun t => BN t Xe, fun t => BN t Vn, fun t => BN t Sd, LH Se, some fun id => Nat.ble b id || LH l id, false⟩
def Zj (b : Nat) (l : List Nat) : Ay := ⟨fun t => BN t Xe, fun t => BN t Vn, fun t => BN t Sd, LH Se, some fun id => Nat.ble b id || LH l id, true⟩
def AAF : Ay := ⟨fun t => BN t Xe, fun t => BN t Vn, fun t => BN t Sd, LH Se, none, true⟩
theorem Yr : ∃ e, Try.prog.underlying 30 = some (.pointer e) := ⟨151, by kernel_rfl⟩
theorem Ys : ∃ e, Try.prog.underlying 55 = some (.pointer e) := ⟨118, by kernel_rfl⟩
theorem Pm : NL Try.prog AB.tt := Wo (by kernel_rfl)
theorem Zk : Oi Try.prog 46 [.int .i64, .int .i64] := NH (by kernel_rfl) (by kernel_rfl) (by kernel_rfl) (by kernel_rfl)
theorem Zl : Oi Try.prog 90 [.int .i64, .int .i64, .int .i64] := NH (by kernel_rfl) (by kernel_rfl) (by kernel_rfl) (by kernel_rfl)
theorem Xf : Oi Try.prog 96 [.int .i64, .int .i64] := NH (by kernel_rfl) (by kernel_rfl) (by kernel_rfl) (by kernel_rfl)
theorem Yt : PP Try.prog 96 [.int .i64, .int .i64] := UY (by kernel_rfl) Xf (by kernel_rfl)
theorem AA : A4 Try.prog AB := by
 refine ⟨Pm, fun t ks h => ?_, fun t ks h => ?_, fun t h => ?_⟩
 .simp only [AB, BO, Vn, AF] at h
  split at h
  .subst_vars; cases h; exact Zk
  split at h
  .subst_vars; cases h; exact Zl
  split at h
  .subst_vars; cases h; exact Xf
  cases h
 .simp only [AB, BO, Sd, AF] at h
  split at h
  .subst_vars; cases h; exact Yt
  cases h
 simp only [AB, Se, Tz, List.mem_cons, List.not_mem_nil, or_false] at h
 rcases h with rfl | rfl
 .exact Yr
 exact Ys
theorem Lq (b : Nat) (l : List Nat) : A4 Try.prog (AAE b l) := ⟨AA.tt, AA.eqk, AA.keyk, AA.ptr⟩
theorem Sf (b : Nat) (l : List Nat) : A4 Try.prog (Zj b l) := ⟨AA.tt, AA.eqk, AA.keyk, AA.ptr⟩
theorem YF : A4 Try.prog AAF := ⟨AA.tt, AA.eqk, AA.keyk, AA.ptr⟩
theorem mixed : Try.prog.follows .mixedOrders = true := by kernel_rfl
end Go.E
