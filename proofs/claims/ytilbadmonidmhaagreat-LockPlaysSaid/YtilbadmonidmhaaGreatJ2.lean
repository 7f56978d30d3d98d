/- Drawn regions: whatever order is drawn, the operations give what they give in one order that a check accepts (F8). -/
import Derived.Scope
import Derived.Test.YtilbadmonidmhaaGreatProg
import Derived.Test.YtilbadmonidmhaaGreatJ1
set_option linter.unusedVariables false
set_option linter.unusedSimpArgs false
namespace Go.E
open Go Go.RowKit
structure RF (A : BF) (F : Nat -> Prop) (st : St) (a : Act) (w : World) : Prop where
 ex : ∃ μ, HRel A μ st.heap F w /\ ∀ t, t < st.nt -> Aa (Ac A μ st.heap) μ w (a.tmps.getD t undef) (Bh st.slots t)
 nt : a.tmps.size = st.nt
 defers : a.defers = []
theorem R.toRF {A : BF} {st : St} {a : Act} {w : World} (h : R A st a w) : RF A (Fr st.ctr) st a w := ⟨h.ex, h.nt, h.defers⟩
theorem RF.put' {A : BF} {F F' : Nat -> Prop} {st : St} {a : Act} {w w' : World} {h' : AO} {ctr' : Nat} {μ' : Nat -> Option Ba} (hR : RF A F st a w)
  (hs : ∀ t, t < st.nt -> Aa (Ac A μ' h') μ' w' (a.tmps.getD t undef) (Bh st.slots t))
  (hh : HRel A μ' h' F' w') {dst : Option Tmp} {v : Value} {l : LV} (hv : Aa (Ac A μ' h') μ' w' v l) :
  RF A F' (({ st with heap := h', ctr := ctr' } : St).put dst l) (a.put dst v) w' := by
 cases dst with
 | none => exact ⟨⟨μ', hh, hs⟩, hR.nt, hR.defers⟩
 | some d =>
  refine ⟨⟨μ', hh, fun t ht => ?_⟩, by simpa [Act.put, St.put] using hR.nt, hR.defers⟩
  have hn : t < a.tmps.size := by rw [hR.nt]; exact ht
  simp only [Act.put, St.put, Bh, AE]
  by_cases e : t = d
  .subst e
   simp only [if_true]
   rw [Array.getD_eq_getD_getElem?, Array.getElem?_setIfInBounds_self_of_lt hn]
   exact hv
  simp only [e, if_false]
  rw [Array.getD_eq_getD_getElem?, Array.getElem?_setIfInBounds_ne (by omega), <- Array.getD_eq_getD_getElem?]
  exact hs t ht
section
variable {P : Program} {A : BF} {AB : A4} {F : Nat -> Prop} {st : St} {a : Act} {w : World}
theorem Va {μ : Nat -> Option Ba} {h : AO} {F : Nat -> Prop} {w w' : World} {v : Value} {ctr e sz : Nat} {elems : List (List DV)} (hh : HRel A μ h F w) (hc : F ctr) (hn : Ix w w' (Ac A μ h) v e sz elems) (hb : Below w.heap.size w w') :
  ∃ μ', HRel A μ' ((ctr, .row e sz elems) :: h) (fun id => F id /\ id ≠ ctr) w' /\ Aa (Ac A μ' ((ctr, .row e sz elems) :: h)) μ' w' v (.lsl ctr sz 0 elems.length) /\ ∀ v x, Aa (Ac A μ h) μ w v x -> Aa (Ac A μ' ((ctr, .row e sz elems) :: h)) μ' w' v x := by
 have hno : μ ctr = none := hh.fresh ctr hc
 obtain ⟨hlen, hn⟩ := hn
 have hkm : BW (Bx μ h) w w' := ⟨hb.size, fun b hb' _ => hb.block b hb'⟩
 have hsub : ∀ id x, AE id ((ctr, A9.row e sz elems) :: h) = some x -> (id = ctr /\ x = .row e sz elems) \/ AE id h = some x := by
  intro id x hx
  simp only [AE] at hx
  split at hx
  .cases hx; exact .inl ⟨‹_›, rfl⟩
  exact .inr hx
 have hold : ∀ id x lc, AE id ((ctr, A9.row e sz elems) :: h) = some x -> id ≠ ctr -> μ id = some lc -> lc.nil = false -> w'.heap[lc.b]? = w.heap[lc.b]? := by
  intro id x lc hx hne hm hnl
  rcases hsub id x hx with ⟨rfl, _⟩ | hx
  .exact absurd rfl hne
  exact hb.block _ (hh.base id x lc hx hm hnl).1
 have fin : ∀ (loc : Ba), (loc.nil = false -> loc.b < w'.heap.size /\ w.heap.size <= loc.b) ->
   (∀ O' : Nat -> Prop, (∀ b, O' b -> Ac A μ h b \/ (loc.nil = false /\ b = loc.b)) -> (∀ b, Ac A μ h b -> b < w.heap.size -> O' b \/ True) -> (∀ b, Ac A (Bt μ ctr loc) ((ctr, A9.row e sz elems) :: h) b ↔ O' b) -> Dn O' (Bt μ ctr loc) w' loc (.row e sz elems)) ->
   (∀ O', Aa O' (Bt μ ctr loc) w' v (.lsl ctr sz 0 elems.length)) ->
   ∃ μ', HRel A μ' ((ctr, .row e sz elems) :: h) (fun id => F id /\ id ≠ ctr) w' /\ Aa (Ac A μ' ((ctr, .row e sz elems) :: h)) μ' w' v (.lsl ctr sz 0 elems.length) /\ ∀ v x, Aa (Ac A μ h) μ w v x -> Aa (Ac A μ' ((ctr, .row e sz elems) :: h)) μ' w' v x := by
  intro loc hloc ho hu
  have hfr : JX μ h ((ctr, A9.row e sz elems) :: h) w loc := fun hn => .inl (hloc hn).2
  have hown := hh.sub_add loc (.row e sz elems) ((ctr, .row e sz elems) :: h) hfr hsub
  have hcov : ∀ b, Ac A (Bt μ ctr loc) ((ctr, .row e sz elems) :: h) b -> Ac A μ h b \/ (loc.nil = false /\ b = loc.b) := by
   rintro b (hb' | ⟨id, x, lc, h1, h2, h3, h4⟩)
   .exact .inl (.inl hb')
   by_cases e' : id = ctr
   .subst e'
    simp only [Bt, if_true, Option.some.injEq] at h2
    subst h2; exact .inr ⟨h3, h4.symm⟩
   rcases hsub id x h1 with ⟨e'', _⟩ | h1
   .exact absurd e'' e'
   simp only [Bt, e', if_false] at h2
   exact .inl (.inr ⟨id, x, lc, h1, h2, h3, h4⟩)
  have hadd := hh.add (w' := w') hno loc (.row e sz elems) ((ctr, .row e sz elems) :: h) (fun hn => (hloc hn).1) hfr hsub hkm hold hb.os hb.tape hb.output (ho _ hcov (fun _ _ _ => .inr trivial) (fun _ => Iff.rfl))
  exact ⟨_, hadd, hu _, fun v x hv => hv.mono hkm.own hown (G1 hno loc)⟩
 rcases hn with ⟨rfl, rfl⟩ | ⟨a, b, o, cap, c, rfl, h1, h2, h3, h4, h5, h6, h7, h8, h9, h10⟩
 .exact fin ⟨true, 0, 0, sz, 0⟩ (fun hn => by cases hn) (fun O' _ _ _ => ⟨rfl, hlen, .inl ⟨rfl, rfl⟩⟩) (fun O' => .lsln ctr ⟨true, 0, 0, sz, 0⟩ (by simp [Bt]) rfl)
 refine fin ⟨false, b, o, sz, cap⟩ (fun _ => ⟨h2, h1⟩) (fun O' hO' _ _ => ⟨rfl, hlen, .inr ⟨rfl, c, h6, h7, h8, h9, fun i j x d u hx hd hu => ?_⟩⟩) (fun O' => ?_)
 .refine (h10 i j x d u hx hd hu).mono (BW.refl _ _) fun q _ hq => ?_
  rcases hO' q hq with hq | ⟨_, hq⟩
  .exact .inl hq
  exact .inr hq
 exact .lsl ctr 0 elems.length cap a ⟨false, b, o, sz, cap⟩ (by simp [Bt]) rfl (by simp) h8 (fun hc => by rw [h3 hc]; simp) h4 h5
theorem P9 (hE : A8 P AB) {o : Oper} {l : LV} {e : Dy} (hR : RF A F st a w) (hc : F st.ctr) (hF : ∃ c0, ∀ q, c0 <= q -> F q) (h : CE P AB st o.op l e) {next : Act -> World -> Prop} {Q : Exit -> Act -> World -> Prop}
  (hK : ∀ a' w', RF A (fun id => F id /\ id ≠ st.ctr) (apS st st.ctr o l e) a' w' -> next a' w') : o.wp P a w next Q := by
 obtain ⟨⟨μ, hh, hs0⟩, hnt, hdef⟩ := id hR
 have hs := fun x => Fq hs0 x
 have less : ∀ {μ h w} (c' : Nat), HRel A μ h (fun id => F id /\ (st.ctr < c' -> id ≠ st.ctr)) w -> HRel A μ h (fun id => F id /\ id ≠ st.ctr) w := fun _ h => h.less fun _ h => ⟨h.1, fun _ => h.2⟩
 have nCase : e = .keep -> nW AB st o.op (· = l) -> o.wp P a w next Q := by
  rintro rfl h
  obtain ⟨u, v, rfl, hv, hg⟩ := HY hE hs h
  unfold Oper.wp
  rw [hg o rfl w]
  exact hK _ _ (hR.put' (ctr' := st.ctr) hs0 (hh.less fun _ h => h.1) hv)
 have mCase : mW AB st o.op (fun r h _ => r = l /\ h = e.ap st.ctr st.heap) -> o.wp P a w next Q := by
  intro h
  obtain ⟨l', h', c', u, w', μ', ⟨rfl, rfl⟩, ⟨_, hh'⟩, hl, hmono, hrun⟩ := N2 (a := a) (F := F) hE hs ⟨hh, hc⟩ h
  have := hK _ _ (hR.put' (ctr' := st.ctr) (fun t ht => hmono _ _ (hs0 t ht)) (less c' hh') hl)
  unfold Oper.wp
  rcases hrun o rfl with hr | ⟨hr, rfl⟩ <;> rw [hr] <;> exact this
 obtain ⟨dst, op, type, pos, after, guard⟩ := o
 simp only at h nCase mCase
 cases op <;> simp only [CE] at h <;> (try exact nCase h.1 h.2)
 case load t x =>
  obtain ⟨rfl, _, ti, h1, h2⟩ := h
  refine mCase ?_
  simp only [mW, Dy.ap]
  exact ⟨ti, h1, by
   unfold Fc at *
   split at h2
   .obtain ⟨r, g1, g2⟩ := h2; exact ⟨r, g1, g2, trivial⟩
   .obtain ⟨c, r, g1, g2, g3⟩ := h2; exact ⟨c, r, g1, g2, g3, trivial⟩
   .obtain ⟨c1, c2, c3, c4, r, g1, g2, g3, g4⟩ := h2; exact ⟨c1, c2, c3, c4, r, g1, g2, g3, g4, trivial⟩
   exact h2⟩
 case lookup t x i ok =>
  obtain ⟨rfl, ti, kt, et, te, m, kd, h1, h2, h3, h4, h5, h6, h7, h8⟩ := h
  refine mCase ?_
  simp only [mW, Dy.ap]
  exact ⟨ti, kt, et, te, m, kd, h1, h2, h3, h4, h5, h6, h7, h8, trivial⟩
 case store => obtain ⟨_, h', rfl, h⟩ := h; exact mCase h
 case mapUpdate => obtain ⟨h', rfl, h⟩ := h; exact mCase h
 case mapEntry => obtain ⟨h', rfl, h⟩ := h; exact mCase h
 case entryStore => obtain ⟨h', rfl, h⟩ := h; exact mCase h
 case alloc t => obtain ⟨ti, h1, rfl, rfl⟩ := h; exact mCase (by simp only [mW]; exact ⟨ti, h1, trivial, rfl⟩)
 case box t x => obtain ⟨ls, h1, rfl, rfl⟩ := h; exact mCase (by simp only [mW]; exact ⟨ls, h1, trivial, rfl⟩)
 case buildSlice t n ps =>
  obtain ⟨ti, e', te, l', h1, h2, h3, h4, h5, h6, h7, ⟨rfl, rfl⟩ | ⟨rfl, rfl⟩⟩ := h
  .exact mCase (by simp only [mW]; exact ⟨ti, e', te, l', h1, h2, h3, h4, h5, h6, h7, .inl ⟨rfl, rfl⟩⟩)
  exact mCase (by simp only [mW]; exact ⟨ti, e', te, l', h1, h2, h3, h4, h5, h6, h7, .inr ⟨rfl, rfl⟩⟩)
 case makeSlice t x y =>
  obtain ⟨ti, e', te, n, k1, k2, h1, h2, h3, h4, h5, h6, h7, h8, ⟨rfl, rfl⟩ | ⟨rfl, rfl⟩⟩ := h
  .exact mCase (by simp only [mW]; exact ⟨ti, e', te, n, k1, k2, h1, h2, h3, h4, h5, h6, h7, h8, .inl ⟨rfl, rfl⟩⟩)
  exact mCase (by simp only [mW]; exact ⟨ti, e', te, n, k1, k2, h1, h2, h3, h4, h5, h6, h7, h8, .inr ⟨rfl, rfl⟩⟩)
 case makeMap t r => obtain ⟨rfl, rfl, rfl⟩ := h; exact mCase (by simp only [mW]; exact ⟨trivial, trivial, rfl⟩)
 case call c =>
  obtain ⟨callee, args, ats⟩ := c
  cases callee with
  | value f =>
   simp only at h
   split at h
   .obtain ⟨h', rfl, f', k, caps, g1, g2, g3, _, _⟩ := h
    simp only [Callee.value.injEq] at g1
    subst g1
    have hfv := hs f
    rw [g2] at hfv
    generalize hv : a.eval f = v at hfv
    cases hfv with
    | fn _ cs _ hsz hr =>
     have hx : (execOp a.eval ⟨dst, .call ⟨.value f, args, ats⟩, type, pos, after, guard⟩).run P w = .ok (.enter k (args.map a.eval ++ cs)) w := by
      simp [execOp, resolve, Deferred.ofValue, hv, invoke]
      exact g3.1 _ _
     unfold Oper.wp
     rw [hx, Oper.upon_enter]
     refine (g3.2 A F μ w _ hh hc hF (by simp [hsz]) fun i v x hvi hx => ?_).mono fun en w' ⟨u, μ', he, hh', hl, hmono⟩ => ?_
     .rw [List.getElem?_append] at hx
      rw [Array.getElem?_append] at hvi
      by_cases hi' : i < args.size
      .rw [if_pos (by simpa using hi')] at hvi hx
       exact Gx hs args.toList i v _ (by simpa using hvi) hx
      rw [if_neg (by simpa using hi')] at hvi hx
      exact hr _ v _ (by simpa using hvi) (by simpa using hx)
     subst he
     exact hK _ _ (hR.put' (ctr' := st.ctr) (fun t ht => hmono _ _ (hs0 t ht)) hh' hl)
   rcases h with ⟨rfl, k, caps, ds, r, h1, h2, h3, h4, rfl⟩ | ⟨_, k, caps, ds, tt, sz, elems, h1, h2, h3, h4, rfl, rfl⟩
   .have hfv := hs f
    rw [h1] at hfv
    generalize hv : a.eval f = v at hfv
    cases hfv with
    | fn _ cs _ hsz hr =>
     have hx : (execOp a.eval ⟨dst, .call ⟨.value f, args, ats⟩, type, pos, after, guard⟩).run P w = .ok (.enter k (args.map a.eval ++ cs)) w := by
      simp [execOp, resolve, Deferred.ofValue, hv, invoke]
      exact h3.enters _ _
     unfold Oper.wp
     rw [hx, Oper.upon_enter]
     obtain ⟨g1, g2⟩ := ET hh (l := (args.toList.map st.eval ++ caps).flatMap (Dh st.heap)) h2 (fun id hid => hid)
     have hO : ∀ b, Ac A μ (Bq ((args.toList.map st.eval ++ caps).flatMap (Dh st.heap)) st.heap) b -> b < w.heap.size := by
      rintro b (hb | ⟨id, x, lc, h1, h2, h3, rfl⟩)
      .exact Nat.lt_of_lt_of_le (A.hO b hb).1 hh.size
      exact (hh.base id x lc (Fp h1).2 h2 h3).1
     refine (h3.run _ w _ hO (by rw [<- g1]; simp [hsz]) fun i v d hvi hdi => ?_).mono fun e w' ⟨v, r', he, hp, hq, hb⟩ => ?_
     .have hi := (List.getElem?_eq_some_iff.1 hdi).1
      have hx : (args.toList.map st.eval ++ caps)[i]? = some ((args.toList.map st.eval ++ caps)[i]'(by omega)) := List.getElem?_eq_getElem _
      refine g2 i v _ d hx hdi ?_
      rw [List.getElem?_append] at hx
      rw [Array.getElem?_append] at hvi
      by_cases hi' : i < args.size
      .rw [if_pos (by simpa using hi')] at hvi hx
       exact Gx hs args.toList i v _ (by simpa using hvi) hx
      rw [if_neg (by simpa using hi')] at hvi hx
      exact hr _ v _ (by simpa using hvi) (by simpa using hx)
     subst he hq
     obtain ⟨hh', hown⟩ := hh.keep (w' := w') (h' := st.heap) (μ' := μ) (fun _ _ h => h) hh.fresh (fun _ _ h => h) hb.block hb.size hb.os hb.tape hb.output
     have hp' : Aw (Ac A μ st.heap) w' v r' := by
      rcases h4 with h4 | h4
      .exact hp.scalar h4 _ _
      rw [h4] at hp; exact hp
     exact hK _ _ (hR.put' (ctr' := st.ctr) (fun t ht => (hs0 t ht).mono ⟨hb.size, fun b hb' _ => hb.block b hb'⟩ (fun b _ hb => hb) (fun _ _ h => h)) (hh'.less fun _ h => h.1) (.p _ _ hp'))
   have hfv := hs f
   rw [h1] at hfv
   generalize hv : a.eval f = v at hfv
   cases hfv with
   | fn _ cs _ hsz hr =>
    have hx : (execOp a.eval ⟨dst, .call ⟨.value f, args, ats⟩, type, pos, after, guard⟩).run P w = .ok (.enter k (args.map a.eval ++ cs)) w := by
     simp [execOp, resolve, Deferred.ofValue, hv, invoke]
     exact h3.enters _ _
    unfold Oper.wp
    rw [hx, Oper.upon_enter]
    obtain ⟨g1, g2⟩ := ET hh (l := (args.toList.map st.eval ++ caps).flatMap (Dh st.heap)) h2 (fun id hid => hid)
    have hO : ∀ b, Ac A μ (Bq ((args.toList.map st.eval ++ caps).flatMap (Dh st.heap)) st.heap) b -> b < w.heap.size := by
     rintro b (hb | ⟨id, x, lc, h1, h2, h3, rfl⟩)
     .exact Nat.lt_of_lt_of_le (A.hO b hb).1 hh.size
     exact (hh.base id x lc (Fp h1).2 h2 h3).1
    refine (h3.run _ w _ hO (by rw [<- g1]; simp [hsz]) fun i v d hvi hdi => ?_).mono fun e w' ⟨v, he, hn', hb⟩ => ?_
    .have hi := (List.getElem?_eq_some_iff.1 hdi).1
     have hx : (args.toList.map st.eval ++ caps)[i]? = some ((args.toList.map st.eval ++ caps)[i]'(by omega)) := List.getElem?_eq_getElem _
     refine g2 i v _ d hx hdi ?_
     rw [List.getElem?_append] at hx
     rw [Array.getElem?_append] at hvi
     by_cases hi' : i < args.size
     .rw [if_pos (by simpa using hi')] at hvi hx
      exact Gx hs args.toList i v _ (by simpa using hvi) hx
     rw [if_neg (by simpa using hi')] at hvi hx
     exact hr _ v _ (by simpa using hvi) (by simpa using hx)
    subst he
    have hn2 : Ix w w' (Ac A μ st.heap) v tt sz elems := by
     rcases h4 with h4 | h4
     .rw [h4] at hn'; exact hn'
     exact hn'.flat h4 _
    obtain ⟨μ', k1, k2, k3⟩ := Va hh hc hn2 hb
    exact hK _ _ (hR.put' (ctr' := st.ctr) (fun t ht => k3 _ _ (hs0 t ht)) k1 k2)
  | builtin b =>
   cases b with
   | append => obtain ⟨-, h', rfl, h⟩ := h; exact mCase h
   | _ => exact nCase h.1 h.2
  | invoke r m => exact nCase h.1 h.2
theorem N5 (hE : A8 P AB) {ops : Array Oper} {i : Nat} {o : Oper} (ho : ops[i]? = some o) {l : LV} {e : Dy} (hR : RF A F st a w) (hc : F st.ctr) (hF : ∃ c0, ∀ q, c0 <= q -> F q) (h : Cv P AB ops st o l e) {next : Act -> World -> Prop} {Q : Exit -> Act -> World -> Prop}
  (hK : ∀ a' w', RF A (fun id => F id /\ id ≠ st.ctr) (apS st st.ctr o l e) a' w' -> next a' w') : wpOp P ops Q i next a w := by
 obtain ⟨⟨μ, hh, hs0⟩, hnt, hdef⟩ := id hR
 have hs := fun x => Fq hs0 x
 unfold wpOp
 rw [ho]
 simp only
 unfold Cv at h
 have skip : l = .und /\ e = .keep -> next (a.put o.dst undef) w := by
  rintro ⟨rfl, rfl⟩
  exact hK _ _ (hR.put' (ctr' := st.ctr) hs0 (hh.less fun _ h => h.1) .und)
 split at h
 .rename_i hg
  rw [if_pos (by simp [Region.wanted, hg])]
  exact .inl (P9 hE hR hc hF h hK)
 rename_i j want hg
 obtain ⟨g1, g2⟩ := MK (ops := ops) (j := j) hs
 split at h
 .rename_i b hb
  have hy := g1 b hb
  split at h
  .rename_i e
   rw [if_pos (by simp [Region.wanted, hg, hy, e])]
   exact .inl (P9 hE hR hc hF h hK)
  rename_i e
  rw [if_neg (by simp [Region.wanted, hg, hy, e])]
  exact skip h
 .rename_i hb
  have hy := g2 hb
  rw [if_neg (by simp [Region.wanted, hg, hy])]
  exact skip h
 exact h.elim
end
section
variable {P : Program} {AB : A4} {md : Region.Mode} {ops : Array Oper} {base : Nat} {Q : St -> Prop}
def Gn (P : Program) (AB : A4) (md : Region.Mode) (ops : Array Oper) (base : Nat) (Q : St -> Prop) : Nat -> Array Bool -> St -> Prop
 | 0, listed, st => Region.ready md ops listed = [] /\ ∃ st', FL st st' /\ Q st'
 | fuel + 1, listed, st => (Region.ready md ops listed = [] -> ∃ st', FL st st' /\ Q st') /\
  ∀ i ∈ Region.ready md ops listed, ∃ o l e, ops[i]? = some o /\ Cv P AB ops (st.at (base + i)) o l e /\ Gn P AB md ops base Q fuel (listed.setIfInBounds i true) (apS st (base + i) o l e)
theorem FL.trans {a b c : St} (h : FL a b) (h' : FL b c) : FL a c := ⟨h.nt.trans h'.nt, fun t => (h.slots t).trans (h'.slots t), fun i => (h.heap i).trans (h'.heap i)⟩
theorem FL.symm {a b : St} (h : FL a b) : FL b a := ⟨h.nt.symm, fun t => (h.slots t).symm, fun i => (h.heap i).symm⟩
theorem Vb {st : St} {dst : Option Tmp} {l : LV} {t : Nat} : Bh (st.put dst l).slots t = if dst = some t then l else Bh st.slots t := by
 cases dst with
 | none => simp [St.put]
 | some d =>
  simp only [St.put, Bh, AE, Option.some.injEq]
  by_cases e : t = d
  .subst e; simp
  rw [if_neg e, if_neg (fun h => e h.symm)]
theorem FM {st : St} {c : Nat} {o : Oper} {l : LV} {e : Dy} : (apS st c o l e).nt = st.nt := by
 unfold apS St.put; split <;> rfl
theorem Bk {st : St} {c : Nat} {o : Oper} {l : LV} {e : Dy} : (apS st c o l e).heap = e.ap c st.heap := by
 unfold apS St.put; split <;> rfl
theorem Cp {st : St} {c : Nat} {o : Oper} {l : LV} {e : Dy} {t : Nat} : Bh (apS st c o l e).slots t = if o.dst = some t then l else Bh st.slots t := by
 unfold apS; rw [Vb]
theorem FL.at {st st' : St} (h : FL st st') (c : Nat) : FL (st.at c) (st'.at c) := ⟨h.nt, h.slots, h.heap⟩
theorem FL.apS {st st' : St} (h : FL st st') {c : Nat} {o : Oper} {l : LV} {e e' : Dy} (he : ∀ id, AE id (e.ap c st.heap) = AE id (e'.ap c st'.heap)) : FL (apS st c o l e) (apS st' c o l e') :=
 ⟨by rw [FM, FM]; exact h.nt, fun t => by rw [Cp, Cp, h.slots], fun id => by rw [Bk, Bk]; exact he id⟩
theorem K6 : ∀ (fuel : Nat) (listed : Array Bool) (st st' : St), FL st st' -> Gn P AB md ops base Q fuel listed st -> Gn P AB md ops base Q fuel listed st'
 | 0, _, _, _, he, ⟨h1, s, h2, h3⟩ => ⟨h1, s, he.symm.trans h2, h3⟩
 | fuel + 1, _, st, st', he, ⟨h1, h2⟩ => ⟨fun hr => by obtain ⟨s, a, b⟩ := h1 hr; exact ⟨s, he.symm.trans a, b⟩, fun i hi => by
   obtain ⟨o, l, e, g1, g2, g3⟩ := h2 i hi
   obtain ⟨e', k1, k2⟩ := Ue (he.at (base + i)) rfl g2
   exact ⟨o, l, e', g1, k1, K6 fuel _ _ _ (he.apS k2) g3⟩⟩
def MQ : Xi -> Xi -> Bool
 | .n, .w => true
 | .w, _ | _, .w => false
 | .a, .r => false
 | _, _ => true
def KY : Op -> Bool
 | .call c => match c.callee with
  | .value f => !(CK f)
  | _ => false
 | _ => false
def Pc (a b : Op) : Bool := !(KY a) || decide (BX b ≠ .r)
theorem Vc {st : St} {o : Oper} {l : LV} {e : Dy} (h : Cv P AB ops st o l e) (hc : BX o.op = .n \/ BX o.op = .r) (hw : AB.own = true -> KY o.op = false) : e = .keep := by
 have big : CE P AB st o.op l e -> e = .keep := by
  intro h
  generalize o.op = op at *
  cases op <;> simp only [BX, reduceCtorEq, or_self] at hc <;> simp only [CE] at h <;> (try exact h.1)
  case call c =>
   obtain ⟨callee, args, ats⟩ := c
   cases callee with
   | builtin b => cases b <;> simp only [reduceCtorEq, or_self] at hc <;> exact h.1
   | value f =>
    have hnd : ¬ CK f = true := fun hd => by simp [hd] at hc
    simp only [if_neg hnd] at h
    rcases h with h | ⟨h, _⟩
    .exact h.1
    have := hw h
    simp [KY, hnd] at this
   | _ => exact h.1
 unfold Cv at h
 split at h
 .exact big h
 split at h
 .split at h
  .exact big h
  exact h.2
 .exact h.2
 exact h.elim
theorem NN {st : St} {o : Oper} {l : LV} {e : Dy} (h : Cv P AB ops st o l e) (hc : BX o.op ≠ .w) : e = .keep \/ ∃ x, e = .new x := by
 have big : CE P AB st o.op l e -> e = .keep \/ ∃ x, e = .new x := by
  intro h
  generalize o.op = op at *
  cases op <;> simp only [CE] at h <;> (try exact .inl h.1)
  case store => exact absurd rfl hc
  case mapUpdate => exact absurd rfl hc
  case mapEntry => exact absurd rfl hc
  case entryStore => exact absurd rfl hc
  case alloc => obtain ⟨_, _, _, h⟩ := h; exact .inr ⟨_, h⟩
  case box => obtain ⟨_, _, _, h⟩ := h; exact .inr ⟨_, h⟩
  case buildSlice => obtain ⟨_, _, _, _, _, _, _, _, _, _, _, ⟨_, h⟩ | ⟨_, h⟩⟩ := h; exact .inr ⟨_, h⟩; exact .inl h
  case makeSlice => obtain ⟨_, _, _, _, _, _, _, _, _, _, _, _, _, _, ⟨_, h⟩ | ⟨_, h⟩⟩ := h; exact .inr ⟨_, h⟩; exact .inl h
  case makeMap => exact .inr ⟨_, h.2.2⟩
  case call c =>
   obtain ⟨callee, args, ats⟩ := c
   cases callee with
   | builtin b =>
    cases b with
    | append => exact absurd rfl hc
    | _ => exact .inl h.1
   | value f =>
    have hnd : ¬ CK f = true := fun hd => hc (by simp [BX, hd])
    simp only [if_neg hnd] at h
    rcases h with h | ⟨_, _, _, _, _, _, _, _, _, _, _, _, h⟩
    .exact .inl h.1
    exact .inr ⟨_, h⟩
   | _ => exact .inl h.1
 unfold Cv at h
 split at h
 .exact big h
 split at h
 .split at h
  .exact big h
  exact .inl h.2
 .exact .inl h.2
 exact h.elim
theorem JZ {st : St} {o : Oper} {l : LV} {e : Dy} (h : Cv P AB ops st o l e) {k : Nat} (hk : k ≠ st.ctr) (hn : AE k st.heap = none) : AE k (e.ap st.ctr st.heap) = none := by
 by_cases hw : BX o.op = .w
 .have big : CE P AB st o.op l e -> AE k (e.ap st.ctr st.heap) = none := by
   intro h
   have : ∃ h1, e = .set h1 /\ wW P AB st o.op l h1 := by
    generalize hq : o.op = op at *
    cases op <;> simp only [BX, reduceCtorEq] at hw <;> simp only [CE] at h ⊢
    case store => exact h.2
    case mapUpdate => exact h
    case mapEntry => exact h
    case entryStore => exact h
    case call c =>
     obtain ⟨callee, args, ats⟩ := c
     cases callee with
     | builtin b =>
      cases b <;> simp only [reduceCtorEq] at hw
      exact h.2
     | value f =>
      have hd : CK f = true := by simp only at hw; split at hw <;> first | assumption | cases hw
      simp only [hd, if_true] at h
      exact h
     | _ => simp only [reduceCtorEq] at hw
   obtain ⟨h1, rfl, g⟩ := this
   obtain ⟨_, _, _, g⟩ := Ti (st' := st) hw (fun _ _ => rfl) rfl (fun _ => rfl) g
   exact g k hk hn
  unfold Cv at h
  split at h
  .exact big h
  split at h
  .split at h
   .exact big h
   rw [h.2]; exact hn
  .rw [h.2]; exact hn
  exact h.elim
 rcases NN h hw with rfl | ⟨x, rfl⟩
 .exact hn
 simp only [Dy.ap, AE, hk, if_false]; exact hn
def Pd : Op -> Op -> Bool
 | .load .., .mapUpdate .. | .load .., .mapEntry .. | .load .., .entryStore .. => true
 | _, _ => false
def N6 : Op -> Op -> Bool
 | .load .., .store .. => true
 | .load .., .call c => match c.callee with
  | .builtin .append => true
  | .value f => CK f
  | _ => false
 | _, _ => false
def MR (q : Bool) (a b : Op) : Bool := Pd a b || (q && N6 a b)
def Pe (q : Bool) (a b : Op) : Bool := MQ (BX a) (BX b) || MR q a b
theorem Tj {o : Op} (h : KY o = true) : BX o = .r := by
 unfold KY at h
 split at h
 .rename_i c
  unfold BX
  split at h
  .rename_i f e
   simp only [Bool.not_eq_true'] at h
   simp only [e, h, Bool.false_eq_true, if_false]
  cases h
 cases h
theorem Qq {a b : Op} (h : N6 a b = true) : BX a = .r /\ BX b = .w /\ (∃ t x, a = .load t x) /\ ((∃ t x v, b = .store t x v) \/ ∃ c, b = .call c /\ (c.callee = .builtin .append \/ ∃ f, c.callee = .value f /\ CK f = true)) := by
 unfold N6 at h
 split at h
 .exact ⟨rfl, rfl, ⟨_, _, rfl⟩, .inl ⟨_, _, _, rfl⟩⟩
 .rename_i c
  split at h
  .rename_i e
   exact ⟨rfl, by simp [BX, e], ⟨_, _, rfl⟩, .inr ⟨_, rfl, .inl e⟩⟩
  .rename_i f e
   exact ⟨rfl, by simp [BX, e, h], ⟨_, _, rfl⟩, .inr ⟨_, rfl, .inr ⟨f, e, h⟩⟩⟩
  cases h
 cases h
theorem RJ {a b : Op} (h : Pd a b = true) : BX a = .r /\ BX b = .w /\ (∃ t x, a = .load t x) /\ ((∃ t x i v, b = .mapUpdate t x i v) \/ (∃ t x i, b = .mapEntry t x i) \/ ∃ t x i v, b = .entryStore t x i v) := by
 unfold Pd at h
 split at h
 .exact ⟨rfl, rfl, ⟨_, _, rfl⟩, .inl ⟨_, _, _, _, rfl⟩⟩
 .exact ⟨rfl, rfl, ⟨_, _, rfl⟩, .inr (.inl ⟨_, _, _, rfl⟩)⟩
 .exact ⟨rfl, rfl, ⟨_, _, rfl⟩, .inr (.inr ⟨_, _, _, _, rfl⟩)⟩
 cases h
theorem GN {q : Bool} {a b : Op} (h : MR q a b = true) : BX a = .r /\ BX b = .w /\ (∃ t x, a = .load t x) /\
  (((∃ t x i v, b = .mapUpdate t x i v) \/ (∃ t x i, b = .mapEntry t x i) \/ ∃ t x i v, b = .entryStore t x i v) \/ (q = true /\ ((∃ t x v, b = .store t x v) \/ ∃ c, b = .call c /\ (c.callee = .builtin .append \/ ∃ f, c.callee = .value f /\ CK f = true)))) := by
 simp only [MR, Bool.or_eq_true, Bool.and_eq_true] at h
 rcases h with h | ⟨hq, h⟩
 .obtain ⟨h1, h2, h3, h4⟩ := RJ h; exact ⟨h1, h2, h3, .inl h4⟩
 obtain ⟨h1, h2, h3, h4⟩ := Qq h; exact ⟨h1, h2, h3, .inr ⟨hq, h4⟩⟩
theorem W1 {st st' : St} {o : Oper} {l : LV} {e : Dy} (hld : ∃ t x, o.op = .load t x) (hnt : st.nt = st'.nt) (hs : ∀ t ∈ o.looksAt ops, Bh st.slots t = Bh st'.slots t)
  (hm : ∀ id x, AE id st.heap = some x -> (∀ m, x ≠ .map m) -> AE id st'.heap = some x) (h : Cv P AB ops st o l e) : Cv P AB ops st' o l e := by
 have hop := Eh hnt hs
 have key : CE P AB st o.op l e -> CE P AB st' o.op l e := by
  obtain ⟨t, x, ho⟩ := hld
  rw [ho] at hop ⊢
  simp only [CE]
  rintro ⟨h1, hc', ti, h2, h3⟩
  have he : st.eval x = st'.eval x := hop x (by simp [Op.operands])
  rw [<- he]
  refine ⟨h1, hc', ti, h2, ?_⟩
  unfold Fc at h3 ⊢
  split at h3
  .rename_i hx; simp only [hx]; exact h3
  .rename_i id off hx
   obtain ⟨cells, r, g1, g2⟩ := h3
   simp only [hx]
   exact ⟨cells, r, hm _ _ g1 (by simp), g2⟩
  .rename_i id i off hx
   obtain ⟨e', sz, elems, y, r, g1, g2⟩ := h3
   simp only [hx]
   exact ⟨e', sz, elems, y, r, hm _ _ g1 (by simp), g2⟩
  exact h3.elim
 unfold Cv at *
 split at h
 .exact key h
 rename_i j want hg
 rw [<- GM hnt hs hg]
 split at h
 .rename_i hb
  split at h
  .rw [if_pos ‹_›]; exact key h
  rw [if_neg ‹_›]; exact h
 .exact h
 exact h.elim
theorem Xj {st : St} {o : Oper} {l : LV} {e : Dy} {c : Nat} (hmu : (∃ t x i v, o.op = .mapUpdate t x i v) \/ (∃ t x i, o.op = .mapEntry t x i) \/ ∃ t x i v, o.op = .entryStore t x i v) (h : Cv P AB ops st o l e) : ∀ id x, AE id st.heap = some x -> (∀ m, x ≠ .map m) -> AE id (e.ap c st.heap) = some x := by
 have key : CE P AB st o.op l e -> ∀ id x, AE id st.heap = some x -> (∀ m, x ≠ .map m) -> AE id (e.ap c st.heap) = some x := by
  have fin : ∀ (id' : Nat) (m m' : List (DV × DV)), AE id' st.heap = some (.map m) -> ∀ id y, AE id st.heap = some y -> (∀ m, y ≠ .map m) -> AE id (Bo id' (.map m') st.heap) = some y := by
   intro id' m m' h4 id y hy hne
   by_cases hii : id = id'
   .subst hii; rw [h4] at hy; cases hy; exact absurd rfl (hne _)
   rw [DQ hii]; exact hy
  rcases hmu with ⟨t, x, i, v, ho⟩ | ⟨t, x, i, ho⟩ | ⟨t, x, i, v, ho⟩
  .rw [ho]
   simp only [CE]
   rintro ⟨h', rfl, hmw⟩ id y hy hne
   obtain ⟨ti, kt, et, id', m, kd, vd, h1, h2, h3, h4, h5, h6, h7, h8, _, rfl⟩ := hmw
   exact fin id' m _ h4 id y hy hne
  .rw [ho]
   simp only [CE]
   rintro ⟨h', rfl, hmw⟩ id y hy hne
   obtain ⟨ti, kt, et, te, id', m, kd, h1, h2, h3, h4, h5, h6, h7, h8, _, rfl⟩ := hmw
   show AE id (match C5 kd m with | some _ => st.heap | none => _) = some y
   split
   .exact hy
   exact fin id' m _ h5 id y hy hne
  rw [ho]
  simp only [CE]
  rintro ⟨h', rfl, hmw⟩ id y hy hne
  obtain ⟨id', m, k1, n, vd, p, h1, h2, h3, h4, h5, h6, _, rfl⟩ := hmw
  exact fin id' m _ h2 id y hy hne
 unfold Cv at h
 split at h
 .exact key h
 split at h
 .split at h
  .exact key h
  obtain ⟨_, rfl⟩ := h; exact fun id x hx _ => hx
 .obtain ⟨_, rfl⟩ := h; exact fun id x hx _ => hx
 exact h.elim
theorem Vd {b : Nat -> Bool} (hb0 : AB.calm = some b) {st st' : St} {o : Oper} {l : LV} {e : Dy} (hld : ∃ t x, o.op = .load t x) (hnt : st.nt = st'.nt) (hs : ∀ t ∈ o.looksAt ops, Bh st.slots t = Bh st'.slots t)
  (hm : ∀ id o, (∀ m, o ≠ .map m) -> b id = false -> AE id st.heap = some o -> AE id st'.heap = some o) (h : Cv P AB ops st o l e) : Cv P AB ops st' o l e := by
 have hop := Eh hnt hs
 have key : CE P AB st o.op l e -> CE P AB st' o.op l e := by
  obtain ⟨t, x, ho⟩ := hld
  rw [ho] at hop ⊢
  simp only [CE]
  rintro ⟨h1, hc', ti, h2, h3⟩
  have he : st.eval x = st'.eval x := hop x (by simp [Op.operands])
  rw [<- he]
  refine ⟨h1, hc', ti, h2, ?_⟩
  rw [hb0] at hc'
  unfold Fc at h3 ⊢
  split at h3
  .rename_i hx; simp only [hx]; exact h3
  .rename_i id off hx
   obtain ⟨cells, r, g1, g2⟩ := h3
   simp only [hx]
   simp only [hx, KU] at hc'
   exact ⟨cells, r, hm _ _ (by simp) (by simpa using hc') g1, g2⟩
  .rename_i id i off hx
   obtain ⟨e', sz, elems, y, r, g1, g2⟩ := h3
   simp only [hx]
   simp only [hx, KU] at hc'
   exact ⟨e', sz, elems, y, r, hm _ _ (by simp) (by simpa using hc') g1, g2⟩
  exact h3.elim
 unfold Cv at *
 split at h
 .exact key h
 rename_i j want hg
 rw [<- GM hnt hs hg]
 split at h
 .rename_i hb
  split at h
  .rw [if_pos ‹_›]; exact key h
  rw [if_neg ‹_›]; exact h
 .exact h
 exact h.elim
theorem W2 {b : Nat -> Bool} (hb0 : AB.calm = some b) {st : St} {o : Oper} {l : LV} {e : Dy} (hfr : AE st.ctr st.heap = none) (hmu : (∃ t x v, o.op = .store t x v) \/ ∃ c, o.op = .call c /\ (c.callee = .builtin .append \/ ∃ f, c.callee = .value f /\ CK f = true)) (h : Cv P AB ops st o l e) :
  ∀ id x, (∀ m, x ≠ .map m) -> b id = false -> AE id st.heap = some x -> AE id (e.ap st.ctr st.heap) = some x := by
 have key : CE P AB st o.op l e -> ∀ id x, (∀ m, x ≠ .map m) -> b id = false -> AE id st.heap = some x -> AE id (e.ap st.ctr st.heap) = some x := by
  intro h id y hnm hid hl
  rcases hmu with ⟨t, x, v, ho⟩ | ⟨c, ho, hcal⟩
  .rw [ho] at h
   simp only [CE] at h
   obtain ⟨hc', h', rfl, ti, h1, hs⟩ := h
   rw [hb0] at hc'
   unfold H4 at hs
   obtain ⟨ls, g1, g2, g3, hs⟩ := hs
   split at hs
   .rename_i id' off hx
    obtain ⟨cells', q1, q2, _, rfl⟩ := hs
    rw [hx] at hc'
    simp only [Iy] at hc'
    show AE id (Bo id' _ st.heap) = _
    rw [DQ (fun e2 => by rw [e2, hc'] at hid; cases hid)]; exact hl
   .rename_i hx
    first
    | exact hs.elim
    | (simp only [hx, Iy, Bool.false_eq_true] at hc')
   all_goals first
    | exact hs.elim
    | (rename_i hx; simp only [hx, Iy, Bool.false_eq_true] at hc')
  obtain ⟨callee, args, ats⟩ := c
  simp only at hcal
  rcases hcal with hcal | ⟨f, hcal, hd⟩
  rotate_left
  .subst hcal
   rw [ho] at h
   simp only [CE, hd, if_true] at h
   obtain ⟨h', rfl, f', k, caps, _, _, _, _, g5⟩ := h
   have hne : id ≠ st.ctr := fun e2 => by rw [e2, hfr] at hl; cases hl
   exact g5 b hb0 id y hnm hne hid hl
  subst hcal
  rw [ho] at h
  simp only [CE, mW] at h
  obtain ⟨hap, h', rfl, _, s, x, t, g1, g2, ti, e', te, q1, q2, q3, q4, new, q5, q6, hs⟩ := h
  have hne : id ≠ st.ctr := fun e2 => by rw [e2, hfr] at hl; cases hl
  show AE id h' = _
  split at hs
  .obtain ⟨_, _, _, rfl⟩ := hs
   simp only [AE, if_neg hne]; exact hl
  .rename_i id' sz off len hx
   obtain ⟨elems, _, hrow, _, _, _, _, rfl⟩ := hs
   have hne2 : id ≠ id' := fun e2 => by
    have := hap s (by rw [g1]; rfl)
    rw [hb0, hx] at this
    simp only [KT] at this
    rw [e2, this] at hid; cases hid
   simp only [AE, if_neg hne]
   rw [DO hne2]; exact hl
  exact hs.elim
 unfold Cv at h
 split at h
 .exact key h
 split at h
 .split at h
  .exact key h
  obtain ⟨_, rfl⟩ := h; exact fun id x _ _ hx => hx
 .obtain ⟨_, rfl⟩ := h; exact fun id x _ _ hx => hx
 exact h.elim
theorem Oh (q : Bool) (hq : q = true -> ∃ b, AB.calm = some b) {i : Nat} {oi : Oper} {l : LV} {e : Dy} (hi : ops[i]? = some oi) (B : Nat -> Bool)
  (hB : ∀ j, B j = true -> j ≠ i /\ ∀ oj, ops[j]? = some oj -> ∃ x ∈ oj.after, Region.binds md x = true /\ (x.on = i \/ B x.on = true)) :
  ∀ (fuel : Nat) (listed : Array Bool) (st : St), (∀ j, B j = true -> listed.getD j false = false) ->
   (∀ j oj, ops[j]? = some oj -> j ≠ i -> listed.getD j true = false -> B j = false -> oi.apart ops oj = true /\ Pe q oi.op oj.op = true /\ (AB.own = true -> Pc oi.op oj.op = true)) ->
   (∀ k, listed.getD k true = false -> AE (base + k) st.heap = none) ->
   i ∈ Region.ready md ops listed -> Cv P AB ops (st.at (base + i)) oi l e ->
   Gn P AB md ops base Q fuel (listed.setIfInBounds i true) (apS st (base + i) oi l e) -> Gn P AB md ops base Q (fuel + 1) listed st := by
 intro fuel
 induction fuel with
 | zero =>
  intro listed st _ _ _ hr hy H
  refine ⟨fun h => (by rw [h] at hr; cases hr), fun j hj => ?_⟩
  by_cases hji : j = i
  .subst hji; exact ⟨oi, l, e, hi, hy, H⟩
  have := ready_mono hj hji
  rw [H.1] at this
  cases this
 | succ fuel ih =>
  intro listed st hBl hfree hfresh hr hy H
  refine ⟨fun h => (by rw [h] at hr; cases hr), fun j hj => ?_⟩
  by_cases hji : j = i
  .subst hji; exact ⟨oi, l, e, hi, hy, H⟩
  obtain ⟨oj, lj, ej, hoj, h1, h2⟩ := H.2 j (ready_mono hj hji)
  obtain ⟨hjun, oj', hoj', hall⟩ := mem_ready.1 hj
  rw [hoj] at hoj'; cases hoj'
  have hiun : listed.getD i true = false := (mem_ready.1 hr).1
  have hiF : listed.getD i false = false := by
   rcases Nat.lt_or_ge i listed.size with h' | h'
   .simp [h'] at hiun ⊢; exact hiun
   simp [Array.getElem?_eq_none h']
  have hjB : B j = false := by
   rcases hb : B j with _ | _
   .rfl
   obtain ⟨_, hb2⟩ := hB j hb
   obtain ⟨x, hx, hxb, hxo⟩ := hb2 oj hoj
   have := hall x hx hxb
   rcases hxo with hxo | hxo
   .rw [hxo, hiF] at this; cases this
   rw [hBl _ hxo] at this; cases this
  obtain ⟨hap, hcp, hwp⟩ := hfree j oj hoj hji hjun hjB
  obtain ⟨a1, a2, a3⟩ := Oper.apart_spec hap
  simp only [Pe, Bool.or_eq_true] at hcp
  have hwi : BX oi.op ≠ .w := by
   rcases hcp with hcp | hcp
   .intro e; rw [e] at hcp; simp [MQ] at hcp
   rw [(GN hcp).1]; simp
  have hwj : BX oj.op = .w -> BX oi.op = .n \/ MR q oi.op oj.op = true := by
   intro e
   rcases hcp with hcp | hcp
   .rw [e] at hcp; cases hq : BX oi.op <;> rw [hq] at hcp <;> simp [MQ] at hcp ⊢
   exact .inr hcp
  have hnr : BX oj.op = .w -> BX oi.op = .n \/ BX oi.op = .r := fun e => (hwj e).imp id fun h => (GN h).1
  have hcp : BX oj.op ≠ .w -> MQ (BX oi.op) (BX oj.op) = true := fun e => hcp.resolve_right fun h => e (GN h).2.1
  have hkp : BX oi.op = .n \/ BX oi.op = .r -> BX oj.op = .r \/ BX oj.op = .w -> e = .keep := fun hc hj => Vc hy hc fun ho => by
   rcases hj with hj | hj
   .have := hwp ho
    simp only [Pc, hj, ne_eq, not_true_eq_false, decide_false, Bool.or_false, Bool.not_eq_true'] at this
    exact this
   rcases hwj hj with h | h
   .cases hq : KY oi.op with
    | false => rfl
    | true =>
     rw [Tj hq] at h
     cases h
   obtain ⟨_, _, ⟨t, x, h⟩, _⟩ := GN h
   rw [h]; rfl
  have back : ∃ ej', Cv P AB ops (st.at (base + j)) oj lj ej' /\ (∀ id, AE id (ej.ap (base + j) (apS st (base + i) oi l e).heap) = AE id (ej'.ap (base + j) (apS st (base + i) oi l e).heap)) /\ (BX oj.op ≠ .w -> ej' = ej) := by
   have hsl : ∀ t ∈ oj.looksAt ops, Bh ((apS st (base + i) oi l e).at (base + j)).slots t = Bh (st.at (base + j)).slots t := fun t ht => by
    show Bh (apS st (base + i) oi l e).slots t = Bh st.slots t
    rw [Cp, if_neg]
    intro e'; exact a1 t e' ht
   by_cases hcw : BX oj.op = .w
   .have : e = .keep := hkp (hnr hcw) (.inr hcw)
    subst this
    have heq : FL ((apS st (base + i) oi l .keep).at (base + j)) { (st.at (base + j)) with slots := (apS st (base + i) oi l .keep).slots } := ⟨by simp [St.at, FM], fun _ => rfl, fun id => by simp [St.at, Bk, Dy.ap]⟩
    obtain ⟨ej', k1, k2⟩ := Ue heq rfl h1
    have h3 : ∃ e3, Cv P AB ops (st.at (base + j)) oj lj e3 /\ ∀ id, AE id (ej'.ap (base + j) st.heap) = AE id (e3.ap (base + j) st.heap) :=
     Uf (st := { (st.at (base + j)) with slots := (apS st (base + i) oi l .keep).slots }) (st' := st.at (base + j)) hcw rfl hsl rfl (fun _ => rfl) k1
    obtain ⟨e3, g1, g2⟩ := h3
    refine ⟨e3, g1, fun id => ?_, fun hne => absurd hcw hne⟩
    have e1 : (apS st (base + i) oi l .keep).heap = st.heap := by rw [Bk]; rfl
    have k : AE id (ej.ap (base + j) (apS st (base + i) oi l .keep).heap) = AE id (ej'.ap (base + j) st.heap) := k2 id
    rw [k, e1]; exact g2 id
   refine ⟨ej, ?_, fun _ => rfl, fun _ => rfl⟩
   refine K4 (st := (apS st (base + i) oi l e).at (base + j)) (st' := st.at (base + j)) hcw (by simp [St.at, FM]) hsl rfl (fun hcr => ?_) h1
   have : e = .keep := by
    refine hkp ?_ (.inl hcr)
    have hcp := hcp hcw
    rw [hcr] at hcp
    cases hq : BX oi.op <;> rw [hq] at hcp <;> simp [MQ] at hcp ⊢
   subst this
   intro id o ho
   have ho' : AE id (apS st (base + i) oi l .keep).heap = some o := ho
   rw [Bk] at ho'; exact ho'
  obtain ⟨ej', back, hej, hsame⟩ := back
  have keep : Cv P AB ops ((apS st (base + j) oj lj ej').at (base + i)) oi l e := by
   by_cases hsp : MR q oi.op oj.op = true
   .obtain ⟨_, _, hld, hmu⟩ := GN hsp
    rcases hmu with hmu | ⟨hqt, hmu⟩
    rotate_left
    .obtain ⟨b, hb0⟩ := hq hqt
     refine Vd hb0 (st := st.at (base + i)) (st' := (apS st (base + j) oj lj ej').at (base + i)) hld (by simp [St.at, FM]) (fun t ht => ?_) (fun id cells hnm hid hx => ?_) hy
     .show Bh st.slots t = Bh (apS st (base + j) oj lj ej').slots t
      rw [Cp, if_neg]
      intro e'; exact a3 t e' ht
     show AE id (apS st (base + j) oj lj ej').heap = some _
     rw [Bk]
     exact W2 hb0 (hfresh j hjun) hmu back id cells hnm hid hx
    refine W1 (st := st.at (base + i)) (st' := (apS st (base + j) oj lj ej').at (base + i)) hld (by simp [St.at, FM]) (fun t ht => ?_) (fun id x hx hne => ?_) hy
    .show Bh st.slots t = Bh (apS st (base + j) oj lj ej').slots t
     rw [Cp, if_neg]
     intro e'; exact a3 t e' ht
    show AE id (apS st (base + j) oj lj ej').heap = some x
    rw [Bk]
    exact Xj hmu back id x hx hne
   refine K4 (st := st.at (base + i)) (st' := (apS st (base + j) oj lj ej').at (base + i)) hwi (by simp [St.at, FM]) (fun t ht => ?_) rfl (fun hcr => ?_) hy
   .show Bh st.slots t = Bh (apS st (base + j) oj lj ej').slots t
    rw [Cp, if_neg]
    intro e'; exact a3 t e' ht
   intro id o ho
   show AE id (apS st (base + j) oj lj ej').heap = some o
   rw [Bk]
   have hnw : BX oj.op ≠ .w := fun hc => by rw [(hwj hc).resolve_right hsp] at hcr; cases hcr
   rcases NN back hnw with rfl | ⟨x, rfl⟩
   .exact ho
   simp only [Dy.ap, AE]
   rw [if_neg]
   .exact ho
   intro e'; subst e'
   have := hfresh j hjun
   have ho' : AE (base + j) st.heap = some o := ho
   rw [this] at ho'; cases ho'
  have swap : FL (apS (apS st (base + i) oi l e) (base + j) oj lj ej) (apS (apS st (base + j) oj lj ej') (base + i) oi l e) := by
   refine ⟨by simp [FM], fun t => ?_, fun id => ?_⟩
   .rw [Cp, Cp, Cp, Cp]
    by_cases c1 : oi.dst = some t
    .have := a2 t c1
     simp [c1, this]
    rw [if_neg c1]; split <;> simp [c1]
   by_cases hcw : BX oj.op = .w
   .have : e = .keep := hkp (hnr hcw) (.inr hcw)
    subst this
    have := hej id
    rw [Bk] at this
    rw [Bk, Bk, Bk, Bk]
    exact this
   have hs2 := hsame hcw
   subst hs2
   rw [Bk, Bk, Bk, Bk]
   rcases NN back hcw with rfl | ⟨x, rfl⟩ <;> rcases NN hy hwi with rfl | ⟨y, rfl⟩ <;> simp only [Dy.ap, AE]
   by_cases c1 : id = base + j
   .subst c1; simp [hji]
   simp [c1]
  refine ⟨oj, lj, ej', hoj, back, ?_⟩
  refine ih (listed.setIfInBounds j true) _ (fun k hk => ?_) (fun k ok hk hki hun hkB => ?_) (fun k hk => ?_) (ready_mono hr (Ne.symm hji)) keep ?_
  .rw [getD_set_ne false (fun e' => by subst e'; rw [hjB] at hk; cases hk)]; exact hBl k hk
  .refine hfree k ok hk hki ?_ hkB
   by_cases hjk : j = k
   .subst hjk; exact hjun
   rw [getD_set_ne true hjk] at hun; exact hun
  .have hjk : j ≠ k := by
    rintro rfl
    rcases Nat.lt_or_ge j listed.size with h' | h'
    .simp [h'] at hk
    simp [Array.getElem?_eq_none h'] at hk
   rw [Bk]
   have hk' : listed.getD k true = false := by rw [getD_set_ne true hjk] at hk; exact hk
   exact JZ back (by simp only [St.at]; omega) (hfresh k hk')
  rw [Array.setIfInBounds_comm _ _ hji]
  exact K6 fuel _ _ _ swap h2
end
end Go.E
/- Drawn regions, the rule (F8). Condition: the checks Fu and mixedOrders, by kernel. -/
namespace Go.E
open Go Go.RowKit
def K7 (md : Region.Mode) (ops : Array Oper) (listed : Array Bool) (i : Nat) : List Nat :=
 (List.range ops.size).foldl (fun acc j => if !(j == i) && !(listed.getD j false) && (match ops[j]? with
  | some oj => oj.after.any fun x => Region.binds md x && (x.on == i || acc.contains x.on)
  | none => false) then j :: acc else acc) []
def NO (q w : Bool) (md : Region.Mode) (ops : Array Oper) (listed : Array Bool) (i : Nat) (oi : Oper) (B : List Nat) : Bool :=
  (B.all fun j => !(j == i) && !(listed.getD j false) && match ops[j]? with
    | some oj => oj.after.any fun x => Region.binds md x && (x.on == i || B.contains x.on)
    | none => false) &&
  ((List.range ops.size).all fun j => j == i || listed.getD j true || B.contains j || match ops[j]? with
    | some oj => oi.apart ops oj && (Pe q oi.op oj.op && (!w || Pc oi.op oj.op))
    | none => true)
def Fu (q w : Bool) (md : Region.Mode) (ops : Array Oper) : List Nat -> Array Bool -> Bool
 | [], listed => (Region.ready md ops listed).isEmpty
 | i :: rest, listed => (match ops[i]? with
  | none => false
  | some oi => (Region.ready md ops listed == [i]) || ((Region.ready md ops listed).contains i && NO q w md ops listed i oi (K7 md ops listed i))) &&
  Fu q w md ops rest (listed.setIfInBounds i true)
def Fd (P : Program) (AB : A4) (ops : Array Oper) (base : Nat) (K : St -> Prop) : List Nat -> St -> Prop
 | [], st => K st
 | i :: rest, st => match ops[i]? with
  | none => False
  | some o => match o.guard with
   | none => ∃ l e, CE P AB (st.at (base + i)) o.op l e /\ Fd P AB ops base K rest (apS st (base + i) o l e)
   | some (j, want) => match DP st ops j with
    | .p (.bool b) => (b = want -> ∃ l e, CE P AB (st.at (base + i)) o.op l e /\ Fd P AB ops base K rest (apS st (base + i) o l e)) /\
      (b = !want -> Fd P AB ops base K rest (apS st (base + i) o .und .keep))
    | .und => Fd P AB ops base K rest (apS st (base + i) o .und .keep)
    | _ => False
section
variable {P : Program} {A : BF} {AB : A4} {md : Region.Mode} {ops : Array Oper} {base : Nat} {K : St -> Prop}
theorem K8 {i : Nat} {rest : List Nat} {st : St} (h : Fd P AB ops base K (i :: rest) st) :
  ∃ o l e, ops[i]? = some o /\ Cv P AB ops (st.at (base + i)) o l e /\ Fd P AB ops base K rest (apS st (base + i) o l e) := by
 simp only [Fd] at h
 split at h
 .exact h.elim
 rename_i o ho
 split at h
 .rename_i hg
  obtain ⟨l, e, h1, h2⟩ := h
  exact ⟨o, l, e, ho, by unfold Cv; rw [hg]; exact h1, h2⟩
 rename_i j want hg
 have hgl : DP (st.at (base + i)) ops j = DP st ops j := rfl
 split at h
 .rename_i b hb
  by_cases e : b = want
  .obtain ⟨l, e', h1, h2⟩ := h.1 e
   exact ⟨o, l, e', ho, by unfold Cv; rw [hg]; simp only [hgl, hb]; rw [if_pos e]; exact h1, h2⟩
  exact ⟨o, .und, .keep, ho, by unfold Cv; rw [hg]; simp only [hgl, hb]; rw [if_neg e]; simp, h.2 (by cases b <;> cases want <;> simp_all)⟩
 .rename_i hb
  exact ⟨o, .und, .keep, ho, by unfold Cv; rw [hg]; simp [hgl, hb], h⟩
 exact h.elim
theorem Gb (q : Bool) (hq : q = true -> ∃ b, AB.calm = some b) : ∀ (order : List Nat) (listed : Array Bool) (st : St), Fu q AB.own md ops order listed = true -> (∀ k, listed.getD k true = false -> AE (base + k) st.heap = none) ->
  Fd P AB ops base K order st -> Gn P AB md ops base K order.length listed st
 | [], listed, st, hok, _, h => ⟨by simpa [Fu] using hok, st, FL.refl st, h⟩
 | i :: rest, listed, st, hok, hfresh, h => by
  obtain ⟨o, l, e, ho, hd, hrest⟩ := K8 h
  simp only [Fu, ho, Bool.and_eq_true, Bool.or_eq_true] at hok
  have hrec : Gn P AB md ops base K rest.length (listed.setIfInBounds i true) (apS st (base + i) o l e) := by
   refine Gb q hq rest _ _ hok.2 (fun k hk => ?_) hrest
   have hik : i ≠ k := by
    rintro rfl
    rcases Nat.lt_or_ge i listed.size with h' | h'
    .simp [h'] at hk
    simp [Array.getElem?_eq_none h'] at hk
   rw [Bk]
   exact JZ hd (by simp only [St.at]; omega) (hfresh k (by rw [getD_set_ne true hik] at hk; exact hk))
  rcases hok.1 with h1 | h1
  .have hr : Region.ready md ops listed = [i] := by simpa using h1
   refine ⟨fun h0 => (by rw [hr] at h0; cases h0), fun j hj => ?_⟩
   rw [hr] at hj
   simp at hj
   subst hj
   exact ⟨o, l, e, ho, hd, hrec⟩
  obtain ⟨h1, h2⟩ := h1
  simp only [NO, Bool.and_eq_true, List.all_eq_true, List.mem_range] at h2
  obtain ⟨h2, h3⟩ := h2
  generalize hBe : K7 md ops listed i = B at h2 h3
  refine Oh q hq ho (fun j => B.contains j) (fun j hj => ?_) rest.length listed st (fun j hj => ?_) (fun j oj hoj hji hun hBj => ?_) hfresh (by simpa using h1) hd hrec
  .have := h2 j (by simpa using hj)
   obtain ⟨⟨a1, a2⟩, a3⟩ := this
   refine ⟨by simpa using a1, fun oj hoj => ?_⟩
   rw [hoj] at a3
   obtain ⟨x, hx, hx2⟩ := Array.any_eq_true'.1 a3
   simp only [Bool.and_eq_true, Bool.or_eq_true, beq_iff_eq] at hx2
   exact ⟨x, hx, hx2.1, hx2.2⟩
  .have := (h2 j (by simpa using hj)).1.2
   simpa using this
  have := h3 j (Array.getElem?_eq_some_iff.1 hoj).1
  simp only [Bool.or_eq_true, beq_iff_eq, hji, false_or, hun, Bool.false_eq_true] at this
  rw [hBj] at this
  simp only [Bool.false_eq_true, false_or, hoj, Bool.and_eq_true] at this
  refine ⟨this.1, this.2.1, fun ho => ?_⟩
  have := this.2.2
  rw [ho] at this; simpa using this
theorem Ve {μ : Nat -> Option Ba} {h h' : AO} (he : ∀ id, AE id h = AE id h') : Bx μ h = Bx μ h' := by
 funext b; simp only [Bx, he]
theorem RF.eqv {F : Nat -> Prop} {st st' : St} {a : Act} {w : World} (h : RF A F st a w) (he : FL st st') : RF A F st' a w := by
 obtain ⟨⟨μ, hh, hs⟩, hnt, hdef⟩ := h
 have hm : Bx μ st.heap = Bx μ st'.heap := Ve he.heap
 have ho : Ac A μ st.heap = Ac A μ st'.heap := by funext b; simp only [Ac, hm]
 refine ⟨⟨μ, ⟨?_, ?_, hh.fresh, ?_, hh.size, hh.block, hh.os, hh.tape, hh.output, hh.ext⟩, fun t ht => ?_⟩, by rw [<- he.nt]; exact hnt, hdef⟩
 .rw [<- ho]; intro id o; rw [<- he.heap]; exact hh.obj id o
 .intro id id' o o' loc loc'; rw [<- he.heap, <- he.heap]; exact hh.inj id id' o o' loc loc'
 .intro id o loc; rw [<- he.heap]; exact hh.base id o loc
 rw [<- ho, <- he.slots]; exact hs t (by rw [he.nt]; exact ht)
def Fl (base n : Nat) (listed : Array Bool) (id : Nat) : Prop := base + n <= id \/ ∃ i, i < n /\ listed.getD i true = false /\ id = base + i
theorem Gc (hE : A8 P AB) {n : Nat} (hn : n = ops.size) {Q' : Exit -> Act -> World -> Prop} (hQ : ∀ st a w listed, K st -> RF A (Fl base n listed) st a w -> Q' .normal a w) :
  ∀ (fuel : Nat) (listed : Array Bool) (st : St) (a : Act) (w : World), listed.size = n -> Gn P AB md ops base K fuel listed st -> RF A (Fl base n listed) st a w -> wpAny P md ops Q' fuel listed a w
 | 0, listed, st, a, w, _, ⟨h1, st', he, hk⟩, hR => ⟨h1, hQ st' a w listed hk (hR.eqv he)⟩
 | fuel + 1, listed, st, a, w, hsz, ⟨h1, h2⟩, hR => by
  refine ⟨fun h0 => ?_, fun i hi => ?_⟩
  .obtain ⟨st', he, hk⟩ := h1 h0
   exact hQ st' a w listed hk (hR.eqv he)
  obtain ⟨o, l, e, ho, hd, hrec⟩ := h2 i hi
  have hun := (mem_ready.1 hi).1
  have hlt : i < n := by rw [hn]; exact (Array.getElem?_eq_some_iff.1 ho).1
  refine N5 (st := st.at (base + i)) hE ho ⟨hR.ex, hR.nt, hR.defers⟩ (.inr ⟨i, hlt, hun, rfl⟩) ⟨base + n, fun q hq => .inl hq⟩ hd fun a' w' hR' => ?_
  refine Gc hE hn hQ fuel _ _ _ _ (by simpa using hsz) hrec ?_
  have hR'' : RF A (fun id => Fl base n listed id /\ id ≠ base + i) (apS st (base + i) o l e) a' w' := by
   obtain ⟨⟨μ, x1, x2⟩, x3, x4⟩ := hR'
   refine ⟨⟨μ, ?_, fun t ht => ?_⟩, ?_, x4⟩
   .rw [Bk] at x1 ⊢; exact x1
   .have := x2 t (by rw [FM] at ht ⊢; exact ht)
    rw [Bk, Cp] at this
    rw [Bk, Cp]; exact this
   rw [FM] at x3 ⊢; exact x3
  obtain ⟨⟨μ, x1, x2⟩, x3, x4⟩ := hR''
  refine ⟨⟨μ, x1.less fun id hid => ?_, x2⟩, x3, x4⟩
  rcases hid with hid | ⟨k, hk1, hk2, rfl⟩
  .exact ⟨.inl hid, by omega⟩
  have hik : i ≠ k := by
   rintro rfl
   simp [show i < listed.size by omega] at hk2
  exact ⟨.inr ⟨k, hk1, by rw [getD_set_ne true hik] at hk2; exact hk2, rfl⟩, by omega⟩
theorem Aa.drawn {O : Nat -> Prop} {μ : Nat -> Option Ba} {w : World} {v : Value} {l : LV} (n : Nat) (h : Aa O μ w v l) : Aa O μ { w with drawn := n } v l :=
 Aa.mono (w := w) (w' := { w with drawn := n }) ⟨Nat.le_refl _, fun _ _ _ => rfl⟩ (fun _ _ hb => hb) (fun _ _ h => h) h
theorem R.drawn {st : St} {a : Act} {w : World} (n : Nat) (h : R A st a w) : R A st a { w with drawn := n } := by
 obtain ⟨⟨μ, hh, hs⟩, hnt, hdef⟩ := h
 refine ⟨⟨μ, ⟨fun id o ho => ?_, hh.inj, hh.fresh, hh.base, hh.size, hh.block, hh.os, hh.tape, hh.output, hh.ext⟩, fun t ht => (hs t ht).drawn n⟩, hnt, hdef⟩
 obtain ⟨loc, h1, h2⟩ := hh.obj id o ho
 exact ⟨loc, h1, Dn.mono (w := w) (w' := { w with drawn := n }) ⟨Nat.le_refl _, fun _ _ _ => rfl⟩ (fun _ _ hb => hb) (fun _ _ h => h) (fun _ => rfl) h2⟩
theorem F8 (q : Bool) (hq : q = true -> ∃ b, AB.calm = some b) (hE : A8 P AB) (hm : P.follows .mixedOrders = true) {id : Nat} {l : List Oper} {order : List Nat} (hok : Fu q AB.own .any l.toArray order (Array.replicate l.length false) = true)
  (hlen : order.length = l.length) {st : St} {Q : Exit -> St -> Prop} (h : Fd P AB l.toArray st.ctr (fun st' => Q .normal { st' with ctr := st.ctr + l.length }) order st) :
  B3 P A (.region id l.toArray true) Q st := fun a w hR => by
 refine wp_region_any hm ?_
 have hR' := (hR.drawn (w.drawn + 1)).toRF
 have hfr : ∀ k, AE (st.ctr + k) st.heap = none := by
  intro k
  cases hx : AE (st.ctr + k) st.heap with
  | none => rfl
  | some o =>
   obtain ⟨⟨μ, hh, _⟩, _, _⟩ := hR
   obtain ⟨loc, h1, _⟩ := hh.obj _ _ hx
   rw [hh.fresh _ (by simp [Fr])] at h1; cases h1
 have hD := Gb q hq order (Array.replicate l.length false) st hok (fun k _ => hfr k) h
 have hsz : l.toArray.size = order.length := by simp [hlen]
 rw [hsz]
 have hrep : Array.replicate order.length false = Array.replicate l.length false := by rw [hlen]
 rw [hrep]
 refine Gc (A := A) (n := l.length) hE (by simp) (fun st' a' w' listed hk hR'' => ?_) order.length _ st a _ (by simp) hD ?_
 .refine ⟨_, ?_, hk⟩
  obtain ⟨⟨μ, x1, x2⟩, x3, x4⟩ := hR''
  exact ⟨⟨μ, x1.less fun id hid => .inl hid, x2⟩, x3, x4⟩
 obtain ⟨⟨μ, x1, x2⟩, x3, x4⟩ := hR'
 refine ⟨⟨μ, x1.less fun id hid => ?_, x2⟩, x3, x4⟩
 rcases hid with hid | ⟨k, _, _, rfl⟩
 .simp only [Fr]; omega
 simp [Fr]
end
end Go.E
/- Equality and keys of flat structs; operations in a short form, for the walk of a function. No condition. -/
namespace Go.E
open Go Go.RowKit
def Eu : Option TypeDesc -> Sh -> Bool
 | some (.int j), .int j' => j == j'
 | some .string, .str => true
 | some .bool, .bool => true
 | _, _ => false
def Ei (P : Program) : List Field -> Nat -> List Sh -> Bool
 | [], _, [] => true
 | f :: fs, off, k :: ks => f.name != "_" && f.offset == off && Eu (P.underlying f.type) k && Ei P fs (off + 1) ks
 | _, _, _ => false
section
variable {P : Program}
theorem IN {t : TypeId} {k : Sh} (h : Eu (P.underlying t) k = true) {xs : Array Value} {off : Nat} {v : Value} (hx : xs[off]? = some v) (w : World) : (part t xs off).run P w = .ok v w := by
 cases hu : P.underlying t with
 | none => rw [hu] at h; simp [Eu] at h
 | some d =>
  rw [hu] at h
  cases d <;> simp [Eu] at h <;> simp [part, isAgg, run_underlying hu, hx]
theorem Pf {t : TypeId} {k : Sh} {a b : DV} (h : Eu (P.underlying t) k = true) (ha : Ci k a = true) (hb : Ci k b = true) (d : Nat) (w : World) :
  (Op.equalIn (d + 1) t (flatV a) (flatV b)).run P w = .ok (Dt a b) w := by
 cases hu : P.underlying t with
 | none => rw [hu] at h; simp [Eu] at h
 | some dd =>
  rw [hu] at h
  cases dd <;> cases k <;> simp [Eu] at h <;> cases a <;> simp only [Ci, Bool.false_eq_true] at ha <;> cases b <;> simp only [Ci, Bool.false_eq_true] at hb
  .simp [flatV, Dt, Op.equalIn, run_underlying hu]
  .simp only [beq_iff_eq] at ha hb
   subst ha; subst hb
   simp [flatV, Dt, Op.equalIn, run_underlying hu]
  simp [flatV, Dt, Op.equalIn, run_underlying hu, beq_toListBytes]
theorem Ib (d : Nat) (w : World) (xs ys : List DV) : ∀ (fs : List Field) (off : Nat) (ks : List Sh) (xa bs : List DV), Ei P fs off ks = true -> xs.drop off = xa -> ys.drop off = bs -> fits ks xa = true -> fits ks bs = true ->
  (Op.eqFields (d + 1) (xs.map flatV).toArray (ys.map flatV).toArray fs).run P w = .ok (Ce xa bs) w
 | [], off, [], [], [], _, _, _, _, _ => by simp [Op.eqFields, Ce]
 | f :: fs, off, k :: ks, a :: xa, b :: bs, hB, hx, hy, ha, hb => by
  simp only [Ei, Bool.and_eq_true, bne_iff_ne, ne_eq, beq_iff_eq] at hB
  simp only [fits, Bool.and_eq_true] at ha hb
  obtain ⟨⟨⟨h1, h2⟩, h3⟩, h4⟩ := hB
  have ex : xs[off]? = some a := by
   have := congrArg List.head? hx
   rw [List.head?_drop] at this; exact this
  have ey : ys[off]? = some b := by
   have := congrArg List.head? hy
   rw [List.head?_drop] at this; exact this
  have hx' : xs.drop (off + 1) = xa := by rw [<- List.tail_drop, hx]; rfl
  have hy' : ys.drop (off + 1) = bs := by rw [<- List.tail_drop, hy]; rfl
  have ih := Ib d w xs ys fs (off + 1) ks xa bs h4 hx' hy' ha.2 hb.2
  have px := IN (w := w) h3 (xs := (xs.map flatV).toArray) (off := off) (v := flatV a) (by simp [ex])
  have py := IN (w := w) h3 (xs := (ys.map flatV).toArray) (off := off) (v := flatV b) (by simp [ey])
  have pe := Pf h3 ha.1 hb.1 d w
  simp only [Op.eqFields, h1, h2, ne_eq, not_false_eq_true, if_true, Sem.run_bind, px, py, pe, Result.andThen_ok, Ce]
  cases Dt a b with
  | true => simpa using ih
  | false => simp
 | [], _, _ :: _, _, _, hB, _, _, _, _ => by simp [Ei] at hB
 | _ :: _, _, [], _, _, hB, _, _, _, _ => by simp [Ei] at hB
 | [], _, [], _ :: _, _, _, _, _, ha, _ => by simp [fits] at ha
 | [], _, [], [], _ :: _, _, _, _, _, hb => by simp [fits] at hb
 | _ :: _, _, _ :: _, [], _, _, _, _, ha, _ => by simp [fits] at ha
 | _ :: _, _, _ :: _, _ :: _, [], _, _, _, _, hb => by simp [fits] at hb
theorem MS {t : TypeId} {ks : List Sh} (hu : P.underlying t = some (.struct (P.fieldsOf t))) (hp : P.stoodInHeld t = false) (hg : P.eqGuardType P.depth t = false)
  (hf : Ei P (P.fieldsOf t).toList 0 ks = true) : N7 P t ks :=
 ⟨hg, fun w ds es h1 h2 => by
  show (Op.equalIn (9999 + 1) t _ _).run P w = _
  rw [run_equalIn_struct w 9999 t _ _ hu hp]
  exact Ib 9998 w ds es _ 0 ks ds es hf rfl rfl h1 h2⟩
theorem I2 (em : Bool) (d : Nat) (w : World) (xs : List DV) : ∀ (fs : List Field) (off : Nat) (ks : List Sh) (xa : List DV), Ei P fs off ks = true -> xs.drop off = xa -> fits ks xa = true ->
  (forIn fs PUnit.unit fun f (_ : PUnit) => (do
   if f.name ≠ "_" then Instr.checkKey em (d + 1) f.type (<- part f.type (xs.map flatV).toArray f.offset)
   pure (ForInStep.yield PUnit.unit) : Sem (ForInStep PUnit))).run P w = .ok PUnit.unit w
 | [], off, [], [], _, _, _ => by simp
 | f :: fs, off, k :: ks, a :: xa, hB, hx, ha => by
  simp only [Ei, Bool.and_eq_true, bne_iff_ne, ne_eq, beq_iff_eq] at hB
  simp only [fits, Bool.and_eq_true] at ha
  obtain ⟨⟨⟨h1, h2⟩, h3⟩, h4⟩ := hB
  have ex : xs[off]? = some a := by
   have := congrArg List.head? hx
   rw [List.head?_drop] at this; exact this
  have hx' : xs.drop (off + 1) = xa := by rw [<- List.tail_drop, hx]; rfl
  have ih := I2 em d w xs fs (off + 1) ks xa h4 hx' ha.2
  have px := IN (w := w) h3 (xs := (xs.map flatV).toArray) (off := off) (v := flatV a) (by simp [ex])
  have pc : (Instr.checkKey em (d + 1) f.type (flatV a)).run P w = .ok () w := by
   cases hu : P.underlying f.type with
   | none => rw [hu] at h3; simp [Eu] at h3
   | some dd =>
    rw [hu] at h3
    cases dd <;> simp [Eu] at h3 <;> simp [Instr.checkKey, run_underlying hu]
  simp only [List.forIn_cons, Sem.run_bind, h1, ne_eq, not_false_eq_true, if_true, h2, px, pc, Result.andThen_ok, Sem.run_pure]
  exact ih
 | [], _, _ :: _, _, hB, _, _ => by simp [Ei] at hB
 | _ :: _, _, [], _, hB, _, _ => by simp [Ei] at hB
 | [], _, [], _ :: _, _, _, ha => by simp [fits] at ha
 | _ :: _, _, _ :: _, [], _, _, ha => by simp [fits] at ha
theorem Tk {t : TypeId} {ks : List Sh} (hu : P.underlying t = some (.struct (P.fieldsOf t))) (he : N7 P t ks) (hf : Ei P (P.fieldsOf t).toList 0 ks = true) : Oi P t ks := by
 refine ⟨he, by rw [hu]; trivial, fun em w ds h => ?_⟩
 show (Instr.checkKey em (9999 + 1) t _).run P w = _
 unfold Instr.checkKey
 simp only [Sem.run_bind, run_underlying hu, Result.andThen_ok]
 have := I2 (P := P) em 9998 w ds (P.fieldsOf t).toList 0 ks ds hf rfl h
 simp only [Array.forIn_toList] at this
 simp at this ⊢
 rw [this]; rfl
end
def St.keep (ts : List Nat) (st : St) : St := { st with slots := ts.map fun t => (t, Bh st.slots t) }
theorem QA {st : St} {t : Nat} : ∀ (ts : List Nat), AE t (ts.map fun t => (t, Bh st.slots t)) = if t ∈ ts then some (Bh st.slots t) else none
 | [] => by simp [AE]
 | u :: ts => by
  simp only [List.map_cons, AE]
  by_cases e : t = u
  .subst e; simp
  rw [if_neg e, QA ts]; simp [e]
theorem R.keep {A : BF} {st : St} {a : Act} {w : World} (ts : List Nat) (h : R A st a w) : R A (st.keep ts) a w := by
 obtain ⟨⟨μ, hh, hs⟩, hnt, hdef⟩ := h
 refine ⟨⟨μ, hh, fun t ht => ?_⟩, hnt, hdef⟩
 have : Bh (st.keep ts).slots t = if t ∈ ts then Bh st.slots t else .any := by
  show (match AE t (ts.map fun t => (t, Bh st.slots t)) with | some v => v | none => LV.any) = _
  rw [QA]
  by_cases e : t ∈ ts <;> simp [e]
 rw [this]
 split
 .exact hs t ht
 exact .any _
end Go.E
/- The walk of a function: operations in a short form (EF), rules for the parts of a body, states made weaker (A6). No condition. -/
namespace Go.E
open Go Go.RowKit
structure GO where
 dst : Option Tmp
 op : Op
 g : Option (Option Tmp × Bool)
def Tm (ops : List Oper) (j : Nat) : Option Tmp :=
 match ops[j]? with
 | some o => o.dst
 | none => none
def MT (ops : List Oper) (o : Oper) : GO :=
 ⟨o.dst, o.op, match o.guard with
  | none => none
  | some (j, w) => some (Tm ops j, w)⟩
structure Gw {α : Sort _} (a : α) : Type where
structure A7 (α : Type) where
 f : α -> Prop
 h : Gw f
def CG {α : Type} (o : Option α) (k : A7 α) : Prop :=
 match o with
 | some a => k.f a
 | none => False
def Qu (x : LV) (k : A7 Bool) : Prop :=
 match x with
 | .p (.bool b) => k.f b
 | _ => False
def K9 (x : LV) (k : A7 (IntKind × Int)) : Prop :=
 match x with
 | .p (.int kk n) => k.f (kk, n)
 | _ => False
def QB (x : LV) (k : A7 DV) : Prop :=
 match x with
 | .p d => k.f d
 | _ => False
def KA (s : Sh) (k : A7 Nat) : Prop :=
 match s with
 | .slc e => k.f e
 | _ => False
def NR (s : Sh) (k : A7 (List (Nat × Nat))) : Prop :=
 match s with
 | .struct fs => k.f fs
 | _ => False
def RK (s : Sh) (k : A7 (Nat × Nat)) : Prop :=
 match s with
 | .mp a b => k.f (a, b)
 | _ => False
def Cj (AB : A4) (t : Nat) (k : A7 TI) : Prop := CG (AB.tt t) k
def Vf (x : LV) (k : A7 LV) : Prop :=
 match x with
 | .lpb i o => k.f (.lpb i o)
 | .lpe i j o => k.f (.lpe i j o)
 | .p (.place l o) => k.f (.p (.place l o))
 | _ => False
def KZ (op : BinOp) (kk : IntKind) (a b : Int) (k : A7 LV) : Prop :=
 match op with
 | .quo | .rem => b ≠ 0 /\ CG (H5 op kk a b) ⟨fun v => k.f (.p v), ⟨⟩⟩
 | _ => CG (H5 op kk a b) ⟨fun v => k.f (.p v), ⟨⟩⟩
def Ug (neg : Bool) (empty : Prop) (k : A7 LV) : Prop := ∀ r, (¬ empty -> r = false) -> k.f (G3 neg r)
def S1 (AB : A4) (neg : Bool) (t : Nat) (x y : LV) (k : A7 LV) : Prop :=
 match x, y with
 | .p (.str a), .p (.str b) => k.f (G3 neg (a.toList == b.toList))
 | .p (.bool a), .p (.bool b) => Cj AB t ⟨fun ti => ti.sh = .bool /\ k.f (G3 neg (a == b)), ⟨⟩⟩
 | .p (.agg xs), .p (.agg ys) => CG (AB.eqk t) ⟨fun ks => fits ks xs = true /\ fits ks ys = true /\ k.f (G3 neg (Ce xs ys)), ⟨⟩⟩
 | .p (.slice _ l), .p .nils => Cj AB t ⟨fun ti => KA ti.sh ⟨fun _ => Ug neg (l = []) k, ⟨⟩⟩, ⟨⟩⟩
 | .p .nils, .p .nils => Cj AB t ⟨fun ti => KA ti.sh ⟨fun _ => k.f (G3 neg true), ⟨⟩⟩, ⟨⟩⟩
 | .lsl _ _ _ len, .p .nils => Cj AB t ⟨fun ti => KA ti.sh ⟨fun _ => Ug neg (len = 0) k, ⟨⟩⟩, ⟨⟩⟩
 | .p (.place _ _), .p .nilp => AB.ptr t = true /\ k.f (G3 neg false)
 | .p .nilp, .p .nilp => AB.ptr t = true /\ k.f (G3 neg true)
 | .lpb _ _, .p .nilp => AB.ptr t = true /\ k.f (G3 neg false)
 | _, _ => False
def RL (AB : A4) (op : BinOp) (t : Nat) (x y : LV) (k : A7 LV) : Prop :=
 match x, y with
 | .p (.int k1 a), .p (.int k2 b) => k1 = k2 /\ KZ op k1 a b k
 | x, y => match op with
  | .eql => S1 AB false t x y k
  | .neq => S1 AB true t x y k
  | _ => False
def Vg (x : LV) (i : Nat) (k : A7 LV) : Prop :=
 match x with
 | .tup l => CG l[i]? k
 | .p (.tup l) => CG l[i]? ⟨fun v => k.f (.p v), ⟨⟩⟩
 | _ => False
def Vh (x : LV) (k : A7 (List LV)) : Prop :=
 match x with
 | .agg l => k.f l
 | .p (.agg l) => k.f (l.map .p)
 | _ => False
def Tn (off : Nat) (x : LV) (k : A7 LV) : Prop :=
 match x with
 | .lpb id o => k.f (.lpb id (o + off))
 | .lpe id j o => k.f (.lpe id j (o + off))
 | .p (.place l o) => k.f (.p (.place l (o + off)))
 | _ => False
def I3 (AB : A4) (place : Nat -> Option (Nat × Nat)) : List LV -> List (Nat × LV) -> A7 (List LV) -> Prop
 | cells, [], k => k.f cells
 | cells, (i, v) :: rest, k => CG (place i) ⟨fun p => Cj AB p.2 ⟨fun ti => CG v.cells ⟨fun ls => (ls.length = ti.size /\ p.1 + ls.length <= cells.length) /\
   I3 AB place (Cd cells p.1 ls) rest k, ⟨⟩⟩, ⟨⟩⟩, ⟨⟩⟩
def MU (AB : A4) (sh : Sh) (zero : List LV) (ps : List (Nat × LV)) (k : A7 (List LV)) : Prop :=
 match sh with
 | .struct fs => (fs.all fun p => (AB.tt p.2).isSome) = true /\ I3 AB (fun i => fs[i]?) zero ps k
 | .arr _ e => Cj AB e ⟨fun te => I3 AB (fun i => some (i * te.size, e)) zero ps k, ⟨⟩⟩
 | _ => False
def Xk (AB : A4) (sh : Sh) (x : LV) (n : Int) (k : A7 LV) : Prop :=
 match sh, x with
 | .slc e, .p (.slice sz l) => Cj AB e ⟨fun te => te.size = sz /\ 0 <= n /\ CG l[n.toNat]? ⟨fun c => k.f (.p (.place c 0)), ⟨⟩⟩, ⟨⟩⟩
 | .slc e, .lsl id sz off len => Cj AB e ⟨fun te => te.size = sz /\ (0 <= n /\ n < len) /\ k.f (.lpe id (off + n.toNat) 0), ⟨⟩⟩
 | .arr m e, .lpb id o => Cj AB e ⟨fun te => (0 <= n /\ n < m) /\ k.f (.lpb id (o + n.toNat * te.size)), ⟨⟩⟩
 | .arr m e, .p (.place l o) => Cj AB e ⟨fun te => (0 <= n /\ n < m) /\ k.f (.p (.place l (o + n.toNat * te.size))), ⟨⟩⟩
 | _, _ => False
def Xl (AB : A4) (sh : Sh) (x : LV) (n : Int) (k : A7 LV) : Prop :=
 match sh, x with
 | .arr m e, .agg l => Cj AB e ⟨fun te => n < m /\ CG (DX te (n.toNat * te.size) l) k, ⟨⟩⟩
 | .arr m e, .p (.agg l) => Cj AB e ⟨fun te => n < m /\ CG (DX te (n.toNat * te.size) (l.map .p)) k, ⟨⟩⟩
 | .str, .p (.str s) => CG s[n.toNat]? ⟨fun c => k.f (.p (.int .u8 c.toNat)), ⟨⟩⟩
 | _, _ => False
def I4 (dflt : Int) (x : Option LV) (k : A7 Int) : Prop :=
 match x with
 | none => k.f dflt
 | some (.p (.int _ n)) => k.f n
 | some _ => False
def I5 (AB : A4) (t : Nat) (x : LV) (lo hi : Option LV) (k : A7 LV) : Prop :=
 match x with
 | .p (.slice sz l) => Cj AB t ⟨fun ti => KA ti.sh ⟨fun e => Cj AB e ⟨fun te => te.size = sz /\ I4 l.length hi ⟨fun h => I4 0 lo ⟨fun lw => (0 <= lw /\ lw <= h /\ h <= l.length) /\ k.f (.p (.slice sz ((l.take h.toNat).drop lw.toNat))), ⟨⟩⟩, ⟨⟩⟩, ⟨⟩⟩, ⟨⟩⟩, ⟨⟩⟩
 | .lsl id sz off len => Cj AB t ⟨fun ti => KA ti.sh ⟨fun e => Cj AB e ⟨fun te => te.size = sz /\ (len ≠ 0 \/ off = 0) /\ I4 len hi ⟨fun h => I4 0 lo ⟨fun lw => (0 <= lw /\ lw <= h /\ h <= len) /\ k.f (.lsl id sz (off + lw.toNat) (h - lw).toNat), ⟨⟩⟩, ⟨⟩⟩, ⟨⟩⟩, ⟨⟩⟩, ⟨⟩⟩
 | .p (.str s) => Cj AB t ⟨fun ti => ti.sh = .str /\ I4 s.size hi ⟨fun h => I4 0 lo ⟨fun lw => (0 <= lw /\ lw <= h /\ h <= s.size) /\ k.f (.p (.str (s.extract lw.toNat h.toNat))), ⟨⟩⟩, ⟨⟩⟩, ⟨⟩⟩
 | _ => False
def Vi (sh : Sh) (x : LV) (k : A7 LV) : Prop :=
 match sh, x with
 | .arr n _, _ => k.f (.p (.int .i64 n))
 | .slc _, .p (.slice _ l) => l.length <= maxLen -> k.f (.p (.int .i64 l.length))
 | .slc _, .p .nils => k.f (.p (.int .i64 0))
 | .slc _, .lsl _ _ _ len => k.f (.p (.int .i64 len))
 | .str, .p (.str s) => k.f (.p (.int .i64 s.size))
 | _, _ => False
def To (o : A9) (k : A7 (List LV)) : Prop :=
 match o with
 | .box cells => k.f cells
 | _ => False
def RM (o : A9) (k : A7 (Nat × Nat × List (List DV))) : Prop :=
 match o with
 | .row e sz l => k.f (e, sz, l)
 | _ => False
def Pg (o : A9) (k : A7 (List (DV × DV))) : Prop :=
 match o with
 | .map m => k.f m
 | _ => False
def Ok (h : AO) (ti : TI) (p : LV) (k : A7 LV) : Prop :=
 match p with
 | .p (.place l off) => CG (DX ti off (l.map .p)) k
 | .lpb id off => CG (AE id h) ⟨fun o => To o ⟨fun cells => CG (DX ti off cells) k, ⟨⟩⟩, ⟨⟩⟩
 | .lpe id i off => CG (AE id h) ⟨fun o => RM o ⟨fun r => CG r.2.2[i]? ⟨fun x => CG (DX ti off (x.map .p)) k, ⟨⟩⟩, ⟨⟩⟩, ⟨⟩⟩
 | _ => False
def RN (h : AO) (ti : TI) (p : LV) (ls : List LV) (k : A7 AO) : Prop :=
 match p with
 | .lpb id off => CG (AE id h) ⟨fun o => To o ⟨fun cells => off + ls.length <= cells.length /\ k.f (Bo id (.box (Cd cells off ls)) h), ⟨⟩⟩, ⟨⟩⟩
 | .lpe id i off => CG (AE id h) ⟨fun o => RM o ⟨fun r => CG r.2.2[i]? ⟨fun x => CG (Fv ls) ⟨fun ds => off + ls.length <= x.length /\ k.f (Bo id (.row r.1 r.2.1 (r.2.2.set i (Cd x off ds))) h), ⟨⟩⟩, ⟨⟩⟩, ⟨⟩⟩, ⟨⟩⟩
 | _ => False
def St.go (st : St) (dst : Option Tmp) (l : LV) (h : AO) (c : Nat) : St := ({ st with heap := h, ctr := c } : St).put dst l
def RO (st : St) (dst : Option Tmp) (e : Nat) (te : TI) (s : LV) (new : List (List DV)) (K : A7 St) : Prop :=
  match s with
  | .p .nils => (new.length * te.bytes <= 140737488355328 /\ new.length <= maxLen) /\ K.f (st.go dst (.lsl st.ctr te.size 0 new.length) ((st.ctr, .row e te.size new) :: st.heap) (st.ctr + 1))
  | .lsl id sz off len => sz = te.size /\ CG (AE id st.heap) ⟨fun o => RM o ⟨fun r => (r.1 = e /\ r.2.1 = te.size /\ off + len <= r.2.2.length /\
        (len + new.length) * te.bytes <= 140737488355328 /\ len + new.length <= maxLen) /\ K.f (st.go dst (.lsl st.ctr te.size 0 (len + new.length)) ((st.ctr, .row e te.size ((r.2.2.drop off).take len ++ new)) :: D7 id st.heap) (st.ctr + 1)), ⟨⟩⟩, ⟨⟩⟩
  | _ => False
def NS (x : LV) (k : A7 Nat) : Prop :=
 match x with
 | .lmap id => k.f id
 | _ => False
def Ja (x : LV) (k : A7 (FuncId × List LV)) : Prop :=
 match x with
 | .fn f caps => k.f (f, caps)
 | _ => False
def G4 (P : Program) (A : BF) (h : AO) (ctr k : Nat) (args : List LV) (K : A7 (LV × AO × Nat)) : Prop := C3 P A h ctr k args fun l h c => K.f (l, h, c)
def Ii (P : Program) (A : BF) (AB : A4) (st : St) (dst : Option Tmp) (c : Call) (K : A7 St) : Prop :=
 match c.callee, c.args.toList, c.argTypes.toList with
 | .value f, args, _ => Ja (st.eval f) ⟨fun g => G4 P A st.heap st.ctr g.1 (args.map st.eval ++ g.2) ⟨fun r => K.f (st.go dst r.1 r.2.1 r.2.2), ⟨⟩⟩, ⟨⟩⟩
 | .builtin .append, [s, x], [t, t'] => t' = t /\ Cj AB t ⟨fun ti => KA ti.sh ⟨fun e => Cj AB e ⟨fun te => 0 < te.size /\ CG (F6 st.heap (st.eval x)) ⟨fun new =>
   (∀ y ∈ new, y.length = te.size /\ y.all DV.cell = true) /\ RO st dst e te (st.eval s) new K, ⟨⟩⟩, ⟨⟩⟩, ⟨⟩⟩, ⟨⟩⟩
 | .builtin .delete, [x, i], t :: _ => Cj AB t ⟨fun ti => RK ti.sh ⟨fun m => NS (st.eval x) ⟨fun id => CG (AE id st.heap) ⟨fun o => Pg o ⟨fun l => QB (st.eval i) ⟨fun kd =>
   (Be AB m.1 kd = true /\ (l.all fun p => Be AB m.1 p.1) = true) /\ K.f (st.go dst (.tup []) (Bo id (.map (LA kd l)) st.heap) st.ctr), ⟨⟩⟩, ⟨⟩⟩, ⟨⟩⟩, ⟨⟩⟩, ⟨⟩⟩, ⟨⟩⟩
 | .builtin .len, [x], [t] => Cj AB t ⟨fun ti => Vi ti.sh (st.eval x) ⟨fun l => K.f (st.put dst l), ⟨⟩⟩, ⟨⟩⟩
 | .builtin .max, args, _ => CG (By (fun x y => if y > x then y else x) (args.map st.eval)) ⟨fun r => K.f (st.put dst (.p (.int r.1 r.2))), ⟨⟩⟩
 | .builtin .min, args, _ => CG (By (fun x y => if y < x then y else x) (args.map st.eval)) ⟨fun r => K.f (st.put dst (.p (.int r.1 r.2))), ⟨⟩⟩
 | _, _, _ => False
def Tp : Sh -> Option IntKind
 | .int k => some k
 | _ => none
def Vj (l : LV) (k : A7 (List (DV × DV))) : Prop := match l with
 | .p .nilm => k.f []
 | .p (.map m) => k.f m
 | _ => False
def Tq (h : AO) (l : LV) (k0 : Unit -> Prop) (k : Nat -> List (DV × DV) -> Nat -> DV × DV -> Prop) : Prop := match l with
 | .lpb id 0 => match AE id h with
  | some (.iter _ left) => (left = [] -> k0 ()) /\ ∀ j p, left[j]? = some p -> k id left j p
  | _ => False
 | _ => False
def Tr (h : AO) (l : LV) (k : Nat -> DV × DV -> List (DV × DV) -> Prop) : Prop := match l with
 | .lpb id 0 => match AE id h with
  | some (.iter (some p) left) => k id p left
  | _ => False
 | _ => False
def BJ (P : Program) (A : BF) (AB : A4) (st : St) (dst : Option Tmp) (op : Op) (K : A7 St) : Prop :=
 match op with
 | .move x | .assign x => K.f (st.put dst (st.eval x))
 | .pick c a b => Qu (st.eval c) ⟨fun t => K.f (st.put dst (if t then st.eval a else st.eval b)), ⟨⟩⟩
 | .nilCheck x => Vf (st.eval x) ⟨fun l => K.f (st.put dst l), ⟨⟩⟩
 | .binOp op t x y _ => RL AB op t (st.eval x) (st.eval y) ⟨fun l => K.f (st.put dst l), ⟨⟩⟩
 | .unOp .neg _ x => K9 (st.eval x) ⟨fun n => K.f (st.put dst (.p (.int n.1 (n.1.wrap (0 - n.2))))), ⟨⟩⟩
 | .unOp .not _ x => Qu (st.eval x) ⟨fun b => K.f (st.put dst (.p (.bool !b))), ⟨⟩⟩
 | .convert s d x => K9 (st.eval x) ⟨fun n => Cj AB s ⟨fun _ => Cj AB d ⟨fun ti => CG (Tp ti.sh) ⟨fun kd => K.f (st.put dst (.p (.int kd (kd.wrap n.2)))), ⟨⟩⟩, ⟨⟩⟩, ⟨⟩⟩, ⟨⟩⟩
 | .extract t i => Vg (st.eval t) i ⟨fun l => K.f (st.put dst l), ⟨⟩⟩
 | .field t x i => Cj AB t ⟨fun ti => NR ti.sh ⟨fun fs => CG fs[i]? ⟨fun f => Cj AB f.2 ⟨fun tf => Vh (st.eval x) ⟨fun ls => CG (DX tf f.1 ls) ⟨fun l => K.f (st.put dst l), ⟨⟩⟩, ⟨⟩⟩, ⟨⟩⟩, ⟨⟩⟩, ⟨⟩⟩, ⟨⟩⟩
 | .build t ps => Cj AB t ⟨fun ti => MU AB ti.sh (ti.zero.map .p) (ps.toList.map fun p => (p.1, st.eval p.2)) ⟨fun cells => K.f (st.put dst (Ec cells)), ⟨⟩⟩, ⟨⟩⟩
 | .fieldAddr t x i => Cj AB t ⟨fun ti => NR ti.sh ⟨fun fs => CG fs[i]? ⟨fun f => Cj AB f.2 ⟨fun tf => tf.size ≠ 0 /\ Tn f.1 (st.eval x) ⟨fun l => K.f (st.put dst l), ⟨⟩⟩, ⟨⟩⟩, ⟨⟩⟩, ⟨⟩⟩, ⟨⟩⟩
 | .indexAddr t x i => K9 (st.eval i) ⟨fun n => Cj AB t ⟨fun ti => Xk AB ti.sh (st.eval x) n.2 ⟨fun l => K.f (st.put dst l), ⟨⟩⟩, ⟨⟩⟩, ⟨⟩⟩
 | .index t x i => K9 (st.eval i) ⟨fun n => Cj AB t ⟨fun ti => 0 <= n.2 /\ Xl AB ti.sh (st.eval x) n.2 ⟨fun l => K.f (st.put dst l), ⟨⟩⟩, ⟨⟩⟩, ⟨⟩⟩
 | .makeFunc (.func f) first caps => first.toList = [] /\ K.f (st.put dst (.fn f (caps.toList.map st.eval)))
 | .slice t x lo hi none => I5 AB t (st.eval x) (lo.map st.eval) (hi.map st.eval) ⟨fun l => K.f (st.put dst l), ⟨⟩⟩
 | .load t x => Cj AB t ⟨fun ti => Ok st.heap ti (st.eval x) ⟨fun l => K.f (st.put dst l), ⟨⟩⟩, ⟨⟩⟩
 | .store t x v => Cj AB t ⟨fun ti => CG (st.eval v).cells ⟨fun ls => (ls.length = ti.size /\ ls.all LV.one = true) /\ RN st.heap ti (st.eval x) ls ⟨fun h => K.f (st.go dst .any h st.ctr), ⟨⟩⟩, ⟨⟩⟩, ⟨⟩⟩
 | .alloc t => Cj AB t ⟨fun ti => K.f (st.go dst (.lpb st.ctr 0) ((st.ctr, .box (ti.zero.map .p)) :: st.heap) (st.ctr + 1)), ⟨⟩⟩
 | .box _ x => CG (st.eval x).cells ⟨fun ls => K.f (st.go dst (.lpb st.ctr 0) ((st.ctr, .box ls) :: st.heap) (st.ctr + 1)), ⟨⟩⟩
 | .buildSlice t n ps => Cj AB t ⟨fun ti => KA ti.sh ⟨fun e => Cj AB e ⟨fun te => (0 < te.size /\ n * te.size <= 16777216) /\ CG (Fm te.size 0 (ps.toList.map fun p => (p.1, st.eval p.2))) ⟨fun l =>
   l.length = n /\ (K.f (st.go dst (.lsl st.ctr te.size 0 n) ((st.ctr, .row e te.size l) :: st.heap) (st.ctr + 1)) \/ K.f (st.put dst (.p (.slice te.size l)))), ⟨⟩⟩, ⟨⟩⟩, ⟨⟩⟩, ⟨⟩⟩
 | .makeSlice t l c => Cj AB t ⟨fun ti => KA ti.sh ⟨fun e => Cj AB e ⟨fun te => K9 (st.eval l) ⟨fun n => K9 (st.eval c) ⟨fun n' => (n'.2 = n.2 /\ 0 <= n.2 /\ te.bytes * n.2.toNat <= 281474976710656 /\ n.2.toNat <= maxLen) /\
   (K.f (st.go dst (.lsl st.ctr te.size 0 n.2.toNat) ((st.ctr, .row e te.size (List.replicate n.2.toNat te.zero)) :: st.heap) (st.ctr + 1)) \/ K.f (st.put dst (.p (.slice te.size (List.replicate n.2.toNat te.zero))))), ⟨⟩⟩, ⟨⟩⟩, ⟨⟩⟩, ⟨⟩⟩, ⟨⟩⟩
 | .makeMap _ none => K.f (st.go dst (.lmap st.ctr) ((st.ctr, .map []) :: st.heap) (st.ctr + 1))
 | .lookup t x i ok => Cj AB t ⟨fun ti => RK ti.sh ⟨fun m => Cj AB m.2 ⟨fun te => CG (Ih st.heap (st.eval x)) ⟨fun l => QB (st.eval i) ⟨fun kd => (Be AB m.1 kd = true /\ (l.all fun p => Be AB m.1 p.1) = true) /\
   K.f (st.put dst (if ok then .tup [.p ((GJ kd l).getD (zV AB te)), .p (.bool (GJ kd l).isSome)] else .p ((GJ kd l).getD (zV AB te)))), ⟨⟩⟩, ⟨⟩⟩, ⟨⟩⟩, ⟨⟩⟩, ⟨⟩⟩
 | .mapUpdate t x i v => Cj AB t ⟨fun ti => RK ti.sh ⟨fun m => NS (st.eval x) ⟨fun id => CG (AE id st.heap) ⟨fun o => Pg o ⟨fun l => QB (st.eval i) ⟨fun kd => QB (st.eval v) ⟨fun vd =>
   (Be AB m.1 kd = true /\ (l.all fun p => Be AB m.1 p.1) = true) /\ K.f (st.go dst .any (Bo id (.map (J9 kd vd l)) st.heap) st.ctr), ⟨⟩⟩, ⟨⟩⟩, ⟨⟩⟩, ⟨⟩⟩, ⟨⟩⟩, ⟨⟩⟩, ⟨⟩⟩
 | .mapEntry t x i => Cj AB t ⟨fun ti => RK ti.sh ⟨fun m => Cj AB m.2 ⟨fun te => NS (st.eval x) ⟨fun id => CG (AE id st.heap) ⟨fun o => Pg o ⟨fun l => QB (st.eval i) ⟨fun kd =>
   ((false && Be AB m.1 kd) = true /\ (l.all fun p => Be AB m.1 p.1) = true) /\
   K.f (st.go dst (.tup [.p ((GJ kd l).getD te.zeroDV), .p (.int .i64 (((C5 kd l).map (·.1)).getD l.length))]) (match C5 kd l with
    | some _ => st.heap
    | none => Bo id (.map (l ++ [(kd, te.zeroDV)])) st.heap) st.ctr), ⟨⟩⟩, ⟨⟩⟩, ⟨⟩⟩, ⟨⟩⟩, ⟨⟩⟩, ⟨⟩⟩, ⟨⟩⟩
 | .entryStore _ x s v => NS (st.eval x) ⟨fun id => CG (AE id st.heap) ⟨fun o => Pg o ⟨fun m => K9 (st.eval s) ⟨fun n => QB (st.eval v) ⟨fun vd => (0 <= n.2 /\ False) /\ CG m[n.2.toNat]? ⟨fun p =>
   K.f (st.go dst .any (Bo id (.map (m.set n.2.toNat (p.1, vd))) st.heap) st.ctr), ⟨⟩⟩, ⟨⟩⟩, ⟨⟩⟩, ⟨⟩⟩, ⟨⟩⟩, ⟨⟩⟩
 | .range t x => Cj AB t ⟨fun ti => RK ti.sh ⟨fun _ => Vj (st.eval x) ⟨fun m => K.f (st.go dst (.lpb st.ctr 0) ((st.ctr, .iter none m) :: st.heap) (st.ctr + 1)), ⟨⟩⟩, ⟨⟩⟩, ⟨⟩⟩
 | .next x false => Tq st.heap (st.eval x) (fun _ => K.f (st.go dst (.tup [.p (.bool false)]) st.heap st.ctr)) fun id left j p => ∃ cur', (cur' = none \/ cur' = some p) /\ K.f (st.go dst (.tup [.p (.bool true), .p p.1, .p p.2]) (Bo id (.iter cur' (left.eraseIdx j)) st.heap) st.ctr)
 | .entry x => Tr st.heap (st.eval x) fun id p left => K.f (st.go dst (.tup [.p p.1, .p p.2]) (Bo id (.iter none left) st.heap) st.ctr)
 | .call c => Ii P A AB st dst c K
 | _ => False
def gW (b want : Bool) (X Y : A7 Unit) : Prop := (b = want -> X.f ()) /\ (b = !want -> Y.f ())
def gM (v : LV) (want : Bool) (X Y : A7 Unit) : Prop :=
 match v with
 | .p (.bool b) => gW b want X Y
 | .und => Y.f ()
 | _ => False
def FN (st : St) (d : Option Tmp) : LV :=
 match d with
 | some t => st.eval (.tmp t)
 | none => .any
structure Xm (K : A7 St) (st : St) : Prop where
 h : K.f st
def EF (P : Program) (A : BF) (AB : A4) (K : A7 St) : List GO -> St -> Prop
 | [], st => Xm K st
 | ⟨dst, op, none⟩ :: rest, st => BJ P A AB st dst op ⟨EF P A AB K rest, ⟨⟩⟩
 | ⟨dst, op, some (d, want)⟩ :: rest, st => gM (FN st d) want ⟨fun _ => BJ P A AB st dst op ⟨EF P A AB K rest, ⟨⟩⟩, ⟨⟩⟩ ⟨fun _ => EF P A AB K rest (st.put dst .und), ⟨⟩⟩
section
variable {P : Program} {A : BF} {AB : A4}
theorem AU {α : Type} {o : Option α} {k : A7 α} : CG o k ↔ ∃ a, o = some a /\ k.f a := by cases o <;> simp [CG]
theorem AT {t : Nat} {k : A7 TI} : Cj AB t k ↔ ∃ a, AB.tt t = some a /\ k.f a := AU
theorem Jb {x : LV} {k : A7 Bool} : Qu x k ↔ ∃ b, x = .p (.bool b) /\ k.f b := by
 unfold Qu; split <;> simp_all
theorem CW {x : LV} {k : A7 (IntKind × Int)} : K9 x k ↔ ∃ kk n, x = .p (.int kk n) /\ k.f (kk, n) := by
 unfold K9; split
 .exact ⟨fun h => ⟨_, _, rfl, h⟩, fun ⟨_, _, e, h⟩ => by cases e; exact h⟩
 simp_all
theorem DC {x : LV} {k : A7 DV} : QB x k ↔ ∃ d, x = .p d /\ k.f d := by
 unfold QB; split <;> simp_all
theorem CL {x : Sh} {k : A7 Nat} : KA x k ↔ ∃ e, x = .slc e /\ k.f e := by
 unfold KA; split <;> simp_all
theorem EV {x : Sh} {k : A7 (List (Nat × Nat))} : NR x k ↔ ∃ e, x = .struct e /\ k.f e := by
 unfold NR; split <;> simp_all
theorem D1 {x : Sh} {k : A7 (Nat × Nat)} : RK x k ↔ ∃ a b, x = .mp a b /\ k.f (a, b) := by
 unfold RK; split
 .exact ⟨fun h => ⟨_, _, rfl, h⟩, fun ⟨_, _, e, h⟩ => by cases e; exact h⟩
 simp_all
theorem EI {x : LV} {k : A7 Nat} : NS x k ↔ ∃ id, x = .lmap id /\ k.f id := by
 unfold NS; split <;> simp_all
theorem S2 {x : LV} {k : A7 (FuncId × List LV)} : Ja x k ↔ ∃ f c, x = .fn f c /\ k.f (f, c) := by
 unfold Ja; split
 .exact ⟨fun h => ⟨_, _, rfl, h⟩, fun ⟨_, _, e, h⟩ => by cases e; exact h⟩
 simp_all
theorem Ev {x : A9} {k : A7 (List (DV × DV))} : Pg x k ↔ ∃ m, x = .map m /\ k.f m := by
 unfold Pg; split <;> simp_all
theorem HZ {x : A9} {k : A7 (List LV)} : To x k ↔ ∃ m, x = .box m /\ k.f m := by
 unfold To; split <;> simp_all
theorem Ew {x : A9} {k : A7 (Nat × Nat × List (List DV))} : RM x k ↔ ∃ a b c, x = .row a b c /\ k.f (a, b, c) := by
 unfold RM; split
 .exact ⟨fun h => ⟨_, _, _, rfl, h⟩, fun ⟨_, _, _, e, h⟩ => by cases e; exact h⟩
 simp_all
theorem Ha {d : Int} {x : Option LV} {k : A7 Int} {k' : Int -> Prop} (hk : ∀ n, k.f n -> k' n) (h : I4 d x k) : FO d x k' := by
 unfold I4 at h; unfold FO
 split at h <;> first | exact hk _ h | exact h.elim
theorem S3 {neg : Bool} {t : Nat} {x y : LV} {k : A7 LV} (h : S1 AB neg t x y k) : QC AB neg t x y k.f := by
 unfold S1 at h
 unfold QC
 split at h
 .exact h
 .obtain ⟨ti, h1, h2, h3⟩ := AT.1 h; exact ⟨⟨ti, h1, h2⟩, h3⟩
 .obtain ⟨ks, h1, h2⟩ := AU.1 h; exact ⟨ks, h1, h2⟩
 .obtain ⟨ti, h1, h2⟩ := AT.1 h
  obtain ⟨e, h3, h4⟩ := CL.1 h2
  exact ⟨⟨ti, e, h1, h3⟩, h4⟩
 .obtain ⟨ti, h1, h2⟩ := AT.1 h
  obtain ⟨e, h3, h4⟩ := CL.1 h2
  exact ⟨⟨ti, e, h1, h3⟩, h4⟩
 .obtain ⟨ti, h1, h2⟩ := AT.1 h
  obtain ⟨e, h3, h4⟩ := CL.1 h2
  exact ⟨⟨ti, e, h1, h3⟩, h4⟩
 .exact h
 .exact h
 .exact h
 exact h.elim
theorem Nq {op : BinOp} {kk : IntKind} {a b : Int} {k : A7 LV} (h : KZ op kk a b k) : ∃ v, H5 op kk a b = some v /\ k.f (.p v) := by
 unfold KZ at h
 split at h
 .exact AU.1 h.2
 .exact AU.1 h.2
 exact AU.1 h
theorem Vk {op : BinOp} {t : Nat} {x y : LV} {k : A7 LV} (h : RL AB op t x y k) : Ph AB op t x y k.f := by
 unfold RL at h
 unfold Ph
 split at h
 .exact ⟨h.1, Nq h.2⟩
 rename_i hne
 split
 .exact absurd rfl (hne _ _ _ _ rfl)
 split at h
 .exact S3 h
 .exact S3 h
 exact h.elim
theorem LB {place : Nat -> Option (Nat × Nat)} {k : A7 (List LV)} : ∀ {ps : List (Nat × LV)} {cells : List LV}, I3 AB place cells ps k -> G5 AB place cells ps k.f
 | [], _, h => h
 | (i, v) :: rest, cells, h => by
  obtain ⟨p, h1, h⟩ := AU.1 h
  obtain ⟨ti, h2, h⟩ := AT.1 h
  obtain ⟨ls, h3, ⟨h4, h5⟩, h⟩ := AU.1 h
  exact ⟨p.1, p.2, ti, ls, h1, h2, h3, h4, h5, LB h⟩
theorem Uh {h : AO} {ti : TI} {p : LV} {k : A7 LV} (hl : Ok h ti p k) : Fc h ti p k.f := by
 unfold Ok at hl
 unfold Fc
 split at hl
 .exact AU.1 hl
 .obtain ⟨o, h1, hl⟩ := AU.1 hl
  obtain ⟨cells, rfl, hl⟩ := HZ.1 hl
  obtain ⟨r, h2, h3⟩ := AU.1 hl
  exact ⟨cells, r, h1, h2, h3⟩
 .obtain ⟨o, h1, hl⟩ := AU.1 hl
  obtain ⟨e, sz, elems, rfl, hl⟩ := Ew.1 hl
  obtain ⟨x, h2, hl⟩ := AU.1 hl
  obtain ⟨r, h3, h4⟩ := AU.1 hl
  exact ⟨e, sz, elems, x, r, h1, h2, h3, h4⟩
 exact hl.elim
theorem Vl {a b c d : Prop} (h : (a /\ b /\ c) /\ d) : a /\ b /\ c /\ d := ⟨h.1.1, h.1.2.1, h.1.2.2, h.2⟩
theorem Ts {t : Nat} {x : LV} {lo hi : Option LV} {k : A7 LV} (h : I5 AB t x lo hi k) : I6 AB t x lo hi k.f := by
 unfold I5 at h
 unfold I6
 split at h
 .obtain ⟨ti, h1, h⟩ := AT.1 h
  obtain ⟨e, h2, h⟩ := CL.1 h
  obtain ⟨te, h3, h4, h⟩ := AT.1 h
  exact ⟨⟨ti, e, h1, h2, te, h3, h4⟩, Ha (fun n hn => Ha (fun m hm => Vl hm) hn) h⟩
 .obtain ⟨ti, h1, h⟩ := AT.1 h
  obtain ⟨e, h2, h⟩ := CL.1 h
  obtain ⟨te, h3, h4, h5, h⟩ := AT.1 h
  exact ⟨⟨ti, e, h1, h2, te, h3, h4⟩, h5, Ha (fun n hn => Ha (fun m hm => Vl hm) hn) h⟩
 .obtain ⟨ti, h1, h2, h⟩ := AT.1 h
  exact ⟨⟨ti, h1, h2⟩, Ha (fun n hn => Ha (fun m hm => Vl hm) hn) h⟩
 exact h.elim
end
end Go.E
/- The walk of a function: the short form holds what the long one says (NL); rules for the parts of a body, states made weaker (A6). No condition. -/
namespace Go.E
open Go Go.RowKit
section
variable {P : Program} {A : BF} {AB : A4} {K : St -> Prop}
theorem NL {st : St} {o : Oper} {K : A7 St} (h : BJ P A AB st o.dst o.op K) : Wb P A AB st o K.f := by
 obtain ⟨dst, op, type, pos, after, guard⟩ := o
 simp only at h
 cases op <;> simp only [BJ] at h <;> simp only [Wb]
 case move x => exact h
 case assign x => exact h
 case pick c a b => obtain ⟨t, h1, h2⟩ := Jb.1 h; exact ⟨t, h1, h2⟩
 case nilCheck x =>
  try dsimp only at h
  unfold Vf at h
  simp only [nW]
  split at h <;> first | (rename_i e; simp only [e]; exact ⟨trivial, h⟩) | exact h.elim
 case binOp op t x y z => exact Vk h
 case unOp op t x =>
  cases op <;> simp only [BJ] at h
  case neg => obtain ⟨kk, n, h1, h2⟩ := CW.1 h; simp only [nW, S4, h1]; exact h2
  case not => obtain ⟨b, h1, h2⟩ := Jb.1 h; simp only [nW, S4, h1]; exact h2
 case convert s d x =>
  obtain ⟨kk, n, h1, h⟩ := CW.1 h
  obtain ⟨tj, h2, h⟩ := AT.1 h
  obtain ⟨ti, h3, h⟩ := AT.1 h
  obtain ⟨kd, h4, h⟩ := AU.1 h
  refine ⟨kk, n, ti, tj, h1, h2, h3, kd, ?_, h⟩
  generalize ti.sh = q at h4
  cases q <;> simp [Tp] at h4
  rw [h4]
 case extract t i =>
  try dsimp only at h
  unfold Vg at h
  simp only [nW]
  split at h
  .rename_i l hl; simp only [hl]; exact AU.1 h
  .rename_i l hl; simp only [hl]; exact AU.1 h
  exact h.elim
 case field t x i =>
  obtain ⟨ti, h1, h⟩ := AT.1 h
  obtain ⟨fs, h2, h⟩ := EV.1 h
  obtain ⟨f, h3, h⟩ := AU.1 h
  obtain ⟨tf, h4, h⟩ := AT.1 h
  try dsimp only at h
  unfold Vh at h
  split at h
  .rename_i l hl
   obtain ⟨v, h5, h6⟩ := AU.1 h
   exact ⟨ti, fs, f.1, f.2, tf, l, v, h1, h2, h3, h4, by rw [hl]; rfl, by rw [hl]; trivial, h5, h6⟩
  .rename_i l hl
   obtain ⟨v, h5, h6⟩ := AU.1 h
   exact ⟨ti, fs, f.1, f.2, tf, l.map .p, v, h1, h2, h3, h4, by rw [hl]; rfl, by rw [hl]; trivial, h5, h6⟩
  exact h.elim
 case build t ps =>
  obtain ⟨ti, h1, h⟩ := AT.1 h
  refine ⟨ti, h1, ?_⟩
  try dsimp only at h
  unfold MU at h
  split at h
  .rename_i fs hsh; simp only [hsh]; exact ⟨h.1, LB h.2⟩
  .rename_i n e hsh
   obtain ⟨te, h2, h⟩ := AT.1 h
   simp only [hsh]
   exact ⟨te, h2, LB h⟩
  exact h.elim
 case fieldAddr t x i =>
  obtain ⟨ti, h1, h⟩ := AT.1 h
  obtain ⟨fs, h2, h⟩ := EV.1 h
  obtain ⟨f, h3, h⟩ := AU.1 h
  obtain ⟨tf, h4, h5, h⟩ := AT.1 h
  refine ⟨ti, fs, f.1, f.2, tf, h1, h2, h3, h4, h5, ?_⟩
  try dsimp only at h
  unfold Tn at h
  split at h <;> first | (rename_i e; simp only [e]; exact h) | exact h.elim
 case indexAddr t x i =>
  obtain ⟨kk, n, h1, h⟩ := CW.1 h
  obtain ⟨ti, h2, h⟩ := AT.1 h
  refine ⟨kk, n, ti, h1, h2, ?_⟩
  try dsimp only at h
  unfold Xk at h
  split at h
  .rename_i e1 e2
   obtain ⟨te, g1, g2, g3, h⟩ := AT.1 h
   simp only [e1, e2]
   exact ⟨⟨te, g1, g2⟩, g3, AU.1 h⟩
  .rename_i e1 e2
   obtain ⟨te, g1, g2, ⟨g3, g4⟩, h⟩ := AT.1 h
   simp only [e1, e2]
   exact ⟨⟨te, g1, g2⟩, g3, g4, h⟩
  .rename_i e1 e2
   obtain ⟨te, g1, ⟨g2, g3⟩, h⟩ := AT.1 h
   simp only [e1, e2]
   exact ⟨te, g1, g2, g3, h⟩
  .rename_i e1 e2
   obtain ⟨te, g1, ⟨g2, g3⟩, h⟩ := AT.1 h
   simp only [e1, e2]
   exact ⟨te, g1, g2, g3, h⟩
  exact h.elim
 case index t x i =>
  obtain ⟨kk, n, h1, h⟩ := CW.1 h
  obtain ⟨ti, h2, h0, h⟩ := AT.1 h
  refine ⟨kk, n, ti, h1, h2, h0, ?_⟩
  try dsimp only at h
  unfold Xl at h
  split at h
  .rename_i e1 e2
   obtain ⟨te, g1, g2, h⟩ := AT.1 h
   obtain ⟨v, g3, g4⟩ := AU.1 h
   simp only [e1, e2]
   exact ⟨te, v, g1, g2, g3, g4⟩
  .rename_i e1 e2
   obtain ⟨te, g1, g2, h⟩ := AT.1 h
   obtain ⟨v, g3, g4⟩ := AU.1 h
   simp only [e1, e2]
   exact ⟨te, v, g1, g2, g3, g4⟩
  .rename_i e1 e2
   simp only [e1, e2]
   exact AU.1 h
  exact h.elim
 case makeFunc fn first caps =>
  cases fn <;> simp only [BJ] at h
  rename_i f
  exact ⟨by simpa using h.1, f, rfl, h.2⟩
 case slice t x lo hi mx =>
  cases mx with
  | some m => exact h.elim
  | none => exact ⟨rfl, Ts h⟩
 case load t x => obtain ⟨ti, h1, h2⟩ := AT.1 h; exact ⟨ti, h1, Uh h2⟩
 case store t x v =>
  obtain ⟨ti, h1, h⟩ := AT.1 h
  obtain ⟨ls, h2, ⟨h3, h4⟩, h⟩ := AU.1 h
  refine ⟨ti, h1, ls, h2, h3, h4, ?_⟩
  try dsimp only at h
  unfold RN at h
  split at h
  .rename_i id off e
   obtain ⟨o, g1, h⟩ := AU.1 h
   obtain ⟨cells, rfl, g2, h⟩ := HZ.1 h
   try simp only [e]
   exact ⟨cells, g1, g2, h⟩
  .rename_i id i off e
   obtain ⟨o, g1, h⟩ := AU.1 h
   obtain ⟨e', sz, elems, rfl, h⟩ := Ew.1 h
   obtain ⟨x, g2, h⟩ := AU.1 h
   obtain ⟨ds, g3, g4, h⟩ := AU.1 h
   try simp only [e]
   exact ⟨e', sz, elems, x, ds, g1, g2, g4, g3, h⟩
  exact h.elim
 case alloc t => obtain ⟨ti, h1, h2⟩ := AT.1 h; exact ⟨ti, h1, h2⟩
 case box t x => obtain ⟨ls, h1, h2⟩ := AU.1 h; exact ⟨ls, h1, h2⟩
 case buildSlice t n ps =>
  obtain ⟨ti, h1, h⟩ := AT.1 h
  obtain ⟨e, h2, h⟩ := CL.1 h
  obtain ⟨te, h3, ⟨h4, h5⟩, h⟩ := AT.1 h
  obtain ⟨l, h6, h7, h⟩ := AU.1 h
  exact ⟨ti, e, te, l, h1, h2, h3, h4, h5, h6, h7, h⟩
 case makeSlice t l c =>
  obtain ⟨ti, h1, h⟩ := AT.1 h
  obtain ⟨e, h2, h⟩ := CL.1 h
  obtain ⟨te, h3, h⟩ := AT.1 h
  obtain ⟨k1, n, h4, h⟩ := CW.1 h
  obtain ⟨k2, n', h5, ⟨h9, h6, h7, h8⟩, h⟩ := CW.1 h
  simp only at h9
  subst h9
  exact ⟨ti, e, te, n', k1, k2, h1, h2, h3, h4, h5, h6, h7, h8, h⟩
 case makeMap t r =>
  cases r with
  | some r => exact h.elim
  | none => exact ⟨rfl, h⟩
 case lookup t x i ok =>
  obtain ⟨ti, h1, h⟩ := AT.1 h
  obtain ⟨kt, et, h2, h⟩ := D1.1 h
  obtain ⟨te, h3, h⟩ := AT.1 h
  obtain ⟨m, h4, h⟩ := AU.1 h
  obtain ⟨kd, h5, ⟨h6, h7⟩, h⟩ := DC.1 h
  exact ⟨ti, kt, et, te, m, kd, h1, h2, h3, h4, h5, h6, h7, h⟩
 case mapUpdate t x i v =>
  obtain ⟨ti, h1, h⟩ := AT.1 h
  obtain ⟨kt, et, h2, h⟩ := D1.1 h
  obtain ⟨id, h3, h⟩ := EI.1 h
  obtain ⟨o, h4, h⟩ := AU.1 h
  obtain ⟨m, rfl, h⟩ := Ev.1 h
  obtain ⟨kd, h5, h⟩ := DC.1 h
  obtain ⟨vd, h6, ⟨h7, h8⟩, h⟩ := DC.1 h
  exact ⟨ti, kt, et, id, m, kd, vd, h1, h2, h3, h4, h5, h6, h7, h8, h⟩
 case mapEntry t x i =>
  obtain ⟨ti, h1, h⟩ := AT.1 h
  obtain ⟨kt, et, h2, h⟩ := D1.1 h
  obtain ⟨te, h3, h⟩ := AT.1 h
  obtain ⟨id, h4, h⟩ := EI.1 h
  obtain ⟨o, h5, h⟩ := AU.1 h
  obtain ⟨m, rfl, h⟩ := Ev.1 h
  obtain ⟨kd, h6, ⟨h7, h8⟩, h⟩ := DC.1 h
  exact ⟨ti, kt, et, te, id, m, kd, h1, h2, h3, h4, h5, h6, h7, h8, h⟩
 case entryStore t x s v =>
  obtain ⟨id, h1, h⟩ := EI.1 h
  obtain ⟨o, h2, h⟩ := AU.1 h
  obtain ⟨m, rfl, h⟩ := Ev.1 h
  obtain ⟨kk, n, h3, h⟩ := CW.1 h
  obtain ⟨vd, h4, h0, h⟩ := DC.1 h
  obtain ⟨p, h5, h⟩ := AU.1 h
  exact ⟨id, m, kk, n, vd, p, h1, h2, h3, h0, h5, h4, h⟩
 case range t x =>
  obtain ⟨ti, h1, h⟩ := AT.1 h
  obtain ⟨kt, et, h2, h⟩ := D1.1 h
  try dsimp only at h
  unfold Vj at h
  split at h
  .rename_i e; exact ⟨ti, kt, et, [], h1, h2, .inl ⟨e, rfl⟩, h⟩
  .rename_i m e; exact ⟨ti, kt, et, m, h1, h2, .inr e, h⟩
  exact h.elim
 case next x s =>
  cases s with
  | true => exact h.elim
  | false =>
   simp only [BJ] at h
   unfold Tq at h
   split at h
   .rename_i id e
    split at h
    .rename_i cur left hl
     exact ⟨rfl, id, cur, left, e, hl, h.1, h.2⟩
    exact h.elim
   exact h.elim
 case entry x =>
  unfold Tr at h
  split at h
  .rename_i id e
   split at h
   .rename_i p left hl
    exact ⟨id, p, left, e, hl, h⟩
   exact h.elim
  exact h.elim
 case call c =>
  obtain ⟨callee, args, ats⟩ := c
  try dsimp only at h
  unfold Ii at h
  simp only at h
  split at h
  .rename_i f
   obtain ⟨k, caps, g1, g2⟩ := S2.1 h
   simp only [g1]
   exact g2
  .rename_i s x t t' e2 e3
   obtain ⟨rfl, h⟩ := h
   obtain ⟨ti, h1, h⟩ := AT.1 h
   obtain ⟨e, h2, h⟩ := CL.1 h
   obtain ⟨te, h3, h4, h⟩ := AT.1 h
   obtain ⟨new, h5, h6, h⟩ := AU.1 h
   have ha : args = #[s, x] := by rw [<- Array.toList_inj, e2]
   have hb : ats = #[t', t'] := by rw [<- Array.toList_inj, e3]
   simp only [mW]
   refine ⟨trivial, s, x, t', ha, hb, ti, e, te, h1, h2, h3, h4, new, h5, h6, ?_⟩
   try dsimp only at h
   unfold RO at h
   split at h
   .rename_i e; simp only [e]; exact ⟨h.1.1, h.1.2, h.2⟩
   .rename_i id sz off len e
    obtain ⟨hsz, h⟩ := h
    obtain ⟨o, g1, h⟩ := AU.1 h
    obtain ⟨e', sz', elems, rfl, ⟨k1, k2, g2, g3, g4⟩, h9⟩ := Ew.1 h
    subst k1; subst k2
    try simp only [e]
    exact ⟨elems, hsz, g1, g2, g3, g4, h9⟩
   exact h.elim
  .rename_i x i t r e2 e3
   obtain ⟨ti, h1, h⟩ := AT.1 h
   obtain ⟨kt, et, h2, h⟩ := D1.1 h
   obtain ⟨id, h3, h⟩ := EI.1 h
   obtain ⟨o, h4, h⟩ := AU.1 h
   obtain ⟨m, rfl, h⟩ := Ev.1 h
   obtain ⟨kd, h5, ⟨h6, h7⟩, h⟩ := DC.1 h
   exact ⟨x, i, t, r, by rw [<- Array.toList_inj, e2], e3, ti, kt, et, id, m, kd, h1, h2, h3, h4, h5, h6, h7, h⟩
  .rename_i x t e2 e3
   obtain ⟨ti, h1, h⟩ := AT.1 h
   have ha : args = #[x] := by rw [<- Array.toList_inj, e2]
   have hb : ats = #[t] := by rw [<- Array.toList_inj, e3]
   simp only [nW]
   refine ⟨x, t, ti, ha, hb, h1, ?_⟩
   try dsimp only at h
   unfold Vi at h
   split at h
   .rename_i g; simp only [g]; exact h
   .rename_i g1 g2; simp only [g1, g2, I7]; exact h
   .rename_i g1 g2; simp only [g1, g2, I7]; exact h
   .rename_i g1 g2; simp only [g1, g2, I7]; exact h
   .rename_i g1 g2; simp only [g1, g2, I7]; exact h
   exact h.elim
  .obtain ⟨r, h1, h⟩ := AU.1 h
   simp only [nW]
   exact ⟨r, h1, h⟩
  .obtain ⟨r, h1, h⟩ := AU.1 h
   simp only [nW]
   exact ⟨r, h1, h⟩
  exact h.elim
 all_goals exact h.elim
theorem QD (st : St) (ops : List Oper) (j : Nat) : FN st (Tm ops j) = DP st ops.toArray j := by
 unfold FN DP Tm
 simp only [List.getElem?_toArray]
 cases ops[j]? with
 | none => rfl
 | some o => cases hd : o.dst <;> simp [hd]
theorem Jc (hE : A8 P AB) {ops : List Oper} {K : A7 St} {Q : Exit -> Act -> World -> Prop} (hQ : ∀ st a w, K.f st -> R A st a w -> Q .normal a w) :
  ∀ (l : List Oper) (st : St) (a : Act) (w : World), EF P A AB K (l.map (MT ops)) st -> R A st a w -> wpList P ops.toArray Q l a w
 | [], st, a, w, h, hR => hQ st a w h.h hR
 | o :: rest, st, a, w, h, hR => by
  have run : BJ P A AB st o.dst o.op ⟨EF P A AB K (rest.map (MT ops)), ⟨⟩⟩ -> o.wp P a w (wpList P ops.toArray Q rest) Q := fun h =>
   MH hE (NL h) hR fun st' a' w' hk hR' => Jc hE hQ rest st' a' w' hk hR'
  have skip : EF P A AB K (rest.map (MT ops)) (st.put o.dst .und) -> wpList P ops.toArray Q rest (a.put o.dst undef) w := fun h => by
   obtain ⟨μ, hh, hs⟩ := hR.ex
   exact Jc hE hQ rest _ _ _ h (hR.put hs hh .und)
  unfold wpList
  simp only [List.map_cons, MT] at h
  cases hg : o.guard with
  | none =>
   rw [hg] at h
   rw [if_pos (by simp [Region.wanted, hg])]
   exact .inl (run h)
  | some g =>
   obtain ⟨j, want⟩ := g
   rw [hg] at h
   simp only [EF, QD] at h
   obtain ⟨μ, hh, hs⟩ := hR.ex
   obtain ⟨g1, g2⟩ := MK (ops := ops.toArray) (j := j) (fun x => Fq hs x)
   unfold gM at h
   split at h
   .rename_i b hb
    have hy := g1 b hb
    by_cases e : b = want
    .rw [if_pos (by simp [Region.wanted, hg, hy, e])]
     exact .inl (run (h.1 e))
    rw [if_neg (by simp [Region.wanted, hg, hy, e])]
    exact skip (h.2 (by cases b <;> cases want <;> simp_all))
   .rename_i hb
    have hy := g2 hb
    rw [if_neg (by simp [Region.wanted, hg, hy])]
    exact skip h
   exact h.elim
theorem W3 (hE : A8 P AB) {id : Nat} {ops : List Oper} {ms : List GO} {y : Code} {Q : Exit -> St -> Prop} {st : St} (hm : ops.map (MT ops) = ms) (h : EF P A AB ⟨fun st' => B3 P A y Q st', ⟨⟩⟩ ms st) :
  B3 P A (.seq (.region id ops.toArray false) y) Q st :=
 AC fun a w hR => wp_region_lit (Jc hE (fun st' _ _ hk hR' => ⟨st', hR', hk⟩) ops st a w (by rw [hm]; exact h) hR)
theorem Vm (hE : A8 P AB) {id : Nat} {ops : List Oper} {ms : List GO} {Q : Exit -> St -> Prop} {st : St} (hm : ops.map (MT ops) = ms) (h : EF P A AB ⟨fun st' => Q .normal st', ⟨⟩⟩ ms st) :
  B3 P A (.region id ops.toArray false) Q st :=
 fun a w hR => wp_region_lit (Jc hE (fun st' _ _ hk hR' => ⟨st', hR', hk⟩) ops st a w (by rw [hm]; exact h) hR)
def A6 (A : BF) (st st' : St) : Prop := ∀ a w, R A st a w -> R A st' a w
theorem A6.refl (st : St) : A6 A st st := fun _ _ h => h
theorem A6.trans {a b c : St} (h : A6 A a b) (h' : A6 A b c) : A6 A a c := fun x w hR => h' x w (h x w hR)
theorem EW {c : Code} {Q : Exit -> St -> Prop} {st st' : St} (hw : A6 A st st') (h : B3 P A c Q st') : B3 P A c Q st := fun a w hR => h a w (hw a w hR)
def EX (gl : List (Nat × Nat)) : LV -> LV
 | .lsl id sz off len => .lsl ((AE id gl).getD 0) sz off len
 | .lpb id off => .lpb ((AE id gl).getD 0) off
 | .lpe id i off => .lpe ((AE id gl).getD 0) i off
 | .lmap id => .lmap ((AE id gl).getD 0)
 | .agg l => .agg (renLs gl l)
 | .tup l => .tup (renLs gl l)
 | .fn f l => .fn f (renLs gl l)
 | l => l
where renLs (gl : List (Nat × Nat)) : List LV -> List LV
 | [] => []
 | x :: l => EX gl x :: renLs gl l
def Db (gl : List (Nat × Nat)) : LV -> Bool
 | .lsl id _ _ _ | .lpb id _ | .lpe id _ _ | .lmap id => (AE id gl).isSome
 | .agg l | .tup l | .fn _ l => namesLs gl l
 | _ => true
where namesLs (gl : List (Nat × Nat)) : List LV -> Bool
 | [] => true
 | x :: l => Db gl x && namesLs gl l
theorem H6 {gl : List (Nat × Nat)} : ∀ {ls : List LV} {i : Nat}, (EX.renLs gl ls)[i]? = (ls[i]?).map (EX gl)
 | [], i => by simp [EX.renLs]
 | x :: l, 0 => by simp [EX.renLs]
 | x :: l, i + 1 => by simpa [EX.renLs] using H6 (ls := l)
theorem H7 {gl : List (Nat × Nat)} : ∀ {ls : List LV}, (EX.renLs gl ls).length = ls.length
 | [] => rfl
 | x :: l => by simp [EX.renLs, H7 (ls := l)]
theorem GP {gl : List (Nat × Nat)} : ∀ {ls : List LV} {i : Nat} {x : LV}, Db.namesLs gl ls = true -> ls[i]? = some x -> Db gl x = true
 | [], i, x, _, h => by simp at h
 | y :: l, 0, x, hn, h => by simp at h; subst h; simp only [Db.namesLs, Bool.and_eq_true] at hn; exact hn.1
 | y :: l, i + 1, x, hn, h => by simp only [Db.namesLs, Bool.and_eq_true] at hn; exact GP hn.2 (by simpa using h)
def Ex (gl : List (Nat × Nat)) (μ : Nat -> Option Ba) (id : Nat) : Option Ba :=
 match AE id gl with
 | some old => μ old
 | none => none
theorem I8 {O O' : Nat -> Prop} {μ : Nat -> Option Ba} {w : World} {gl : List (Nat × Nat)} (hO : ∀ b, b < w.heap.size -> O' b -> O b) :
  ∀ (l : LV) (v : Value), Db gl l = true -> Aa O μ w v (EX gl l) -> Aa O' (Ex gl μ) w v l
 | .p d, v, _, h => .p _ _ (h.p_inv.mono (BW.refl _ _) hO)
 | .und, v, _, h => by cases h; exact .und
 | .any, v, _, h => .any _
 | .lsl id sz off len, v, hn, h => by
  simp only [Db] at hn
  cases hl : AE id gl with
  | none => rw [hl] at hn; cases hn
  | some old =>
   simp only [EX, hl, Option.getD_some] at h
   have hm : ∀ loc, μ old = some loc -> Ex gl μ id = some loc := fun loc h => by simp [Ex, hl, h]
   cases h with
   | lsln _ loc h1 h2 => exact .lsln id loc (hm _ h1) h2
   | lsl _ _ _ cap a loc h1 h2 h3 h4 h5 h6 h7 => exact .lsl id _ _ cap a loc (hm _ h1) h2 h3 h4 h5 h6 h7
 | .lpb id off, v, hn, h => by
  simp only [Db] at hn
  cases hl : AE id gl with
  | none => rw [hl] at hn; cases hn
  | some old =>
   simp only [EX, hl, Option.getD_some] at h
   have hm : ∀ loc, μ old = some loc -> Ex gl μ id = some loc := fun loc h => by simp [Ex, hl, h]
   cases h with
   | lpb _ _ loc h1 h2 => exact .lpb id _ loc (hm _ h1) h2
 | .lpe id i off, v, hn, h => by
  simp only [Db] at hn
  cases hl : AE id gl with
  | none => rw [hl] at hn; cases hn
  | some old =>
   simp only [EX, hl, Option.getD_some] at h
   have hm : ∀ loc, μ old = some loc -> Ex gl μ id = some loc := fun loc h => by simp [Ex, hl, h]
   cases h with
   | lpe _ _ _ loc h1 h2 => exact .lpe id _ _ loc (hm _ h1) h2
 | .lmap id, v, hn, h => by
  simp only [Db] at hn
  cases hl : AE id gl with
  | none => rw [hl] at hn; cases hn
  | some old =>
   simp only [EX, hl, Option.getD_some] at h
   have hm : ∀ loc, μ old = some loc -> Ex gl μ id = some loc := fun loc h => by simp [Ex, hl, h]
   cases h with
   | lmap _ loc h1 h2 => exact .lmap id loc (hm _ h1) h2
 | .agg ls, v, hn, h => by
  simp only [EX] at h
  simp only [Db] at hn
  cases h with
  | agg vs _ hsz hr =>
   rw [H7] at hsz
   refine .agg vs ls hsz fun i u x h1 h2 => ?_
   have : SizeOf.sizeOf x < SizeOf.sizeOf ls := List.sizeOf_lt_of_mem (List.mem_of_getElem? h2)
   exact I8 hO x u (GP hn h2) (hr i u _ h1 (by rw [H6, h2]; rfl))
 | .tup ls, v, hn, h => by
  simp only [EX] at h
  simp only [Db] at hn
  cases h with
  | tup vs _ hsz hr =>
   rw [H7] at hsz
   refine .tup vs ls hsz fun i u x h1 h2 => ?_
   have : SizeOf.sizeOf x < SizeOf.sizeOf ls := List.sizeOf_lt_of_mem (List.mem_of_getElem? h2)
   exact I8 hO x u (GP hn h2) (hr i u _ h1 (by rw [H6, h2]; rfl))
 | .fn f ls, v, hn, h => by
  simp only [EX] at h
  simp only [Db] at hn
  cases h with
  | fn _ vs _ hsz hr =>
   rw [H7] at hsz
   refine .fn f vs ls hsz fun i u x h1 h2 => ?_
   have : SizeOf.sizeOf x < SizeOf.sizeOf ls := List.sizeOf_lt_of_mem (List.mem_of_getElem? h2)
   exact I8 hO x u (GP hn h2) (hr i u _ h1 (by rw [H6, h2]; rfl))
def Tt (gl : List (Nat × Nat)) : A9 -> A9
 | .box cells => .box (EX.renLs gl cells)
 | o => o
def RP (gl : List (Nat × Nat)) : A9 -> Bool
 | .box cells => Db.namesLs gl cells
 | _ => true
def Qv (gl : List (Nat × Nat)) (sl : List (Nat × LV)) : List (Nat × LV) -> Prop
 | [] => True
 | (t, l) :: rest => (Db gl l = true /\ Bh sl t = EX gl l) /\ Qv gl sl rest
def Qw (gl : List (Nat × Nat)) (h : AO) : AO -> Prop
 | [] => True
 | (id, o) :: rest => (RP gl o = true /\ ∃ old, AE id gl = some old /\ AE old h = some (Tt gl o)) /\ Qw gl h rest
theorem Ol {gl : List (Nat × Nat)} {sl : List (Nat × LV)} : ∀ {sl' : List (Nat × LV)}, Qv gl sl sl' -> ∀ t l, AE t sl' = some l -> Db gl l = true /\ Bh sl t = EX gl l
 | [], _, t, l, h => by simp [AE] at h
 | (u, x) :: rest, ⟨h1, h2⟩, t, l, h => by
  simp only [AE] at h
  split at h
  .cases h; subst_vars; exact h1
  exact Ol h2 t l h
theorem F9 {gl : List (Nat × Nat)} {hp : AO} : ∀ {h' : AO}, Qw gl hp h' -> ∀ id o, AE id h' = some o -> RP gl o = true /\ ∃ old, AE id gl = some old /\ AE old hp = some (Tt gl o)
 | [], _, id, o, h => by simp [AE] at h
 | (u, x) :: rest, ⟨h1, h2⟩, id, o, h => by
  simp only [AE] at h
  split at h
  .cases h; subst_vars; exact h1
  exact F9 h2 id o h
theorem LC {α : Type} {t : Nat} {v : α} : ∀ {l : List (Nat × α)}, AE t l = some v -> (t, v) ∈ l
 | [], h => by simp [AE] at h
 | (k, u) :: l, h => by
  simp only [AE] at h
  split at h
  .cases h; subst_vars; simp
  exact List.mem_cons_of_mem _ (LC h)
def Om (gl : List (Nat × Nat)) (h : AO) (c : Nat) : Bool := decide (h.map fun p => (AE p.1 gl).getD 0).Nodup && gl.all fun p => decide (p.1 < c)
theorem Vn {gl : List (Nat × Nat)} {h : AO} (hn : (h.map fun p => (AE p.1 gl).getD 0).Nodup) {a b : Nat × A9} (ha : a ∈ h) (hb : b ∈ h) (e : (AE a.1 gl).getD 0 = (AE b.1 gl).getD 0) : a = b := by
 induction h with
 | nil => simp at ha
 | cons x l ih =>
  simp only [List.map_cons, List.nodup_cons, List.mem_map, not_exists, not_and] at hn
  rcases List.mem_cons.1 ha with e1 | ha' <;> rcases List.mem_cons.1 hb with e2 | hb'
  .rw [e1, e2]
  .subst e1; exact absurd e.symm (hn.1 b hb')
  .subst e2; exact absurd e (hn.1 a ha')
  exact ih hn.2 ha' hb'
theorem Vo (gl : List (Nat × Nat)) {nt : Nat} {sl sl' : List (Nat × LV)} {h h' : AO} {c c' : Nat} (hext : ∀ id, A.μ0 id ≠ none -> AE id gl = some id) (ho : Om gl h' c' = true)
  (hs : Qv gl sl sl') (hh' : Qw gl h h') : A6 A ⟨nt, sl, h, c⟩ ⟨nt, sl', h', c'⟩ := fun a w ⟨⟨μ, hh, hr⟩, hnt, hdef⟩ => by
 simp only [Om, Bool.and_eq_true, decide_eq_true_eq, List.all_eq_true] at ho
 have hmine : ∀ b, Bx (Ex gl μ) h' b -> Bx μ h b := by
  rintro b ⟨id, o, loc, h1, h2, h3, h4⟩
  obtain ⟨_, old, g1, g2⟩ := F9 hh' id o h1
  simp only [Ex, g1] at h2
  exact ⟨old, _, loc, g2, h2, h3, h4⟩
 have hown : ∀ b, b < w.heap.size -> Ac A (Ex gl μ) h' b -> Ac A μ h b := fun b _ hb => hb.imp id (hmine b)
 refine ⟨⟨Ex gl μ, ⟨?_, ?_, ?_, ?_, hh.size, hh.block, hh.os, hh.tape, hh.output, ?_⟩, fun t ht => ?_⟩, hnt, hdef⟩
 .intro id o hid
  obtain ⟨hn, old, g1, g2⟩ := F9 hh' id o hid
  obtain ⟨loc, k1, k2⟩ := hh.obj old _ g2
  refine ⟨loc, by simp only [Ex, g1]; exact k1, ?_⟩
  cases o with
  | box cells =>
   obtain ⟨a1, cs, ty, a2, a3, a4⟩ := k2
   rw [H7] at a3
   refine ⟨a1, cs, ty, a2, a3, fun i v l hv hl => I8 hown l v (GP hn hl) (a4 i v _ hv (by rw [H6, hl]; rfl))⟩
  | row e sz elems =>
   obtain ⟨a1, a2, a3⟩ := k2
   refine ⟨a1, a2, ?_⟩
   rcases a3 with a3 | ⟨b1, cs, b2, b3, b4, b5, b6⟩
   .exact .inl a3
   exact .inr ⟨b1, cs, b2, b3, b4, b5, fun i j x d v hx hd hv => (b6 i j x d v hx hd hv).mono (BW.refl _ _) hown⟩
  | map m =>
   obtain ⟨a1, es, clock, a2, a3, a4, a5⟩ := k2
   exact ⟨a1, es, clock, a2, a3, a4, fun i e p he hp => ⟨(a5 i e p he hp).1.mono (BW.refl _ _) hown, (a5 i e p he hp).2.mono (BW.refl _ _) hown⟩⟩
  | iter cur left => exact ⟨k2.1, k2.2.mono (BW.refl _ _) hown rfl⟩
 .intro id id' o o' loc loc' h1 h2 m1 m2 n1 n2 hb
  obtain ⟨_, old, g1, g2⟩ := F9 hh' id o h1
  obtain ⟨_, old', g1', g2'⟩ := F9 hh' id' o' h2
  simp only [Ex, g1] at m1
  simp only [Ex, g1'] at m2
  have := hh.inj _ _ _ _ _ _ g2 g2' m1 m2 n1 n2 hb
  have := Vn ho.1 (LC h1) (LC h2) (by simp only [g1, g1', Option.getD_some]; exact this)
  exact congrArg (·.1) this
 .intro id hid
  simp only [Ex]
  cases hl : AE id gl with
  | none => rfl
  | some old =>
   have := ho.2 _ (LC hl)
   simp only [Fr] at hid
   omega
 .intro id o loc h1 m1 n1
  obtain ⟨_, old, g1, g2⟩ := F9 hh' id o h1
  simp only [Ex, g1] at m1
  exact hh.base _ _ _ g2 m1 n1
 .intro id loc hm
  have := hext id (by rw [hm]; simp)
  simp only [Ex, this]
  exact hh.ext _ _ hm
 show Aa _ _ _ _ (match AE t sl' with | some v => v | none => .any)
 cases hl : AE t sl' with
 | none => exact .any _
 | some l =>
  obtain ⟨g1, g2⟩ := Ol hs t l hl
  have := hr t ht
  simp only at this
  rw [g2] at this
  exact I8 hown l _ g1 this
theorem Bs {nt : Nat} {sl : List (Nat × LV)} {h : AO} {c : Nat} (t e sz : Nat) (ht : Bh sl t = .p .nils) : A6 A ⟨nt, sl, h, c⟩ ⟨nt, (t, .lsl c sz 0 0) :: sl, (c, .row e sz []) :: h, c + 1⟩ := fun a w ⟨⟨μ, hh, hr⟩, hnt, hdef⟩ => by
 have hno := hh.fresh c (Nat.le_refl _)
 let loc : Ba := ⟨true, 0, 0, sz, 0⟩
 have hsub : ∀ id x, AE id ((c, A9.row e sz []) :: h) = some x -> (id = c /\ x = .row e sz []) \/ AE id h = some x := by
  intro id x hx
  simp only [AE] at hx
  split at hx
  .cases hx; exact .inl ⟨‹_›, rfl⟩
  exact .inr hx
 have hadd := hh.add hno loc (.row e sz []) ((c, .row e sz []) :: h) (fun hn => by cases hn) (fun hn => by cases hn) hsub (BW.refl _ _) (fun _ _ _ _ _ _ _ => rfl) rfl rfl rfl ⟨rfl, by simp, .inl ⟨rfl, rfl⟩⟩
 have hown := hh.sub_add loc (.row e sz []) ((c, .row e sz []) :: h) (fun hn => by cases hn) hsub
 refine ⟨⟨_, hadd.less (F' := Fr (c + 1)) fun id hid => ?_, fun u hu => ?_⟩, hnt, hdef⟩
 .simp only [Fr] at hid ⊢; omega
 show Aa _ _ _ _ (match AE u ((t, LV.lsl c sz 0 0) :: sl) with | some v => v | none => .any)
 simp only [AE]
 by_cases hut : u = t
 .subst hut
  rw [if_pos rfl]
  have := hr u hu
  simp only at this
  rw [ht] at this
  rw [this.nils_inv]
  exact .lsln c loc (by simp [Bt]) rfl
 rw [if_neg hut]
 exact (hr u hu).mono (BW.refl _ _) hown (G1 hno loc)
end
end Go.E
/- Loops whose states are told outright; parts of a body. No condition. -/
namespace Go.E
open Go Go.RowKit
section
variable {P : Program} {A : BF} {AB : A4} {Q : Exit -> St -> Prop} {st : St}
theorem AD {next : St -> Prop} (h : next st) : NM next Q .normal st := h
theorem AL {next : St -> Prop} (h : Q .ret st) : NM next Q .ret st := h
theorem Ai {next : St -> Prop} {id : Nat} (h : Q (.exit id) st) : NM next Q (.exit id) st := h
theorem Aq {id : Nat} (h : Q .normal st) : Fs id Q .normal st := h
theorem Ag {id : Nat} (h : Q .ret st) : Fs id Q .ret st := h
theorem Az {id : Nat} (h : Q .normal st) : Fs id Q (.exit id) st := by simp only [Fs, if_true]; exact h
theorem Wc {id id' : Nat} (hne : (id' == id) = false) (h : Q (.exit id') st) : Fs id Q (.exit id') st := by
 simp only [Fs]
 rw [if_neg (by simpa using hne)]; exact h
theorem Xn {P : Program} {AB : A4} (hE : A8 P AB) {k : Nat} {fn : Func} {c : Code} (hf : P.funcs[k]? = some fn) (hb : fn.body = some c) (hn : (fn.name == "runtime.NumGoroutine") = false) (nt : Nat) (hnt : fn.ntmps = nt)
  (rs : List ResultVar) (hrs : fn.results.toList = rs) {ds : List DV} (hlen : ds.length <= nt) {Q : DV -> Prop}
  (h : ∀ A : BF, (∀ id, A.μ0 id = none) -> B3 P A c (K3 fun st => ∃ r, Et AB.tt rs st = some r /\ Q r) ⟨nt, DF 0 ds, [], 0⟩) : BZ P k ds Q := by
 subst hnt hrs
 exact Oe hE hf hb hn hlen h
theorem Yl {h : AO} {c k : Nat} {args : List LV} {ds : List DV} {r : DV} {f : LV × AO × Nat -> Prop} {hf : Gw f} (hds : Bi h args = some ds) (hF : BZ P k ds (· = r))
  (hs : r.scalar = true \/ args.flatMap (Dh h) = []) (hK : f (.p r, h, c)) : G4 P A h c k args ⟨f, hf⟩ :=
 C3.pure hds hF fun q hq => by
  subst hq
  split
  .exact hK
  rcases hs with hs | hs
  .exact absurd hs ‹_›
  rw [hs]; exact hK
theorem Ym {h h' : AO} {c k : Nat} {args : List LV} {ds : List DV} {r : DV} {f : LV × AO × Nat -> Prop} {hf : Gw f} (hds : Bi h args = some ds) (hF : BZ P k ds (· = r))
  (hs : r.scalar = false) (hd : Bq (args.flatMap (Dh h)) h = h') (hK : f (.p r, h', c)) : G4 P A h c k args ⟨f, hf⟩ :=
 C3.pure hds hF fun q hq => by
  subst hq
  rw [if_neg (by simp [hs]), hd]; exact hK
def Le (r d : DV) : Prop := ∀ (O : Nat -> Prop) (w : World) (v : Value), Aw O w v r -> Aw O w v d
theorem Le.of_eq {r d : DV} (h : r = d) : Le r d := fun _ _ _ hv => h ▸ hv
theorem Le.nil (sz : Nat) : Le .nils (.slice sz []) := fun _ _ _ hv => by cases hv; exact .snil sz
theorem Le.tup {l m : List DV} (hl : l.length = m.length) (h : ∀ (i : Nat) (a b : DV), l[i]? = some a -> m[i]? = some b -> Le a b) : Le (.tup l) (.tup m) := fun O w v hv => by
 cases hv with
 | tup vs _ hsz hr =>
  refine .tup vs m (by omega) fun i u d h1 h2 => ?_
  have hi := (List.getElem?_eq_some_iff.1 h2).1
  have hx : l[i]? = some (l[i]'(by omega)) := List.getElem?_eq_getElem _
  exact h i _ d hx h2 O w u (hr i u _ h1 hx)
theorem Le.agg {l m : List DV} (hl : l.length = m.length) (h : ∀ (i : Nat) (a b : DV), l[i]? = some a -> m[i]? = some b -> Le a b) : Le (.agg l) (.agg m) := fun O w v hv => by
 cases hv with
 | agg vs _ hsz hr =>
  refine .agg vs m (by omega) fun i u d h1 h2 => ?_
  have hi := (List.getElem?_eq_some_iff.1 h2).1
  have hx : l[i]? = some (l[i]'(by omega)) := List.getElem?_eq_getElem _
  exact h i _ d hx h2 O w u (hr i u _ h1 hx)
theorem Le.cons {a b : DV} {l m : List DV} (h : Le a b) (hr : ∀ (i : Nat) (a b : DV), l[i]? = some a -> m[i]? = some b -> Le a b) : ∀ (i : Nat) (x y : DV), (a :: l)[i]? = some x -> (b :: m)[i]? = some y -> Le x y := fun i x y h1 h2 => by
 cases i with
 | zero => simp at h1 h2; subst h1 h2; exact h
 | succ i => exact hr i x y (by simpa using h1) (by simpa using h2)
theorem Xo {P : Program} {AB : A4} (hE : A8 P AB) {k : Nat} {fn : Func} {c : Code} (hf : P.funcs[k]? = some fn) (hb : fn.body = some c) (hn : (fn.name == "runtime.NumGoroutine") = false) (nt : Nat) (hnt : fn.ntmps = nt)
  (rs : List ResultVar) (hrs : fn.results.toList = rs) {ds : List DV} (hlen : ds.length <= nt) {d : DV}
  (h : ∀ A : BF, (∀ id, A.μ0 id = none) -> B3 P A c (K3 fun st => ∃ r, Et AB.tt rs st = some r /\ Le r d) ⟨nt, DF 0 ds, [], 0⟩) : BZ P k ds (· = d) := by
 have := Xn hE hf hb hn nt hnt rs hrs hlen h
 exact ⟨this.enters, fun O w vs h1 h2 h3 => (this.run O w vs h1 h2 h3).mono fun _ _ ⟨v, r, e, hr, q, hb⟩ => ⟨v, d, e, q _ _ _ hr, rfl, hb⟩⟩
end
end Go.E
/- The equations by which a walk is reckoned. Written by a program (mkev.py). No condition. -/
namespace Go.E
open Go Go.RowKit
theorem RQ : ∀ l : List DV, Fv (l.map .p) = some l
 | [] => rfl
 | x :: l => by simp [Fv, RQ l]
end Go.E
/- Drawn regions in short form. Conditions: Fu and mixedOrders, by kernel. -/
namespace Go.E
open Go Go.RowKit
def Vp (P : Program) (h : AO) (k : Nat) (args : List LV) (K : A7 DV) : Prop :=
 ∃ ds r, Bi h args = some ds /\ BZ P k ds (· = r) /\ (r.scalar = true \/ args.flatMap (Dh h) = []) /\ K.f r
def ZF (P : Program) (AB : A4) (h : AO) (k : Nat) (args : List LV) (K : A7 (Nat × Nat × List (List DV))) : Prop :=
 AB.own = true /\ ∃ ds t sz elems, Bi h args = some ds /\ EU P k ds t sz elems /\ Th (args.flatMap (Dh h)) elems /\ K.f (t, sz, elems)
def Wd (AB : A4) (neg : Bool) (t : Nat) (x y : LV) (k : A7 LV) : Prop :=
 match y with
 | .p .nils => False
 | y => S1 AB neg t x y k
def RR (AB : A4) (op : BinOp) (t : Nat) (x y : LV) (k : A7 LV) : Prop :=
 match x, y with
 | .p (.int k1 a), .p (.int k2 b) => k1 = k2 /\ KZ op k1 a b k
 | x, y => match op with
  | .eql => Wd AB false t x y k
  | .neq => Wd AB true t x y k
  | _ => False
def Tu (sh : Sh) (x : LV) (k : A7 LV) : Prop :=
 match sh, x with
 | .arr n _, _ => k.f (.p (.int .i64 n))
 | .slc _, .p (.slice _ l) => k.f (.p (.int .i64 l.length))
 | .slc _, .p .nils => k.f (.p (.int .i64 0))
 | .slc _, .lsl _ _ _ len => k.f (.p (.int .i64 len))
 | .str, .p (.str s) => k.f (.p (.int .i64 s.size))
 | _, _ => False
def Fk (P : Program) (A : BF) (AB : A4) (st : St) (dst : Option Tmp) (op : Op) (K : A7 St) : Prop :=
 match op with
 | .binOp op t x y _ => RR AB op t (st.eval x) (st.eval y) ⟨fun l => K.f (st.put dst l), ⟨⟩⟩
 | .call c => match c.callee, c.args.toList, c.argTypes.toList with
  | .builtin .len, [x], [t] => Cj AB t ⟨fun ti => Tu ti.sh (st.eval x) ⟨fun l => K.f (st.put dst l), ⟨⟩⟩, ⟨⟩⟩
  | .builtin .len, _, _ => False
  | .builtin .delete, _, _ => False
  | .builtin .append, s :: _, _ => KT AB.calm (st.eval s) = true /\ BJ P A AB st dst (.call c) K
  | .value f, args, _ => if CK f = true then ∃ l h', Qt P AB st c l h' /\ K.f (st.go dst l h' (st.ctr + 1)) else Ja (st.eval f) ⟨fun g => Vp P st.heap g.1 (args.map st.eval ++ g.2) ⟨fun r => K.f (st.put dst (.p r)), ⟨⟩⟩ \/
    ZF P AB st.heap g.1 (args.map st.eval ++ g.2) ⟨fun r => K.f (({ st with heap := (st.ctr, .row r.1 r.2.1 r.2.2) :: st.heap, ctr := st.ctr + 1 } : St).put dst (.lsl st.ctr r.2.1 0 r.2.2.length)), ⟨⟩⟩, ⟨⟩⟩
  | _, _, _ => BJ P A AB st dst (.call c) K
 | .range _ _ => False
 | .next _ _ => False
 | .entry _ => False
 | .load t x => KU AB.calm (st.eval x) = true /\ BJ P A AB st dst (.load t x) K
 | .store t x v => Iy AB.calm (st.eval x) = true /\ BJ P A AB st dst (.store t x v) K
 | op => BJ P A AB st dst op K
def C6 (P : Program) (A : BF) (AB : A4) (base n : Nat) (K : A7 St) : List (Nat × GO) -> St -> Prop
 | [], st => Xm K (st.at (base + n))
 | (i, ⟨dst, op, none⟩) :: rest, st => Fk P A AB (st.at (base + i)) dst op ⟨C6 P A AB base n K rest, ⟨⟩⟩
 | (i, ⟨dst, op, some (d, want)⟩) :: rest, st => gM (FN st d) want ⟨fun _ => Fk P A AB (st.at (base + i)) dst op ⟨C6 P A AB base n K rest, ⟨⟩⟩, ⟨⟩⟩ ⟨fun _ => C6 P A AB base n K rest (st.put dst .und), ⟨⟩⟩
section
variable {P : Program} {A : BF} {AB : A4}
theorem St.at_at (st : St) (c d : Nat) : (st.at c).at d = st.at d := rfl
theorem W4 {v : LV} {want : Bool} {f f' g g' : Unit -> Prop} (h1 : f () = f' ()) (h2 : g () = g' ()) : gM v want ⟨f, ⟨⟩⟩ ⟨g, ⟨⟩⟩ = gM v want ⟨f', ⟨⟩⟩ ⟨g', ⟨⟩⟩ := by
 unfold gM
 split
 .simp only [gW, h1, h2]
 .exact h2
 rfl
theorem Oo (base n : Nat) (K : A7 St) (l : List (Nat × GO)) : ∀ (st : St) (c : Nat), C6 P A AB base n K l (st.at c) = C6 P A AB base n K l st := by
 induction l with
 | nil => intro st c; rfl
 | cons p l ih =>
  intro st c
  obtain ⟨i, dst, op, g⟩ := p
  cases g with
  | none => rfl
  | some g =>
   obtain ⟨d, want⟩ := g
   have e1 : FN (st.at c) d = FN st d := by cases d <;> rfl
   have e2 : C6 P A AB base n K l ((st.at c).put dst .und) = C6 P A AB base n K l (st.put dst .und) := by
    have : (st.at c).put dst .und = (st.put dst .und).at c := by cases dst <;> rfl
    rw [this, ih]
   simp only [C6, e1, St.at_at]
   exact W4 rfl e2
theorem S5 {neg : Bool} {t : Nat} {x y : LV} {k : A7 LV} (h : Wd AB neg t x y k) : ∃ l, QC AB neg t x y (· = l) /\ k.f l := by
 unfold Wd at h
 split at h
 .exact h.elim
 rename_i hne
 unfold S1 at h
 unfold QC
 split at h
 .exact ⟨_, rfl, h⟩
 .obtain ⟨ti, h1, h2, h3⟩ := AT.1 h; exact ⟨_, ⟨⟨ti, h1, h2⟩, rfl⟩, h3⟩
 .obtain ⟨ks, h1, h2, h3, h4⟩ := AU.1 h; exact ⟨_, ⟨ks, h1, h2, h3, rfl⟩, h4⟩
 .exact absurd rfl hne
 .exact absurd rfl hne
 .exact absurd rfl hne
 .exact ⟨_, ⟨h.1, rfl⟩, h.2⟩
 .exact ⟨_, ⟨h.1, rfl⟩, h.2⟩
 .exact ⟨_, ⟨h.1, rfl⟩, h.2⟩
 exact h.elim
theorem Vq {op : BinOp} {t : Nat} {x y : LV} {k : A7 LV} (h : RR AB op t x y k) : ∃ l, Ph AB op t x y (· = l) /\ k.f l := by
 unfold RR at h
 unfold Ph
 split at h
 .obtain ⟨v, h1, h2⟩ := Nq h.2
  exact ⟨_, ⟨h.1, v, h1, rfl⟩, h2⟩
 rename_i hne
 split
 .exact absurd rfl (hne _ _ _ _ rfl)
 split at h
 .exact S5 h
 .exact S5 h
 exact h.elim
theorem LD {place : Nat -> Option (Nat × Nat)} {k : A7 (List LV)} : ∀ {ps : List (Nat × LV)} {cells : List LV}, I3 AB place cells ps k -> ∃ l, G5 AB place cells ps (· = l) /\ k.f l
 | [], _, h => ⟨_, rfl, h⟩
 | (i, v) :: rest, cells, h => by
  obtain ⟨p, h1, h⟩ := AU.1 h
  obtain ⟨ti, h2, h⟩ := AT.1 h
  obtain ⟨ls, h3, ⟨h4, h5⟩, h⟩ := AU.1 h
  obtain ⟨l, h6, h7⟩ := LD h
  exact ⟨l, ⟨p.1, p.2, ti, ls, h1, h2, h3, h4, h5, h6⟩, h7⟩
theorem LF {place : Nat -> Option (Nat × Nat)} {f : List LV -> LV} {l : List LV} : ∀ {ps : List (Nat × LV)} {cells : List LV}, G5 AB place cells ps (· = l) -> G5 AB place cells ps fun c => f c = f l
 | [], _, h => congrArg f h
 | (i, v) :: rest, cells, ⟨off, t, ti, ls, h1, h2, h3, h4, h5, h6⟩ => ⟨off, t, ti, ls, h1, h2, h3, h4, h5, LF h6⟩
theorem Hb {d : Int} {x : Option LV} {k : A7 Int} (h : I4 d x k) : ∃ n, (∀ k' : Int -> Prop, k' n -> FO d x k') /\ k.f n := by
 unfold I4 at h; unfold FO
 split at h
 .exact ⟨_, fun _ h => h, h⟩
 .exact ⟨_, fun _ h => h, h⟩
 exact h.elim
theorem Ui {h : AO} {ti : TI} {p : LV} {k : A7 LV} (hl : Ok h ti p k) : ∃ l, Fc h ti p (· = l) /\ k.f l := by
 unfold Ok at hl
 unfold Fc
 split at hl
 .obtain ⟨r, h1, h2⟩ := AU.1 hl
  exact ⟨r, ⟨r, h1, rfl⟩, h2⟩
 .obtain ⟨o, h1, hl⟩ := AU.1 hl
  obtain ⟨cells, rfl, hl⟩ := HZ.1 hl
  obtain ⟨r, h2, h3⟩ := AU.1 hl
  exact ⟨r, ⟨cells, r, h1, h2, rfl⟩, h3⟩
 .obtain ⟨o, h1, hl⟩ := AU.1 hl
  obtain ⟨e, sz, elems, rfl, hl⟩ := Ew.1 hl
  obtain ⟨x, h2, hl⟩ := AU.1 hl
  obtain ⟨r, h3, h4⟩ := AU.1 hl
  exact ⟨r, ⟨e, sz, elems, x, r, h1, h2, h3, rfl⟩, h4⟩
 exact hl.elim
theorem Tv {t : Nat} {x : LV} {lo hi : Option LV} {k : A7 LV} (h : I5 AB t x lo hi k) : ∃ l, I6 AB t x lo hi (· = l) /\ k.f l := by
 unfold I5 at h
 unfold I6
 split at h
 .obtain ⟨ti, h1, h⟩ := AT.1 h
  obtain ⟨e, h2, h⟩ := CL.1 h
  obtain ⟨te, h3, h4, h⟩ := AT.1 h
  obtain ⟨a, ka, h⟩ := Hb h
  obtain ⟨b, kb, h5, h⟩ := Hb h
  exact ⟨_, ⟨⟨ti, e, h1, h2, te, h3, h4⟩, ka _ (kb _ ⟨h5.1, h5.2.1, h5.2.2, rfl⟩)⟩, h⟩
 .obtain ⟨ti, h1, h⟩ := AT.1 h
  obtain ⟨e, h2, h⟩ := CL.1 h
  obtain ⟨te, h3, h4, h6, h⟩ := AT.1 h
  obtain ⟨a, ka, h⟩ := Hb h
  obtain ⟨b, kb, h5, h⟩ := Hb h
  exact ⟨_, ⟨⟨ti, e, h1, h2, te, h3, h4⟩, h6, ka _ (kb _ ⟨h5.1, h5.2.1, h5.2.2, rfl⟩)⟩, h⟩
 .obtain ⟨ti, h1, h2, h⟩ := AT.1 h
  obtain ⟨a, ka, h⟩ := Hb h
  obtain ⟨b, kb, h5, h⟩ := Hb h
  exact ⟨_, ⟨⟨ti, h1, h2⟩, ka _ (kb _ ⟨h5.1, h5.2.1, h5.2.2, rfl⟩)⟩, h⟩
 exact h.elim
theorem W5 {st : St} {dst : Option Tmp} {op : Op} {K : A7 St} (hK : ∀ (s : St) (c : Nat), K.f (s.at c) -> K.f s) (h : Fk P A AB st dst op K) {o : Oper} (ho : o.dst = dst) :
  ∃ l e, CE P AB st op l e /\ K.f (apS st st.ctr o l e) := by
 subst ho
 have keep : ∀ l, K.f (st.put o.dst l) -> K.f (apS st st.ctr o l .keep) := fun l h => by
  have : apS st st.ctr o l .keep = st.put o.dst l := rfl
  rw [this]; exact h
 have goes : ∀ l e h' c, e.ap st.ctr st.heap = h' -> K.f (st.go o.dst l h' c) -> K.f (apS st st.ctr o l e) := fun l e h' c he hk => by
  refine hK _ c ?_
  have : (apS st st.ctr o l e).at c = st.go o.dst l h' c := by
   unfold apS St.go St.at St.put
   rw [he]
   cases o.dst <;> rfl
  rw [this]; exact hk
 have nC : ∀ l, nW AB st op (· = l) -> (CE P AB st op l .keep ↔ (Dy.keep = Dy.keep /\ nW AB st op (· = l))) -> K.f (st.put o.dst l) -> ∃ l e, CE P AB st op l e /\ K.f (apS st st.ctr o l e) :=
  fun l h1 h2 h3 => ⟨l, .keep, h2.2 ⟨rfl, h1⟩, keep l h3⟩
 cases op <;> simp only [Fk, BJ] at h
 case move x => exact nC _ rfl Iff.rfl h
 case assign x => exact nC _ rfl Iff.rfl h
 case pick c a b => obtain ⟨t, h1, h2⟩ := Jb.1 h; exact nC _ ⟨t, h1, rfl⟩ Iff.rfl h2
 case nilCheck x =>
  unfold Vf at h
  split at h <;> first | exact h.elim | (rename_i e; refine nC _ ?_ Iff.rfl h; simp only [nW, e]; exact ⟨trivial, trivial⟩)
 case binOp op t x y z => obtain ⟨l, h1, h2⟩ := Vq h; exact nC l h1 Iff.rfl h2
 case unOp op t x =>
  cases op <;> simp only at h
  case neg => obtain ⟨kk, n, h1, h2⟩ := CW.1 h; exact nC _ (by simp only [nW, S4, h1]) Iff.rfl h2
  case not => obtain ⟨b, h1, h2⟩ := Jb.1 h; exact nC _ (by simp only [nW, S4, h1]) Iff.rfl h2
 case convert s d x =>
  obtain ⟨kk, n, h1, h⟩ := CW.1 h
  obtain ⟨tj, h2, h⟩ := AT.1 h
  obtain ⟨ti, h3, h⟩ := AT.1 h
  obtain ⟨kd, h4, h⟩ := AU.1 h
  refine nC _ ⟨kk, n, ti, tj, h1, h2, h3, kd, ?_, rfl⟩ Iff.rfl h
  generalize ti.sh = q at h4
  cases q <;> simp [Tp] at h4
  rw [h4]
 case extract t i =>
  unfold Vg at h
  split at h
  .rename_i l hl; obtain ⟨v, h1, h2⟩ := AU.1 h; exact nC v (by simp only [nW, hl]; exact ⟨v, h1, rfl⟩) Iff.rfl h2
  .rename_i l hl; obtain ⟨v, h1, h2⟩ := AU.1 h; exact nC _ (by simp only [nW, hl]; exact ⟨v, h1, rfl⟩) Iff.rfl h2
  exact h.elim
 case field t x i =>
  obtain ⟨ti, h1, h⟩ := AT.1 h
  obtain ⟨fs, h2, h⟩ := EV.1 h
  obtain ⟨f, h3, h⟩ := AU.1 h
  obtain ⟨tf, h4, h⟩ := AT.1 h
  try dsimp only at h
  unfold Vh at h
  split at h
  .rename_i l hl
   obtain ⟨v, h5, h6⟩ := AU.1 h
   exact nC v ⟨ti, fs, f.1, f.2, tf, l, v, h1, h2, h3, h4, by rw [hl]; rfl, by rw [hl]; trivial, h5, rfl⟩ Iff.rfl h6
  .rename_i l hl
   obtain ⟨v, h5, h6⟩ := AU.1 h
   exact nC v ⟨ti, fs, f.1, f.2, tf, l.map .p, v, h1, h2, h3, h4, by rw [hl]; rfl, by rw [hl]; trivial, h5, rfl⟩ Iff.rfl h6
  exact h.elim
 case build t ps =>
  obtain ⟨ti, h1, h⟩ := AT.1 h
  try dsimp only at h
  unfold MU at h
  split at h
  .rename_i fs hsh
   obtain ⟨l, h2, h3⟩ := LD h.2
   exact nC _ ⟨ti, h1, by simp only [hsh]; exact ⟨h.1, LF h2⟩⟩ Iff.rfl h3
  .rename_i n e hsh
   obtain ⟨te, h2, h⟩ := AT.1 h
   obtain ⟨l, h3, h4⟩ := LD h
   exact nC _ ⟨ti, h1, by simp only [hsh]; exact ⟨te, h2, LF h3⟩⟩ Iff.rfl h4
  exact h.elim
 case fieldAddr t x i =>
  obtain ⟨ti, h1, h⟩ := AT.1 h
  obtain ⟨fs, h2, h⟩ := EV.1 h
  obtain ⟨f, h3, h⟩ := AU.1 h
  obtain ⟨tf, h4, h5, h⟩ := AT.1 h
  try dsimp only at h
  unfold Tn at h
  split at h <;> first | exact h.elim | (rename_i e; exact nC _ ⟨ti, fs, f.1, f.2, tf, h1, h2, h3, h4, h5, by simp only [e]⟩ Iff.rfl h)
 case indexAddr t x i =>
  obtain ⟨kk, n, h1, h⟩ := CW.1 h
  obtain ⟨ti, h2, h⟩ := AT.1 h
  try dsimp only at h
  unfold Xk at h
  split at h
  .rename_i e1 e2
   obtain ⟨te, g1, g2, g3, h⟩ := AT.1 h
   obtain ⟨c, g4, g5⟩ := AU.1 h
   exact nC _ ⟨kk, n, ti, h1, h2, by simp only [e1, e2]; exact ⟨⟨te, g1, g2⟩, g3, c, g4, rfl⟩⟩ Iff.rfl g5
  .rename_i e1 e2
   obtain ⟨te, g1, g2, ⟨g3, g4⟩, h⟩ := AT.1 h
   exact nC _ ⟨kk, n, ti, h1, h2, by simp only [e1, e2]; exact ⟨⟨te, g1, g2⟩, g3, g4, trivial⟩⟩ Iff.rfl h
  .rename_i e1 e2
   obtain ⟨te, g1, ⟨g2, g3⟩, h⟩ := AT.1 h
   exact nC _ ⟨kk, n, ti, h1, h2, by simp only [e1, e2]; exact ⟨te, g1, g2, g3, rfl⟩⟩ Iff.rfl h
  .rename_i e1 e2
   obtain ⟨te, g1, ⟨g2, g3⟩, h⟩ := AT.1 h
   exact nC _ ⟨kk, n, ti, h1, h2, by simp only [e1, e2]; exact ⟨te, g1, g2, g3, rfl⟩⟩ Iff.rfl h
  exact h.elim
 case index t x i =>
  obtain ⟨kk, n, h1, h⟩ := CW.1 h
  obtain ⟨ti, h2, h0, h⟩ := AT.1 h
  try dsimp only at h
  unfold Xl at h
  split at h
  .rename_i e1 e2
   obtain ⟨te, g1, g2, h⟩ := AT.1 h
   obtain ⟨v, g3, g4⟩ := AU.1 h
   exact nC v ⟨kk, n, ti, h1, h2, h0, by simp only [e1, e2]; exact ⟨te, v, g1, g2, g3, rfl⟩⟩ Iff.rfl g4
  .rename_i e1 e2
   obtain ⟨te, g1, g2, h⟩ := AT.1 h
   obtain ⟨v, g3, g4⟩ := AU.1 h
   exact nC v ⟨kk, n, ti, h1, h2, h0, by simp only [e1, e2]; exact ⟨te, v, g1, g2, g3, rfl⟩⟩ Iff.rfl g4
  .rename_i e1 e2
   obtain ⟨c, g1, g2⟩ := AU.1 h
   exact nC _ ⟨kk, n, ti, h1, h2, h0, by simp only [e1, e2]; exact ⟨c, g1, rfl⟩⟩ Iff.rfl g2
  exact h.elim
 case makeFunc fn first caps =>
  cases fn <;> simp only at h
  rename_i f
  exact nC _ ⟨by simpa using h.1, f, rfl, rfl⟩ Iff.rfl h.2
 case slice t x lo hi mx =>
  cases mx with
  | some m => exact h.elim
  | none => obtain ⟨l, h1, h2⟩ := Tv h; exact nC l ⟨rfl, h1⟩ Iff.rfl h2
 case load t x =>
  obtain ⟨hc', h⟩ := h
  obtain ⟨ti, h1, h2⟩ := AT.1 h
  obtain ⟨l, h3, h4⟩ := Ui h2
  exact ⟨l, .keep, ⟨rfl, hc', ti, h1, h3⟩, keep l h4⟩
 case store t x v =>
  obtain ⟨hc', h⟩ := h
  obtain ⟨ti, h1, h⟩ := AT.1 h
  obtain ⟨ls, h2, ⟨h3, h4⟩, h⟩ := AU.1 h
  try dsimp only at h
  unfold RN at h
  split at h
  .rename_i id off e
   obtain ⟨o', g1, h⟩ := AU.1 h
   obtain ⟨cells, rfl, g2, h⟩ := HZ.1 h
   refine ⟨.any, .set _, ⟨hc', _, rfl, ?_⟩, goes _ _ _ _ rfl h⟩
   simp only [mW, H4]
   exact ⟨ti, h1, ls, h2, h3, h4, by simp only [e]; exact ⟨cells, g1, g2, trivial, rfl⟩⟩
  .rename_i id i off e
   obtain ⟨o', g1, h⟩ := AU.1 h
   obtain ⟨e', sz, elems, rfl, h⟩ := Ew.1 h
   obtain ⟨x, g2, h⟩ := AU.1 h
   obtain ⟨ds, g3, g4, h⟩ := AU.1 h
   refine ⟨.any, .set _, ⟨hc', _, rfl, ?_⟩, goes _ _ _ _ rfl h⟩
   simp only [mW, H4]
   exact ⟨ti, h1, ls, h2, h3, h4, by simp only [e]; exact ⟨e', sz, elems, x, ds, g1, g2, g4, g3, trivial, rfl⟩⟩
  exact h.elim
 case alloc t => obtain ⟨ti, h1, h2⟩ := AT.1 h; exact ⟨_, .new _, ⟨ti, h1, rfl, rfl⟩, goes _ _ _ _ rfl h2⟩
 case box t x => obtain ⟨ls, h1, h2⟩ := AU.1 h; exact ⟨_, .new _, ⟨ls, h1, rfl, rfl⟩, goes _ _ _ _ rfl h2⟩
 case buildSlice t n ps =>
  obtain ⟨ti, h1, h⟩ := AT.1 h
  obtain ⟨e, h2, h⟩ := CL.1 h
  obtain ⟨te, h3, ⟨h4, h5⟩, h⟩ := AT.1 h
  obtain ⟨l, h6, h7, h⟩ := AU.1 h
  rcases h with h | h
  .exact ⟨_, .new _, ⟨ti, e, te, l, h1, h2, h3, h4, h5, h6, h7, .inl ⟨rfl, rfl⟩⟩, goes _ _ _ _ rfl h⟩
  exact ⟨_, .keep, ⟨ti, e, te, l, h1, h2, h3, h4, h5, h6, h7, .inr ⟨rfl, rfl⟩⟩, keep _ h⟩
 case makeSlice t l c =>
  obtain ⟨ti, h1, h⟩ := AT.1 h
  obtain ⟨e, h2, h⟩ := CL.1 h
  obtain ⟨te, h3, h⟩ := AT.1 h
  obtain ⟨k1, n, h4, h⟩ := CW.1 h
  obtain ⟨k2, n', h5, ⟨h9, h6, h7, h8⟩, h⟩ := CW.1 h
  simp only at h9
  subst h9
  rcases h with h | h
  .exact ⟨_, .new _, ⟨ti, e, te, n', k1, k2, h1, h2, h3, h4, h5, h6, h7, h8, .inl ⟨rfl, rfl⟩⟩, goes _ _ _ _ rfl h⟩
  exact ⟨_, .keep, ⟨ti, e, te, n', k1, k2, h1, h2, h3, h4, h5, h6, h7, h8, .inr ⟨rfl, rfl⟩⟩, keep _ h⟩
 case makeMap t r =>
  cases r with
  | some r => exact h.elim
  | none => exact ⟨_, .new _, ⟨rfl, rfl, rfl⟩, goes _ _ _ _ rfl h⟩
 case lookup t x i ok =>
  obtain ⟨ti, h1, h⟩ := AT.1 h
  obtain ⟨kt, et, h2, h⟩ := D1.1 h
  obtain ⟨te, h3, h⟩ := AT.1 h
  obtain ⟨m, h4, h⟩ := AU.1 h
  obtain ⟨kd, h5, ⟨h6, h7⟩, h⟩ := DC.1 h
  exact ⟨_, .keep, ⟨rfl, ti, kt, et, te, m, kd, h1, h2, h3, h4, h5, h6, h7, rfl⟩, keep _ h⟩
 case mapUpdate t x i v =>
  obtain ⟨ti, h1, h⟩ := AT.1 h
  obtain ⟨kt, et, h2, h⟩ := D1.1 h
  obtain ⟨id, h3, h⟩ := EI.1 h
  obtain ⟨o', h4, h⟩ := AU.1 h
  obtain ⟨m, rfl, h⟩ := Ev.1 h
  obtain ⟨kd, h5, h⟩ := DC.1 h
  obtain ⟨vd, h6, ⟨h7, h8⟩, h⟩ := DC.1 h
  refine ⟨.any, .set _, ⟨_, rfl, ?_⟩, goes _ _ _ _ rfl h⟩
  simp only [mW, KW]
  exact ⟨ti, kt, et, id, m, kd, vd, h1, h2, h3, h4, h5, h6, h7, h8, trivial, rfl⟩
 case mapEntry t x i =>
  obtain ⟨ti, h1, h⟩ := AT.1 h
  obtain ⟨kt, et, h2, h⟩ := D1.1 h
  obtain ⟨te, h3, h⟩ := AT.1 h
  obtain ⟨id, h4, h⟩ := EI.1 h
  obtain ⟨o', h5, h⟩ := AU.1 h
  obtain ⟨m, rfl, h⟩ := Ev.1 h
  obtain ⟨kd, h6, ⟨h7, h8⟩, h⟩ := DC.1 h
  refine ⟨_, .set _, ⟨_, rfl, ?_⟩, goes _ _ _ _ rfl h⟩
  simp only [mW, KX]
  exact ⟨ti, kt, et, te, id, m, kd, h1, h2, h3, h4, h5, h6, h7, h8, rfl, rfl⟩
 case entryStore t x s v =>
  obtain ⟨id, h1, h⟩ := EI.1 h
  obtain ⟨o', h2, h⟩ := AU.1 h
  obtain ⟨m, rfl, h⟩ := Ev.1 h
  obtain ⟨kk, n, h3, h⟩ := CW.1 h
  obtain ⟨vd, h4, h0, h⟩ := DC.1 h
  obtain ⟨p, h5, h⟩ := AU.1 h
  refine ⟨.any, .set _, ⟨_, rfl, ?_⟩, goes _ _ _ _ rfl h⟩
  simp only [mW, MP]
  exact ⟨id, m, kk, n, vd, p, h1, h2, h3, h0, h5, h4, trivial, rfl⟩
 case call c =>
  obtain ⟨callee, args, ats⟩ := c
  simp only at h
  split at h
  .rename_i x t e2 e3
   obtain ⟨ti, h1, h⟩ := AT.1 h
   have ha : args = #[x] := by rw [<- Array.toList_inj, e2]
   have hb : ats = #[t] := by rw [<- Array.toList_inj, e3]
   try dsimp only at h
   unfold Tu at h
   split at h
   .rename_i g; exact nC _ (by simp only [nW]; exact ⟨x, t, ti, ha, hb, h1, by simp only [g]⟩) Iff.rfl h
   .rename_i g1 g2; exact nC _ (by simp only [nW]; exact ⟨x, t, ti, ha, hb, h1, by simp only [g1, g2, I7]; try (intros; trivial)⟩) Iff.rfl h
   .rename_i g1 g2; exact nC _ (by simp only [nW]; exact ⟨x, t, ti, ha, hb, h1, by simp only [g1, g2, I7]; try (intros; trivial)⟩) Iff.rfl h
   .rename_i g1 g2; exact nC _ (by simp only [nW]; exact ⟨x, t, ti, ha, hb, h1, by simp only [g1, g2, I7]; try (intros; trivial)⟩) Iff.rfl h
   .rename_i g1 g2; exact nC _ (by simp only [nW]; exact ⟨x, t, ti, ha, hb, h1, by simp only [g1, g2, I7]; try (intros; trivial)⟩) Iff.rfl h
   exact h.elim
  .exact h.elim
  .exact h.elim
  .rename_i s0 r0 e20
   obtain ⟨hap, h⟩ := h
   have h : Ii P A AB st o.dst ⟨.builtin .append, args, ats⟩ K := h
   unfold Ii at h
   simp only at h
   split at h
   .simp_all
   .rename_i s x t t' _ e2 e3
    obtain ⟨rfl, h⟩ := h
    obtain ⟨ti, h1, h⟩ := AT.1 h
    obtain ⟨e, h2, h⟩ := CL.1 h
    obtain ⟨te, h3, h4, h⟩ := AT.1 h
    obtain ⟨new, h5, h6, h⟩ := AU.1 h
    have ha : args = #[s, x] := by rw [<- Array.toList_inj, e2]
    have hap : Ua AB st ⟨.builtin .append, args, ats⟩ := fun s' hs' => by
     rw [ha] at hs'; cases hs'
     have : s0 = s := by rw [e20] at e2; injection e2
     rw [<- this]; exact hap
    have hb : ats = #[t', t'] := by rw [<- Array.toList_inj, e3]
    try dsimp only at h
    unfold RO at h
    split at h
    .rename_i e9
     refine ⟨_, .set _, ⟨hap, _, rfl, ?_⟩, goes _ _ _ _ rfl h.2⟩
     simp only [mW]
     exact ⟨trivial, s, x, t', ha, hb, ti, e, te, h1, h2, h3, h4, new, h5, h6, by simp only [e9]; exact ⟨h.1.1, h.1.2, trivial, trivial⟩⟩
    .rename_i id sz off len e9
     obtain ⟨hsz, h⟩ := h
     obtain ⟨o', g1, h⟩ := AU.1 h
     obtain ⟨e', sz', elems, rfl, ⟨k1, k2, g2, g3, g4⟩, h9⟩ := Ew.1 h
     subst k1; subst k2
     refine ⟨_, .set _, ⟨hap, _, rfl, ?_⟩, goes _ _ _ _ rfl h9⟩
     simp only [mW]
     exact ⟨trivial, s, x, t', ha, hb, ti, e', te, h1, h2, h3, h4, new, h5, h6, by simp only [e9]; exact ⟨elems, hsz, g1, g2, g3, g4, trivial, rfl⟩⟩
    exact h.elim
   all_goals simp_all
  .rename_i f
   split at h
   .rename_i hd
    obtain ⟨l, h', g1, g2⟩ := h
    exact ⟨l, .set h', by show (if CK f = true then _ else _); rw [if_pos hd]; exact ⟨h', rfl, g1⟩, goes _ _ _ _ rfl g2⟩
   rename_i hnd
   obtain ⟨k, caps, g1, g2⟩ := S2.1 h
   rcases g2 with ⟨ds, r, g3, g4, g5, g6⟩ | ⟨g0, ds, t, sz, elems, g3, g4, g5, g6⟩
   .exact ⟨_, .keep, by show (if CK f = true then _ else _); rw [if_neg hnd]; exact .inl ⟨rfl, k, caps, ds, r, g1, g3, g4, g5, rfl⟩, keep _ g6⟩
   exact ⟨_, .new _, by show (if CK f = true then _ else _); rw [if_neg hnd]; exact .inr ⟨g0, k, caps, ds, t, sz, elems, g1, g3, g4, g5, rfl, rfl⟩, goes _ _ _ _ rfl g6⟩
  rename_i hne
  unfold Ii at h
  simp only at h
  split at h
  .simp_all
  .simp_all
  .simp_all
  .rename_i x t e2 e3
   simp_all
  .obtain ⟨r, h1, h⟩ := AU.1 h
   exact nC _ (by simp only [nW]; exact ⟨r, h1, rfl⟩) Iff.rfl h
  .obtain ⟨r, h1, h⟩ := AU.1 h
   exact nC _ (by simp only [nW]; exact ⟨r, h1, rfl⟩) Iff.rfl h
  exact h.elim
 all_goals exact h.elim
def Ed (ops : List Oper) (order : List Nat) : List (Nat × GO) :=
 match order with
 | [] => []
 | i :: rest => match ops[i]? with
  | some o => (i, MT ops o) :: Ed ops rest
  | none => []
theorem Fw {ops : List Oper} {base : Nat} {K : A7 St} : ∀ (order : List Nat) (st : St), (order.all fun i => decide (i < ops.length)) = true -> C6 P A AB base ops.length K (Ed ops order) st ->
  Fd P AB ops.toArray base (fun st' => K.f { st' with ctr := base + ops.length }) order st
 | [], st, _, h => h.h
 | i :: rest, st, hb, h => by
  simp only [List.all_cons, Bool.and_eq_true, decide_eq_true_eq] at hb
  obtain ⟨o, ho⟩ : ∃ o, ops[i]? = some o := ⟨_, List.getElem?_eq_getElem hb.1⟩
  have ih := Fw (ops := ops) (base := base) (K := K) rest
  have hp : Ed ops (i :: rest) = (i, MT ops o) :: Ed ops rest := by simp [Ed, ho]
  rw [hp] at h
  have ho' : ops.toArray[i]? = some o := by simpa using ho
  have step : Fk P A AB (st.at (base + i)) o.dst o.op ⟨C6 P A AB base ops.length K (Ed ops rest), ⟨⟩⟩ ->
    ∃ l e, CE P AB (st.at (base + i)) o.op l e /\ Fd P AB ops.toArray base (fun st' => K.f { st' with ctr := base + ops.length }) rest (apS st (base + i) o l e) := fun h => by
   obtain ⟨l, e, h1, h2⟩ := W5 (fun s c hk => by
    have := Oo (P := P) (A := A) (AB := AB) base ops.length K (Ed ops rest) s c
    simp only at hk ⊢
    rw [<- this]; exact hk) h (o := o) rfl
   refine ⟨l, e, h1, ih _ hb.2 ?_⟩
   have e1 : apS (st.at (base + i)) (st.at (base + i)).ctr o l e = (apS st (base + i) o l e).at (base + i) := by
    unfold apS St.at St.put
    cases o.dst <;> rfl
   simp only at h2
   rw [e1, Oo] at h2
   exact h2
  simp only [Fd, ho']
  simp only [MT] at h
  cases hg : o.guard with
  | none =>
   rw [hg] at h
   exact step h
  | some g =>
   obtain ⟨j, want⟩ := g
   rw [hg] at h
   simp only [C6, QD] at h
   unfold gM at h
   have sk : C6 P A AB base ops.length K (Ed ops rest) (st.put o.dst .und) -> Fd P AB ops.toArray base (fun st' => K.f { st' with ctr := base + ops.length }) rest (apS st (base + i) o .und .keep) := fun h => by
    have e1 : apS st (base + i) o .und .keep = st.put o.dst .und := rfl
    rw [e1]; exact ih _ hb.2 h
   simp only
   split at h
   .rename_i b e
    try simp only [e]
    exact ⟨fun hb => step (h.1 hb), fun hb => sk (h.2 hb)⟩
   .rename_i e
    try simp only [e]
    exact sk h
   exact h.elim
end
end Go.E
/- The equations by which a drawn region is reckoned. Written by a program (mkev.py). No condition. -/
namespace Go.E
open Go Go.RowKit
section
variable {P : Program}
theorem ZG {h : AO} {k : Nat} {args : List LV} {ds : List DV} {r : DV} {f : DV -> Prop} {hf : Gw f} (hds : Bi h args = some ds) (hF : BZ P k ds (· = r))
  (hs : r.scalar = true \/ args.flatMap (Dh h) = []) (hK : f r) : Vp P h k args ⟨f, hf⟩ := ⟨ds, r, hds, hF, hs, hK⟩
end
end Go.E
/- Functions that hand back a slice of their own: the caller may write into it. No condition. -/
namespace Go.E
open Go Go.RowKit
section
variable {P : Program} {A : BF} {AB : A4}
theorem C3.own {h : AO} {ctr k : Nat} {args : List LV} {ds : List DV} {e sz : Nat} {elems : List (List DV)} {K : LV -> AO -> Nat -> Prop} (hds : Bi h args = some ds) (hf : EU P k ds e sz elems)
  (hl : args.flatMap (Dh h) = []) (hK : K (.lsl ctr sz 0 elems.length) ((ctr, .row e sz elems) :: h) (ctr + 1)) : C3 P A h ctr k args K := by
 refine ⟨hf.enters, fun μ w vs hh hsz hr => ?_⟩
 obtain ⟨g1, g2⟩ := ET hh (l := args.flatMap (Dh h)) hds (fun id hid => hid)
 rw [hl] at g2
 have hO : ∀ b, Ac A μ h b -> b < w.heap.size := by
  rintro b (hb | ⟨id, x, lc, h1, h2, h3, rfl⟩)
  .exact Nat.lt_of_lt_of_le (A.hO b hb).1 hh.size
  exact (hh.base id x lc h1 h2 h3).1
 refine (hf.run (Ac A μ h) w vs hO (by omega) fun i v d hv hd => ?_).mono fun en w' ⟨v, he, hn, hb⟩ => ?_
 .have hi := (List.getElem?_eq_some_iff.1 hd).1
  have hx : args[i]? = some (args[i]'(by omega)) := List.getElem?_eq_getElem _
  exact g2 i v _ d hx hd (hr i v _ hv hx)
 have hno : μ ctr = none := hh.fresh ctr (Nat.le_refl _)
 obtain ⟨hlen, hn⟩ := hn
 have hkm : BW (Bx μ h) w w' := ⟨hb.size, fun b hb' _ => hb.block b hb'⟩
 have hsub : ∀ id x, AE id ((ctr, A9.row e sz elems) :: h) = some x -> (id = ctr /\ x = .row e sz elems) \/ AE id h = some x := by
  intro id x hx
  simp only [AE] at hx
  split at hx
  .cases hx; exact .inl ⟨‹_›, rfl⟩
  exact .inr hx
 have hold : ∀ id x lc, AE id ((ctr, A9.row e sz elems) :: h) = some x -> id ≠ ctr -> μ id = some lc -> lc.nil = false -> w'.heap[lc.b]? = w.heap[lc.b]? := by
  intro id x lc hx hne hm hnl
  rcases hsub id x hx with ⟨rfl, _⟩ | hx
  .exact absurd rfl hne
  exact hb.block _ (hh.base id x lc hx hm hnl).1
 have fin : ∀ (loc : Ba), (loc.nil = false -> loc.b < w'.heap.size /\ w.heap.size <= loc.b) ->
   (∀ O' : Nat -> Prop, (∀ b, O' b -> Ac A μ h b \/ (loc.nil = false /\ b = loc.b)) -> Dn O' (Bt μ ctr loc) w' loc (.row e sz elems)) ->
   (∀ O', Aa O' (Bt μ ctr loc) w' v (.lsl ctr sz 0 elems.length)) ->
   ∃ u l h' c' μ', en = .returned u /\ K l h' c' /\ HRel A μ' h' (Fr c') w' /\ Aa (Ac A μ' h') μ' w' u l /\ ∀ v x, Aa (Ac A μ h) μ w v x -> Aa (Ac A μ' h') μ' w' v x := by
  intro loc hloc ho hu
  have hfr : JX μ h ((ctr, A9.row e sz elems) :: h) w loc := fun hn => .inl (hloc hn).2
  have hown := hh.sub_add loc (.row e sz elems) ((ctr, .row e sz elems) :: h) hfr hsub
  have hcov : ∀ b, Ac A (Bt μ ctr loc) ((ctr, .row e sz elems) :: h) b -> Ac A μ h b \/ (loc.nil = false /\ b = loc.b) := by
   rintro b (hb' | ⟨id, x, lc, h1, h2, h3, h4⟩)
   .exact .inl (.inl hb')
   by_cases e' : id = ctr
   .subst e'
    simp only [Bt, if_true, Option.some.injEq] at h2
    subst h2; exact .inr ⟨h3, h4.symm⟩
   rcases hsub id x h1 with ⟨e'', _⟩ | h1
   .exact absurd e'' e'
   simp only [Bt, e', if_false] at h2
   exact .inl (.inr ⟨id, x, lc, h1, h2, h3, h4⟩)
  have hadd := hh.add (w' := w') hno loc (.row e sz elems) ((ctr, .row e sz elems) :: h) (fun hn => (hloc hn).1) hfr hsub hkm hold hb.os hb.tape hb.output (ho _ hcov)
  exact ⟨v, _, _, _, _, he, hK, hadd.less (fun id hid => by simp only [Fr] at hid ⊢; omega), hu _, fun v x hv => hv.mono hkm.own hown (G1 hno loc)⟩
 rcases hn with ⟨rfl, rfl⟩ | ⟨a, b, o, cap, c, rfl, h1, h2, h3, h4, h5, h6, h7, h8, h9, h10⟩
 .exact fin ⟨true, 0, 0, sz, 0⟩ (fun hn => by cases hn) (fun O' _ => ⟨rfl, hlen, .inl ⟨rfl, rfl⟩⟩) (fun O' => .lsln ctr ⟨true, 0, 0, sz, 0⟩ (by simp [Bt]) rfl)
 refine fin ⟨false, b, o, sz, cap⟩ (fun _ => ⟨h2, h1⟩) (fun O' hO' => ⟨rfl, hlen, .inr ⟨rfl, c, h6, h7, h8, h9, fun i j x d u hx hd hu => ?_⟩⟩) (fun O' => ?_)
 .refine (h10 i j x d u hx hd hu).mono (BW.refl _ _) fun q _ hq => ?_
  rcases hO' q hq with hq | ⟨_, hq⟩
  .exact .inl hq
  exact .inr hq
 exact .lsl ctr 0 elems.length cap a ⟨false, b, o, sz, cap⟩ (by simp [Bt]) rfl (by simp) h8 (fun hc => by rw [h3 hc]; simp) h4 h5
def Tw (t e sz : Nat) (elems : List (List DV)) : Exit -> St -> Prop := K3 fun st =>
 (∃ id, st.eval (.tmp t) = .lsl id sz 0 elems.length /\ AE id st.heap = some (.row e sz elems)) \/ (st.eval (.tmp t) = .p .nils /\ elems = [])
theorem W6 {k : Nat} {fn : Func} {c : Code} (hf : P.funcs[k]? = some fn) (hb : fn.body = some c) (hn : (fn.name == "runtime.NumGoroutine") = false) (nt : Nat) (hnt : fn.ntmps = nt) (t : Nat) (hrs : fn.results.toList = [.tmp t]) {ds : List DV} (hlen : ds.length <= nt)
  {e sz : Nat} {elems : List (List DV)} (hel : ∀ x ∈ elems, x.length = sz)
  (h : ∀ A : BF, (∀ id, A.μ0 id = none) -> B3 P A c (Tw t e sz elems) ⟨nt, DF 0 ds, [], 0⟩) : EU P k ds e sz elems := by
 subst hnt
 refine ⟨Gv hf hb hn, fun O w vs hO hsz hrel => ?_⟩
 let A : BF := ⟨w, O, fun _ => False, fun _ => none, fun b hb => ⟨hO b hb, id⟩⟩
 have hR : R A ⟨fn.ntmps, DF 0 ds, [], 0⟩ { tmps := vs ++ Array.replicate (fn.ntmps - vs.size) undef, defers := [] } w := by
  refine ⟨⟨fun _ => none, ⟨by simp [AE], by simp [AE], fun _ _ => rfl, by simp [AE], Nat.le_refl _, fun _ _ _ => rfl, rfl, rfl, rfl, by simp [A]⟩, fun t ht => ?_⟩, by simp; omega, rfl⟩
  have hown : ∀ b, Ac A (fun _ => none) [] b -> O b := by
   rintro b (hb | ⟨id, x, lc, h1, _⟩)
   .exact hb
   simp [AE] at h1
  simp only [Bh, ML, Nat.zero_le, if_true, Nat.sub_zero]
  by_cases hlt : t < ds.length
  .have hv : t < vs.size := by omega
   have e : ds[t]? = some ds[t] := by simp [hlt]
   rw [e]
   simp only [Option.map_some]
   have e2 : (vs ++ Array.replicate (fn.ntmps - vs.size) undef).getD t undef = vs[t] := by
    rw [Array.getD_eq_getD_getElem?, Array.getElem?_append_left hv]; simp [hv]
   rw [e2]
   exact .p _ _ ((hrel t _ _ (by simp [hv]) e).mono (BW.refl _ _) (fun b _ hb => hown b hb))
  have e : ds[t]? = none := by simp; omega
  rw [e]; exact .any _
 refine calls_of_wp hf hb (wp_mono (h A (fun _ => rfl) _ _ hR) ?_)
 rintro en a' w' ⟨st', ⟨⟨μ, hh, hs⟩, hnt, hdef⟩, hq⟩
 have hres : (results fn a'.tmps).run P w' = .ok (a'.eval (.tmp t)) w' := by
  have : (fn.results.toList.mapM (J5 P a'.tmps)).run P w' = .ok [a'.eval (.tmp t)] w' := by
   rw [hrs]; simp [List.mapM_cons, J5, Act.eval]
  exact J7 this
 have hbel : Below w.heap.size w w' := ⟨hh.os, hh.tape, hh.output, hh.size, fun b hb => hh.block b hb id⟩
 have fin : ((∃ id, st'.eval (.tmp t) = .lsl id sz 0 elems.length /\ AE id st'.heap = some (.row e sz elems)) \/ (st'.eval (.tmp t) = .p .nils /\ elems = [])) ->
   a'.defers = [] /\ ∃ v, (results fn a'.tmps).run P w' = .ok v w' /\ ∃ u, Ending.returned v = .returned u /\ Ix w w' O u e sz elems /\ Below w.heap.size w w' := by
  intro hc
  refine ⟨hdef, _, hres, _, rfl, ?_, hbel⟩
  have hv := Fq hs (.tmp t)
  rcases hc with ⟨id, h1, h2⟩ | ⟨h1, rfl⟩
  .rw [h1] at hv
   generalize a'.eval (.tmp t) = v at hv
   obtain ⟨loc, m1, ⟨_, m2, m3⟩⟩ := hh.obj id _ h2
   refine ⟨hel, ?_⟩
   generalize hq0 : (0 : Nat) = off at hv
   generalize hq1 : elems.length = n at hv
   cases hv with
   | lsln _ loc' k1 k2 => exact .inl ⟨rfl, by cases elems <;> simp_all⟩
   | lsl _ _ _ cap ad loc' k1 k2 k3 k4 k5 k6 k7 =>
    subst hq0; subst hq1
    rw [m1] at k1; cases k1
    rcases m3 with ⟨m4, _⟩ | ⟨m4, c, m5, m6, m7, m8, m9⟩
    .rw [k2] at m4; cases m4
    have hbase := hh.base id _ loc h2 m1 k2
    refine .inr ⟨ad, loc.b, loc.o, cap, c, rfl, ?_, hbase.1, fun hc => by simpa using k5 hc, k6, k7, m5, by rw [show cap = loc.cap by omega]; exact m6, k4, by omega, fun i j x d u hx hd hu => ?_⟩
    .rcases hbase.2.2 with hb | hb
     .exact hb
     exact hb.elim
    refine (m9 i j x d u hx hd hu).mono (BW.refl _ _) fun q _ hq => ?_
    rcases hq with hq | rfl
    .exact .inl hq
    exact .inr ⟨id, _, loc, h2, m1, k2, rfl⟩
  rw [h1] at hv
  exact ⟨by simp, .inl ⟨hv.nils_inv, rfl⟩⟩
 cases en with
 | normal => exact fin hq
 | ret => exact fin hq
 | _ => exact hq.elim
theorem Yn {h : AO} {c k : Nat} {args : List LV} {ds : List DV} {e sz : Nat} {elems : List (List DV)} {f : LV × AO × Nat -> Prop} {hf : Gw f} (hds : Bi h args = some ds) (hF : EU P k ds e sz elems)
  (hs : args.flatMap (Dh h) = []) (hK : f (.lsl c sz 0 elems.length, (c, .row e sz elems) :: h, c + 1)) : G4 P A h c k args ⟨f, hf⟩ :=
 C3.own hds hF hs hK
end
end Go.E
/- Operations reckoned by unfolding alone (Ey, Ez, E0): a run of operations of which each gives its value at once. No condition. -/
namespace Go.E
open Go Go.RowKit
def BU {α : Type} (t : Nat) : List (Nat × α) -> Option α
 | [] => none
 | p :: l => match Nat.beq t p.1 with
  | true => some p.2
  | false => BU t l
theorem BV {α : Type} {t : Nat} : ∀ {l : List (Nat × α)}, BU t l = AE t l
 | [] => rfl
 | (k, v) :: l => by
  simp only [BU, AE]
  by_cases h : t = k
  .subst h; simp
  rw [if_neg h]
  have : Nat.beq t k = false := by
   cases hb : Nat.beq t k with
   | false => rfl
   | true => exact absurd (Nat.eq_of_beq_eq_true hb) h
  rw [this]
  exact BV
def BG (nt : Nat) (sl : List (Nat × LV)) (x : Operand) : LV :=
 match x with
 | .tmp t => match Nat.blt t nt with
  | true => match BU t sl with
   | some v => v
   | none => .any
  | false => .any
 | .const v => NQ v
 | .func f => .fn f []
 | .global _ => .any
theorem BI {nt : Nat} {sl : List (Nat × LV)} {h : AO} {c : Nat} {x : Operand} : BG nt sl x = (⟨nt, sl, h, c⟩ : St).eval x := by
 cases x with
 | tmp t =>
  simp only [BG, St.eval, Bh, BV]
  by_cases hb : t < nt
  .rw [if_pos hb]
   have : Nat.blt t nt = true := Nat.ble_eq_true_of_le hb
   rw [this]; rfl
  rw [if_neg hb]
  have : Nat.blt t nt = false := by
   cases hq : Nat.blt t nt with
   | false => rfl
   | true => exact absurd (Nat.le_of_ble_eq_true hq) hb
  rw [this]
 | const v => rfl
 | func f => rfl
 | global g => rfl
section
variable {α β γ : Type}
def EC : List α -> Nat -> List α
 | l, 0 => l
 | [], _ + 1 => []
 | _ :: l, n + 1 => EC l n
theorem Hd : ∀ {l : List α} {n : Nat}, EC l n = l.drop n
 | l, 0 => by simp [EC]
 | [], _ + 1 => by simp [EC]
 | _ :: l, n + 1 => by simp only [EC, List.drop_succ_cons]; exact Hd
def Ij : List α -> Nat -> (List α -> Option β) -> Option β
 | _, 0, k => k []
 | x :: l, n + 1, k => Ij l n (fun r => k (x :: r))
 | [], _ + 1, _ => none
theorem N8 : ∀ {l : List α} {n : Nat} {k : List α -> Option β}, Ij l n k = (DY l n).bind k
 | _, 0, k => by simp [Ij, DY]
 | x :: l, n + 1, k => by
  simp only [Ij, DY]
  rw [N8]
  cases DY l n <;> rfl
 | [], _ + 1, _ => by simp [Ij, DY]
def Pi : List LV -> (List DV -> Option β) -> Option β -> Option β
 | [], k, _ => k []
 | .p d :: l, k, e => Pi l (fun ds => k (d :: ds)) e
 | _ :: _, _, e => e
theorem Pj : ∀ {l : List LV} {k : List DV -> Option β} {e : Option β}, Pi l k e = match Fv l with | some ds => k ds | none => e
 | [], k, e => by simp [Pi, Fv]
 | x :: l, k, e => by
  cases x with
  | p d =>
   simp only [Pi, Fv]
   rw [Pj]
   cases Fv l <;> rfl
  | _ => rfl
def Pk (l : List LV) (k : LV -> Option β) : Option β := Pi l (fun ds => k (.p (.agg ds))) (k (.agg l))
theorem Pl {l : List LV} {k : LV -> Option β} : Pk l k = k (Ec l) := by
 unfold Pk Ec
 rw [Pj]
 cases Fv l <;> rfl
def Qx (ti : TI) (off : Nat) (l : List LV) (k : LV -> Option β) : Option β :=
 match ti.sh with
 | .struct _ | .arr _ _ => Ij (EC l off) ti.size (fun r => Pk r k)
 | _ => match EC l off with
  | v :: _ => k v
  | [] => none
theorem RU {ti : TI} {off : Nat} {l : List LV} {k : LV -> Option β} : Qx ti off l k = (DX ti off l).bind k := by
 have hd : (match EC l off with
  | v :: _ => k v
  | [] => none) = l[off]?.bind k := by
  rw [Hd]
  cases hq : l.drop off with
  | nil => simp at hq; simp [List.getElem?_eq_none hq]
  | cons v r =>
   have : l[off]? = some v := by
    have := congrArg (·[0]?) hq
    simpa [List.getElem?_drop] using this
   simp [this]
 have ha : Ij (EC l off) ti.size (fun r => Pk r k) = ((DY (l.drop off) ti.size).map Ec).bind k := by
  rw [N8, Hd]
  cases DY (l.drop off) ti.size with
  | none => rfl
  | some r => simp [Pl]
 unfold Qx DX
 cases hsh : ti.sh <;> simp only [Sh.isAgg] <;> first | exact ha | exact hd
def Oq (ti : TI) (off : Nat) (l : List DV) (k : LV -> Option β) : Option β :=
 match ti.sh with
 | .struct _ | .arr _ _ => Ij (EC l off) ti.size (fun r => k (.p (.agg r)))
 | _ => match EC l off with
  | v :: _ => k (.p v)
  | [] => none
theorem QE {f : α -> γ} : ∀ {l : List α} {n : Nat}, DY (l.map f) n = (DY l n).map (List.map f)
 | _, 0 => by simp [DY]
 | x :: l, n + 1 => by
  simp only [List.map_cons, DY]
  rw [QE]
  cases DY l n <;> rfl
 | [], _ + 1 => by simp [DY]
theorem Uj {l : List DV} : Ec (l.map .p) = .p (.agg l) := by simp [Ec, RQ]
theorem N9 {ti : TI} {off : Nat} {l : List DV} {k : LV -> Option β} : Oq ti off l k = (DX ti off (l.map .p)).bind k := by
 have hd : (match EC l off with
  | v :: _ => k (.p v)
  | [] => none) = (l.map LV.p)[off]?.bind k := by
  rw [Hd, List.getElem?_map]
  cases hq : l.drop off with
  | nil => simp at hq; simp [List.getElem?_eq_none hq]
  | cons v r =>
   have : l[off]? = some v := by
    have := congrArg (·[0]?) hq
    simpa [List.getElem?_drop] using this
   simp [this]
 have ha : Ij (EC l off) ti.size (fun r => k (.p (.agg r))) = ((DY ((l.map LV.p).drop off) ti.size).map Ec).bind k := by
  rw [N8, Hd, <- List.map_drop, QE]
  cases DY (l.drop off) ti.size with
  | none => rfl
  | some r => simp [Uj]
 unfold Oq DX
 cases hsh : ti.sh <;> simp only [Sh.isAgg] <;> first | exact ha | exact hd
def LH : List DV -> (List LV -> Option β) -> Option β
 | [], k => k []
 | d :: l, k => LH l (fun r => k (.p d :: r))
theorem I9 : ∀ {l : List DV} {k : List LV -> Option β}, LH l k = k (l.map .p)
 | [], k => rfl
 | d :: l, k => by simp only [LH, List.map_cons]; rw [I9]
def JA (v : LV) (k : List LV -> Option β) : Option β :=
 match v with
 | .p (.agg l) => LH l k
 | .agg l => k l
 | .p (.tup _) | .tup _ | .any | .und => none
 | v => k [v]
theorem H9 {v : LV} {k : List LV -> Option β} : JA v k = v.cells.bind k := by
 cases v with
 | p d => cases d <;> first | rfl | (simp only [JA, LV.cells]; rw [I9]; rfl)
 | _ => rfl
def NT : List LV -> List LV -> (List LV -> Option β) -> Option β
 | l, [], k => k l
 | [], _ :: _, _ => none
 | _ :: l, v :: vs, k => NT l vs (fun r => k (v :: r))
def OA : List LV -> Nat -> List LV -> (List LV -> Option β) -> Option β
 | l, 0, vs, k => NT l vs k
 | [], _ + 1, _, _ => none
 | x :: l, n + 1, vs, k => OA l n vs (fun r => k (x :: r))
theorem RV : ∀ {l vs : List LV} {k : List LV -> Option β} {y : β}, NT l vs k = some y -> vs.length <= l.length /\ k (Cd.over l vs) = some y
 | l, [], k, y, h => by simp only [NT] at h; exact ⟨by simp, by simpa [Cd.over] using h⟩
 | [], _ :: _, _, _, h => by simp [NT] at h
 | _ :: l, v :: vs, k, y, h => by
  simp only [NT] at h
  obtain ⟨h1, h2⟩ := RV h
  exact ⟨by simpa using h1, h2⟩
theorem Pm : ∀ {l : List LV} {n : Nat} {vs : List LV} {k : List LV -> Option β} {y : β}, OA l n vs k = some y -> n + vs.length <= l.length /\ k (Cd l n vs) = some y
 | l, 0, vs, k, y, h => by
  obtain ⟨h1, h2⟩ := RV (by simpa only [OA] using h)
  cases l <;> exact ⟨by simpa using h1, h2⟩
 | [], _ + 1, _, _, _, h => by simp [OA] at h
 | x :: l, n + 1, vs, k, y, h => by
  simp only [OA] at h
  obtain ⟨h1, h2⟩ := Pm h
  exact ⟨by simp only [List.length_cons]; omega, h2⟩
def IQ (t : Nat) (v : A9) : AO -> (AO -> Option β) -> Option β
 | [], k => k []
 | (q, u) :: l, k => match Nat.beq t q with
  | true => k ((q, v) :: l)
  | false => IQ t v l (fun r => k ((q, u) :: r))
theorem GA {t : Nat} {v : A9} : ∀ {l : AO} {k : AO -> Option β}, IQ t v l k = k (Bo t v l)
 | [], k => rfl
 | (q, u) :: l, k => by
  simp only [IQ, Bo]
  by_cases h : t = q
  .subst h; simp
  have : Nat.beq t q = false := by
   cases hb : Nat.beq t q with
   | false => rfl
   | true => exact absurd (Nat.eq_of_beq_eq_true hb) h
  rw [this, if_neg h]
  exact GA
def MW : List LV -> Bool
 | [] => true
 | v :: l => match v.one with
  | true => MW l
  | false => false
theorem MX : ∀ {l : List LV}, MW l = l.all LV.one
 | [] => rfl
 | v :: l => by
  simp only [MW, List.all_cons]
  cases v.one with
  | true => rw [MX]; rfl
  | false => rfl
def Ot (sz : Nat) : Nat -> List (Nat × LV) -> (List (List DV) -> Option β) -> Option β
 | _, [], k => k []
 | n, p :: rest, k => match Nat.beq p.1 n with
  | true => JA p.2 fun ls => Pi ls (fun ds => match Nat.beq ds.length sz with
   | true => Ot sz (n + 1) rest (fun r => k (ds :: r))
   | false => none) none
  | false => none
theorem QF {sz : Nat} : ∀ {ps : List (Nat × LV)} {n : Nat} {k : List (List DV) -> Option β} {y : β}, Ot sz n ps k = some y -> ∃ l, Fm sz n ps = some l /\ k l = some y
 | [], n, k, y, h => ⟨[], by simp [Fm], h⟩
 | (i, v) :: rest, n, k, y, h => by
  simp only [Ot] at h
  split at h
  .rename_i hb
   have hi : i = n := Nat.eq_of_beq_eq_true hb
   subst hi
   rw [H9] at h
   cases hc : v.cells with
   | none => rw [hc] at h; simp at h
   | some ls =>
    rw [hc] at h
    simp only [Option.bind_some] at h
    rw [Pj] at h
    cases ha : Fv ls with
    | none => rw [ha] at h; simp at h
    | some ds =>
     rw [ha] at h
     simp only at h
     split at h
     .rename_i hl
      obtain ⟨r, h1, h2⟩ := QF h
      refine ⟨ds :: r, ?_, h2⟩
      simp only [Fm, if_true, hc, ha, h1]
      rw [if_pos (Nat.eq_of_beq_eq_true hl)]
     cases h
  cases h
def Pn (v : LV) (k : LV -> Option β) : Option β :=
 match v with
 | .p d => k (.p d)
 | .lsl a b c d => k (.lsl a b c d)
 | .lpb a b => k (.lpb a b)
 | .lpe a b c => k (.lpe a b c)
 | .lmap a => k (.lmap a)
 | .agg l => k (.agg l)
 | .tup l => k (.tup l)
 | .fn g l => k (.fn g l)
 | .und => k .und
 | .any => k .any
theorem Ka {v : LV} {k : LV -> Option β} : Pn v k = k v := by cases v <;> rfl
def NU (nt : Nat) (sl : List (Nat × LV)) : List (Nat × Operand) -> (List (Nat × LV) -> Option β) -> Option β
 | [], k => k []
 | (i, x) :: l, k => Pn (BG nt sl x) fun v => NU nt sl l (fun r => k ((i, v) :: r))
theorem LI {nt : Nat} {sl : List (Nat × LV)} : ∀ {l : List (Nat × Operand)} {k : List (Nat × LV) -> Option β}, NU nt sl l k = k (l.map fun p => (p.1, BG nt sl p.2))
 | [], k => rfl
 | (i, x) :: l, k => by simp only [NU, List.map_cons]; rw [Ka, LI]
def C7 (nt : Nat) (sl : List (Nat × LV)) : List Operand -> (List LV -> Option β) -> Option β
 | [], k => k []
 | p :: l, k => Pn (BG nt sl p) fun v => C7 nt sl l (fun r => k (v :: r))
theorem IA {nt : Nat} {sl : List (Nat × LV)} : ∀ {l : List Operand} {k : List LV -> Option β}, C7 nt sl l k = k (l.map fun p => BG nt sl p)
 | [], k => rfl
 | p :: l, k => by simp only [C7, List.map_cons]; rw [Ka, IA]
def MY (AB : A4) (pl : Nat -> Option (Nat × Nat)) : List LV -> List (Nat × LV) -> (List LV -> Option β) -> Option β
 | cells, [], k => k cells
 | cells, (i, v) :: rest, k => match pl i with
  | some (o, ft) => match AB.tt ft with
   | some ti => JA v fun ls => match Nat.beq ls.length ti.size with
    | true => OA cells o ls fun cells' => MY AB pl cells' rest k
    | false => none
   | none => none
  | none => none
theorem MZ {AB : A4} {pl : Nat -> Option (Nat × Nat)} : ∀ {ps : List (Nat × LV)} {cells : List LV} {k : List LV -> Option β} {y : β}, MY AB pl cells ps k = some y ->
  ∃ l, k l = some y /\ ∀ K : A7 (List LV), K.f l -> I3 AB pl cells ps K
 | [], cells, k, y, h => ⟨cells, h, fun _ => id⟩
 | (i, v) :: rest, cells, k, y, h => by
  simp only [MY] at h
  split at h
  .rename_i o ft hq
   split at h
   .rename_i ti hti
    rw [H9] at h
    cases hc : v.cells with
    | none => rw [hc] at h; simp at h
    | some ls =>
     rw [hc] at h
     simp only [Option.bind_some] at h
     split at h
     .rename_i hl
      obtain ⟨h1, h2⟩ := Pm h
      obtain ⟨l, h3, h4⟩ := MZ h2
      refine ⟨l, h3, fun K hk => ?_⟩
      simp only [I3]
      exact AU.2 ⟨(o, ft), hq, AT.2 ⟨ti, hti, AU.2 ⟨ls, hc, ⟨Nat.eq_of_beq_eq_true hl, h1⟩, h4 K hk⟩⟩⟩
     cases h
   cases h
  cases h
def Qy (AB : A4) : List (Nat × Nat) -> Bool
 | [] => true
 | p :: l => match AB.tt p.2 with
  | some _ => Qy AB l
  | none => false
theorem RW {AB : A4} : ∀ {l : List (Nat × Nat)}, Qy AB l = l.all fun p => (AB.tt p.2).isSome
 | [] => rfl
 | p :: l => by
  simp only [Qy, List.all_cons]
  cases AB.tt p.2 with
  | some _ => simp [RW]
  | none => simp
def Vr (op : BinOp) (kk : IntKind) (a b : Int) (k : LV -> Option β) : Option β :=
 match op with
 | .add => k (.p (.int kk (kk.wrap (a + b))))
 | .sub => k (.p (.int kk (kk.wrap (a - b))))
 | .mul => k (.p (.int kk (kk.wrap (a * b))))
 | .eql => k (.p (.bool (a == b)))
 | .neq => k (.p (.bool (a != b)))
 | .lss => k (.p (.bool (decide (a < b))))
 | .leq => k (.p (.bool (decide (a <= b))))
 | .gtr => k (.p (.bool (decide (b < a))))
 | .geq => k (.p (.bool (decide (b <= a))))
 | .xor => k (.p (.int kk (kk.wrap (BitVec.ofInt kk.bits a ^^^ BitVec.ofInt kk.bits b).toNat)))
 | .or => k (.p (.int kk (kk.wrap (BitVec.ofInt kk.bits a ||| BitVec.ofInt kk.bits b).toNat)))
 | _ => none
def Po (AB : A4) (t : Nat) : Bool :=
 match AB.tt t with
 | some ti => match ti.sh with
  | .bool => true
  | _ => false
 | none => false
def Ma : IntKind -> IntKind -> Bool
 | .i8, .i8 | .i16, .i16 | .i32, .i32 | .i64, .i64 | .u8, .u8 | .u16, .u16 | .u32, .u32 | .u64, .u64 => true
 | _, _ => false
theorem Mb {a b : IntKind} (h : Ma a b = true) : a = b := by cases a <;> cases b <;> first | rfl | simp [Ma] at h
def Vs (AB : A4) (op : BinOp) (t : Nat) (x y : LV) (k : LV -> Option β) : Option β :=
 match x, y with
 | .p (.int k1 a), .p (.int k2 b) => match Ma k1 k2 with
  | true => Vr op k1 a b k
  | false => none
 | .p (.str a), .p (.str b) => match op with
  | .eql => k (.p (.bool (a.toList == b.toList)))
  | .neq => k (.p (.bool (!(a.toList == b.toList))))
  | _ => none
 | .p (.bool a), .p (.bool b) => match Po AB t with
  | true => match op with
   | .eql => k (.p (.bool (a == b)))
   | .neq => k (.p (.bool (!(a == b))))
   | _ => none
  | false => none
 | .p (.place _ _), .p .nilp => match AB.ptr t with
  | true => match op with
   | .eql => k (.p (.bool false))
   | .neq => k (.p (.bool true))
   | _ => none
  | false => none
 | .lpb _ _, .p .nilp => match AB.ptr t with
  | true => match op with
   | .eql => k (.p (.bool false))
   | .neq => k (.p (.bool true))
   | _ => none
  | false => none
 | .p .nilp, .p .nilp => match AB.ptr t with
  | true => match op with
   | .eql => k (.p (.bool true))
   | .neq => k (.p (.bool false))
   | _ => none
  | false => none
 | _, _ => none
def Vt (off : Nat) (x : LV) (k : LV -> Option β) : Option β :=
 match x with
 | .lpb id o => k (.lpb id (o + off))
 | .lpe id j o => k (.lpe id j (o + off))
 | .p (.place l o) => k (.p (.place l (o + off)))
 | _ => none
def RX : IntKind -> Int -> List LV -> (Int -> Option β) -> Option β
 | _, n, [], k => k n
 | kk, n, .p (.int j m) :: rest, k => match Ma j kk with
  | true => RX kk (if m > n then m else n) rest k
  | false => none
 | _, _, _ :: _, _ => none
def RY : IntKind -> Int -> List LV -> (Int -> Option β) -> Option β
 | _, n, [], k => k n
 | kk, n, .p (.int j m) :: rest, k => match Ma j kk with
  | true => RY kk (if m < n then m else n) rest k
  | false => none
 | _, _, _ :: _, _ => none
def Ey (AB : A4) (nt : Nat) (sl : List (Nat × LV)) (h : AO) (c : Nat) (op : Op) (k : LV -> AO -> Nat -> Option β) : Option β :=
  match op with
  | .move x | .assign x => Pn (BG nt sl x) fun v => k v h c
  | .pick b x y => match BG nt sl b with
    | .p (.bool b) => match b with
      | true => Pn (BG nt sl x) fun v => k v h c
      | false => Pn (BG nt sl y) fun v => k v h c
    | _ => none
  | .nilCheck x => match BG nt sl x with
    | .lpb i o => k (.lpb i o) h c
    | .lpe i j o => k (.lpe i j o) h c
    | .p (.place l o) => k (.p (.place l o)) h c
    | _ => none
  | .binOp op t x y _ => Vs AB op t (BG nt sl x) (BG nt sl y) fun l => k l h c
  | .unOp op _ x => match op with
    | .not => match BG nt sl x with
      | .p (.bool b) => k (.p (.bool !b)) h c
      | _ => none
    | .neg => match BG nt sl x with
      | .p (.int kk n) => k (.p (.int kk (kk.wrap (0 - n)))) h c
      | _ => none
    | _ => none
  | .convert s d x => match BG nt sl x with
    | .p (.int _ n) => match AB.tt s with
      | some _ => match AB.tt d with
        | some ti => match ti.sh with
          | .int kd => k (.p (.int kd (kd.wrap n))) h c
          | _ => none
        | none => none
      | none => none
    | _ => none
  | .extract t i => match BG nt sl t with
    | .tup l => match EC l i with
      | v :: _ => k v h c
      | [] => none
    | .p (.tup l) => match EC l i with
      | v :: _ => k (.p v) h c
      | [] => none
    | _ => none
  | .field t x i => match AB.tt t with
    | some ti => match ti.sh with
      | .struct fs => match EC fs i with
        | (o, ft) :: _ => match AB.tt ft with
          | some tf => match BG nt sl x with
            | .agg ls => Qx tf o ls fun l => k l h c
            | .p (.agg ds) => Oq tf o ds fun l => k l h c
            | _ => none
          | none => none
        | [] => none
      | _ => none
    | none => none
  | .build t ps => match AB.tt t with
    | some ti => match ti.sh with
      | .struct fs => match Qy AB fs with
        | true => LH ti.zero fun z => NU nt sl ps.toList fun ps' => MY AB (fun i => fs[i]?) z ps' fun cells => Pk cells fun l => k l h c
        | false => none
      | .arr _ e => match AB.tt e with
        | some te => LH ti.zero fun z => NU nt sl ps.toList fun ps' => MY AB (fun i => some (i * te.size, e)) z ps' fun cells => Pk cells fun l => k l h c
        | none => none
      | _ => none
    | none => none
  | .fieldAddr t x i => match AB.tt t with
    | some ti => match ti.sh with
      | .struct fs => match EC fs i with
        | (o, ft) :: _ => match AB.tt ft with
          | some tf => match Nat.blt 0 tf.size with
            | true => Vt o (BG nt sl x) fun l => k l h c
            | false => none
          | none => none
        | [] => none
      | _ => none
    | none => none
  | .makeFunc (.func f) first caps => match first.toList with
    | [] => C7 nt sl caps.toList fun l => k (.fn f l) h c
    | _ => none
  | .load t x => match KU AB.calm (BG nt sl x) with
   | false => none
   | true => match AB.tt t with
    | some ti => match BG nt sl x with
      | .p (.place l off) => Oq ti off l fun v => k v h c
      | .lpb id off => match BU id h with
        | some (.box cells) => Qx ti off cells fun v => k v h c
        | _ => none
      | _ => none
    | none => none
  | .store t x v => match Iy AB.calm (BG nt sl x) with
   | false => none
   | true => match AB.tt t with
    | some ti => match BG nt sl x with
      | .lpb id off => JA (BG nt sl v) fun ls => match Nat.beq ls.length ti.size with
        | true => match MW ls with
          | true => match BU id h with
            | some (.box cells) => OA cells off ls fun cells' => IQ id (.box cells') h fun h' => k .any h' c
            | _ => none
          | false => none
        | false => none
      | _ => none
    | none => none
  | .alloc t => match AB.tt t with
    | some ti => LH ti.zero fun z => k (.lpb c 0) ((c, .box z) :: h) (c + 1)
    | none => none
  | .box _ x => JA (BG nt sl x) fun ls => k (.lpb c 0) ((c, .box ls) :: h) (c + 1)
  | .buildSlice t n ps => match AB.tt t with
    | some ti => match ti.sh with
      | .slc e => match AB.tt e with
        | some te => match Nat.blt 0 te.size && Nat.ble (n * te.size) 16777216 with
          | true => NU nt sl ps.toList fun ps' => Ot te.size 0 ps' fun l => match Nat.beq l.length n with
            | true => k (.lsl c te.size 0 n) ((c, .row e te.size l) :: h) (c + 1)
            | false => none
          | false => none
        | none => none
      | _ => none
    | none => none
  | .makeMap _ none => k (.lmap c) ((c, .map []) :: h) (c + 1)
  | .call ⟨.builtin .len, args, ts⟩ => match args.toList, ts.toList with
    | [x], [t] => match AB.tt t with
      | some ti => match ti.sh, BG nt sl x with
        | .arr n _, _ => k (.p (.int .i64 n)) h c
        | .slc _, .p .nils => k (.p (.int .i64 0)) h c
        | .slc _, .lsl _ _ _ len => k (.p (.int .i64 len)) h c
        | .str, .p (.str s) => k (.p (.int .i64 s.size)) h c
        | _, _ => none
      | none => none
    | _, _ => none
  | .call ⟨.builtin .max, args, _⟩ => C7 nt sl args.toList fun l => match l with
    | .p (.int kk n) :: rest => RX kk n rest fun m => k (.p (.int kk m)) h c
    | _ => none
  | .call ⟨.builtin .min, args, _⟩ => C7 nt sl args.toList fun l => match l with
    | .p (.int kk n) :: rest => RY kk n rest fun m => k (.p (.int kk m)) h c
    | _ => none
  | _ => none
end
end Go.E
/- Operations reckoned by unfolding alone: they are sound (GQ); runs of operations (Ez, E0). No condition. -/
namespace Go.E
open Go Go.RowKit
section
variable {β : Type} {AB : A4} {nt : Nat} {sl : List (Nat × LV)} {hp : AO} {c : Nat}
theorem W8 {op : BinOp} {kk : IntKind} {a b : Int} {k : LV -> Option β} {y : β} (h : Vr op kk a b k = some y) : ∃ l, k l = some y /\ ∀ K : A7 LV, K.f l -> KZ op kk a b K := by
 cases op <;> simp only [Vr] at h <;> first | cases h | exact ⟨_, h, fun K hk => hk⟩
theorem Tz {t : Nat} (h : Po AB t = true) : ∃ ti, AB.tt t = some ti /\ ti.sh = .bool := by
 unfold Po at h
 split at h
 .rename_i ti hti
  split at h
  .exact ⟨ti, hti, ‹_›⟩
  cases h
 cases h
theorem W9 {op : BinOp} {t : Nat} {x y : LV} {k : LV -> Option β} {z : β} (h : Vs AB op t x y k = some z) : ∃ l, k l = some z /\ ∀ K : A7 LV, K.f l -> RL AB op t x y K /\ RR AB op t x y K := by
 unfold Vs at h
 split at h
 .rename_i k1 a k2 b
  split at h
  .rename_i hk
   have := Mb hk
   subst this
   obtain ⟨l, h1, h2⟩ := W8 h
   exact ⟨l, h1, fun K hk => ⟨⟨rfl, h2 K hk⟩, ⟨rfl, h2 K hk⟩⟩⟩
  cases h
 .rename_i a b
  split at h
  .exact ⟨_, h, fun K hk => ⟨hk, hk⟩⟩
  .exact ⟨_, h, fun K hk => ⟨hk, hk⟩⟩
  cases h
 .rename_i a b
  split at h
  .rename_i hb
   obtain ⟨ti, hti, hsh⟩ := Tz hb
   split at h
   .exact ⟨_, h, fun K hk => ⟨AT.2 ⟨ti, hti, hsh, hk⟩, AT.2 ⟨ti, hti, hsh, hk⟩⟩⟩
   .exact ⟨_, h, fun K hk => ⟨AT.2 ⟨ti, hti, hsh, hk⟩, AT.2 ⟨ti, hti, hsh, hk⟩⟩⟩
   cases h
  cases h
 .split at h
  .rename_i hb
   split at h
   .exact ⟨_, h, fun K hk => ⟨⟨hb, hk⟩, ⟨hb, hk⟩⟩⟩
   .exact ⟨_, h, fun K hk => ⟨⟨hb, hk⟩, ⟨hb, hk⟩⟩⟩
   cases h
  cases h
 .split at h
  .rename_i hb
   split at h
   .exact ⟨_, h, fun K hk => ⟨⟨hb, hk⟩, ⟨hb, hk⟩⟩⟩
   .exact ⟨_, h, fun K hk => ⟨⟨hb, hk⟩, ⟨hb, hk⟩⟩⟩
   cases h
  cases h
 .split at h
  .rename_i hb
   split at h
   .exact ⟨_, h, fun K hk => ⟨⟨hb, hk⟩, ⟨hb, hk⟩⟩⟩
   .exact ⟨_, h, fun K hk => ⟨⟨hb, hk⟩, ⟨hb, hk⟩⟩⟩
   cases h
  cases h
 cases h
theorem XA {off : Nat} {x : LV} {k : LV -> Option β} {y : β} (h : Vt off x k = some y) : ∃ l, k l = some y /\ ∀ K : A7 LV, K.f l -> Tn off x K := by
 unfold Vt at h
 split at h
 .exact ⟨_, h, fun K hk => hk⟩
 .exact ⟨_, h, fun K hk => hk⟩
 .exact ⟨_, h, fun K hk => hk⟩
 cases h
theorem G6 {α : Type} {l r : List α} {n : Nat} {x : α} (h : EC l n = x :: r) : l[n]? = some x := by
 rw [Hd] at h
 have := congrArg (·[0]?) h
 simpa [List.getElem?_drop] using this
theorem S6 {kk : IntKind} : ∀ {l : List LV} {n : Int} {k : Int -> Option β} {y : β}, RX kk n l k = some y -> ∃ m, k m = some y /\ By.go (fun x y => if y > x then y else x) kk n l = some m
 | [], n, k, y, h => ⟨n, h, rfl⟩
 | .p (.int j m) :: rest, n, k, y, h => by
  simp only [RX] at h
  split at h
  .rename_i hj
   have := Mb hj
   subst this
   obtain ⟨r, h1, h2⟩ := S6 h
   exact ⟨r, h1, by simp only [By.go, if_true]; exact h2⟩
  cases h
 | .p .nils :: _, _, _, _, h | .p .nilp :: _, _, _, _, h | .p .nilm :: _, _, _, _, h | .p (.bool _) :: _, _, _, _, h | .p (.str _) :: _, _, _, _, h | .p (.agg _) :: _, _, _, _, h | .p (.tup _) :: _, _, _, _, h
 | .p (.slice _ _) :: _, _, _, _, h | .p (.place _ _) :: _, _, _, _, h | .p (.map _) :: _, _, _, _, h | .lsl .. :: _, _, _, _, h | .lpb .. :: _, _, _, _, h | .lpe .. :: _, _, _, _, h | .lmap _ :: _, _, _, _, h | .p (.fn _ _) :: _, _, _, _, h
 | .agg _ :: _, _, _, _, h | .tup _ :: _, _, _, _, h | .fn .. :: _, _, _, _, h | .und :: _, _, _, _, h | .any :: _, _, _, _, h => by simp [RX] at h
theorem S7 {kk : IntKind} : ∀ {l : List LV} {n : Int} {k : Int -> Option β} {y : β}, RY kk n l k = some y -> ∃ m, k m = some y /\ By.go (fun x y => if y < x then y else x) kk n l = some m
 | [], n, k, y, h => ⟨n, h, rfl⟩
 | .p (.int j m) :: rest, n, k, y, h => by
  simp only [RY] at h
  split at h
  .rename_i hj
   have := Mb hj
   subst this
   obtain ⟨r, h1, h2⟩ := S7 h
   exact ⟨r, h1, by simp only [By.go, if_true]; exact h2⟩
  cases h
 | .p .nils :: _, _, _, _, h | .p .nilp :: _, _, _, _, h | .p .nilm :: _, _, _, _, h | .p (.bool _) :: _, _, _, _, h | .p (.str _) :: _, _, _, _, h | .p (.agg _) :: _, _, _, _, h | .p (.tup _) :: _, _, _, _, h
 | .p (.slice _ _) :: _, _, _, _, h | .p (.place _ _) :: _, _, _, _, h | .p (.map _) :: _, _, _, _, h | .lsl .. :: _, _, _, _, h | .lpb .. :: _, _, _, _, h | .lpe .. :: _, _, _, _, h | .lmap _ :: _, _, _, _, h | .p (.fn _ _) :: _, _, _, _, h
 | .agg _ :: _, _, _, _, h | .tup _ :: _, _, _, _, h | .fn .. :: _, _, _, _, h | .und :: _, _, _, _, h | .any :: _, _, _, _, h => by simp [RY] at h
def Uk (AB : A4) (st : St) (op : Op) (l : LV) (h' : AO) (c' : Nat) : Prop :=
 ∀ (P : Program) (A : BF) (dst : Option Tmp) (K : A7 St), K.f (st.go dst l h' c') -> BJ P A AB st dst op K /\ Fk P A AB st dst op K
theorem GQ {op : Op} {k : LV -> AO -> Nat -> Option β} {y : β} (h : Ey AB nt sl hp c op k = some y) : ∃ l h' c', k l h' c' = some y /\ Uk AB ⟨nt, sl, hp, c⟩ op l h' c' := by
 have hev : ∀ x, BG nt sl x = (⟨nt, sl, hp, c⟩ : St).eval x := fun x => BI
 cases op <;> simp only [Ey] at h <;> try (cases h; done)
 case move x => rw [Ka] at h; exact ⟨_, _, _, h, fun P A dst K hk => by rw [hev] at hk; exact ⟨hk, hk⟩⟩
 case assign x => rw [Ka] at h; exact ⟨_, _, _, h, fun P A dst K hk => by rw [hev] at hk; exact ⟨hk, hk⟩⟩
 case pick b x z =>
  split at h
  .rename_i b' hb
   rw [hev] at hb
   simp only [Ka] at h
   split at h
   .exact ⟨_, _, _, h, fun P A dst K hk => by
     rw [hev] at hk
     have : BJ P A AB ⟨nt, sl, hp, c⟩ dst (.pick b x z) K := by simp only [BJ]; rw [hb]; exact hk
     exact ⟨this, this⟩⟩
   exact ⟨_, _, _, h, fun P A dst K hk => by
    rw [hev] at hk
    have : BJ P A AB ⟨nt, sl, hp, c⟩ dst (.pick b x z) K := by simp only [BJ]; rw [hb]; exact hk
    exact ⟨this, this⟩⟩
  cases h
 case nilCheck x =>
  split at h
  .rename_i hx; rw [hev] at hx
   exact ⟨_, _, _, h, fun P A dst K hk => by
    have : BJ P A AB ⟨nt, sl, hp, c⟩ dst (.nilCheck x) K := by simp only [BJ]; rw [hx]; exact hk
    exact ⟨this, this⟩⟩
  .rename_i hx; rw [hev] at hx
   exact ⟨_, _, _, h, fun P A dst K hk => by
    have : BJ P A AB ⟨nt, sl, hp, c⟩ dst (.nilCheck x) K := by simp only [BJ]; rw [hx]; exact hk
    exact ⟨this, this⟩⟩
  .rename_i hx; rw [hev] at hx
   exact ⟨_, _, _, h, fun P A dst K hk => by
    have : BJ P A AB ⟨nt, sl, hp, c⟩ dst (.nilCheck x) K := by simp only [BJ]; rw [hx]; exact hk
    exact ⟨this, this⟩⟩
  cases h
 case binOp op t x z w =>
  obtain ⟨l, h1, h2⟩ := W9 h
  refine ⟨l, _, _, h1, fun P A dst K hk => ?_⟩
  rw [hev, hev] at h2
  exact ⟨(h2 ⟨fun l => K.f (St.put ⟨nt, sl, hp, c⟩ dst l), ⟨⟩⟩ hk).1, (h2 ⟨fun l => K.f (St.put ⟨nt, sl, hp, c⟩ dst l), ⟨⟩⟩ hk).2⟩
 case unOp op t x =>
  split at h
  .split at h
   .rename_i hx; rw [hev] at hx
    exact ⟨_, _, _, h, fun P A dst K hk => by
     have : BJ P A AB ⟨nt, sl, hp, c⟩ dst (.unOp .not t x) K := by simp only [BJ]; rw [hx]; exact hk
     exact ⟨this, this⟩⟩
   cases h
  .split at h
   .rename_i hx; rw [hev] at hx
    exact ⟨_, _, _, h, fun P A dst K hk => by
     have : BJ P A AB ⟨nt, sl, hp, c⟩ dst (.unOp .neg t x) K := by simp only [BJ]; rw [hx]; exact hk
     exact ⟨this, this⟩⟩
   cases h
  cases h
 case convert s d x =>
  split at h
  .rename_i kk n hx; rw [hev] at hx
   split at h
   .rename_i ts hs
    split at h
    .rename_i ti ht
     split at h
     .rename_i kd hsh
      exact ⟨_, _, _, h, fun P A dst K hk => by
       have : BJ P A AB ⟨nt, sl, hp, c⟩ dst (.convert s d x) K := by
        simp only [BJ]; rw [hx]
        exact AT.2 ⟨ts, hs, AT.2 ⟨ti, ht, AU.2 ⟨kd, by rw [hsh]; rfl, hk⟩⟩⟩
       exact ⟨this, this⟩⟩
     cases h
    cases h
   cases h
  cases h
 case extract t i =>
  split at h
  .rename_i l hx; rw [hev] at hx
   split at h
   .rename_i v r hd
    exact ⟨_, _, _, h, fun P A dst K hk => by
     have : BJ P A AB ⟨nt, sl, hp, c⟩ dst (.extract t i) K := by
      simp only [BJ]; rw [hx]
      exact AU.2 ⟨v, G6 hd, hk⟩
     exact ⟨this, this⟩⟩
   cases h
  .rename_i l hx; rw [hev] at hx
   split at h
   .rename_i v r hd
    exact ⟨_, _, _, h, fun P A dst K hk => by
     have : BJ P A AB ⟨nt, sl, hp, c⟩ dst (.extract t i) K := by
      simp only [BJ]; rw [hx]
      exact AU.2 ⟨v, G6 hd, hk⟩
     exact ⟨this, this⟩⟩
   cases h
  cases h
 case field t x i =>
  split at h
  .rename_i ti ht
   split at h
   .rename_i fs hsh
    split at h
    .rename_i o ft r hd
     split at h
     .rename_i tf htf
      split at h
      .rename_i ls hx; rw [hev] at hx
       rw [RU, Option.bind_eq_some_iff] at h
       obtain ⟨v, hv, h⟩ := h
       exact ⟨_, _, _, h, fun P A dst K hk => by
        have : BJ P A AB ⟨nt, sl, hp, c⟩ dst (.field t x i) K := by
         simp only [BJ]; rw [hx]
         exact AT.2 ⟨ti, ht, EV.2 ⟨fs, hsh, AU.2 ⟨(o, ft), G6 hd, AT.2 ⟨tf, htf, AU.2 ⟨v, hv, hk⟩⟩⟩⟩⟩
        exact ⟨this, this⟩⟩
      .rename_i ds hx; rw [hev] at hx
       rw [N9, Option.bind_eq_some_iff] at h
       obtain ⟨v, hv, h⟩ := h
       exact ⟨_, _, _, h, fun P A dst K hk => by
        have : BJ P A AB ⟨nt, sl, hp, c⟩ dst (.field t x i) K := by
         simp only [BJ]; rw [hx]
         exact AT.2 ⟨ti, ht, EV.2 ⟨fs, hsh, AU.2 ⟨(o, ft), G6 hd, AT.2 ⟨tf, htf, AU.2 ⟨v, hv, hk⟩⟩⟩⟩⟩
        exact ⟨this, this⟩⟩
      cases h
     cases h
    cases h
   cases h
  cases h
 case build t ps =>
  split at h
  .rename_i ti ht
   split at h
   .rename_i fs hsh
    split at h
    .rename_i hall
     rw [I9, LI] at h
     obtain ⟨l, h1, h2⟩ := MZ h
     rw [Pl] at h1
     exact ⟨_, _, _, h1, fun P A dst K hk => by
      have : BJ P A AB ⟨nt, sl, hp, c⟩ dst (.build t ps) K := by
       simp only [BJ]
       refine AT.2 ⟨ti, ht, ?_⟩
       simp only [MU, hsh]
       rw [RW] at hall
       refine ⟨hall, ?_⟩
       have := h2 ⟨fun cells => K.f (St.put ⟨nt, sl, hp, c⟩ dst (Ec cells)), ⟨⟩⟩ hk
       simpa only [hev] using this
      exact ⟨this, this⟩⟩
    cases h
   .rename_i n e hsh
    split at h
    .rename_i te hte
     rw [I9, LI] at h
     obtain ⟨l, h1, h2⟩ := MZ h
     rw [Pl] at h1
     exact ⟨_, _, _, h1, fun P A dst K hk => by
      have : BJ P A AB ⟨nt, sl, hp, c⟩ dst (.build t ps) K := by
       simp only [BJ]
       refine AT.2 ⟨ti, ht, ?_⟩
       simp only [MU, hsh]
       refine AT.2 ⟨te, hte, ?_⟩
       have := h2 ⟨fun cells => K.f (St.put ⟨nt, sl, hp, c⟩ dst (Ec cells)), ⟨⟩⟩ hk
       simpa only [hev] using this
      exact ⟨this, this⟩⟩
    cases h
   cases h
  cases h
 case fieldAddr t x i =>
  split at h
  .rename_i ti ht
   split at h
   .rename_i fs hsh
    split at h
    .rename_i o ft r hd
     split at h
     .rename_i tf htf
      split at h
      .rename_i hsz
       obtain ⟨l, h1, h2⟩ := XA h
       rw [hev] at h2
       exact ⟨_, _, _, h1, fun P A dst K hk => by
        have : BJ P A AB ⟨nt, sl, hp, c⟩ dst (.fieldAddr t x i) K := by
         simp only [BJ]
         refine AT.2 ⟨ti, ht, EV.2 ⟨fs, hsh, AU.2 ⟨(o, ft), G6 hd, AT.2 ⟨tf, htf, ?_, h2 ⟨fun l => K.f (St.put ⟨nt, sl, hp, c⟩ dst l), ⟨⟩⟩ hk⟩⟩⟩⟩
         have := Nat.le_of_ble_eq_true hsz
         omega
        exact ⟨this, this⟩⟩
      cases h
     cases h
    cases h
   cases h
  cases h
 case makeFunc fn first caps =>
  cases fn <;> simp only at h <;> try (cases h; done)
  rename_i f
  split at h
  .rename_i hf
   rw [IA] at h
   exact ⟨_, _, _, h, fun P A dst K hk => by
    have : BJ P A AB ⟨nt, sl, hp, c⟩ dst (.makeFunc (.func f) first caps) K := by
     simp only [BJ]
     refine ⟨hf, ?_⟩
     have e : (caps.toList.map fun p => BG nt sl p) = caps.toList.map (St.eval ⟨nt, sl, hp, c⟩) := List.map_congr_left fun x _ => hev x
     rw [e] at hk
     exact hk
    exact ⟨this, this⟩⟩
  cases h
 case load t x =>
  split at h
  .cases h
  rename_i hc'
  rw [hev] at hc'
  split at h
  .rename_i ti ht
   split at h
   .rename_i l off hx; rw [hev] at hx
    rw [N9, Option.bind_eq_some_iff] at h
    obtain ⟨v, hv, h⟩ := h
    exact ⟨_, _, _, h, fun P A dst K hk => by
     have : BJ P A AB ⟨nt, sl, hp, c⟩ dst (.load t x) K := by
      simp only [BJ]; rw [hx]
      exact AT.2 ⟨ti, ht, AU.2 ⟨v, hv, hk⟩⟩
     exact ⟨this, hc', this⟩⟩
   .rename_i id off hx; rw [hev] at hx
    split at h
    .rename_i cells hl
     rw [BV] at hl
     rw [RU, Option.bind_eq_some_iff] at h
     obtain ⟨v, hv, h⟩ := h
     exact ⟨_, _, _, h, fun P A dst K hk => by
      have : BJ P A AB ⟨nt, sl, hp, c⟩ dst (.load t x) K := by
       simp only [BJ]; rw [hx]
       exact AT.2 ⟨ti, ht, AU.2 ⟨_, hl, by dsimp only; refine HZ.2 ⟨cells, rfl, ?_⟩; exact AU.2 ⟨v, hv, hk⟩⟩⟩
      exact ⟨this, hc', this⟩⟩
    cases h
   cases h
  cases h
 case store t x v =>
  split at h
  .cases h
  rename_i hc'
  rw [hev] at hc'
  split at h
  .rename_i ti ht
   split at h
   .rename_i id off hx; rw [hev] at hx
    rw [H9, Option.bind_eq_some_iff] at h
    obtain ⟨ls, hls, h⟩ := h
    rw [hev] at hls
    split at h
    .rename_i hlen
     split at h
     .rename_i hone
      rw [MX] at hone
      split at h
      .rename_i cells hl
       rw [BV] at hl
       obtain ⟨h1, h2⟩ := Pm h
       rw [GA] at h2
       exact ⟨_, _, _, h2, fun P A dst K hk => by
        have : BJ P A AB ⟨nt, sl, hp, c⟩ dst (.store t x v) K := by
         simp only [BJ]; rw [hx]
         exact AT.2 ⟨ti, ht, AU.2 ⟨ls, hls, ⟨Nat.eq_of_beq_eq_true hlen, hone⟩, AU.2 ⟨_, hl, by dsimp only; refine HZ.2 ⟨cells, rfl, ?_⟩; exact ⟨h1, hk⟩⟩⟩⟩
        exact ⟨this, hc', this⟩⟩
      cases h
     cases h
    cases h
   cases h
  cases h
 case alloc t =>
  split at h
  .rename_i ti ht
   rw [I9] at h
   exact ⟨_, _, _, h, fun P A dst K hk => by
    have : BJ P A AB ⟨nt, sl, hp, c⟩ dst (.alloc t) K := by
     simp only [BJ]
     exact AT.2 ⟨ti, ht, hk⟩
    exact ⟨this, this⟩⟩
  cases h
 case box t x =>
  rw [H9, Option.bind_eq_some_iff] at h
  obtain ⟨ls, hls, h⟩ := h
  rw [hev] at hls
  exact ⟨_, _, _, h, fun P A dst K hk => by
   have : BJ P A AB ⟨nt, sl, hp, c⟩ dst (.box t x) K := by
    simp only [BJ]
    exact AU.2 ⟨ls, hls, hk⟩
   exact ⟨this, this⟩⟩
 case buildSlice t n ps =>
  split at h
  .rename_i ti ht
   split at h
   .rename_i e hsh
    split at h
    .rename_i te hte
     split at h
     .rename_i hb
      rw [LI] at h
      obtain ⟨l, h1, h2⟩ := QF h
      split at h2
      .rename_i hlen
       simp only [Bool.and_eq_true] at hb
       exact ⟨_, _, _, h2, fun P A dst K hk => by
        have : BJ P A AB ⟨nt, sl, hp, c⟩ dst (.buildSlice t n ps) K := by
         simp only [BJ]
         simp only [hev] at h1
         exact AT.2 ⟨ti, ht, CL.2 ⟨e, hsh, AT.2 ⟨te, hte, ⟨Nat.le_of_ble_eq_true hb.1, Nat.le_of_ble_eq_true hb.2⟩, AU.2 ⟨l, h1, Nat.eq_of_beq_eq_true hlen, .inl hk⟩⟩⟩⟩
        exact ⟨this, this⟩⟩
      cases h2
     cases h
    cases h
   cases h
  cases h
 case makeMap t r =>
  cases r with
  | some r => cases h
  | none => exact ⟨_, _, _, h, fun P A dst K hk => ⟨hk, hk⟩⟩
 case call cl =>
  obtain ⟨callee, args, ts⟩ := cl
  cases callee with
  | value f => cases h
  | invoke r m => cases h
  | builtin b =>
   cases b <;> simp only at h <;> try (cases h; done)
   case len =>
    split at h
    .rename_i x t hargs hts
     split at h
     .rename_i ti ht
      have ha : args = #[x] := by cases args; simpa using hargs
      have ht' : ts = #[t] := by cases ts; simpa using hts
      subst ha ht'
      have fin : ∀ l, k l hp c = some y -> (∀ K : A7 LV, K.f l -> Vi ti.sh ((⟨nt, sl, hp, c⟩ : St).eval x) K /\ Tu ti.sh ((⟨nt, sl, hp, c⟩ : St).eval x) K) ->
        ∃ l h' c', k l h' c' = some y /\ Uk AB ⟨nt, sl, hp, c⟩ (.call ⟨.builtin .len, #[x], #[t]⟩) l h' c' := fun l h1 h2 => ⟨l, hp, c, h1, fun P A dst K hk => by
       have := h2 ⟨fun l => K.f (St.put ⟨nt, sl, hp, c⟩ dst l), ⟨⟩⟩ hk
       exact ⟨AT.2 ⟨ti, ht, this.1⟩, AT.2 ⟨ti, ht, this.2⟩⟩⟩
      split at h
      .rename_i hsh
       exact fin _ h fun K hk => by rw [hsh]; exact ⟨hk, hk⟩
      .rename_i hsh hx; rw [hev] at hx
       exact fin _ h fun K hk => by rw [hsh, hx]; exact ⟨hk, hk⟩
      .rename_i hsh hx; rw [hev] at hx
       exact fin _ h fun K hk => by rw [hsh, hx]; exact ⟨hk, hk⟩
      .rename_i hsh hx; rw [hev] at hx
       exact fin _ h fun K hk => by rw [hsh, hx]; exact ⟨hk, hk⟩
      cases h
     cases h
    cases h
   case max =>
    rw [IA] at h
    split at h
    .rename_i kk n rest hl
     obtain ⟨m, h1, h2⟩ := S6 h
     exact ⟨_, _, _, h1, fun P A dst K hk => by
      have : BJ P A AB ⟨nt, sl, hp, c⟩ dst (.call ⟨.builtin .max, args, ts⟩) K := by
       simp only [BJ, Ii]
       simp only [hev] at hl
       refine AU.2 ⟨(kk, m), ?_, hk⟩
       show By _ (args.toList.map fun x => St.eval _ x) = _
       rw [hl]
       simp only [By, h2]; rfl
      exact ⟨this, this⟩⟩
    cases h
   case min =>
    rw [IA] at h
    split at h
    .rename_i kk n rest hl
     obtain ⟨m, h1, h2⟩ := S7 h
     exact ⟨_, _, _, h1, fun P A dst K hk => by
      have : BJ P A AB ⟨nt, sl, hp, c⟩ dst (.call ⟨.builtin .min, args, ts⟩) K := by
       simp only [BJ, Ii]
       simp only [hev] at hl
       refine AU.2 ⟨(kk, m), ?_, hk⟩
       show By _ (args.toList.map fun x => St.eval _ x) = _
       rw [hl]
       simp only [By, h2]; rfl
      exact ⟨this, this⟩⟩
    cases h
end
end Go.E
/- Runs of operations (Ez, E0), loops and joins told by plain Lean (AY, T0), rules for a walk in step with a plain function. No condition. -/
namespace Go.E
open Go Go.RowKit
section
variable {β : Type}
def JB : Bool -> Bool -> Bool
 | true, true | false, false => true
 | _, _ => false
theorem JC {a b : Bool} (h : JB a b = true) : a = b := by cases a <;> cases b <;> first | rfl | cases h
theorem LJ {a b : Bool} (h : JB a b = false) : a = !b := by cases a <;> cases b <;> first | rfl | cases h
def Ez (AB : A4) : Nat -> List GO -> Nat -> List (Nat × LV) -> AO -> Nat -> Option (List GO × St)
 | 0, ms, nt, sl, h, c => some (ms, ⟨nt, sl, h, c⟩)
 | _ + 1, [], _, _, _, _ => none
 | n + 1, m :: ms, nt, sl, h, c => match m with
  | ⟨dst, op, g⟩ => match g with
   | none => Ey AB nt sl h c op fun l h' c' => match dst with
    | some t => Ez AB n ms nt ((t, l) :: sl) h' c'
    | none => Ez AB n ms nt sl h' c'
   | some (some d, want) => match BG nt sl (.tmp d) with
    | .p (.bool b) => match JB b want with
     | true => Ey AB nt sl h c op fun l h' c' => match dst with
      | some t => Ez AB n ms nt ((t, l) :: sl) h' c'
      | none => Ez AB n ms nt sl h' c'
     | false => match dst with
      | some t => Ez AB n ms nt ((t, .und) :: sl) h c
      | none => Ez AB n ms nt sl h c
    | .und => match dst with
     | some t => Ez AB n ms nt ((t, .und) :: sl) h c
     | none => Ez AB n ms nt sl h c
    | _ => none
   | some (none, _) => none
def Gp (AB : A4) : List GO -> Nat -> List (Nat × LV) -> AO -> Nat -> Option St
 | [], nt, sl, h, c => some ⟨nt, sl, h, c⟩
 | m :: ms, nt, sl, h, c => match m with
  | ⟨dst, op, g⟩ => match g with
   | none => Ey AB nt sl h c op fun l h' c' => match dst with
    | some t => Gp AB ms nt ((t, l) :: sl) h' c'
    | none => Gp AB ms nt sl h' c'
   | some (some d, want) => match BG nt sl (.tmp d) with
    | .p (.bool b) => match JB b want with
     | true => Ey AB nt sl h c op fun l h' c' => match dst with
      | some t => Gp AB ms nt ((t, l) :: sl) h' c'
      | none => Gp AB ms nt sl h' c'
     | false => match dst with
      | some t => Gp AB ms nt ((t, .und) :: sl) h c
      | none => Gp AB ms nt sl h c
    | .und => match dst with
     | some t => Gp AB ms nt ((t, .und) :: sl) h c
     | none => Gp AB ms nt sl h c
    | _ => none
   | some (none, _) => none
def E0 (AB : A4) (base : Nat) : Nat -> List (Nat × GO) -> Nat -> List (Nat × LV) -> AO -> Option (List (Nat × GO) × List (Nat × LV) × AO)
 | 0, ms, _, sl, h => some (ms, sl, h)
 | _ + 1, [], _, _, _ => none
 | n + 1, m :: ms, nt, sl, h => match m with
  | (i, ⟨dst, op, g⟩) => match g with
   | none => Ey AB nt sl h (base + i) op fun l h' _ => match dst with
    | some t => E0 AB base n ms nt ((t, l) :: sl) h'
    | none => E0 AB base n ms nt sl h'
   | some (some d, want) => match BG nt sl (.tmp d) with
    | .p (.bool b) => match JB b want with
     | true => Ey AB nt sl h (base + i) op fun l h' _ => match dst with
      | some t => E0 AB base n ms nt ((t, l) :: sl) h'
      | none => E0 AB base n ms nt sl h'
     | false => match dst with
      | some t => E0 AB base n ms nt ((t, .und) :: sl) h
      | none => E0 AB base n ms nt sl h
    | .und => match dst with
     | some t => E0 AB base n ms nt ((t, .und) :: sl) h
     | none => E0 AB base n ms nt sl h
    | _ => none
   | some (none, _) => none
def E1 (AB : A4) (base : Nat) : List (Nat × GO) -> Nat -> List (Nat × LV) -> AO -> Option (List (Nat × LV) × AO)
 | [], _, sl, h => some (sl, h)
 | m :: ms, nt, sl, h => match m with
  | (i, ⟨dst, op, g⟩) => match g with
   | none => Ey AB nt sl h (base + i) op fun l h' _ => match dst with
    | some t => E1 AB base ms nt ((t, l) :: sl) h'
    | none => E1 AB base ms nt sl h'
   | some (some d, want) => match BG nt sl (.tmp d) with
    | .p (.bool b) => match JB b want with
     | true => Ey AB nt sl h (base + i) op fun l h' _ => match dst with
      | some t => E1 AB base ms nt ((t, l) :: sl) h'
      | none => E1 AB base ms nt sl h'
     | false => match dst with
      | some t => E1 AB base ms nt ((t, .und) :: sl) h
      | none => E1 AB base ms nt sl h
    | .und => match dst with
     | some t => E1 AB base ms nt ((t, .und) :: sl) h
     | none => E1 AB base ms nt sl h
    | _ => none
   | some (none, _) => none
end
section
variable {P : Program} {A : BF} {AB : A4} {f : St -> Prop} {hf : Gw f} {nt : Nat} {sl : List (Nat × LV)} {h : AO} {c : Nat}
theorem Jd {dst : Option Tmp} {l : LV} {h' : AO} {c' : Nat} : (⟨nt, sl, h, c⟩ : St).go dst l h' c' = match dst with | some t => ⟨nt, (t, l) :: sl, h', c'⟩ | none => ⟨nt, sl, h', c'⟩ := by
 cases dst <;> rfl
theorem rn (n : Nat) {ms ms' : List GO} {st' : St} (hr : Ez AB n ms nt sl h c = some (ms', st')) (k : EF P A AB ⟨f, hf⟩ ms' st') : EF P A AB ⟨f, hf⟩ ms ⟨nt, sl, h, c⟩ := by
  induction n generalizing ms nt sl h c with
  | zero =>
    have : (ms, (⟨nt, sl, h, c⟩ : St)) = (ms', st') := by simpa [Ez] using hr
    cases this; exact k
  | succ n ih =>
    cases ms with
    | nil => simp [Ez] at hr
    | cons m ms =>
      obtain ⟨dst, op, g⟩ := m
      have run : (Ey AB nt sl h c op fun l h' c' => match (generalizing := false) dst with
            | some t => Ez AB n ms nt ((t, l) :: sl) h' c'
            | none => Ez AB n ms nt sl h' c') = some (ms', st') -> BJ P A AB ⟨nt, sl, h, c⟩ dst op ⟨EF P A AB ⟨f, hf⟩ ms, ⟨⟩⟩ := fun hs => by
        obtain ⟨l, h', c', h1, h2⟩ := GQ hs
        refine (h2 P A dst _ ?_).1
        rw [Jd]
        cases dst with
        | some t => exact ih h1
        | none => exact ih h1
      have skip : (match (generalizing := false) dst with
          | some t => Ez AB n ms nt ((t, .und) :: sl) h c
          | none => Ez AB n ms nt sl h c) = some (ms', st') -> EF P A AB ⟨f, hf⟩ ms ((⟨nt, sl, h, c⟩ : St).put dst .und) := fun hs => by
        cases dst with
        | some t => exact ih hs
        | none => exact ih hs
      simp only [Ez] at hr
      cases g with
      | none => exact run hr
      | some g =>
        obtain ⟨d, want⟩ := g
        cases d with
        | none => simp at hr
        | some d =>
          simp only at hr
          simp only [EF, FN, <- BI (h := h) (c := c)]
          generalize BG nt sl (.tmp d) = v at hr ⊢
          split at hr
          . rename_i b
            split at hr
            . rename_i hb
              refine ⟨fun _ => run hr, fun e => ?_⟩
              rw [JC hb] at e; cases want <;> cases e
            rename_i hb
            refine ⟨fun e => ?_, fun _ => skip hr⟩
            rw [LJ hb] at e; cases want <;> cases e
          . exact skip hr
          cases hr
theorem rl {ms : List GO} {st' : St} (hr : Gp AB ms nt sl h c = some st') (k : f st') : EF P A AB ⟨f, hf⟩ ms ⟨nt, sl, h, c⟩ := by
  induction ms generalizing nt sl h c with
  | nil =>
    have : (⟨nt, sl, h, c⟩ : St) = st' := by simpa [Gp] using hr
    subst this; exact ⟨k⟩
  | cons m ms ih =>
      obtain ⟨dst, op, g⟩ := m
      have run : (Ey AB nt sl h c op fun l h' c' => match (generalizing := false) dst with
            | some t => Gp AB ms nt ((t, l) :: sl) h' c'
            | none => Gp AB ms nt sl h' c') = some st' -> BJ P A AB ⟨nt, sl, h, c⟩ dst op ⟨EF P A AB ⟨f, hf⟩ ms, ⟨⟩⟩ := fun hs => by
        obtain ⟨l, h', c', h1, h2⟩ := GQ hs
        refine (h2 P A dst _ ?_).1
        rw [Jd]
        cases dst with
        | some t => exact ih h1
        | none => exact ih h1
      have skip : (match (generalizing := false) dst with
          | some t => Gp AB ms nt ((t, .und) :: sl) h c
          | none => Gp AB ms nt sl h c) = some st' -> EF P A AB ⟨f, hf⟩ ms ((⟨nt, sl, h, c⟩ : St).put dst .und) := fun hs => by
        cases dst with
        | some t => exact ih hs
        | none => exact ih hs
      simp only [Gp] at hr
      cases g with
      | none => exact run hr
      | some g =>
        obtain ⟨d, want⟩ := g
        cases d with
        | none => simp at hr
        | some d =>
          simp only at hr
          simp only [EF, FN, <- BI (h := h) (c := c)]
          generalize BG nt sl (.tmp d) = v at hr ⊢
          split at hr
          . rename_i b
            split at hr
            . rename_i hb
              refine ⟨fun _ => run hr, fun e => ?_⟩
              rw [JC hb] at e; cases want <;> cases e
            rename_i hb
            refine ⟨fun e => ?_, fun _ => skip hr⟩
            rw [LJ hb] at e; cases want <;> cases e
          . exact skip hr
          cases hr
theorem Al (n : Nat) {base m : Nat} {ms ms' : List (Nat × GO)} {sl' : List (Nat × LV)} {h' : AO} (hr : E0 AB base n ms nt sl h = some (ms', sl', h')) (k : C6 P A AB base m ⟨f, hf⟩ ms' ⟨nt, sl', h', c⟩) : C6 P A AB base m ⟨f, hf⟩ ms ⟨nt, sl, h, c⟩ := by
  induction n generalizing ms sl h with
  | zero =>
    have : (ms, sl, h) = (ms', sl', h') := by simpa [E0] using hr
    cases this; exact k
  | succ n ih =>
    cases ms with
    | nil => simp [E0] at hr
    | cons p ms =>
      obtain ⟨i, dst, op, g⟩ := p
      have at_ : ∀ {sl h c'} , C6 P A AB base m ⟨f, hf⟩ ms ⟨nt, sl, h, c⟩ -> C6 P A AB base m ⟨f, hf⟩ ms ⟨nt, sl, h, c'⟩ := fun {sl h c'} hd => by
        have := Oo (P := P) (A := A) (AB := AB) base m ⟨f, hf⟩ ms ⟨nt, sl, h, c⟩ c'
        rw [<- this] at hd; exact hd
      have run : (Ey AB nt sl h (base + i) op fun l h' c' => match (generalizing := false) dst with
            | some t => E0 AB base n ms nt ((t, l) :: sl) h'
            | none => E0 AB base n ms nt sl h') = some (ms', sl', h') -> Fk P A AB ((⟨nt, sl, h, c⟩ : St).at (base + i)) dst op ⟨C6 P A AB base m ⟨f, hf⟩ ms, ⟨⟩⟩ := fun hs => by
        obtain ⟨l, h', c', h1, h2⟩ := GQ hs
        refine (h2 P A dst _ ?_).2
        rw [Jd]
        cases dst with
        | some t => exact at_ (ih h1)
        | none => exact at_ (ih h1)
      have skip : (match (generalizing := false) dst with
          | some t => E0 AB base n ms nt ((t, .und) :: sl) h
          | none => E0 AB base n ms nt sl h) = some (ms', sl', h') -> C6 P A AB base m ⟨f, hf⟩ ms ((⟨nt, sl, h, c⟩ : St).put dst .und) := fun hs => by
        cases dst with
        | some t => exact ih hs
        | none => exact ih hs
      simp only [E0] at hr
      cases g with
      | none => exact run hr
      | some g =>
        obtain ⟨d, want⟩ := g
        cases d with
        | none => simp at hr
        | some d =>
          simp only at hr
          simp only [C6, FN, <- BI (h := h) (c := c)]
          generalize BG nt sl (.tmp d) = v at hr ⊢
          split at hr
          . rename_i b
            split at hr
            . rename_i hb
              refine ⟨fun _ => run hr, fun e => ?_⟩
              rw [JC hb] at e; cases want <;> cases e
            rename_i hb
            refine ⟨fun e => ?_, fun _ => skip hr⟩
            rw [LJ hb] at e; cases want <;> cases e
          . exact skip hr
          cases hr
theorem Ao {base m : Nat} {ms : List (Nat × GO)} {sl' : List (Nat × LV)} {h' : AO} (hr : E1 AB base ms nt sl h = some (sl', h')) (k : f ⟨nt, sl', h', base + m⟩) : C6 P A AB base m ⟨f, hf⟩ ms ⟨nt, sl, h, c⟩ := by
  induction ms generalizing sl h with
  | nil =>
    have : (sl, h) = (sl', h') := by simpa [E1] using hr
    cases this; exact ⟨k⟩
  | cons p ms ih =>
      obtain ⟨i, dst, op, g⟩ := p
      have at_ : ∀ {sl h c'} , C6 P A AB base m ⟨f, hf⟩ ms ⟨nt, sl, h, c⟩ -> C6 P A AB base m ⟨f, hf⟩ ms ⟨nt, sl, h, c'⟩ := fun {sl h c'} hd => by
        have := Oo (P := P) (A := A) (AB := AB) base m ⟨f, hf⟩ ms ⟨nt, sl, h, c⟩ c'
        rw [<- this] at hd; exact hd
      have run : (Ey AB nt sl h (base + i) op fun l h' c' => match (generalizing := false) dst with
            | some t => E1 AB base ms nt ((t, l) :: sl) h'
            | none => E1 AB base ms nt sl h') = some (sl', h') -> Fk P A AB ((⟨nt, sl, h, c⟩ : St).at (base + i)) dst op ⟨C6 P A AB base m ⟨f, hf⟩ ms, ⟨⟩⟩ := fun hs => by
        obtain ⟨l, h', c', h1, h2⟩ := GQ hs
        refine (h2 P A dst _ ?_).2
        rw [Jd]
        cases dst with
        | some t => exact at_ (ih h1)
        | none => exact at_ (ih h1)
      have skip : (match (generalizing := false) dst with
          | some t => E1 AB base ms nt ((t, .und) :: sl) h
          | none => E1 AB base ms nt sl h) = some (sl', h') -> C6 P A AB base m ⟨f, hf⟩ ms ((⟨nt, sl, h, c⟩ : St).put dst .und) := fun hs => by
        cases dst with
        | some t => exact ih hs
        | none => exact ih hs
      simp only [E1] at hr
      cases g with
      | none => exact run hr
      | some g =>
        obtain ⟨d, want⟩ := g
        cases d with
        | none => simp at hr
        | some d =>
          simp only at hr
          simp only [C6, FN, <- BI (h := h) (c := c)]
          generalize BG nt sl (.tmp d) = v at hr ⊢
          split at hr
          . rename_i b
            split at hr
            . rename_i hb
              refine ⟨fun _ => run hr, fun e => ?_⟩
              rw [JC hb] at e; cases want <;> cases e
            rename_i hb
            refine ⟨fun e => ?_, fun _ => skip hr⟩
            rw [LJ hb] at e; cases want <;> cases e
          . exact skip hr
          cases hr
end
end Go.E
/- Rules for a walk in step with a plain function. No condition. -/
namespace Go.E
open Go Go.RowKit
def KB : List Nat -> Nat -> Bool
 | [], _ => false
 | x :: l, t => match Nat.beq t x with
  | true => true
  | false => KB l t
theorem S8 : ∀ {l : List Nat} {t : Nat}, KB l t = true ↔ t ∈ l
 | [], t => by simp [KB]
 | x :: l, t => by
  simp only [KB, List.mem_cons]
  split
  .rename_i h; have := Nat.eq_of_beq_eq_true h; subst this; simp
  rename_i h
  have hne : t ≠ x := by rintro rfl; simp at h
  rw [S8]; simp [hne]
theorem Vu {P : Program} {l : List (Nat × TI)} (h : (l.map fun p => Tx P p.1) = l.map fun p => some p.2) : MV P (fun t => BU t l) := by
 have := RT h
 intro t ti ht
 exact this t ti (by simpa only [BV] using ht)
section
variable {α β γ : Type}
theorem bd {o : Option α} {f : α -> Option β} {b : β} (h : o.bind f = some b) : ∃ a, o = some a /\ f a = some b := Option.bind_eq_some_iff.1 h
def Ar (l : List α) (n : Int) : Option α := match n with
 | .ofNat k => l[k]?
 | .negSucc _ => none
theorem Hf {l : List α} {n : Int} {y : α} (h : Ar l n = some y) : 0 <= n /\ n.toNat < l.length /\ l[n.toNat]? = some y := by
 cases n with
 | ofNat k => exact ⟨Int.natCast_nonneg k, (List.getElem?_eq_some_iff.1 h).1, h⟩
 | negSucc k => cases h
def Xq (s : ByteArray) (n : Int) : Option UInt8 := match n with
 | .ofNat k => s[k]?
 | .negSucc _ => none
def Gy (l : List α) (lo hi : Int) : Option (List α) := if 0 <= lo /\ lo <= hi /\ hi <= l.length then some ((l.take hi.toNat).drop lo.toNat) else none
def A5 (l m : List α) : Option (List α) := if l.length + m.length <= 4294967296 then some (l ++ m) else none
def IR (l : List α) (n : Int) (z : α) : List α := l.set n.toNat z
def Ee (step : α -> Option (α ⊕ β)) : Nat -> α -> Option β
 | 0, _ => none
 | n + 1, s => match step s with
  | none => none
  | some (.inl s') => Ee step n s'
  | some (.inr b) => some b
theorem Mc {step : α -> Option (α ⊕ β)} : ∀ {n m : Nat} {s : α} {b : β}, Ee step n s = some b -> Ee step (n + m) s = some b
 | 0, _, _, _, h => by cases h
 | n + 1, m, s, b, h => by
  rw [show n + 1 + m = (n + m) + 1 by omega]
  simp only [Ee] at h ⊢
  split at h
  .cases h
  .exact Mc h
  exact h
open Classical in
noncomputable def Ou (step : α -> Option (α ⊕ β)) (s : α) : Option β := if h : ∃ b n, Ee step n s = some b then some h.choose else none
noncomputable def AY (step : α -> Option (α ⊕ β)) (s : α) : Option β := match Ee step 18446744073709551616 s with
 | some b => some b
 | none => Ou step s
theorem RZ {step : α -> Option (α ⊕ β)} {n : Nat} {s : α} {b : β} (h : Ee step n s = some b) : Ou step s = some b := by
 have hex : ∃ b n, Ee step n s = some b := ⟨b, n, h⟩
 unfold Ou
 rw [dif_pos hex]
 obtain ⟨m, hm⟩ := hex.choose_spec
 have h1 := Mc (m := m) h
 have h2 := Mc (m := n) hm
 rw [show m + n = n + m by omega, h1] at h2
 exact h2.symm
theorem S9 (step : α -> Option (α ⊕ β)) (s : α) : AY step s = Ou step s := by
 unfold AY
 split
 .rename_i h; exact (RZ h).symm
 rfl
theorem OB {step : α -> Option (α ⊕ β)} {n : Nat} {s : α} {b : β} (h : Ee step n s = some b) : AY step s = some b := by
 rw [S9]; exact RZ h
theorem Ik {step : α -> Option (α ⊕ β)} {s : α} {b : β} (h : AY step s = some b) : ∃ n, Ee step n s = some b := by
 rw [S9] at h
 unfold Ou at h
 split at h
 .rename_i hex
  obtain ⟨m, hm⟩ := hex.choose_spec
  simp only [Option.some.injEq] at h
  rw [h] at hm
  exact ⟨m, hm⟩
 cases h
theorem JD (step : α -> Option (α ⊕ β)) (s : α) : AY step s = match step s with
  | none => none
  | some (.inl s') => AY step s'
  | some (.inr b) => some b := by
 cases hs : step s with
 | none =>
  cases hl : AY step s with
  | none => rfl
  | some b =>
   obtain ⟨n, hn⟩ := Ik hl
   cases n with
   | zero => cases hn
   | succ n => simp [Ee, hs] at hn
 | some r =>
  cases r with
  | inl s' =>
   simp only
   cases hl : AY step s' with
   | some b => obtain ⟨n, hn⟩ := Ik hl; exact OB (n := n + 1) (by simp only [Ee, hs]; exact hn)
   | none =>
    cases hl' : AY step s with
    | none => rfl
    | some b =>
     obtain ⟨n, hn⟩ := Ik hl'
     cases n with
     | zero => cases hn
     | succ n =>
      simp only [Ee, hs] at hn
      rw [OB hn] at hl; cases hl
  | inr b => exact OB (n := 1) (by simp [Ee, hs])
def T0 (sp : Option (α ⊕ β)) (rest : α -> Option β) : Option β := match sp with
 | none => none
 | some (.inl t) => rest t
 | some (.inr b) => some b
end
section
variable {P : Program} {A : BF} {AB : A4} {st : St} {σ Ans : Type}
def LP (A : BF) (S : σ -> St) (Q : Ans -> Exit -> St -> Prop) : σ ⊕ Ans -> Exit -> St -> Prop
 | .inl s, e, st => e = .normal /\ A6 A st (S s)
 | .inr a, e, st => e ≠ .normal /\ Q a e st
theorem lp {c : Code} {Q : Ans -> Exit -> St -> Prop} {a : Ans} (I : σ -> St) {step : σ -> Option (σ ⊕ Ans)} {s0 : σ} (h : AY step s0 = some a) (hw : A6 A st (I s0))
  (hb : ∀ s b, step s = some b -> B3 P A c (LP A I Q b) (I s)) : B3 P A (.loop c) (Q a) st := by
 obtain ⟨n, hn⟩ := Ik h
 refine RH (ι := Nat × σ) (fun i s => Ee step i.1 i.2 = some a /\ A6 A s (I i.2)) (fun i => i.1) (n, s0) ⟨hn, hw⟩ ?_
 rintro ⟨n, s⟩ st' ⟨hi, hws⟩
 refine EW hws ?_
 cases n with
 | zero => cases hi
 | succ n =>
  simp only [Ee] at hi
  cases hs : step s with
  | none => rw [hs] at hi; cases hi
  | some r =>
   rw [hs] at hi
   refine Ft (hb s r hs) fun e st'' q => ?_
   cases r with
   | inl s' =>
    obtain ⟨he, hw'⟩ := q
    subst he
    exact ⟨(n, s'), ⟨hi, hw'⟩, Nat.lt_succ_self n⟩
   | inr a' =>
    obtain ⟨he, hq⟩ := q
    simp only [Option.some.injEq] at hi
    subst hi
    cases e <;> first | exact absurd rfl he | exact hq
theorem jn {x y : Code} {Q : Ans -> Exit -> St -> Prop} {a : Ans} (S : σ -> St) {sp : Option (σ ⊕ Ans)} {rest : σ -> Option Ans} (h : T0 sp rest = some a)
  (hx : ∀ b, sp = some b -> B3 P A x (LP A S Q b) st) (hy : ∀ t, rest t = some a -> B3 P A y (Q a) (S t)) : B3 P A (.seq x y) (Q a) st := by
 refine AC ?_
 cases hs : sp with
 | none => rw [hs] at h; cases h
 | some r =>
  rw [hs] at h
  refine Ft (hx r hs) fun e st' q => ?_
  cases r with
  | inl t =>
   obtain ⟨he, hw⟩ := q
   subst he
   exact EW hw (hy t h)
  | inr a' =>
   obtain ⟨he, hq⟩ := q
   simp only [T0, Option.some.injEq] at h
   subst h
   cases e <;> first | exact absurd rfl he | exact hq
def NP (A : BF) (S : σ -> St) (s : σ) (e : Exit) (st : St) : Prop := e = .normal /\ A6 A st (S s)
theorem jb {x y : Code} {Q : Exit -> St -> Prop} {a : Ans} (S : σ -> St) {sp : Option σ} {rest : σ -> Option Ans} (h : sp.bind rest = some a)
  (hx : ∀ t, sp = some t -> B3 P A x (NP A S t) st) (hy : ∀ t, rest t = some a -> B3 P A y Q (S t)) : B3 P A (.seq x y) Q st := by
 obtain ⟨t, h1, h2⟩ := bd h
 refine AC (Ft (hx t h1) fun e st' q => ?_)
 obtain ⟨he, hw⟩ := q
 subst he
 exact EW hw (hy t h2)
theorem rg (hE : A8 P AB) {id : Nat} {ops : List Oper} {Q : Exit -> St -> Prop} (k : EF P A AB ⟨Q .normal, ⟨⟩⟩ (ops.map (MT ops)) st) : B3 P A (.region id ops.toArray false) Q st := Vm hE rfl k
theorem rs (hE : A8 P AB) {id : Nat} {ops : List Oper} {y : Code} {Q : Exit -> St -> Prop} (k : EF P A AB ⟨B3 P A y Q, ⟨⟩⟩ (ops.map (MT ops)) st) : B3 P A (.seq (.region id ops.toArray false) y) Q st := W3 hE rfl k
theorem Ck (hE : A8 P AB) (hm : P.follows .mixedOrders = true) {id : Nat} {ops : List Oper} {Q : Exit -> St -> Prop} {nt : Nat} {sl : List (Nat × LV)} {h : AO} {c : Nat} (order : List Nat) (n : Nat)
  (hok : Fu false AB.own .any ops.toArray order (Array.replicate ops.length false) = true) (hl : Nat.beq order.length ops.length = true) (hb : (order.all fun i => Nat.blt i ops.length) = true) (hn : Nat.beq ops.length n = true)
  (k : C6 P A AB c n ⟨Q .normal, ⟨⟩⟩ (Ed ops order) ⟨nt, sl, h, c⟩) : B3 P A (.region id ops.toArray true) Q ⟨nt, sl, h, c⟩ := by
 have hb' : (order.all fun i => decide (i < ops.length)) = true := by
  rw [List.all_eq_true] at hb ⊢
  intro i hi
  have := Nat.le_of_ble_eq_true (hb i hi)
  simp only [decide_eq_true_eq]; omega
 have hn' := Nat.eq_of_beq_eq_true hn
 subst hn'
 exact F8 false (fun h => by cases h) hE hm hok (Nat.eq_of_beq_eq_true hl) (Fw order _ hb' k)
theorem Md (hE : A8 P AB) (hm : P.follows .mixedOrders = true) {id : Nat} {ops : List Oper} {Q : Exit -> St -> Prop} {nt : Nat} {sl : List (Nat × LV)} {h : AO} {c : Nat} (order : List Nat) (n : Nat)
  (hq : AB.calm.isSome = true) (hok : Fu true AB.own .any ops.toArray order (Array.replicate ops.length false) = true) (hl : Nat.beq order.length ops.length = true) (hb : (order.all fun i => Nat.blt i ops.length) = true) (hn : Nat.beq ops.length n = true)
  (k : C6 P A AB c n ⟨Q .normal, ⟨⟩⟩ (Ed ops order) ⟨nt, sl, h, c⟩) : B3 P A (.region id ops.toArray true) Q ⟨nt, sl, h, c⟩ := by
 have hb' : (order.all fun i => decide (i < ops.length)) = true := by
  rw [List.all_eq_true] at hb ⊢
  intro i hi
  have := Nat.le_of_ble_eq_true (hb i hi)
  simp only [decide_eq_true_eq]; omega
 have hn' := Nat.eq_of_beq_eq_true hn
 subst hn'
 exact F8 true (fun _ => Option.isSome_iff_exists.1 hq) hE hm hok (Nat.eq_of_beq_eq_true hl) (Fw order _ hb' k)
theorem cd {x : Operand} {cx cy : Code} {Q : Exit -> St -> Prop} {nt : Nat} {sl : List (Nat × LV)} {h : AO} {c : Nat} {b : Bool} {p q : Option Ans} {a : Ans} (hb : BG nt sl x = .p (.bool b)) (hh : cond b p q = some a)
  (hx : p = some a -> B3 P A cx Q ⟨nt, sl, h, c⟩) (hy : q = some a -> B3 P A cy Q ⟨nt, sl, h, c⟩) : B3 P A (.cond x cx cy) Q ⟨nt, sl, h, c⟩ := by
 refine N3 (b := b) (by rw [<- BI]; exact hb) (fun e => ?_) (fun e => ?_)
 .subst e; exact hx hh
 subst e; exact hy hh
theorem QG {x : Operand} {cx cy : Code} {Q : Exit -> St -> Prop} {nt : Nat} {sl : List (Nat × LV)} {h : AO} {c : Nat} (hb : BG nt sl x = .p (.bool true)) (hx : B3 P A cx Q ⟨nt, sl, h, c⟩) : B3 P A (.cond x cx cy) Q ⟨nt, sl, h, c⟩ :=
 N3 (b := true) (by rw [<- BI]; exact hb) (fun _ => hx) (fun e => by cases e)
theorem Ov {x : Operand} {cx cy : Code} {Q : Exit -> St -> Prop} {nt : Nat} {sl : List (Nat × LV)} {h : AO} {c : Nat} (hb : BG nt sl x = .p (.bool false)) (hx : B3 P A cy Q ⟨nt, sl, h, c⟩) : B3 P A (.cond x cx cy) Q ⟨nt, sl, h, c⟩ :=
 N3 (b := false) (by rw [<- BI]; exact hb) (fun e => by cases e) (fun _ => hx)
end
end Go.E
/- Rules for single operations of a walk in step with a plain function. No condition. -/
namespace Go.E
open Go Go.RowKit
section
variable {β : Type}
def T1 (t : Nat) (v : LV) : List (Nat × LV) -> (List (Nat × LV) -> Option β) -> Option β
 | [], _ => none
 | (q, u) :: l, k => match Nat.beq t q with
  | true => k ((q, v) :: l)
  | false => T1 t v l (fun r => k ((q, u) :: r))
theorem TA {t : Nat} {v : LV} : ∀ {l : List (Nat × LV)} {k : List (Nat × LV) -> Option β} {y : β}, BU t l = some v -> T1 t v l k = some y -> k l = some y
 | [], _, _, h, _ => by simp [BU] at h
 | (q, u) :: l, k, y, h, hr => by
  simp only [BU] at h
  simp only [T1] at hr
  split at h
  .rename_i hb
   rw [hb] at hr
   simp only [Option.some.injEq] at h
   subst h; exact hr
  rename_i hb
  rw [hb] at hr
  exact TA (k := fun r => k ((q, u) :: r)) h hr
def Ul (t : Nat) (v : LV) (l : List (Nat × LV)) : Option (List (Nat × LV)) := T1 t v l some
theorem Ow {t : Nat} {v : LV} {l l' : List (Nat × LV)} (h : BU t l = some v) (hr : Ul t v l = some l') : l = l' := by
 have := TA h hr
 simpa using this
theorem LK {nt t : Nat} {sl : List (Nat × LV)} {d : DV} (h : BG nt sl (.tmp t) = .p d) : BU t sl = some (.p d) := by
 simp only [BG] at h
 split at h
 .split at h
  .subst h; assumption
  cases h
 cases h
def Wf (nt : Nat) (sl : List (Nat × LV)) : Option (Option Tmp × Bool) -> Bool
 | none => true
 | some (some d, want) => match BG nt sl (.tmp d) with
  | .p (.bool b) => JB b want
  | _ => false
 | some (none, _) => false
theorem Ra {nt : Nat} {sl : List (Nat × LV)} {d : Tmp} {want : Bool} (h : Wf nt sl (some (some d, want)) = true) : BG nt sl (.tmp d) = .p (.bool want) := by
 simp only [Wf] at h
 split at h
 .rename_i b hb; rw [hb, JC h]
 cases h
end
section
variable {P : Program} {A : BF} {AB : A4} {f : St -> Prop} {hf : Gw f} {nt : Nat} {sl : List (Nat × LV)} {h : AO} {c : Nat} {Ans : Type}
theorem gs (t : Nat) {ms : List GO} {b : Bool} {p q : Option Ans} {a : Ans} {slT slF : List (Nat × LV)} (hh : cond b p q = some a) (hv : BG nt sl (.tmp t) = .p (.bool b))
  (hT : Ul t (.p (.bool true)) sl = some slT) (hF : Ul t (.p (.bool false)) sl = some slF)
  (hx : p = some a -> EF P A AB ⟨f, hf⟩ ms ⟨nt, slT, h, c⟩) (hy : q = some a -> EF P A AB ⟨f, hf⟩ ms ⟨nt, slF, h, c⟩) : EF P A AB ⟨f, hf⟩ ms ⟨nt, sl, h, c⟩ := by
 cases b with
 | true => rw [Ow (LK hv) hT]; exact hx hh
 | false => rw [Ow (LK hv) hF]; exact hy hh
theorem Je (t : Nat) {base m : Nat} {ms : List (Nat × GO)} {b : Bool} {p q : Option Ans} {a : Ans} {slT slF : List (Nat × LV)} (hh : cond b p q = some a) (hv : BG nt sl (.tmp t) = .p (.bool b))
  (hT : Ul t (.p (.bool true)) sl = some slT) (hF : Ul t (.p (.bool false)) sl = some slF)
  (hx : p = some a -> C6 P A AB base m ⟨f, hf⟩ ms ⟨nt, slT, h, c⟩) (hy : q = some a -> C6 P A AB base m ⟨f, hf⟩ ms ⟨nt, slF, h, c⟩) : C6 P A AB base m ⟨f, hf⟩ ms ⟨nt, sl, h, c⟩ := by
 cases b with
 | true => rw [Ow (LK hv) hT]; exact hx hh
 | false => rw [Ow (LK hv) hF]; exact hy hh
theorem sx {dst : Option Tmp} {op : Op} {g : Option (Option Tmp × Bool)} {rest : List GO} (hg : Wf nt sl g = true) (k : BJ P A AB ⟨nt, sl, h, c⟩ dst op ⟨EF P A AB ⟨f, hf⟩ rest, ⟨⟩⟩) :
  EF P A AB ⟨f, hf⟩ (⟨dst, op, g⟩ :: rest) ⟨nt, sl, h, c⟩ := by
 cases g with
 | none => exact k
 | some g =>
  obtain ⟨d, want⟩ := g
  cases d with
  | none => cases hg
  | some d =>
   have := Ra hg
   simp only [EF, FN, <- BI (h := h) (c := c), this, gM, gW]
   exact ⟨fun _ => k, fun e => by cases want <;> cases e⟩
theorem AR {base m i : Nat} {dst : Option Tmp} {op : Op} {g : Option (Option Tmp × Bool)} {rest : List (Nat × GO)} (hg : Wf nt sl g = true) (k : Fk P A AB ⟨nt, sl, h, base + i⟩ dst op ⟨C6 P A AB base m ⟨f, hf⟩ rest, ⟨⟩⟩) :
  C6 P A AB base m ⟨f, hf⟩ ((i, ⟨dst, op, g⟩) :: rest) ⟨nt, sl, h, c⟩ := by
 cases g with
 | none => exact k
 | some g =>
  obtain ⟨d, want⟩ := g
  cases d with
  | none => cases hg
  | some d =>
   have := Ra hg
   simp only [C6, FN, <- BI (h := h) (c := c), this, gM, gW]
   exact ⟨fun _ => k, fun e => by cases want <;> cases e⟩
def XB : Op -> Bool
 | .binOp .. | .call _ | .range .. | .next .. | .entry .. | .load .. | .store .. => false
 | _ => true
theorem AX {st : St} {dst : Option Tmp} {op : Op} {K : A7 St} (hp : XB op = true) (k : BJ P A AB st dst op K) : Fk P A AB st dst op K := by
 cases op <;> first | exact k | cases hp
theorem EJ {nt : Nat} {sl : List (Nat × LV)} {h : AO} {c : Nat} {dst : Option Tmp} {t : TypeId} {x : Operand} {K : A7 St} (hc : KU AB.calm (BG nt sl x) = true) (k : BJ P A AB ⟨nt, sl, h, c⟩ dst (.load t x) K) : Fk P A AB ⟨nt, sl, h, c⟩ dst (.load t x) K := ⟨by rw [<- BI (h := h) (c := c)]; exact hc, k⟩
theorem Um {nt : Nat} {sl : List (Nat × LV)} {h : AO} {c : Nat} {dst : Option Tmp} {t : TypeId} {x v : Operand} {K : A7 St} (hc : Iy AB.calm (BG nt sl x) = true) (k : BJ P A AB ⟨nt, sl, h, c⟩ dst (.store t x v) K) : Fk P A AB ⟨nt, sl, h, c⟩ dst (.store t x v) K := ⟨by rw [<- BI (h := h) (c := c)]; exact hc, k⟩
theorem AQ {nt : Nat} {sl : List (Nat × LV)} {h : AO} {c : Nat} {dst : Option Tmp} {args : Array Operand} {ts : Array TypeId} {K : A7 St} (hc : (match args.toList with | s :: _ => KT AB.calm (BG nt sl s) | [] => false) = true) (k : BJ P A AB ⟨nt, sl, h, c⟩ dst (.call ⟨.builtin .append, args, ts⟩) K) : Fk P A AB ⟨nt, sl, h, c⟩ dst (.call ⟨.builtin .append, args, ts⟩) K := by
 unfold Fk
 simp only
 split
 all_goals simp_all
 rw [<- BI (h := h) (c := c)]; exact hc
def Ox (AB : A4) (t : Nat) : Bool := match AB.tt t with
 | some ti => match ti.sh with
  | .slc _ => true
  | _ => false
 | none => false
def T2 (AB : A4) (t : Nat) : Bool := match AB.tt t with
 | some ti => match ti.sh with
  | .str => true
  | _ => false
 | none => false
theorem Vv {t : Nat} (h : T2 AB t = true) : ∃ ti, AB.tt t = some ti /\ ti.sh = .str := by
 unfold T2 at h
 split at h
 .rename_i ti hti
  split at h
  .rename_i he; exact ⟨ti, hti, he⟩
  cases h
 cases h
theorem OC {t : Nat} (h : Ox AB t = true) : ∃ ti e, AB.tt t = some ti /\ ti.sh = .slc e := by
 unfold Ox at h
 split at h
 .rename_i ti hti
  split at h
  .rename_i e he; exact ⟨ti, e, hti, he⟩
  cases h
 cases h
def LL (AB : A4) (t sz : Nat) : Bool := match AB.tt t with
 | some ti => match ti.sh with
  | .slc e => match AB.tt e with
   | some te => Nat.beq te.size sz
   | none => false
  | _ => false
 | none => false
theorem LM {t sz : Nat} (h : LL AB t sz = true) : ∃ ti e te, AB.tt t = some ti /\ ti.sh = .slc e /\ AB.tt e = some te /\ te.size = sz := by
 unfold LL at h
 split at h
 .rename_i ti hti
  split at h
  .rename_i e he
   split at h
   .rename_i te hte; exact ⟨ti, e, te, hti, he, hte, Nat.eq_of_beq_eq_true h⟩
   cases h
  cases h
 cases h
variable {α : Type} {enc : α -> List DV} {l : List α} {d : Tmp} {t sz : Nat} {x : Operand}
theorem A2 (ht : Ox AB t = true) (hx : BG nt sl x = .p (.slice sz (l.map enc))) (k : f ⟨nt, (d, .p (.int .i64 l.length)) :: sl, h, c⟩) : BJ P A AB ⟨nt, sl, h, c⟩ (some d) (.call ⟨.builtin .len, #[x], #[t]⟩) ⟨f, hf⟩ := by
 obtain ⟨ti, e, h1, h2⟩ := OC ht
 refine AT.2 ⟨ti, h1, ?_⟩
 rw [BI (h := h) (c := c)] at hx
 dsimp only
 rw [h2, hx]
 intro _
 simp only [List.length_map]
 exact k
theorem Oy (ht : Ox AB t = true) (hx : BG nt sl x = .p (.slice sz (l.map enc))) (k : f ⟨nt, (d, .p (.int .i64 l.length)) :: sl, h, c⟩) : Fk P A AB ⟨nt, sl, h, c⟩ (some d) (.call ⟨.builtin .len, #[x], #[t]⟩) ⟨f, hf⟩ := by
 obtain ⟨ti, e, h1, h2⟩ := OC ht
 refine AT.2 ⟨ti, h1, ?_⟩
 rw [BI (h := h) (c := c)] at hx
 dsimp only
 rw [h2, hx]
 simp only [Tu, List.length_map]
 exact k
theorem Ay {i : Operand} {kk : IntKind} {n : Int} {y : α} (hy : Ar l n = some y) (ht : LL AB t sz = true) (hx : BG nt sl x = .p (.slice sz (l.map enc))) (hi : BG nt sl i = .p (.int kk n))
  (k : f ⟨nt, (d, .p (.place (enc y) 0)) :: sl, h, c⟩) : BJ P A AB ⟨nt, sl, h, c⟩ (some d) (.indexAddr t x i) ⟨f, hf⟩ := by
 obtain ⟨ti, e, te, h1, h2, h3, h4⟩ := LM ht
 obtain ⟨g1, g2, g3⟩ := Hf hy
 rw [BI (h := h) (c := c)] at hx hi
 refine CW.2 ⟨kk, n, hi, AT.2 ⟨ti, h1, ?_⟩⟩
 dsimp only
 rw [h2, hx]
 exact AT.2 ⟨te, h3, h4, g1, AU.2 ⟨enc y, by rw [List.getElem?_map, g3]; rfl, k⟩⟩
theorem Xr {s : ByteArray} {i : Operand} {kk : IntKind} {n : Int} {y : UInt8} (hy : Xq s n = some y) (ht : T2 AB t = true) (hx : BG nt sl x = .p (.str s)) (hi : BG nt sl i = .p (.int kk n))
  (k : f ⟨nt, (d, .p (.int .u8 y.toNat)) :: sl, h, c⟩) : BJ P A AB ⟨nt, sl, h, c⟩ (some d) (.index t x i) ⟨f, hf⟩ := by
 obtain ⟨ti, hti, hsh⟩ := Vv ht
 rw [BI (h := h) (c := c)] at hx hi
 cases n with
 | negSucc n => cases hy
 | ofNat n =>
  refine CW.2 ⟨kk, _, hi, AT.2 ⟨ti, hti, Int.natCast_nonneg n, ?_⟩⟩
  dsimp only
  rw [hsh, hx]
  exact AU.2 ⟨y, hy, k⟩
def Me (nt : Nat) (sl : List (Nat × LV)) (d : Int) : Option Operand -> Option Int
 | none => some d
 | some o => match BG nt sl o with
  | .p (.int _ n) => some n
  | _ => none
theorem NV {d n : Int} {x : Option Operand} {k : A7 Int} (hb : Me nt sl d x = some n) (hk : k.f n) : I4 d (x.map (St.eval ⟨nt, sl, h, c⟩)) k := by
 cases x with
 | none => simp only [Me, Option.some.injEq] at hb; subst hb; exact hk
 | some o =>
  simp only [Me, BI (h := h) (c := c)] at hb
  simp only [Option.map_some]
  split at hb
  .rename_i kk m he
   simp only [Option.some.injEq] at hb
   subst hb
   rw [he]; exact hk
  cases hb
theorem Wg {lo hi : Option Operand} {n m : Int} {r : List α} (hr : Gy l n m = some r) (ht : LL AB t sz = true) (hx : BG nt sl x = .p (.slice sz (l.map enc)))
  (hlo : Me nt sl 0 lo = some n) (hhi : Me nt sl l.length hi = some m)
  (k : f ⟨nt, (d, .p (.slice sz (r.map enc))) :: sl, h, c⟩) : BJ P A AB ⟨nt, sl, h, c⟩ (some d) (.slice t x lo hi none) ⟨f, hf⟩ := by
 obtain ⟨ti, e, te, h1, h2, h3, h4⟩ := LM ht
 rw [BI (h := h) (c := c)] at hx
 simp only [Gy] at hr
 split at hr
 .rename_i hb
  simp only [Option.some.injEq] at hr
  subst hr
  show I5 AB t _ _ _ _
  rw [hx]
  refine AT.2 ⟨ti, h1, CL.2 ⟨e, h2, AT.2 ⟨te, h3, h4, ?_⟩⟩⟩
  rw [List.length_map]
  refine NV hhi (NV hlo ⟨hb, ?_⟩)
  rw [<- List.map_take, <- List.map_drop]; exact k
 cases hr
end
end Go.E
/- Rules for single operations: calls, what is appended, made, looked up, set against another. No condition. -/
namespace Go.E
open Go Go.RowKit
inductive Jf : List DV -> List DV -> Prop where
 | nil : Jf [] []
 | cons {a b : DV} {l m : List DV} (h : Le a b) (t : Jf l m) : Jf (a :: l) (b :: m)
theorem Le.rfl {d : DV} : Le d d := fun _ _ _ h => h
theorem Jf.rfl : ∀ {l : List DV}, Jf l l
 | [] => .nil
 | _ :: _ => .cons Le.rfl Jf.rfl
theorem Jf.len {l m : List DV} (h : Jf l m) : l.length = m.length := by induction h with
 | nil => exact Eq.refl _
 | cons _ _ ih => simp [ih]
theorem Jf.get {l m : List DV} (h : Jf l m) : ∀ (i : Nat) (a b : DV), l[i]? = some a -> m[i]? = some b -> Le a b := by
 induction h with
 | nil => intro i a b h1; simp at h1
 | cons h _ ih =>
  intro i x y h1 h2
  cases i with
  | zero => simp at h1 h2; subst h1 h2; exact h
  | succ i => exact ih i x y (by simpa using h1) (by simpa using h2)
theorem Le.tup' {l m : List DV} (h : Jf l m) : Le (.tup l) (.tup m) := Le.tup h.len h.get
theorem Le.agg' {l m : List DV} (h : Jf l m) : Le (.agg l) (.agg m) := Le.agg h.len h.get
theorem Le.nilm : Le .nilm (.map []) := fun _ _ _ hv => by cases hv; exact .mnil
theorem Le.own {α : Type} {enc : α -> List DV} {l : List α} {sz : Nat} : Le (.slice sz (((l.map enc).drop 0).take l.length)) (.slice sz (l.map enc)) := Le.of_eq (by rw [List.drop_zero, List.take_of_length_le (by simp)])
theorem BZ.le {P : Program} {k : Nat} {ds ds' : List DV} {Q : DV -> Prop} (h : BZ P k ds Q) (hl : Jf ds' ds) : BZ P k ds' Q :=
 ⟨h.enters, fun O w vs h1 h2 h3 => h.run O w vs h1 (by rw [h2, hl.len]) fun i v d hv hd => by
  have hi := (List.getElem?_eq_some_iff.1 hd).1
  have hlen := hl.len
  have hx : ds'[i]? = some (ds'[i]'(by omega)) := List.getElem?_eq_getElem _
  exact hl.get i _ d hx hd _ _ _ (h3 i v _ hv hx)⟩
theorem EU.le {P : Program} {k : Nat} {ds ds' : List DV} {e sz : Nat} {el : List (List DV)} (h : EU P k ds e sz el) (hl : Jf ds' ds) : EU P k ds' e sz el :=
 ⟨h.enters, fun O w vs h1 h2 h3 => h.run O w vs h1 (by rw [h2, hl.len]) fun i v d hv hd => by
  have hi := (List.getElem?_eq_some_iff.1 hd).1
  have hlen := hl.len
  have hx : ds'[i]? = some (ds'[i]'(by omega)) := List.getElem?_eq_getElem _
  exact hl.get i _ d hx hd _ _ _ (h3 i v _ hv hx)⟩
section
variable {κ υ : Type} [BEq κ]
def Aj (m : List (κ × υ)) (x : κ) : Option υ := match m with
 | [] => none
 | p :: m => if x == p.1 then some p.2 else Aj m x
def BO (x : κ) (v : υ) : List (κ × υ) -> List (κ × υ)
 | [] => [(x, v)]
 | p :: m => if x == p.1 then (p.1, v) :: m else p :: BO x v m
structure IS (AB : A4) (kt : Nat) (ke : κ -> DV) : Prop where
 eq : ∀ a b, DZ (ke a) (ke b) = (a == b)
 fits : ∀ a, Be AB kt (ke a) = true
theorem IS.to {AB env' : A4} {kt : Nat} {ke : κ -> DV} (h : IS AB kt ke) (hf : ∀ a, Be env' kt (ke a) = Be AB kt (ke a)) : IS env' kt ke := ⟨h.eq, fun a => (hf a).trans (h.fits a)⟩
def Ad (ke : κ -> DV) (ve : υ -> DV) (m : List (κ × υ)) : List (DV × DV) := m.map fun p => (ke p.1, ve p.2)
variable {AB : A4} {kt : Nat} {ke : κ -> DV} {ve : υ -> DV}
theorem Mf (hk : IS AB kt ke) (x : κ) : ∀ m : List (κ × υ), GJ (ke x) (Ad ke ve m) = (Aj m x).map ve
 | [] => by simp [Ad, GJ, C5, Aj]
 | p :: m => by
  have ih := Mf hk x m
  simp only [Ad, GJ] at ih
  simp only [Ad, List.map_cons, GJ, C5, hk.eq, Aj]
  by_cases h : (x == p.1) = true
  .simp [h]
  simp only [h]
  simp only [Bool.false_eq_true, if_false, Option.map_map]
  rw [<- ih]
  cases C5 (ke x) (m.map fun p => (ke p.1, ve p.2)) <;> simp
theorem QH (hk : IS AB kt ke) (x : κ) (v : υ) : ∀ m : List (κ × υ), J9 (ke x) (ve v) (Ad ke ve m) = Ad ke ve (BO x v m)
 | [] => by simp [Ad, J9, BO]
 | p :: m => by
  have ih := QH hk x v m
  simp only [Ad] at ih
  simp only [Ad, List.map_cons, J9, hk.eq, BO]
  by_cases h : (x == p.1) = true
  .simp [h]
  simp only [h]
  simp only [Bool.false_eq_true, if_false, List.map_cons, ih]
theorem Jg (hk : IS AB kt ke) (m : List (κ × υ)) : ((Ad ke ve m).all fun p => Be AB kt p.1) = true := by
 simp only [Ad, List.all_map, List.all_eq_true, Function.comp]
 intro p _; exact hk.fits _
end
section
variable {β : Type}
def OD (t : Nat) : AO -> (AO -> Option β) -> Option β
 | [], k => k []
 | (q, u) :: l, k => match Nat.beq t q with
  | true => OD t l k
  | false => OD t l (fun r => k ((q, u) :: r))
theorem Kb {t : Nat} : ∀ {l : AO} {k : AO -> Option β}, OD t l k = k (D7 t l)
 | [], k => rfl
 | (q, u) :: l, k => by
  simp only [OD, D7]
  by_cases h : t = q
  .subst h; simp only [Nat.beq_refl, if_true]; exact Kb
  have : Nat.beq t q = false := by
   cases hb : Nat.beq t q with
   | false => rfl
   | true => exact absurd (Nat.eq_of_beq_eq_true hb) h
  rw [this, if_neg h]
  exact Kb
end
section
variable {P : Program} {A : BF} {AB : A4} {f : St -> Prop} {hf : Gw f} {nt : Nat} {sl : List (Nat × LV)} {h : AO} {c : Nat} {d : Tmp}
theorem D2 {args : List Operand} {ls : List LV} (hl : C7 nt sl args some = some ls) : args.map (St.eval ⟨nt, sl, h, c⟩) = ls := by
 rw [IA, Option.some.injEq] at hl
 rw [<- hl]
 exact List.map_congr_left fun x _ => (BI (h := h) (c := c)).symm
theorem Ab {fo : Operand} {args : Array Operand} {ts : Array TypeId} {k : Nat} {caps ls : List LV} {ds : List DV} {r : DV} (hF : BZ P k ds (· = r)) (hs : r.scalar = true \/ (ls ++ caps).flatMap (Dh h) = [])
  (hfn : BG nt sl fo = .fn k caps) (hl : C7 nt sl args.toList some = some ls) (hds : Bi h (ls ++ caps) = some ds) (kk : f ⟨nt, (d, .p r) :: sl, h, c⟩) : BJ P A AB ⟨nt, sl, h, c⟩ (some d) (.call ⟨.value fo, args, ts⟩) ⟨f, hf⟩ := by
 rw [BI (h := h) (c := c)] at hfn
 show Ja _ _
 rw [hfn]
 show G4 P A h c k (args.toList.map _ ++ caps) _
 rw [D2 hl]
 exact Yl hds hF hs kk
theorem XC {fo : Operand} {args : Array Operand} {ts : Array TypeId} {k : Nat} {caps ls : List LV} {ds : List DV} {r : DV} {h' : AO} (hF : BZ P k ds (· = r)) (hs : r.scalar = false)
  (hfn : BG nt sl fo = .fn k caps) (hl : C7 nt sl args.toList some = some ls) (hds : Bi h (ls ++ caps) = some ds) (hd : Bq ((ls ++ caps).flatMap (Dh h)) h = h') (kk : f ⟨nt, (d, .p r) :: sl, h', c⟩) : BJ P A AB ⟨nt, sl, h, c⟩ (some d) (.call ⟨.value fo, args, ts⟩) ⟨f, hf⟩ := by
 rw [BI (h := h) (c := c)] at hfn
 show Ja _ _
 rw [hfn]
 show G4 P A h c k (args.toList.map _ ++ caps) _
 rw [D2 hl]
 exact Ym hds hF hs hd kk
theorem Bf {fo : Operand} {args : Array Operand} {ts : Array TypeId} {k : Nat} {caps ls : List LV} {ds : List DV} {r : DV} (hF : BZ P k ds (· = r)) (hs : r.scalar = true \/ (ls ++ caps).flatMap (Dh h) = [])
  (hfn : (CK fo, BG nt sl fo) = (false, .fn k caps)) (hl : C7 nt sl args.toList some = some ls) (hds : Bi h (ls ++ caps) = some ds) (kk : f ⟨nt, (d, .p r) :: sl, h, c⟩) : Fk P A AB ⟨nt, sl, h, c⟩ (some d) (.call ⟨.value fo, args, ts⟩) ⟨f, hf⟩ := by
 obtain ⟨hnd, hfn⟩ := Prod.mk.inj hfn
 rw [BI (h := h) (c := c)] at hfn
 show (if CK fo = true then _ else Ja _ _)
 rw [if_neg (by rw [hnd]; decide)]
 rw [hfn]
 refine .inl ?_
 show Vp P h k (args.toList.map _ ++ caps) _
 rw [D2 hl]
 exact ZG hds hF hs kk
def Pp (AB : A4) (t e sz : Nat) : Bool := match AB.tt t with
 | some ti => match ti.sh with
  | .slc e' => match AB.tt e with
   | some te => Nat.beq e' e && (Nat.beq te.size sz && (Nat.blt 0 sz && Nat.ble te.bytes 32768))
   | none => false
  | _ => false
 | none => false
theorem NW {t e sz : Nat} (h : Pp AB t e sz = true) : ∃ ti te, AB.tt t = some ti /\ ti.sh = .slc e /\ AB.tt e = some te /\ te.size = sz /\ 0 < sz /\ te.bytes <= 32768 := by
 unfold Pp at h
 split at h
 .rename_i ti hti
  split at h
  .rename_i e' he
   split at h
   .rename_i te hte
    simp only [Bool.and_eq_true] at h
    obtain ⟨h1, h2, h3, h4⟩ := h
    have := Nat.eq_of_beq_eq_true h1
    subst this
    exact ⟨ti, te, hti, he, hte, Nat.eq_of_beq_eq_true h2, Nat.le_of_ble_eq_true h3, Nat.le_of_ble_eq_true h4⟩
   cases h
  cases h
 cases h
variable {α : Type} {enc : α -> List DV} {l m r : List α} {t e sz : Nat} {s x : Operand}
def Qz (enc : α -> List DV) (sz : Nat) : Prop := ∀ a, (enc a).length = sz /\ (enc a).all DV.cell = true
theorem QI (hr : A5 l m = some r) : r = l ++ m /\ l.length + m.length <= 4294967296 := by
 simp only [A5] at hr
 split at hr
 .simp only [Option.some.injEq] at hr; exact ⟨hr.symm, ‹_›⟩
 cases hr
theorem QJ {n b : Nat} (hb : b <= 32768) (hn : n <= 4294967296) : n * b <= 140737488355328 :=
 Nat.le_trans (Nat.mul_le_mul hn hb) (by decide)
theorem TB {n : Nat} (hn : n <= 4294967296) : n <= maxLen := by unfold maxLen; omega
theorem Un (hr : A5 [] m = some r) (hen : Qz enc sz) (hs : BG nt sl s = .p .nils) (hx : F6 h (BG nt sl x) = some (m.map enc)) (ht : Pp AB t e sz = true)
  (k : f ⟨nt, (d, .lsl c sz 0 r.length) :: sl, (c, .row e sz (r.map enc)) :: h, c + 1⟩) : BJ P A AB ⟨nt, sl, h, c⟩ (some d) (.call ⟨.builtin .append, #[s, x], #[t, t]⟩) ⟨f, hf⟩ := by
 obtain ⟨ti, te, h1, h2, h3, h4, h5, h6⟩ := NW ht
 obtain ⟨rfl, hn⟩ := QI hr
 simp only [List.length_nil, Nat.zero_add] at hn
 rw [BI (h := h) (c := c)] at hs hx
 subst h4
 refine ⟨rfl, AT.2 ⟨ti, h1, CL.2 ⟨e, h2, AT.2 ⟨te, h3, h5, AU.2 ⟨_, hx, ?_, ?_⟩⟩⟩⟩⟩
 .intro y hy
  obtain ⟨a, _, rfl⟩ := List.mem_map.1 hy
  exact hen a
 rw [hs]
 simp only [RO, List.length_map]
 exact ⟨⟨QJ h6 hn, TB hn⟩, k⟩
theorem AP {id n : Nat} {h' : AO} (hr : A5 l m = some r) (hen : Qz enc sz) (hs : BG nt sl s = .lsl id sz 0 n) (hl : BU id h = some (.row e sz (l.map enc))) (hn : n = l.length) (hd : OD id h some = some h')
  (hx : F6 h (BG nt sl x) = some (m.map enc)) (ht : Pp AB t e sz = true)
  (k : f ⟨nt, (d, .lsl c sz 0 r.length) :: sl, (c, .row e sz (r.map enc)) :: h', c + 1⟩) : BJ P A AB ⟨nt, sl, h, c⟩ (some d) (.call ⟨.builtin .append, #[s, x], #[t, t]⟩) ⟨f, hf⟩ := by
 obtain ⟨ti, te, h1, h2, h3, h4, h5, h6⟩ := NW ht
 obtain ⟨rfl, hb⟩ := QI hr
 rw [BI (h := h) (c := c)] at hs hx
 rw [Kb, Option.some.injEq] at hd
 rw [BV] at hl
 subst h4 hn hd
 refine ⟨rfl, AT.2 ⟨ti, h1, CL.2 ⟨e, h2, AT.2 ⟨te, h3, h5, AU.2 ⟨_, hx, ?_, ?_⟩⟩⟩⟩⟩
 .intro y hy
  obtain ⟨a, _, rfl⟩ := List.mem_map.1 hy
  exact hen a
 rw [hs]
 simp only [RO]
 refine ⟨trivial, AU.2 ⟨_, hl, ?_⟩⟩
 dsimp only
 refine Ew.2 ⟨e, te.size, l.map enc, rfl, ?_⟩
 refine ⟨⟨rfl, rfl, by simp, by rw [List.length_map]; exact QJ h6 hb, by rw [List.length_map]; exact TB hb⟩, ?_⟩
 have e1 : ((l.map enc).drop 0).take l.length ++ m.map enc = (l ++ m).map enc := by rw [List.drop_zero, List.take_of_length_le (by simp), List.map_append]
 rw [List.length_append] at k
 simp only [e1, List.length_map]
 exact k
theorem B1 {i : Operand} {kk : IntKind} {n : Int} {id len : Nat} {y : α} (hy : Ar l n = some y) (ht : LL AB t sz = true) (hx : BG nt sl x = .lsl id sz 0 len) (hi : BG nt sl i = .p (.int kk n)) (hn : len = l.length)
  (k : f ⟨nt, (d, .lpe id n.toNat 0) :: sl, h, c⟩) : BJ P A AB ⟨nt, sl, h, c⟩ (some d) (.indexAddr t x i) ⟨f, hf⟩ := by
 obtain ⟨ti, e, te, h1, h2, h3, h4⟩ := LM ht
 obtain ⟨g1, g2, g3⟩ := Hf hy
 rw [BI (h := h) (c := c)] at hx hi
 refine CW.2 ⟨kk, n, hi, AT.2 ⟨ti, h1, ?_⟩⟩
 dsimp only
 rw [h2, hx]
 refine AT.2 ⟨te, h3, h4, ⟨g1, by omega⟩, ?_⟩
 simp only [Nat.zero_add]
 exact k
theorem CQ {n : Int} {id o : Nat} {y : α} {v : LV} (hy : Ar l n = some y) (hx : BG nt sl x = .lpe id n.toNat o) (hl : BU id h = some (.row e sz (l.map enc)))
  (hv : (match AB.tt t with | some ti => Oq ti o (enc y) some | none => none) = some v) (k : f ⟨nt, (d, v) :: sl, h, c⟩) : BJ P A AB ⟨nt, sl, h, c⟩ (some d) (.load t x) ⟨f, hf⟩ := by
 obtain ⟨g1, g2, g3⟩ := Hf hy
 rw [BI (h := h) (c := c)] at hx
 rw [BV] at hl
 split at hv
 .rename_i ti hti
  rw [N9] at hv
  obtain ⟨u, h1, h2⟩ := Option.bind_eq_some_iff.1 hv
  simp only [Option.some.injEq] at h2
  subst h2
  refine AT.2 ⟨ti, hti, ?_⟩
  rw [hx]
  refine AU.2 ⟨_, hl, ?_⟩
  dsimp only
  refine Ew.2 ⟨e, sz, l.map enc, rfl, ?_⟩
  exact AU.2 ⟨enc y, by rw [List.getElem?_map, g3]; rfl, AU.2 ⟨u, h1, k⟩⟩
 cases hv
theorem Wh {n : Int} {id o : Nat} {y z : α} {v : Operand} {ls : List LV} {ds : List DV} {h' : AO} (hy : Ar l n = some y) (hx : BG nt sl x = .lpe id n.toNat o) (hl : BU id h = some (.row e sz (l.map enc)))
  (hc : JA (BG nt sl v) some = some ls) (hds : Fv ls = some ds) (hsz : (match AB.tt t with | some ti => Nat.beq ls.length ti.size && MW ls | none => false) = true) (hz : Cd (enc y) o ds = enc z) (hlen : Nat.ble (o + ls.length) (enc y).length = true)
  (hu : IQ id (.row e sz ((IR l n z).map enc)) h some = some h') (k : f ⟨nt, sl, h', c⟩) : BJ P A AB ⟨nt, sl, h, c⟩ none (.store t x v) ⟨f, hf⟩ := by
 obtain ⟨g1, g2, g3⟩ := Hf hy
 rw [BI (h := h) (c := c)] at hx hc
 rw [BV] at hl
 rw [GA, Option.some.injEq] at hu
 subst hu
 split at hsz
 .rename_i ti hti
  simp only [Bool.and_eq_true] at hsz
  rw [H9, Option.bind_eq_some_iff] at hc
  obtain ⟨ls', h1, h2⟩ := hc
  simp only [Option.some.injEq] at h2
  subst h2
  refine AT.2 ⟨ti, hti, AU.2 ⟨ls', h1, ⟨Nat.eq_of_beq_eq_true hsz.1, by rw [<- MX]; exact hsz.2⟩, ?_⟩⟩
  rw [hx]
  refine AU.2 ⟨_, hl, ?_⟩
  dsimp only
  refine Ew.2 ⟨e, sz, l.map enc, rfl, ?_⟩
  refine AU.2 ⟨enc y, by rw [List.getElem?_map, g3]; rfl, AU.2 ⟨ds, hds, Nat.le_of_ble_eq_true hlen, ?_⟩⟩
  dsimp only
  rw [hz]
  simp only [IR, List.map_set] at k
  exact k
 cases hsz
def TC (AB : A4) (t kt et : Nat) : Bool := match AB.tt t with
 | some ti => match ti.sh with
  | .mp k e => Nat.beq k kt && Nat.beq e et
  | _ => false
 | none => false
theorem Oz {kt et : Nat} (h : TC AB t kt et = true) : ∃ ti, AB.tt t = some ti /\ ti.sh = .mp kt et := by
 unfold TC at h
 split at h
 .rename_i ti hti
  split at h
  .rename_i k e he
   simp only [Bool.and_eq_true] at h
   have h1 := Nat.eq_of_beq_eq_true h.1; have h2 := Nat.eq_of_beq_eq_true h.2
   subst h1 h2
   exact ⟨ti, hti, he⟩
  cases h
 cases h
variable {κ υ : Type} [BEq κ] {ke : κ -> DV} {ve : υ -> DV} {mp : List (κ × υ)} {kt et : Nat} {i : Operand}
theorem Rb {o : Option υ} {z : υ} : (o.map ve).getD (ve z) = ve (o.getD z) := by cases o <;> rfl
theorem Yo {y : κ} (z : υ) (hk : IS AB kt ke) (hm : Ih h (BG nt sl x) = some (Ad ke ve mp)) (hi : BG nt sl i = .p (ke y)) (ht : TC AB t kt et = true) (hz : (AB.tt et).map (zV AB) = some (ve z))
  (k : f ⟨nt, (d, .tup [.p (ve ((Aj mp y).getD z)), .p (.bool (Aj mp y).isSome)]) :: sl, h, c⟩) : BJ P A AB ⟨nt, sl, h, c⟩ (some d) (.lookup t x i true) ⟨f, hf⟩ := by
 obtain ⟨ti, h1, h2⟩ := Oz ht
 rw [BI (h := h) (c := c)] at hm hi
 obtain ⟨te, h3, h4⟩ := Option.map_eq_some_iff.1 hz
 refine AT.2 ⟨ti, h1, D1.2 ⟨kt, et, h2, AT.2 ⟨te, h3, AU.2 ⟨_, hm, DC.2 ⟨_, hi, ⟨hk.fits y, Jg hk mp⟩, ?_⟩⟩⟩⟩⟩
 simp only [if_true, Mf hk, h4, Rb, Option.isSome_map]
 exact k
theorem Hw {y : κ} (z : υ) (hk : IS AB kt ke) (hm : Ih h (BG nt sl x) = some (Ad ke ve mp)) (hi : BG nt sl i = .p (ke y)) (ht : TC AB t kt et = true) (hz : (AB.tt et).map (zV AB) = some (ve z))
  (k : f ⟨nt, (d, .p (ve ((Aj mp y).getD z))) :: sl, h, c⟩) : BJ P A AB ⟨nt, sl, h, c⟩ (some d) (.lookup t x i false) ⟨f, hf⟩ := by
 obtain ⟨ti, h1, h2⟩ := Oz ht
 rw [BI (h := h) (c := c)] at hm hi
 obtain ⟨te, h3, h4⟩ := Option.map_eq_some_iff.1 hz
 refine AT.2 ⟨ti, h1, D1.2 ⟨kt, et, h2, AT.2 ⟨te, h3, AU.2 ⟨_, hm, DC.2 ⟨_, hi, ⟨hk.fits y, Jg hk mp⟩, ?_⟩⟩⟩⟩⟩
 simp only [Bool.false_eq_true, if_false, Mf hk, h4, Rb]
 exact k
theorem Jh {y : κ} {z : υ} {id : Nat} {v : Operand} {h' : AO} (hk : IS AB kt ke) (hx : BG nt sl x = .lmap id) (hm : BU id h = some (.map (Ad ke ve mp))) (hi : BG nt sl i = .p (ke y)) (hv : BG nt sl v = .p (ve z)) (ht : TC AB t kt et = true)
  (hu : IQ id (.map (Ad ke ve (BO y z mp))) h some = some h') (k : f ⟨nt, sl, h', c⟩) : BJ P A AB ⟨nt, sl, h, c⟩ none (.mapUpdate t x i v) ⟨f, hf⟩ := by
 obtain ⟨ti, h1, h2⟩ := Oz ht
 rw [BI (h := h) (c := c)] at hx hi hv
 rw [BV] at hm
 rw [GA, Option.some.injEq] at hu
 subst hu
 refine AT.2 ⟨ti, h1, D1.2 ⟨kt, et, h2, EI.2 ⟨id, hx, AU.2 ⟨_, hm, ?_⟩⟩⟩⟩
 dsimp only
 refine Ev.2 ⟨Ad ke ve mp, rfl, ?_⟩
 refine DC.2 ⟨_, hi, DC.2 ⟨_, hv, ⟨hk.fits y, Jg hk mp⟩, ?_⟩⟩
 rw [QH hk]
 exact k
def D8 (y : κ) : List (κ × υ) -> List (κ × υ)
 | [] => []
 | p :: m => if y == p.1 then m else p :: D8 y m
theorem QK (hk : IS AB kt ke) (x : κ) : ∀ m : List (κ × υ), LA (ke x) (Ad ke ve m) = Ad ke ve (D8 x m)
 | [] => by simp [Ad, LA, D8]
 | p :: m => by
  have ih := QK hk x m
  simp only [Ad] at ih
  simp only [Ad, List.map_cons, LA, hk.eq, D8]
  split
  .rfl
  simp only [List.map_cons, ih]
theorem Ji {y : κ} {id t : Nat} {r : List TypeId} {c0 : Call} {h' : AO} (hk : IS AB kt ke) (hc : c0.callee = .builtin .delete) (ha : c0.args.toList = [x, i]) (hat : c0.argTypes.toList = t :: r) (hx : BG nt sl x = .lmap id) (hm : BU id h = some (.map (Ad ke ve mp))) (hi : BG nt sl i = .p (ke y)) (ht : TC AB t kt et = true)
  (hu : IQ id (.map (Ad ke ve (D8 y mp))) h some = some h') (k : f ⟨nt, sl, h', c⟩) : BJ P A AB ⟨nt, sl, h, c⟩ none (.call c0) ⟨f, hf⟩ := by
 obtain ⟨ti, h1, h2⟩ := Oz ht
 rw [BI (h := h) (c := c)] at hx hi
 rw [BV] at hm
 rw [GA, Option.some.injEq] at hu
 subst hu
 show Ii P A AB ⟨nt, sl, h, c⟩ none c0 ⟨f, hf⟩
 unfold Ii
 rw [hc, ha, hat]
 refine AT.2 ⟨ti, h1, D1.2 ⟨kt, et, h2, EI.2 ⟨id, hx, AU.2 ⟨_, hm, ?_⟩⟩⟩⟩
 dsimp only
 refine Ev.2 ⟨Ad ke ve mp, rfl, ?_⟩
 refine DC.2 ⟨_, hi, ⟨hk.fits y, Jg hk mp⟩, ?_⟩
 rw [QK hk]
 exact k
theorem Kc {ks : List Sh} {xs ys : List DV} {b : Bool} {y : Operand} {t' : Nat} (hb : Ce xs ys = b) (hx : BG nt sl x = .p (.agg xs)) (hy : BG nt sl y = .p (.agg ys)) (hk : AB.eqk t = some ks) (f1 : fits ks xs = true) (f2 : fits ks ys = true)
  (k : f ⟨nt, (d, .p (.bool b)) :: sl, h, c⟩) : Fk P A AB ⟨nt, sl, h, c⟩ (some d) (.binOp .eql t x y t') ⟨f, hf⟩ := by
 rw [BI (h := h) (c := c)] at hx hy
 show RR AB .eql t _ _ _
 rw [hx, hy]
 exact AU.2 ⟨ks, hk, f1, f2, by rw [hb]; exact k⟩
end
end Go.E
/- Rules for a function's beginning and end, and for states that are made weaker, by unfolding alone. No condition. -/
namespace Go.E
open Go Go.RowKit
abbrev li (n : Int) : LV := .p (.int .i64 n)
abbrev lb (b : Bool) : LV := .p (.bool b)
abbrev lq (l : List DV) : LV := .p (.place l 0)
abbrev ls {α : Type} (sz : Nat) (enc : α -> List DV) (l : List α) : LV := .p (.slice sz (l.map enc))
section
variable {P : Program} {A : BF} {AB : A4}
theorem fn (hE : A8 P AB) {k : Nat} {fn : Func} {c : Code} {ds : List DV} {d : DV} (hf : P.funcs[k]? = some fn) (hb : fn.body = some c) (hn : (fn.name == "runtime.NumGoroutine") = false) (nt : Nat) (hnt : Nat.beq fn.ntmps nt = true)
  (rs : List ResultVar) (hrs : fn.results.toList = rs) (sl : List (Nat × LV)) (hsl : DF 0 ds = sl) (hlen : Nat.ble ds.length nt = true)
  (h : ∀ A : BF, (∀ id, A.μ0 id = none) -> B3 P A c (K3 fun st => ∃ r, Et AB.tt rs st = some r /\ Le r d) ⟨nt, sl, [], 0⟩) : BZ P k ds (· = d) := by
 subst hsl
 exact Xo hE hf hb hn nt (Nat.eq_of_beq_eq_true hnt) rs hrs (Nat.le_of_ble_eq_true hlen) h
theorem er {rs : List ResultVar} {st : St} {r d : DV} (h : Et AB.tt rs st = some r) (hle : Le r d) : K3 (fun st => ∃ r, Et AB.tt rs st = some r /\ Le r d) .ret st := ⟨r, h, hle⟩
theorem en {rs : List ResultVar} {st : St} {r d : DV} (h : Et AB.tt rs st = some r) (hle : Le r d) : K3 (fun st => ∃ r, Et AB.tt rs st = some r /\ Le r d) .normal st := ⟨r, h, hle⟩
inductive Jj (h : AO) : LV -> DV -> Prop where
 | p (d : DV) : Jj h (.p d) d
 | own {α : Type} {enc : α -> List DV} (l : List α) {id e sz n : Nat} (hl : BU id h = some (.row e sz (l.map enc))) (hn : n = l.length) : Jj h (.lsl id sz 0 n) (.slice sz (l.map enc))
 | map {id : Nat} {m : List (DV × DV)} (hl : BU id h = some (.map m)) : Jj h (.lmap id) (.map m)
 | sub {α : Type} {enc : α -> List DV} (l r : List α) {id e sz off n : Nat} (hl : BU id h = some (.row e sz (l.map enc))) (hr : off + n <= l.length /\ (l.drop off).take n = r) : Jj h (.lsl id sz off n) (.slice sz (r.map enc))
inductive O0 (h : AO) : List LV -> List DV -> Prop where
 | nil : O0 h [] []
 | cons {v : LV} {d : DV} {vs : List LV} {ds : List DV} (k : Jj h v d) (r : O0 h vs ds) : O0 h (v :: vs) (d :: ds)
inductive QL (h : AO) : List LV -> List DV -> Prop where
 | nil : QL h [] []
 | box {us : List LV} {es : List DV} {id off : Nat} {vs : List LV} {ds : List DV} (hl : BU id h = some (.box us)) (k : O0 h us es) (r : QL h vs ds) : QL h (.lpb id off :: vs) (.place es off :: ds)
 | cons {v : LV} {d : DV} {vs : List LV} {ds : List DV} (k : Jj h v d) (r : QL h vs ds) : QL h (v :: vs) (d :: ds)
inductive Ld (h : AO) : LV -> DV -> Prop where
 | one {v : LV} {d : DV} (k : Jj h v d) : Ld h v d
 | agg {vs : List LV} {ds : List DV} (k : O0 h vs ds) : Ld h (.agg vs) (.agg ds)
 | tup {vs : List LV} {ds : List DV} (k : O0 h vs ds) : Ld h (.tup vs) (.tup ds)
 | box {vs : List LV} {ds : List DV} {id off : Nat} (hl : BU id h = some (.box vs)) (k : O0 h vs ds) : Ld h (.lpb id off) (.place ds off)
 | fn {f : Nat} {vs : List LV} {ds : List DV} (k : QL h vs ds) : Ld h (.fn f vs) (.fn f ds)
inductive Cu (h : AO) : List LV -> List DV -> Prop where
 | nil : Cu h [] []
 | cons {v : LV} {d : DV} {vs : List LV} {ds : List DV} (k : Ld h v d) (r : Cu h vs ds) : Cu h (v :: vs) (d :: ds)
theorem Jj.eq {h : AO} {v : LV} {d : DV} (k : Jj h v d) : Es h v = some d := by
 cases k with
 | p => rfl
 | own l hl hn =>
  rw [BV] at hl
  subst hn
  simp only [Es, hl, Nat.zero_add, List.length_map, Nat.le_refl, and_self, if_true, List.drop_zero]
  rw [List.take_of_length_le (by simp)]
 | map hl => rw [BV] at hl; simp only [Es, hl]
 | sub l r hl hr =>
  rw [BV] at hl
  simp only [Es, hl, List.length_map]
  rw [if_pos ⟨trivial, hr.1⟩, <- List.map_drop, <- List.map_take, hr.2]
theorem O0.eq {h : AO} {vs : List LV} {ds : List DV} (k : O0 h vs ds) : Fb h vs = some ds := by
 induction k with
 | nil => rfl
 | cons k _ ih => simp only [Fb, k.eq, ih]
theorem Jj.eqb {h : AO} {v : LV} {d : DV} (k : Jj h v d) : Ht h v = some d := by
 have := k.eq
 cases k <;> exact this
theorem QL.eq {h : AO} {vs : List LV} {ds : List DV} (k : QL h vs ds) : FK h vs = some ds := by
 induction k with
 | nil => rfl
 | box hl k _ ih => rw [BV] at hl; simp only [FK, Ht, hl, k.eq, ih, Option.map_some]
 | cons k _ ih => simp only [FK, k.eqb, ih]
theorem Ld.eq {h : AO} {v : LV} {d : DV} (k : Ld h v d) : Eg h v = some d := by
 cases k with
 | one k => cases k with
  | p => rfl
  | own l hl hn => exact Jj.eq (.own l hl hn)
  | map hl => exact Jj.eq (.map hl)
  | sub l r hl hr => exact Jj.eq (.sub l r hl hr)
 | agg k => simp only [Eg, k.eq, Option.map_some]
 | tup k => simp only [Eg, k.eq, Option.map_some]
 | box hl k => rw [BV] at hl; simp only [Eg, hl, k.eq, Option.map_some]
 | fn k => simp only [Eg, k.eq, Option.map_some]
theorem Cu.eq {h : AO} {vs : List LV} {ds : List DV} (k : Cu h vs ds) : Bi h vs = some ds := by
 induction k with
 | nil => rfl
 | cons k _ ih => simp only [Bi, k.eq, ih]
theorem Ic {rs : List ResultVar} {st : St} {v : LV} {d : DV} (hr : Hu AB.tt st rs = some [v]) (k : Ld st.heap v d) : Et AB.tt rs st = some d := by
 simp only [Et, hr, k.eq]
theorem Xs {rs : List ResultVar} {st : St} {v u : LV} {vs : List LV} {ds : List DV} (hr : Hu AB.tt st rs = some (v :: u :: vs)) (k : Cu st.heap (v :: u :: vs) ds) : Et AB.tt rs st = some (.tup ds) := by
 simp only [Et, hr, k.eq, Option.map_some]
def T3 (sl : List (Nat × LV)) (t : Nat) : LV := match BU t sl with
 | some v => v
 | none => .any
theorem XD {sl : List (Nat × LV)} {t : Nat} : T3 sl t = Bh sl t := by simp only [T3, Bh, BV]; rfl
inductive TD (gl : List (Nat × Nat)) (sl : List (Nat × LV)) : List (Nat × LV) -> Prop where
 | nil : TD gl sl []
 | cons {t : Nat} {l : LV} {r : List (Nat × LV)} (h : T3 sl t = EX gl l) (k : TD gl sl r) : TD gl sl ((t, l) :: r)
inductive TE (gl : List (Nat × Nat)) (h : AO) : AO -> Prop where
 | nil : TE gl h []
 | cons {id old : Nat} {o : A9} {r : AO} (h1 : BU id gl = some old) (h2 : BU old h = some (Tt gl o)) (k : TE gl h r) : TE gl h ((id, o) :: r)
def Kd (gl : List (Nat × Nat)) : List (Nat × LV) -> Bool
 | [] => true
 | (_, l) :: r => match Db gl l with
  | true => Kd gl r
  | false => false
def Ke (gl : List (Nat × Nat)) : AO -> Bool
 | [] => true
 | (_, o) :: r => match RP gl o with
  | true => Ke gl r
  | false => false
theorem Vw {gl : List (Nat × Nat)} {sl sl' : List (Nat × LV)} (h : TD gl sl sl') : Kd gl sl' = true -> Qv gl sl sl' := by
 induction h with
 | nil => intro _; trivial
 | cons h _ ih =>
  intro hn
  simp only [Kd] at hn
  split at hn
  .rename_i hq; exact ⟨⟨hq, by rw [<- XD]; exact h⟩, ih hn⟩
  cases hn
theorem Vx {gl : List (Nat × Nat)} {h h' : AO} (k : TE gl h h') : Ke gl h' = true -> Qw gl h h' := by
 induction k with
 | nil => intro _; trivial
 | cons h1 h2 _ ih =>
  intro hn
  simp only [Ke] at hn
  split at hn
  .rename_i hq; exact ⟨⟨hq, _, by rw [<- BV]; exact h1, by rw [<- BV]; exact h2⟩, ih hn⟩
  cases hn
theorem wk (gl : List (Nat × Nat)) {nt : Nat} {sl sl' : List (Nat × LV)} {h h' : AO} {c c' : Nat} (hext : ∀ id, A.μ0 id ≠ none -> AE id gl = some id) (ho : Om gl h' c' = true) (hn : Kd gl sl' = true) (hm : Ke gl h' = true)
  (hs : TD gl sl sl') (hh : TE gl h h') : A6 A ⟨nt, sl, h, c⟩ ⟨nt, sl', h', c'⟩ := Vo gl hext ho (Vw hs hn) (Vx hh hm)
def Q0 (sl : List (Nat × LV)) : List (Nat × LV) -> List LV
 | [] => []
 | (t, _) :: r => T3 sl t :: Q0 sl r
def Q1 (gl : List (Nat × Nat)) : List (Nat × LV) -> List LV
 | [] => []
 | (_, l) :: r => EX gl l :: Q1 gl r
def Xt (gl : List (Nat × Nat)) (h : AO) (id : Nat) : Option A9 := match BU id gl with
 | some old => BU old h
 | none => none
def Q2 (gl : List (Nat × Nat)) (h : AO) : AO -> List (Option A9)
 | [] => []
 | (id, _) :: r => Xt gl h id :: Q2 gl h r
def Q3 (gl : List (Nat × Nat)) : AO -> List (Option A9)
 | [] => []
 | (_, o) :: r => some (Tt gl o) :: Q3 gl r
theorem Rc {gl : List (Nat × Nat)} {sl : List (Nat × LV)} : ∀ {sl' : List (Nat × LV)}, Q0 sl sl' = Q1 gl sl' -> TD gl sl sl'
 | [], _ => .nil
 | (_, _) :: _, h => .cons (List.cons.inj h).1 (Rc (List.cons.inj h).2)
theorem Rd {gl : List (Nat × Nat)} {h : AO} : ∀ {h' : AO}, Q2 gl h h' = Q3 gl h' -> TE gl h h'
 | [], _ => .nil
 | (id, o) :: _, e => by
  have e1 := (List.cons.inj e).1
  unfold Xt at e1
  split at e1
  .rename_i old hl; exact .cons hl e1 (Rd (List.cons.inj e).2)
  cases e1
def T4 (gl : List (Nat × Nat)) (sl' : List (Nat × LV)) (h' : AO) (c' : Nat) : Bool := match Om gl h' c' with
 | true => match Kd gl sl' with
  | true => Ke gl h'
  | false => false
 | false => false
theorem Is {gl : List (Nat × Nat)} {sl' : List (Nat × LV)} {h' : AO} {c' : Nat} (h : T4 gl sl' h' c' = true) : Om gl h' c' = true /\ Kd gl sl' = true /\ Ke gl h' = true := by
 unfold T4 at h
 split at h
 .split at h
  .exact ⟨‹_›, ‹_›, h⟩
  cases h
 cases h
def gi : Nat -> List (Nat × Nat) -> List (Nat × Nat)
 | 0, l => l
 | n + 1, l => gi n ((n, n) :: l)
theorem wf {nt : Nat} {sl sl' : List (Nat × LV)} {h h' : AO} {c c' : Nat} (hA : ∀ id, A.μ0 id = none) (gl : List (Nat × Nat)) (ha : T4 gl sl' h' c' = true) (hs : Q0 sl sl' = Q1 gl sl') (hh : Q2 gl h h' = Q3 gl h') : A6 A ⟨nt, sl, h, c⟩ ⟨nt, sl', h', c'⟩ :=
 wk gl (fun id h => absurd (hA id) h) (Is ha).1 (Is ha).2.1 (Is ha).2.2 (Rc hs) (Rd hh)
section
variable {σ Ans : Type} {S : σ -> St} {Q : Ans -> Exit -> St -> Prop} {st : St}
theorem ZP {s : σ} (hw : A6 A st (S s)) : LP A S Q (.inl s) .normal st := ⟨rfl, hw⟩
theorem Y9 {a : Ans} {id : Nat} (k : Q a (.exit id) st) : LP A S Q (.inr a) (.exit id) st := ⟨nofun, k⟩
theorem ZA {a : Ans} (k : Q a .ret st) : LP A S Q (.inr a) .ret st := ⟨nofun, k⟩
theorem ZQ {s : σ} (hw : A6 A st (S s)) : NP A S s .normal st := ⟨rfl, hw⟩
end
theorem mp {σ Ans : Type} {o : Option Ans} {b : σ ⊕ Ans} (h : o.map .inr = some b) : ∃ a, o = some a /\ b = .inr a := by
 cases o with
 | none => cases h
 | some a => exact ⟨a, rfl, (Option.some.inj h).symm⟩
theorem ZT {σ Ans : Type} {x : Ans} {b : σ ⊕ Ans} (h : some (.inr x) = some b) : ∃ a, some x = some a /\ b = .inr a := ⟨x, rfl, (Option.some.inj h).symm⟩
end
end Go.E
/- Scopes, slices set against nil, functions walked where they are called (GK), slices handed back (EU). No condition. -/
namespace Go.E
open Go Go.RowKit
section
variable {α : Type} [DecidableEq α]
def agree (a b : Option α) : Option α := if a = b then a else none
theorem T5 {a b : Option α} {x : α} (h : agree a b = some x) : a = some x /\ b = some x := by
 unfold agree at h
 split at h
 .rename_i e; exact ⟨h, e ▸ h⟩
 cases h
def KC {β : Type} (l : List β) (a b : Option α) : Option α := match l with
 | [] => agree a b
 | _ :: _ => b
end
section
variable {P : Program} {A : BF} {AB : A4} {st : St}
section
variable {f : St -> Prop} {hf : Gw f} {nt : Nat} {sl : List (Nat × LV)} {h : AO} {c : Nat} {α Ans : Type} [DecidableEq Ans] {enc : α -> List DV} {l : List α} {d : Tmp} {t t' sz : Nat} {x y : Operand} {p q : Option Ans} {a : Ans}
theorem O1 (hh : KC l p q = some a) (ht : Ox AB t = true) (hx : BG nt sl x = .p (.slice sz (l.map enc))) (hy : BG nt sl y = .p .nils)
  (k1 : p = some a -> f ⟨nt, (d, .p (.bool true)) :: sl, h, c⟩) (k2 : q = some a -> f ⟨nt, (d, .p (.bool false)) :: sl, h, c⟩) : BJ P A AB ⟨nt, sl, h, c⟩ (some d) (.binOp .eql t x y t') ⟨f, hf⟩ := by
 obtain ⟨ti, e, h1, h2⟩ := OC ht
 rw [BI (h := h) (c := c)] at hx hy
 show RL AB .eql t _ _ _
 rw [hx, hy]
 refine AT.2 ⟨ti, h1, CL.2 ⟨e, h2, ?_⟩⟩
 intro r hr
 cases l with
 | nil =>
  obtain ⟨g1, g2⟩ := T5 hh
  cases r with
  | true => exact k1 g1
  | false => exact k2 g2
 | cons z l => rw [hr (by simp)]; exact k2 hh
end
def G7 (tt : Nat -> Option TI) (rs : List ResultVar) (st : St) : Option LV :=
 match Hu tt st rs with
 | some [l] => some l
 | some ls => some (.tup ls)
 | none => none
def Jk : Nat -> List LV -> List (Nat × LV)
 | _, [] => []
 | n, d :: ds => (n, d) :: Jk (n + 1) ds
theorem O2 : ∀ (ds : List LV) (n t : Nat), AE t (Jk n ds) = if n <= t then ds[t - n]? else none
 | [], n, t => by simp [Jk, AE]
 | d :: ds, n, t => by
  simp only [Jk, AE]
  by_cases e : t = n
  .subst e; simp
  rw [if_neg e, O2 ds (n + 1) t]
  by_cases h : n + 1 <= t
  .rw [if_pos h, if_pos (by omega), show t - n = t - (n + 1) + 1 by omega, List.getElem?_cons_succ]
  rw [if_neg h, if_neg (by omega)]
theorem Sf (hE : A8 P AB) {A : BF} {μ : Nat -> Option Ba} {F : Nat -> Prop} {st : St} {a : Act} {w : World} (hs : ∀ x, Aa (Ac A μ st.heap) μ w (a.eval x) (st.eval x)) (hh : HRel A μ st.heap F w) {fn : Func} {r : LV} (h : G7 AB.tt fn.results.toList st = some r) :
  ∃ v, (results fn a.tmps).run P w = .ok v w /\ Aa (Ac A μ st.heap) μ w v r := by
 unfold G7 at h
 cases hr : Hu AB.tt st fn.results.toList with
 | none => rw [hr] at h; cases h
 | some ls =>
  rw [hr] at h
  obtain ⟨vs, g1, g2, g3⟩ := J6 (P := P) hE hs hh hr
  have hrun := J7 g1
  match ls, vs, g2 with
  | [], [], _ => cases h; exact ⟨_, hrun, .tup _ _ rfl (by simp)⟩
  | [l], [v], _ => simp only [Option.some.injEq] at h; subst h; exact ⟨_, hrun, g3 0 v l rfl rfl⟩
  | l :: m :: ls, u :: v :: vs, g2 => simp only [Option.some.injEq] at h; subst h; exact ⟨_, hrun, .tup _ _ (by simpa using g2) fun i x d hx hd => g3 i x d (by simpa using hx) hd⟩
theorem TF {c : Code} {Q : Exit -> St -> Prop} (h : B3 P A c (fun e s => ∃ s', A6 A s s' /\ Q e s') st) : B3 P A c Q st := fun a w hR =>
 wp_mono (h a w hR) fun _ a' w' ⟨_, hR', s', hw, q⟩ => ⟨s', hw a' w' hR', q⟩
theorem Re (hE : A8 P AB) {k : Nat} {fn : Func} {cd : Code} (hf : P.funcs[k]? = some fn) (hb : fn.body = some cd) (hn : (fn.name == "runtime.NumGoroutine") = false) (nt : Nat) (hnt : fn.ntmps = nt) (rs : List ResultVar) (hrs : fn.results.toList = rs)
  {h : AO} {ctr : Nat} {args : List LV} (hlen : args.length <= nt) {K : LV -> AO -> Nat -> Prop}
  (body : ∀ A' : BF, (∀ id, A'.μ0 id ≠ none -> id < ctr) -> B3 P A' cd (K3 fun st => ∃ l, G7 AB.tt rs st = some l /\ K l st.heap st.ctr) ⟨nt, Jk 0 args, h, ctr⟩) : C3 P A h ctr k args K := by
 subst hnt hrs
 refine ⟨Gv hf hb hn, fun μ w vs hh hsz hr => ?_⟩
 have hlt : ∀ id loc, μ id = some loc -> id < ctr := by
  intro id loc hm
  by_cases hi : id < ctr
  .exact hi
  rw [hh.fresh id (by simp only [Fr]; omega)] at hm; cases hm
 let A' : BF := ⟨w, A.O, Bx μ h, fun id => if id < ctr then μ id else none, fun b hb' => ⟨Nat.lt_of_lt_of_le (A.hO b hb').1 hh.size, by
  rintro ⟨id, o, loc, h1, h2, h3, rfl⟩
  exact (hh.base id o loc h1 h2 h3).2.1 hb'⟩⟩
 have hA' : ∀ id, A'.μ0 id ≠ none -> id < ctr := by
  intro id hid
  by_cases hi : id < ctr
  .exact hi
  simp [A', hi] at hid
 have hown : ∀ b, Ac A' μ h b ↔ Ac A μ h b := fun b => Iff.rfl
 have hh' : HRel A' μ h (Fr ctr) w := ⟨hh.obj, hh.inj, hh.fresh, fun id o loc h1 h2 h3 => ⟨(hh.base id o loc h1 h2 h3).1, (hh.base id o loc h1 h2 h3).2.1, .inr ⟨id, o, loc, h1, h2, h3, rfl⟩⟩, Nat.le_refl _, fun _ _ _ => rfl, rfl, rfl, rfl, fun id loc hm => by
  simp only [A'] at hm
  split at hm
  .exact hm
  cases hm⟩
 have hR : R A' ⟨fn.ntmps, Jk 0 args, h, ctr⟩ { tmps := vs ++ Array.replicate (fn.ntmps - vs.size) undef, defers := [] } w := by
  refine ⟨⟨μ, hh', fun t ht => ?_⟩, by simp; omega, rfl⟩
  simp only [Bh, O2, Nat.zero_le, if_true, Nat.sub_zero]
  by_cases hlt' : t < args.length
  .have hv : t < vs.size := by omega
   have e : args[t]? = some args[t] := by simp [hlt']
   rw [e]
   have e2 : (vs ++ Array.replicate (fn.ntmps - vs.size) undef).getD t undef = vs[t] := by
    rw [Array.getD_eq_getD_getElem?, Array.getElem?_append_left hv]; simp [hv]
   rw [e2]
   exact hr t _ _ (by simp [hv]) e
  have e : args[t]? = none := by simp; omega
  rw [e]; exact .any _
 refine calls_of_wp hf hb (wp_mono (body A' hA' _ _ hR) ?_)
 rintro e a' w' ⟨st', ⟨⟨μ', hh2, hs⟩, hnt, hdef⟩, hq⟩
 have fin : (∃ l, G7 AB.tt fn.results.toList st' = some l /\ K l st'.heap st'.ctr) -> a'.defers = [] /\ ∃ v, (results fn a'.tmps).run P w' = .ok v w' /\
   ∃ u l h' c' μ', Ending.returned v = .returned u /\ K l h' c' /\ HRel A μ' h' (Fr c') w' /\ Aa (Ac A μ' h') μ' w' u l /\ ∀ v x, Aa (Ac A μ h) μ w v x -> Aa (Ac A μ' h') μ' w' v x := by
  rintro ⟨l, h1, h2⟩
  obtain ⟨v, g1, g2⟩ := Sf (P := P) hE (fun x => Fq hs x) hh2 h1
  have mineof : ∀ b, b < w.heap.size -> Bx μ' st'.heap b -> Bx μ h b := by
   rintro b hb' ⟨id, o, loc, k1, k2, k3, rfl⟩
   rcases (hh2.base id o loc k1 k2 k3).2.2 with hb2 | hb2
   .exact absurd hb2 (by show ¬ w.heap.size <= _; omega)
   exact hb2
  have keepμ' : ∀ id loc, μ id = some loc -> μ' id = some loc := fun id loc hm => hh2.ext id loc (by simp only [A']; rw [if_pos (hlt id loc hm)]; exact hm)
  refine ⟨hdef, v, g1, v, l, st'.heap, st'.ctr, μ', rfl, h2, ⟨hh2.obj, hh2.inj, hh2.fresh, fun id o loc k1 k2 k3 => ⟨(hh2.base id o loc k1 k2 k3).1, (hh2.base id o loc k1 k2 k3).2.1, ?_⟩, Nat.le_trans hh.size hh2.size, fun b hb' hnf => ?_, hh2.os.trans hh.os, hh2.tape.trans hh.tape, hh2.output.trans hh.output, fun id loc hm => keepμ' id loc (hh.ext id loc hm)⟩, g2, fun v x hv => hv.mono ⟨hh2.size, fun b hb' hno => hh2.block b hb' fun hm => hno (.inr hm)⟩ (fun b hb' ho => ?_) keepμ'⟩
  .rcases (hh2.base id o loc k1 k2 k3).2.2 with hb2 | ⟨id2, o2, loc2, m1, m2, m3, m4⟩
   .exact .inl (Nat.le_trans hh.size hb2)
   rw [<- m4]; exact (hh.base id2 o2 loc2 m1 m2 m3).2.2
  .have hnm : ¬ Bx μ h b := by
    rintro ⟨id2, o2, loc2, m1, m2, m3, rfl⟩
    rcases (hh.base id2 o2 loc2 m1 m2 m3).2.2 with hb2 | hb2
    .omega
    exact hnf hb2
   rw [hh2.block b (Nat.lt_of_lt_of_le hb' hh.size) hnm]
   exact hh.block b hb' hnf
  rcases ho with ho | ho
  .exact .inl ho
  exact .inr (mineof b hb' ho)
 cases e with
 | normal => exact fin hq
 | ret => exact fin hq
 | _ => exact hq.elim
def IP (tt : Nat -> Option TI) (rs : List ResultVar) (A : BF) (L : LV) (H : AO) (C : Nat) (e : Exit) (st : St) : Prop :=
 ∃ s', A6 A st s' /\ K3 (fun s => G7 tt rs s = some L /\ s.heap = H /\ s.ctr = C) e s'
theorem C8 {rs : List ResultVar} {L : LV} {nt C : Nat} {sl : List (Nat × LV)} {H : AO} (hw : A6 A st ⟨nt, sl, H, C⟩) (hr : G7 AB.tt rs ⟨nt, sl, H, C⟩ = some L) : IP AB.tt rs A L H C .ret st := ⟨_, hw, hr, rfl, rfl⟩
theorem HU {rs : List ResultVar} {L : LV} {nt C : Nat} {sl : List (Nat × LV)} {H : AO} (hw : A6 A st ⟨nt, sl, H, C⟩) (hr : G7 AB.tt rs ⟨nt, sl, H, C⟩ = some L) : IP AB.tt rs A L H C .normal st := ⟨_, hw, hr, rfl, rfl⟩
section
variable {f : St -> Prop} {hf : Gw f} {nt : Nat} {sl : List (Nat × LV)} {h : AO} {c : Nat} {σ Ans : Type}
theorem GK (hE : A8 P AB) (L : σ -> LV) (H : σ -> AO) (C : Nat) {sp : Option σ} {rest : σ -> Option Ans} {a : Ans} {dst : Option Tmp} {fo : Operand} {args : Array Operand} {ts : Array TypeId} {k : Nat} {fn : Func} {cd : Code} {caps ls : List LV}
  (hh : sp.bind rest = some a) (hfun : P.funcs[k]? = some fn) (nt' : Nat) (rs : List ResultVar) (sl' : List (Nat × LV)) (hb : fn.body = some cd) (hn : (fn.name == "runtime.NumGoroutine") = false) (hnt : Nat.beq fn.ntmps nt' = true) (hrs : fn.results.toList = rs)
  (hfn : BG nt sl fo = .fn k caps) (hl : C7 nt sl args.toList some = some ls) (hlen : Nat.ble (ls ++ caps).length nt' = true) (hsl : Jk 0 (ls ++ caps) = sl')
  (body : ∀ A : BF, (∀ id, A.μ0 id ≠ none -> id < c) -> ∀ t, sp = some t -> B3 P A cd (IP AB.tt rs A (L t) (H t) C) ⟨nt', sl', h, c⟩)
  (kk : ∀ t, rest t = some a -> f (match dst with | some d => ⟨nt, (d, L t) :: sl, H t, C⟩ | none => ⟨nt, sl, H t, C⟩)) : BJ P A AB ⟨nt, sl, h, c⟩ dst (.call ⟨.value fo, args, ts⟩) ⟨f, hf⟩ := by
 obtain ⟨t, h1, h2⟩ := bd hh
 rw [BI (h := h) (c := c)] at hfn
 show Ja _ _
 rw [hfn]
 show G4 P A h c k (args.toList.map _ ++ caps) _
 rw [D2 hl]
 subst hsl
 refine Re hE hfun hb hn nt' (Nat.eq_of_beq_eq_true hnt) rs hrs (Nat.le_of_ble_eq_true hlen) fun A' hA' => ?_
 have := TF (body A' hA' t h1)
 refine Ft this fun e s q => ?_
 have fin : (G7 AB.tt rs s = some (L t) /\ s.heap = H t /\ s.ctr = C) -> ∃ l, G7 AB.tt rs s = some l /\ f (St.go ⟨nt, sl, h, c⟩ dst l s.heap s.ctr) := by
  rintro ⟨q1, q2, q3⟩
  refine ⟨_, q1, ?_⟩
  rw [q2, q3, Jd]
  have := kk t h2
  cases dst <;> exact this
 cases e <;> first | exact fin q | exact q.elim
end
def O3 : Nat -> List (Nat × Nat) -> Bool
 | 0, _ => true
 | n + 1, gl => match BU n gl with
  | some m => match Nat.beq n m with
   | true => O3 n gl
   | false => false
  | none => false
theorem Rf : ∀ {n : Nat} {gl : List (Nat × Nat)}, O3 n gl = true -> ∀ i, i < n -> AE i gl = some i
 | 0, _, _, i, h => by omega
 | n + 1, gl, hk, i, hi => by
  simp only [O3] at hk
  split at hk
  .rename_i m hm
   split at hk
   .rename_i hb
    have := Nat.eq_of_beq_eq_true hb
    subst this
    by_cases e : i = n
    .subst e; rw [<- BV]; exact hm
    exact Rf hk i (by omega)
   cases hk
  cases hk
theorem Vy {n : Nat} (hA : ∀ id, A.μ0 id ≠ none -> id < n) (gl : List (Nat × Nat)) (hk : O3 n gl = true) : ∀ id, A.μ0 id ≠ none -> AE id gl = some id := fun id h => Rf hk id (hA id h)
theorem wj {n nt : Nat} {sl sl' : List (Nat × LV)} {h h' : AO} {c c' : Nat} (hA : ∀ id, A.μ0 id ≠ none -> id < n) (gl : List (Nat × Nat)) (hk : O3 n gl = true) (ha : T4 gl sl' h' c' = true) (hs : Q0 sl sl' = Q1 gl sl') (hh : Q2 gl h h' = Q3 gl h') : A6 A ⟨nt, sl, h, c⟩ ⟨nt, sl', h', c'⟩ :=
 wk gl (Vy hA gl hk) (Is ha).1 (Is ha).2.1 (Is ha).2.2 (Rc hs) (Rd hh)
section
variable {f : St -> Prop} {hf : Gw f} {nt : Nat} {sl : List (Nat × LV)} {h : AO} {c : Nat} {d : Tmp} {α : Type} {enc : α -> List DV}
theorem Hg {fo : Operand} {args : Array Operand} {ts : Array TypeId} {k e sz : Nat} {caps ls : List LV} {ds : List DV} {r : List α} (hF : EU P k ds e sz (r.map enc))
  (hs : (ls ++ caps).flatMap (Dh h) = []) (hfn : BG nt sl fo = .fn k caps) (hl : C7 nt sl args.toList some = some ls) (hds : Bi h (ls ++ caps) = some ds)
  (kk : f ⟨nt, (d, .lsl c sz 0 r.length) :: sl, (c, .row e sz (r.map enc)) :: h, c + 1⟩) : BJ P A AB ⟨nt, sl, h, c⟩ (some d) (.call ⟨.value fo, args, ts⟩) ⟨f, hf⟩ := by
 rw [BI (h := h) (c := c)] at hfn
 show Ja _ _
 rw [hfn]
 show G4 P A h c k (args.toList.map _ ++ caps) _
 rw [D2 hl]
 refine Yn hds hF hs ?_
 rw [List.length_map]
 exact kk
theorem Rg {fo : Operand} {args : Array Operand} {ts : Array TypeId} {k e sz : Nat} {caps ls : List LV} {ds : List DV} {r : List α} (hF : EU P k ds e sz (r.map enc)) (hw : AB.own = true)
  (hs : (ls ++ caps).flatMap (Dh h) = []) (hfn : (CK fo, BG nt sl fo) = (false, .fn k caps)) (hl : C7 nt sl args.toList some = some ls) (hds : Bi h (ls ++ caps) = some ds)
  (kk : f ⟨nt, (d, .lsl c sz 0 r.length) :: sl, (c, .row e sz (r.map enc)) :: h, c + 1⟩) : Fk P A AB ⟨nt, sl, h, c⟩ (some d) (.call ⟨.value fo, args, ts⟩) ⟨f, hf⟩ := by
 obtain ⟨hnd, hfn⟩ := Prod.mk.inj hfn
 rw [BI (h := h) (c := c)] at hfn
 show (if CK fo = true then _ else Ja _ _)
 rw [if_neg (by rw [hnd]; decide)]
 rw [hfn]
 refine .inr ⟨hw, ds, e, sz, r.map enc, ?_, hF, ?_, ?_⟩
 .show Bi h (args.toList.map _ ++ caps) = _
  rw [D2 hl]; exact hds
 .show Th (List.flatMap _ (args.toList.map _ ++ caps)) _
  rw [D2 hl]; exact .inl hs
 show f ⟨nt, (d, .lsl c sz 0 (r.map enc).length) :: sl, _, _⟩
 rw [List.length_map]
 exact kk
theorem Uo {fo : Operand} {args : Array Operand} {ts : Array TypeId} {k e sz : Nat} {caps ls : List LV} {ds : List DV} {r : List α} (hF : EU P k ds e sz (r.map enc)) (hw : AB.own = true) (hfl : ∀ x : α, (enc x).all (·.flat) = true)
  (hfn : (CK fo, BG nt sl fo) = (false, .fn k caps)) (hl : C7 nt sl args.toList some = some ls) (hds : Bi h (ls ++ caps) = some ds)
  (kk : f ⟨nt, (d, .lsl c sz 0 r.length) :: sl, (c, .row e sz (r.map enc)) :: h, c + 1⟩) : Fk P A AB ⟨nt, sl, h, c⟩ (some d) (.call ⟨.value fo, args, ts⟩) ⟨f, hf⟩ := by
 obtain ⟨hnd, hfn⟩ := Prod.mk.inj hfn
 rw [BI (h := h) (c := c)] at hfn
 show (if CK fo = true then _ else Ja _ _)
 rw [if_neg (by rw [hnd]; decide)]
 rw [hfn]
 refine .inr ⟨hw, ds, e, sz, r.map enc, ?_, hF, .inr fun x hx d hd => ?_, ?_⟩
 .show Bi h (args.toList.map _ ++ caps) = _
  rw [D2 hl]; exact hds
 .obtain ⟨a, _, rfl⟩ := List.mem_map.1 hx
  exact List.all_eq_true.1 (hfl a) d hd
 show f ⟨nt, (d, .lsl c sz 0 (r.map enc).length) :: sl, _, _⟩
 rw [List.length_map]
 exact kk
theorem TG {k : Nat} {fn : Func} {cd : Code} {ds : List DV} {e sz : Nat} {r : List α} (hen : Qz enc sz) (hf : P.funcs[k]? = some fn) (hb : fn.body = some cd) (hn : (fn.name == "runtime.NumGoroutine") = false) (nt : Nat) (hnt : Nat.beq fn.ntmps nt = true)
  (t : Nat) (hrs : fn.results.toList = [.tmp t]) (sl : List (Nat × LV)) (hsl : DF 0 ds = sl) (hlen : Nat.ble ds.length nt = true)
  (h : ∀ A : BF, (∀ id, A.μ0 id = none) -> B3 P A cd (Tw t e sz (r.map enc)) ⟨nt, sl, [], 0⟩) : EU P k ds e sz (r.map enc) := by
 subst hsl
 refine W6 hf hb hn nt (Nat.eq_of_beq_eq_true hnt) t hrs (Nat.le_of_ble_eq_true hlen) (fun x hx => ?_) h
 obtain ⟨a, _, rfl⟩ := List.mem_map.1 hx
 exact (hen a).1
theorem TH {t e sz id n : Nat} {r : List α} (hv : BG nt sl (.tmp t) = .lsl id sz 0 n) (hl : BU id h = some (.row e sz (r.map enc))) (hn : n = r.length) : Tw t e sz (r.map enc) .ret ⟨nt, sl, h, c⟩ := by
 rw [BI (h := h) (c := c)] at hv
 rw [BV] at hl
 refine .inl ⟨id, ?_, hl⟩
 rw [hv, hn, List.length_map]
theorem Xu {t e sz : Nat} (hv : BG nt sl (.tmp t) = .p .nils) : Tw t e sz (([] : List α).map enc) .ret ⟨nt, sl, h, c⟩ := by
 rw [BI (h := h) (c := c)] at hv
 exact .inr ⟨hv, rfl⟩
end
end
end Go.E
/- Rules for single operations: arrays, division, a nil slice as an empty one. No condition. -/
namespace Go.E
open Go Go.RowKit
section
variable {P : Program} {A : BF} {AB : A4} {f : St -> Prop} {hf : Gw f} {nt : Nat} {sl : List (Nat × LV)} {h : AO} {c : Nat} {d : Tmp} {α : Type} {l : List α} {t : Nat} {x i : Operand}
theorem OE {α : Type} (l : List α) (n : Int) (z : α) : (IR l n z).length = l.length := by simp [IR]
section
variable {κ υ : Type} [BEq κ] {ke : κ -> DV} {ve : υ -> DV} {mp : List (κ × υ)} {kt et : Nat}
end
end
end Go.E
/- The types that the functions of this seat use, as plain data. Written by a program (mkenv.py). No condition. -/
namespace Go.E
open Go Go.RowKit Go.Proofs
def Wi : List (Nat × TI) := [
 (3, ⟨.int .i64, 1, 8, [.int .i64 0]⟩),
 (4, ⟨.bool, 1, 1, [.bool false]⟩),
 (5, ⟨.int .u8, 1, 1, [.int .u8 0]⟩),
 (9, ⟨.str, 1, 16, [.str .empty]⟩),
 (22, ⟨.slc 152, 1, 24, [.nils]⟩),
 (23, ⟨.slc 154, 1, 24, [.nils]⟩),
 (24, ⟨.slc 157, 1, 24, [.nils]⟩),
 (25, ⟨.slc 163, 1, 24, [.nils]⟩),
 (27, ⟨.struct [(0, 22), (1, 23), (2, 24), (3, 25), (4, 3), (5, 3), (6, 3), (7, 3), (8, 4)], 9, 136, [.nils, .nils, .nils, .nils, .int .i64 0, .int .i64 0, .int .i64 0, .int .i64 0, .bool false]⟩),
 (28, ⟨.slc 3, 1, 24, [.nils]⟩),
 (31, ⟨.other, 1, 8, [.nilp]⟩),
 (33, ⟨.slc 65, 1, 24, [.nils]⟩),
 (34, ⟨.slc 91, 1, 24, [.nils]⟩),
 (36, ⟨.struct [(0, 3), (1, 3), (2, 3), (3, 33), (4, 34), (5, 34), (6, 28), (7, 28), (8, 4)], 9, 152, [.int .i64 0, .int .i64 0, .int .i64 0, .nils, .nils, .nils, .nils, .nils, .bool false]⟩),
 (41, ⟨.slc 4, 1, 24, [.nils]⟩),
 (46, ⟨.slc 55, 1, 24, [.nils]⟩),
 (48, ⟨.other, 1, 8, [.nilp]⟩),
 (50, ⟨.other, 1, 8, [.nilp]⟩),
 (55, ⟨.struct [(0, 3), (1, 3), (2, 3), (3, 36)], 12, 176, [.int .i64 0, .int .i64 0, .int .i64 0, .int .i64 0, .int .i64 0, .int .i64 0, .nils, .nils, .nils, .nils, .nils, .bool false]⟩),
 (60, ⟨.slc 5, 1, 24, [.nils]⟩),
 (61, ⟨.slc 36, 1, 24, [.nils]⟩),
 (65, ⟨.struct [(0, 3), (1, 3), (2, 3)], 3, 24, [.int .i64 0, .int .i64 0, .int .i64 0]⟩),
 (68, ⟨.struct [(0, 27), (9, 61)], 10, 160, [.nils, .nils, .nils, .nils, .int .i64 0, .int .i64 0, .int .i64 0, .int .i64 0, .bool false, .nils]⟩),
 (72, ⟨.int .i64, 1, 8, [.int .i64 0]⟩),
 (91, ⟨.struct [(0, 3), (1, 3)], 2, 16, [.int .i64 0, .int .i64 0]⟩),
 (92, ⟨.mp 96 4, 1, 8, [.nilm]⟩),
 (93, ⟨.slc 96, 1, 24, [.nils]⟩),
 (96, ⟨.struct [(0, 3), (1, 3)], 2, 16, [.int .i64 0, .int .i64 0]⟩),
 (104, ⟨.other, 1, 8, [.nilp]⟩),
 (108, ⟨.mp 3 4, 1, 8, [.nilm]⟩),
 (115, ⟨.mp 3 28, 1, 8, [.nilm]⟩),
 (116, ⟨.mp 3 34, 1, 8, [.nilm]⟩),
 (118, ⟨.struct [(0, 3), (1, 115), (2, 115), (3, 116), (4, 116)], 5, 40, [.int .i64 0, .nilm, .nilm, .nilm, .nilm]⟩),
 (119, ⟨.slc 124, 1, 24, [.nils]⟩),
 (121, ⟨.struct [(0, 3), (1, 119)], 2, 32, [.int .i64 0, .nils]⟩),
 (124, ⟨.struct [(0, 3), (1, 28), (2, 28), (3, 34), (4, 34)], 5, 104, [.int .i64 0, .nils, .nils, .nils, .nils]⟩),
 (131, ⟨.mp 3 3, 1, 8, [.nilm]⟩),
 (145, ⟨.slc 147, 1, 24, [.nils]⟩),
 (147, ⟨.struct [(0, 3), (1, 3)], 2, 16, [.int .i64 0, .int .i64 0]⟩),
 (152, ⟨.struct [(0, 9), (1, 3), (2, 3)], 3, 32, [.str .empty, .int .i64 0, .int .i64 0]⟩),
 (154, ⟨.struct [(0, 96), (2, 96)], 4, 32, [.int .i64 0, .int .i64 0, .int .i64 0, .int .i64 0]⟩),
 (157, ⟨.struct [(0, 9), (1, 96), (3, 4)], 4, 40, [.str .empty, .int .i64 0, .int .i64 0, .bool false]⟩),
 (160, ⟨.slc 34, 1, 24, [.nils]⟩),
 (163, ⟨.struct [(0, 9), (1, 28)], 2, 40, [.str .empty, .nils]⟩),
 (164, ⟨.slc 9, 1, 24, [.nils]⟩),
 (169, ⟨.mp 96 96, 1, 8, [.nilm]⟩),
 (170, ⟨.mp 96 3, 1, 8, [.nilm]⟩),
 (171, ⟨.mp 3 174, 1, 8, [.nilm]⟩),
 (173, ⟨.struct [(0, 27), (9, 169), (10, 170), (11, 171), (12, 131)], 13, 168, [.nils, .nils, .nils, .nils, .int .i64 0, .int .i64 0, .int .i64 0, .int .i64 0, .bool false, .nilm, .nilm, .nilm, .nilm]⟩),
 (174, ⟨.arr 2 3, 2, 16, [.int .i64 0, .int .i64 0]⟩),
 (180, ⟨.int .u64, 1, 8, [.int .u64 0]⟩),
 (193, ⟨.other, 1, 8, [.nilp]⟩),
 (195, ⟨.struct [(0, 27), (9, 36), (18, 93)], 19, 312, [.nils, .nils, .nils, .nils, .int .i64 0, .int .i64 0, .int .i64 0, .int .i64 0, .bool false, .int .i64 0, .int .i64 0, .int .i64 0, .nils, .nils, .nils, .nils, .nils, .bool false, .nils]⟩),
 (201, ⟨.arr 4 3, 4, 32, [.int .i64 0, .int .i64 0, .int .i64 0, .int .i64 0]⟩),
 (202, ⟨.arr 3 3, 3, 24, [.int .i64 0, .int .i64 0, .int .i64 0]⟩),
 (222, ⟨.int .i64, 1, 8, [.int .i64 0]⟩),
 (229, ⟨.int .u32, 1, 4, [.int .u32 0]⟩),
 (231, ⟨.int .u64, 1, 8, [.int .u64 0]⟩),
 (233, ⟨.other, 1, 8, [.nilp]⟩),
 (234, ⟨.slc 145, 1, 24, [.nils]⟩),
 (236, ⟨.struct [(0, 3), (1, 33), (2, 28), (3, 234)], 4, 80, [.int .i64 0, .nils, .nils, .nils]⟩),
 (243, ⟨.mp 9 4, 1, 8, [.nilm]⟩),
 (245, ⟨.int .u64, 1, 8, [.int .u64 0]⟩),
 (249, ⟨.other, 1, 8, [.nilp]⟩)]
def Us : List (Nat × List Sh) := [(65, [.int .i64, .int .i64, .int .i64]), (91, [.int .i64, .int .i64]), (96, [.int .i64, .int .i64])]
def Rk : List (Nat × List Sh) := [(96, [.int .i64, .int .i64])]
def Rl : List Nat := [31, 48]
def AB : A4 := ⟨fun t => BU t Wi, fun t => BU t Us, fun t => BU t Rk, KB Rl, none, false⟩
def ZI (b : Nat) (l : List Nat) : A4 := ⟨fun t => BU t Wi, fun t => BU t Us, fun t => BU t Rk, KB Rl, some fun id => Nat.ble b id || KB l id, false⟩
def Yp (b : Nat) (l : List Nat) : A4 := ⟨fun t => BU t Wi, fun t => BU t Us, fun t => BU t Rk, KB Rl, some fun id => Nat.ble b id || KB l id, true⟩
def ZJ : A4 := ⟨fun t => BU t Wi, fun t => BU t Us, fun t => BU t Rk, KB Rl, none, true⟩
theorem Xx : ∃ e, Tryz.prog.underlying 31 = some (.pointer e) := ⟨173, by kernel_rfl⟩
theorem Xy : ∃ e, Tryz.prog.underlying 48 = some (.pointer e) := ⟨118, by kernel_rfl⟩
theorem Rm : MV Tryz.prog AB.tt := Vu (by kernel_rfl)
theorem Yq : N7 Tryz.prog 65 [.int .i64, .int .i64, .int .i64] := MS (by kernel_rfl) (by kernel_rfl) (by kernel_rfl) (by kernel_rfl)
theorem Yr : N7 Tryz.prog 91 [.int .i64, .int .i64] := MS (by kernel_rfl) (by kernel_rfl) (by kernel_rfl) (by kernel_rfl)
theorem Wj : N7 Tryz.prog 96 [.int .i64, .int .i64] := MS (by kernel_rfl) (by kernel_rfl) (by kernel_rfl) (by kernel_rfl)
theorem Xz : Oi Tryz.prog 96 [.int .i64, .int .i64] := Tk (by kernel_rfl) Wj (by kernel_rfl)
theorem AA : A8 Tryz.prog AB := by
 refine ⟨Rm, fun t ks h => ?_, fun t ks h => ?_, fun t h => ?_⟩
 .simp only [AB, BV, Us, AE] at h
  split at h
  .subst_vars; cases h; exact Yq
  split at h
  .subst_vars; cases h; exact Yr
  split at h
  .subst_vars; cases h; exact Wj
  cases h
 .simp only [AB, BV, Rk, AE] at h
  split at h
  .subst_vars; cases h; exact Xz
  cases h
 simp only [AB, Rl, S8, List.mem_cons, List.not_mem_nil, or_false] at h
 rcases h with rfl | rfl
 .exact Xx
 exact Xy
theorem FV (b : Nat) (l : List Nat) : A8 Tryz.prog (ZI b l) := ⟨AA.tt, AA.eqk, AA.keyk, AA.ptr⟩
theorem Rn (b : Nat) (l : List Nat) : A8 Tryz.prog (Yp b l) := ⟨AA.tt, AA.eqk, AA.keyk, AA.ptr⟩
theorem TK : A8 Tryz.prog ZJ := ⟨AA.tt, AA.eqk, AA.keyk, AA.ptr⟩
theorem mixed : Tryz.prog.follows .mixedOrders = true := by kernel_rfl
end Go.E
