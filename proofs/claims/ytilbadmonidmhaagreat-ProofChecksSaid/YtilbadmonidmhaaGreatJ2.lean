/- Drawn regions: whatever order is drawn, the operations give what they give in one order that a check accepts (IK). -/
import Derived.Scope
import Derived.Test.YtilbadmonidmhaaGreatProg
import Derived.Test.YtilbadmonidmhaaGreatDel
import Derived.Shelf.Sort.Plain
import Derived.Shelf.Slices.In.SortNone
import Derived.Shelf.Slices.CompactI
import Derived.Lib.RowBridge
import Derived.ScopeJumps
import Derived.Test.YtilbadmonidmhaaGreatJ1
set_option linter.unusedVariables false
set_option linter.unusedSimpArgs false
namespace Go.E
open Go Go.RowKit
structure RF (A : BX) (F : Nat -> Prop) (st : St) (a : Act) (w : World) : Prop where
 ex : ∃ μ, HRel A μ st.heap F w /\ ∀ t, t < st.nt -> Ar (Au A μ st.heap) μ w (a.tmps.getD t undef) (Bo st.slots t)
 nt : a.tmps.size = st.nt
 defers : a.defers = []
theorem R.toRF {A : BX} {st : St} {a : Act} {w : World} (h : R A st a w) : RF A (Fr st.ctr) st a w := ⟨h.ex, h.nt, h.defers⟩
theorem RF.put' {A : BX} {F F' : Nat -> Prop} {st : St} {a : Act} {w w' : World} {h' : Ag} {ctr' : Nat} {μ' : Nat -> Option Bt} (hR : RF A F st a w)
  (hs : ∀ t, t < st.nt -> Ar (Au A μ' h') μ' w' (a.tmps.getD t undef) (Bo st.slots t))
  (hh : HRel A μ' h' F' w') {dst : Option Tmp} {v : Value} {l : LV} (hv : Ar (Au A μ' h') μ' w' v l) :
  RF A F' (({ st with heap := h', ctr := ctr' } : St).put dst l) (a.put dst v) w' := by
 cases dst with
 | none => exact ⟨⟨μ', hh, hs⟩, hR.nt, hR.defers⟩
 | some d =>
  refine ⟨⟨μ', hh, fun t ht => ?_⟩, by simpa [Act.put, St.put] using hR.nt, hR.defers⟩
  have hn : t < a.tmps.size := by rw [hR.nt]; exact ht
  simp only [Act.put, St.put, Bo, AL]
  by_cases e : t = d
  .subst e
   simp only [if_true]
   rw [Array.getD_eq_getD_getElem?, Array.getElem?_setIfInBounds_self_of_lt hn]
   exact hv
  simp only [e, if_false]
  rw [Array.getD_eq_getD_getElem?, Array.getElem?_setIfInBounds_ne (by omega), <- Array.getD_eq_getD_getElem?]
  exact hs t ht
section
variable {P : Program} {A : BX} {AE : BG} {F : Nat -> Prop} {st : St} {a : Act} {w : World}
theorem X5 {μ : Nat -> Option Bt} {h : Ag} {F : Nat -> Prop} {w w' : World} {v : Value} {ctr e sz : Nat} {elems : List (List DV)} (hh : HRel A μ h F w) (hc : F ctr) (hn : LM w w' (Au A μ h) v e sz elems) (hb : Below w.heap.size w w') :
  ∃ μ', HRel A μ' ((ctr, .row e sz elems) :: h) (fun id => F id /\ id ≠ ctr) w' /\ Ar (Au A μ' ((ctr, .row e sz elems) :: h)) μ' w' v (.lsl ctr sz 0 elems.length) /\ ∀ v x, Ar (Au A μ h) μ w v x -> Ar (Au A μ' ((ctr, .row e sz elems) :: h)) μ' w' v x := by
 have hno : μ ctr = none := hh.fresh ctr hc
 obtain ⟨hlen, hn⟩ := hn
 have hkm : Bh (CN μ h) w w' := ⟨hb.size, fun b hb' _ => hb.block b hb'⟩
 have hsub : ∀ id x, AL id ((ctr, BK.row e sz elems) :: h) = some x -> (id = ctr /\ x = .row e sz elems) \/ AL id h = some x := by
  intro id x hx
  simp only [AL] at hx
  split at hx
  .cases hx; exact .inl ⟨‹_›, rfl⟩
  exact .inr hx
 have hold : ∀ id x lc, AL id ((ctr, BK.row e sz elems) :: h) = some x -> id ≠ ctr -> μ id = some lc -> lc.nil = false -> w'.heap[lc.b]? = w.heap[lc.b]? := by
  intro id x lc hx hne hm hnl
  rcases hsub id x hx with ⟨rfl, _⟩ | hx
  .exact absurd rfl hne
  exact hb.block _ (hh.base id x lc hx hm hnl).1
 have fin : ∀ (loc : Bt), (loc.nil = false -> loc.b < w'.heap.size /\ w.heap.size <= loc.b) ->
   (∀ O' : Nat -> Prop, (∀ b, O' b -> Au A μ h b \/ (loc.nil = false /\ b = loc.b)) -> (∀ b, Au A μ h b -> b < w.heap.size -> O' b \/ True) -> (∀ b, Au A (Bf μ ctr loc) ((ctr, BK.row e sz elems) :: h) b ↔ O' b) -> Dy O' (Bf μ ctr loc) w' loc (.row e sz elems)) ->
   (∀ O', Ar O' (Bf μ ctr loc) w' v (.lsl ctr sz 0 elems.length)) ->
   ∃ μ', HRel A μ' ((ctr, .row e sz elems) :: h) (fun id => F id /\ id ≠ ctr) w' /\ Ar (Au A μ' ((ctr, .row e sz elems) :: h)) μ' w' v (.lsl ctr sz 0 elems.length) /\ ∀ v x, Ar (Au A μ h) μ w v x -> Ar (Au A μ' ((ctr, .row e sz elems) :: h)) μ' w' v x := by
  intro loc hloc ho hu
  have hfr : PP μ h ((ctr, BK.row e sz elems) :: h) w loc := fun hn => .inl (hloc hn).2
  have hown := hh.sub_add loc (.row e sz elems) ((ctr, .row e sz elems) :: h) hfr hsub
  have hcov : ∀ b, Au A (Bf μ ctr loc) ((ctr, .row e sz elems) :: h) b -> Au A μ h b \/ (loc.nil = false /\ b = loc.b) := by
   rintro b (hb' | ⟨id, x, lc, h1, h2, h3, h4⟩)
   .exact .inl (.inl hb')
   by_cases e' : id = ctr
   .subst e'
    simp only [Bf, if_true, Option.some.injEq] at h2
    subst h2; exact .inr ⟨h3, h4.symm⟩
   rcases hsub id x h1 with ⟨e'', _⟩ | h1
   .exact absurd e'' e'
   simp only [Bf, e', if_false] at h2
   exact .inl (.inr ⟨id, x, lc, h1, h2, h3, h4⟩)
  have hadd := hh.add (w' := w') hno loc (.row e sz elems) ((ctr, .row e sz elems) :: h) (fun hn => (hloc hn).1) hfr hsub hkm hold hb.os hb.tape hb.output (ho _ hcov (fun _ _ _ => .inr trivial) (fun _ => Iff.rfl))
  exact ⟨_, hadd, hu _, fun v x hv => hv.mono hkm.own hown (K1 hno loc)⟩
 rcases hn with ⟨rfl, rfl⟩ | ⟨a, b, o, cap, c, rfl, h1, h2, h3, h4, h5, h6, h7, h8, h9, h10⟩
 .exact fin ⟨true, 0, 0, sz, 0⟩ (fun hn => by cases hn) (fun O' _ _ _ => ⟨rfl, hlen, .inl ⟨rfl, rfl⟩⟩) (fun O' => .lsln ctr ⟨true, 0, 0, sz, 0⟩ (by simp [Bf]) rfl)
 refine fin ⟨false, b, o, sz, cap⟩ (fun _ => ⟨h2, h1⟩) (fun O' hO' _ _ => ⟨rfl, hlen, .inr ⟨rfl, c, h6, h7, h8, h9, fun i j x d u hx hd hu => ?_⟩⟩) (fun O' => ?_)
 .refine (h10 i j x d u hx hd hu).mono (Bh.refl _ _) fun q _ hq => ?_
  rcases hO' q hq with hq | ⟨_, hq⟩
  .exact .inl hq
  exact .inr hq
 exact .lsl ctr 0 elems.length cap a ⟨false, b, o, sz, cap⟩ (by simp [Bf]) rfl (by simp) h8 (fun hc => by rw [h3 hc]; simp) h4 h5
theorem SN (hE : BN P AE) {o : Oper} {l : LV} {e : E4} (hR : RF A F st a w) (hc : F st.ctr) (h : CV P AE st o.op l e) {next : Act -> World -> Prop} {Q : Exit -> Act -> World -> Prop}
  (hK : ∀ a' w', RF A (fun id => F id /\ id ≠ st.ctr) (apS st st.ctr o l e) a' w' -> next a' w') : o.wp P a w next Q := by
 obtain ⟨⟨μ, hh, hs0⟩, hnt, hdef⟩ := id hR
 have hs := fun x => Ht hs0 x
 have less : ∀ {μ h w} (c' : Nat), HRel A μ h (fun id => F id /\ (st.ctr < c' -> id ≠ st.ctr)) w -> HRel A μ h (fun id => F id /\ id ≠ st.ctr) w := fun _ h => h.less fun _ h => ⟨h.1, fun _ => h.2⟩
 have nCase : e = .keep -> nW AE st o.op (· = l) -> o.wp P a w next Q := by
  rintro rfl h
  obtain ⟨u, v, rfl, hv, hg⟩ := J1 hE hs h
  unfold Oper.wp
  rw [hg o rfl w]
  exact hK _ _ (hR.put' (ctr' := st.ctr) hs0 (hh.less fun _ h => h.1) hv)
 have mCase : mW AE st o.op (fun r h _ => r = l /\ h = e.ap st.ctr st.heap) -> o.wp P a w next Q := by
  intro h
  obtain ⟨l', h', c', u, w', μ', ⟨rfl, rfl⟩, ⟨_, hh'⟩, hl, hmono, hrun⟩ := P3 (a := a) (F := F) hE hs ⟨hh, hc⟩ h
  have := hK _ _ (hR.put' (ctr' := st.ctr) (fun t ht => hmono _ _ (hs0 t ht)) (less c' hh') hl)
  unfold Oper.wp
  rcases hrun o rfl with hr | ⟨hr, rfl⟩ <;> rw [hr] <;> exact this
 obtain ⟨dst, op, type, pos, after, guard⟩ := o
 simp only at h nCase mCase
 cases op <;> simp only [CV] at h <;> (try exact nCase h.1 h.2)
 case load t x =>
  obtain ⟨rfl, _, ti, h1, h2⟩ := h
  refine mCase ?_
  simp only [mW, E4.ap]
  exact ⟨ti, h1, by
   unfold Hj at *
   split at h2
   .obtain ⟨r, g1, g2⟩ := h2; exact ⟨r, g1, g2, trivial⟩
   .obtain ⟨c, r, g1, g2, g3⟩ := h2; exact ⟨c, r, g1, g2, g3, trivial⟩
   .obtain ⟨c1, c2, c3, c4, r, g1, g2, g3, g4⟩ := h2; exact ⟨c1, c2, c3, c4, r, g1, g2, g3, g4, trivial⟩
   exact h2⟩
 case lookup t x i ok =>
  obtain ⟨rfl, ti, kt, et, te, m, kd, h1, h2, h3, h4, h5, h6, h7, h8⟩ := h
  refine mCase ?_
  simp only [mW, E4.ap]
  exact ⟨ti, kt, et, te, m, kd, h1, h2, h3, h4, h5, h6, h7, h8, trivial⟩
 case store => obtain ⟨_, h', rfl, h⟩ := h; exact mCase h
 case mapUpdate => obtain ⟨h', rfl, h⟩ := h; exact mCase h
 case mapEntry => obtain ⟨h', rfl, h⟩ := h; exact mCase h
 case entryStore => obtain ⟨h', rfl, h⟩ := h; exact mCase h
 case alloc t => obtain ⟨ti, h1, rfl, rfl⟩ := h; exact mCase (by simp only [mW]; exact ⟨ti, h1, trivial, rfl⟩)
 case box t x => obtain ⟨ls, h1, rfl, rfl⟩ := h; exact mCase (by simp only [mW]; exact ⟨ls, h1, trivial, rfl⟩)
 case buildSlice t n ps =>
  obtain ⟨ti, e', te, l', h1, h2, h3, h4, h5, h6, h7, ⟨rfl, rfl⟩ | ⟨rfl, rfl⟩⟩ := h
  .exact mCase (by simp only [mW]; exact ⟨ti, e', te, l', h1, h2, h3, h4, h5, h6, h7, .inl ⟨rfl, rfl⟩⟩)
  exact mCase (by simp only [mW]; exact ⟨ti, e', te, l', h1, h2, h3, h4, h5, h6, h7, .inr ⟨rfl, rfl⟩⟩)
 case makeSlice t x y =>
  obtain ⟨ti, e', te, n, k1, k2, h1, h2, h3, h4, h5, h6, h7, h8, ⟨rfl, rfl⟩ | ⟨rfl, rfl⟩⟩ := h
  .exact mCase (by simp only [mW]; exact ⟨ti, e', te, n, k1, k2, h1, h2, h3, h4, h5, h6, h7, h8, .inl ⟨rfl, rfl⟩⟩)
  exact mCase (by simp only [mW]; exact ⟨ti, e', te, n, k1, k2, h1, h2, h3, h4, h5, h6, h7, h8, .inr ⟨rfl, rfl⟩⟩)
 case makeMap t r => obtain ⟨rfl, rfl, rfl⟩ := h; exact mCase (by simp only [mW]; exact ⟨trivial, trivial, rfl⟩)
 case call c =>
  obtain ⟨callee, args, ats⟩ := c
  cases callee with
  | value f =>
   simp only at h
   rcases h with ⟨rfl, k, caps, ds, r, h1, h2, h3, h4, rfl⟩ | ⟨_, k, caps, ds, tt, sz, elems, h1, h2, h3, h4, rfl, rfl⟩
   .have hfv := hs f
    rw [h1] at hfv
    generalize hv : a.eval f = v at hfv
    cases hfv with
    | fn _ cs _ hsz hr =>
     have hx : (execOp a.eval ⟨dst, .call ⟨.value f, args, ats⟩, type, pos, after, guard⟩).run P w = .ok (.enter k (args.map a.eval ++ cs)) w := by
      simp [execOp, resolve, Deferred.ofValue, hv, invoke]
      exact h3.enters _ _
     unfold Oper.wp
     rw [hx, Oper.upon_enter]
     obtain ⟨g1, g2⟩ := F4 hh (l := (args.toList.map st.eval ++ caps).flatMap (Eg st.heap)) h2 (fun id hid => hid)
     have hO : ∀ b, Au A μ (Cp ((args.toList.map st.eval ++ caps).flatMap (Eg st.heap)) st.heap) b -> b < w.heap.size := by
      rintro b (hb | ⟨id, x, lc, h1, h2, h3, rfl⟩)
      .exact Nat.lt_of_lt_of_le (A.hO b hb).1 hh.size
      exact (hh.base id x lc (Hs h1).2 h2 h3).1
     refine (h3.run _ w _ hO (by rw [<- g1]; simp [hsz]) fun i v d hvi hdi => ?_).mono fun e w' ⟨v, r', he, hp, hq, hb⟩ => ?_
     .have hi := (List.getElem?_eq_some_iff.1 hdi).1
      have hx : (args.toList.map st.eval ++ caps)[i]? = some ((args.toList.map st.eval ++ caps)[i]'(by omega)) := List.getElem?_eq_getElem _
      refine g2 i v _ d hx hdi ?_
      rw [List.getElem?_append] at hx
      rw [Array.getElem?_append] at hvi
      by_cases hi' : i < args.size
      .rw [if_pos (by simpa using hi')] at hvi hx
       exact KY hs args.toList i v _ (by simpa using hvi) hx
      rw [if_neg (by simpa using hi')] at hvi hx
      exact hr _ v _ (by simpa using hvi) (by simpa using hx)
     subst he hq
     obtain ⟨hh', hown⟩ := hh.keep (w' := w') (h' := st.heap) (μ' := μ) (fun _ _ h => h) hh.fresh (fun _ _ h => h) hb.block hb.size hb.os hb.tape hb.output
     have hp' : A5 (Au A μ st.heap) w' v r' := by
      rcases h4 with h4 | h4
      .exact hp.scalar h4 _ _
      rw [h4] at hp; exact hp
     exact hK _ _ (hR.put' (ctr' := st.ctr) (fun t ht => (hs0 t ht).mono ⟨hb.size, fun b hb' _ => hb.block b hb'⟩ (fun b _ hb => hb) (fun _ _ h => h)) (hh'.less fun _ h => h.1) (.p _ _ hp'))
   have hfv := hs f
   rw [h1] at hfv
   generalize hv : a.eval f = v at hfv
   cases hfv with
   | fn _ cs _ hsz hr =>
    have hx : (execOp a.eval ⟨dst, .call ⟨.value f, args, ats⟩, type, pos, after, guard⟩).run P w = .ok (.enter k (args.map a.eval ++ cs)) w := by
     simp [execOp, resolve, Deferred.ofValue, hv, invoke]
     exact h3.enters _ _
    unfold Oper.wp
    rw [hx, Oper.upon_enter]
    obtain ⟨g1, g2⟩ := F4 hh (l := (args.toList.map st.eval ++ caps).flatMap (Eg st.heap)) h2 (fun id hid => hid)
    have hO : ∀ b, Au A μ (Cp ((args.toList.map st.eval ++ caps).flatMap (Eg st.heap)) st.heap) b -> b < w.heap.size := by
     rintro b (hb | ⟨id, x, lc, h1, h2, h3, rfl⟩)
     .exact Nat.lt_of_lt_of_le (A.hO b hb).1 hh.size
     exact (hh.base id x lc (Hs h1).2 h2 h3).1
    refine (h3.run _ w _ hO (by rw [<- g1]; simp [hsz]) fun i v d hvi hdi => ?_).mono fun e w' ⟨v, he, hn', hb⟩ => ?_
    .have hi := (List.getElem?_eq_some_iff.1 hdi).1
     have hx : (args.toList.map st.eval ++ caps)[i]? = some ((args.toList.map st.eval ++ caps)[i]'(by omega)) := List.getElem?_eq_getElem _
     refine g2 i v _ d hx hdi ?_
     rw [List.getElem?_append] at hx
     rw [Array.getElem?_append] at hvi
     by_cases hi' : i < args.size
     .rw [if_pos (by simpa using hi')] at hvi hx
      exact KY hs args.toList i v _ (by simpa using hvi) hx
     rw [if_neg (by simpa using hi')] at hvi hx
     exact hr _ v _ (by simpa using hvi) (by simpa using hx)
    subst he
    have hn2 : LM w w' (Au A μ st.heap) v tt sz elems := by
     rcases h4 with h4 | h4
     .rw [h4] at hn'; exact hn'
     exact hn'.flat h4 _
    obtain ⟨μ', k1, k2, k3⟩ := X5 hh hc hn2 hb
    exact hK _ _ (hR.put' (ctr' := st.ctr) (fun t ht => k3 _ _ (hs0 t ht)) k1 k2)
  | builtin b =>
   cases b with
   | append => obtain ⟨h', rfl, h⟩ := h; exact mCase h
   | _ => exact nCase h.1 h.2
  | invoke r m => exact nCase h.1 h.2
theorem P6 (hE : BN P AE) {ops : Array Oper} {i : Nat} {o : Oper} (ho : ops[i]? = some o) {l : LV} {e : E4} (hR : RF A F st a w) (hc : F st.ctr) (h : DY P AE ops st o l e) {next : Act -> World -> Prop} {Q : Exit -> Act -> World -> Prop}
  (hK : ∀ a' w', RF A (fun id => F id /\ id ≠ st.ctr) (apS st st.ctr o l e) a' w' -> next a' w') : wpOp P ops Q i next a w := by
 obtain ⟨⟨μ, hh, hs0⟩, hnt, hdef⟩ := id hR
 have hs := fun x => Ht hs0 x
 unfold wpOp
 rw [ho]
 simp only
 unfold DY at h
 have skip : l = .und /\ e = .keep -> next (a.put o.dst undef) w := by
  rintro ⟨rfl, rfl⟩
  exact hK _ _ (hR.put' (ctr' := st.ctr) hs0 (hh.less fun _ h => h.1) .und)
 split at h
 .rename_i hg
  rw [if_pos (by simp [Region.wanted, hg])]
  exact .inl (SN hE hR hc h hK)
 rename_i j want hg
 obtain ⟨g1, g2⟩ := OK (ops := ops) (j := j) hs
 split at h
 .rename_i b hb
  have hy := g1 b hb
  split at h
  .rename_i e
   rw [if_pos (by simp [Region.wanted, hg, hy, e])]
   exact .inl (SN hE hR hc h hK)
  rename_i e
  rw [if_neg (by simp [Region.wanted, hg, hy, e])]
  exact skip h
 .rename_i hb
  have hy := g2 hb
  rw [if_neg (by simp [Region.wanted, hg, hy])]
  exact skip h
 exact h.elim
end
section
variable {P : Program} {AE : BG} {md : Region.Mode} {ops : Array Oper} {base : Nat} {Q : St -> Prop}
def I6 (P : Program) (AE : BG) (md : Region.Mode) (ops : Array Oper) (base : Nat) (Q : St -> Prop) : Nat -> Array Bool -> St -> Prop
 | 0, listed, st => Region.ready md ops listed = [] /\ ∃ st', HD st st' /\ Q st'
 | fuel + 1, listed, st => (Region.ready md ops listed = [] -> ∃ st', HD st st' /\ Q st') /\
  ∀ i ∈ Region.ready md ops listed, ∃ o l e, ops[i]? = some o /\ DY P AE ops (st.at (base + i)) o l e /\ I6 P AE md ops base Q fuel (listed.setIfInBounds i true) (apS st (base + i) o l e)
theorem HD.trans {a b c : St} (h : HD a b) (h' : HD b c) : HD a c := ⟨h.nt.trans h'.nt, fun t => (h.slots t).trans (h'.slots t), fun i => (h.heap i).trans (h'.heap i)⟩
theorem HD.symm {a b : St} (h : HD a b) : HD b a := ⟨h.nt.symm, fun t => (h.slots t).symm, fun i => (h.heap i).symm⟩
theorem X6 {st : St} {dst : Option Tmp} {l : LV} {t : Nat} : Bo (st.put dst l).slots t = if dst = some t then l else Bo st.slots t := by
 cases dst with
 | none => simp [St.put]
 | some d =>
  simp only [St.put, Bo, AL, Option.some.injEq]
  by_cases e : t = d
  .subst e; simp
  rw [if_neg e, if_neg (fun h => e h.symm)]
theorem HE {st : St} {c : Nat} {o : Oper} {l : LV} {e : E4} : (apS st c o l e).nt = st.nt := by
 unfold apS St.put; split <;> rfl
theorem Bx {st : St} {c : Nat} {o : Oper} {l : LV} {e : E4} : (apS st c o l e).heap = e.ap c st.heap := by
 unfold apS St.put; split <;> rfl
theorem DK {st : St} {c : Nat} {o : Oper} {l : LV} {e : E4} {t : Nat} : Bo (apS st c o l e).slots t = if o.dst = some t then l else Bo st.slots t := by
 unfold apS; rw [X6]
theorem HD.at {st st' : St} (h : HD st st') (c : Nat) : HD (st.at c) (st'.at c) := ⟨h.nt, h.slots, h.heap⟩
theorem HD.apS {st st' : St} (h : HD st st') {c : Nat} {o : Oper} {l : LV} {e e' : E4} (he : ∀ id, AL id (e.ap c st.heap) = AL id (e'.ap c st'.heap)) : HD (apS st c o l e) (apS st' c o l e') :=
 ⟨by rw [HE, HE]; exact h.nt, fun t => by rw [DK, DK, h.slots], fun id => by rw [Bx, Bx]; exact he id⟩
theorem NK : ∀ (fuel : Nat) (listed : Array Bool) (st st' : St), HD st st' -> I6 P AE md ops base Q fuel listed st -> I6 P AE md ops base Q fuel listed st'
 | 0, _, _, _, he, ⟨h1, s, h2, h3⟩ => ⟨h1, s, he.symm.trans h2, h3⟩
 | fuel + 1, _, st, st', he, ⟨h1, h2⟩ => ⟨fun hr => by obtain ⟨s, a, b⟩ := h1 hr; exact ⟨s, he.symm.trans a, b⟩, fun i hi => by
   obtain ⟨o, l, e, g1, g2, g3⟩ := h2 i hi
   obtain ⟨e', k1, k2⟩ := XN (he.at (base + i)) rfl g2
   exact ⟨o, l, e', g1, k1, NK fuel _ _ _ (he.apS k2) g3⟩⟩
def OR : Zk -> Zk -> Bool
 | .n, .w => true
 | .w, _ | _, .w => false
 | .a, .r => false
 | _, _ => true
def Mt : Op -> Bool
 | .call c => match c.callee with
  | .value _ => true
  | _ => false
 | _ => false
def Rg (a b : Op) : Bool := !(Mt a) || decide (Bm b ≠ .r)
theorem X7 {st : St} {o : Oper} {l : LV} {e : E4} (h : DY P AE ops st o l e) (hc : Bm o.op = .n \/ Bm o.op = .r) (hw : AE.own = true -> Mt o.op = false) : e = .keep := by
 have big : CV P AE st o.op l e -> e = .keep := by
  intro h
  generalize o.op = op at *
  cases op <;> simp only [Bm, reduceCtorEq, or_self] at hc <;> simp only [CV] at h <;> (try exact h.1)
  case call c =>
   obtain ⟨callee, args, ats⟩ := c
   cases callee with
   | builtin b => cases b <;> simp only [reduceCtorEq, or_self] at hc <;> exact h.1
   | value f =>
    rcases h with h | ⟨h, _⟩
    .exact h.1
    have := hw h
    simp [Mt] at this
   | _ => exact h.1
 unfold DY at h
 split at h
 .exact big h
 split at h
 .split at h
  .exact big h
  exact h.2
 .exact h.2
 exact h.elim
theorem PQ {st : St} {o : Oper} {l : LV} {e : E4} (h : DY P AE ops st o l e) (hc : Bm o.op ≠ .w) : e = .keep \/ ∃ x, e = .new x := by
 have big : CV P AE st o.op l e -> e = .keep \/ ∃ x, e = .new x := by
  intro h
  generalize o.op = op at *
  cases op <;> simp only [CV] at h <;> (try exact .inl h.1)
  case store => exact absurd rfl hc
  case mapUpdate => exact absurd rfl hc
  case mapEntry => exact absurd rfl hc
  case entryStore => exact absurd rfl hc
  case alloc => obtain ⟨_, _, _, h⟩ := h; exact .inr ⟨_, h⟩
  case box => obtain ⟨_, _, _, h⟩ := h; exact .inr ⟨_, h⟩
  case buildSlice => obtain ⟨_, _, _, _, _, _, _, _, _, _, _, ⟨_, h⟩ | ⟨_, h⟩⟩ := h; exact .inr ⟨_, h⟩; exact .inl h
  case makeSlice => obtain ⟨_, _, _, _, _, _, _, _, _, _, _, _, _, _, ⟨_, h⟩ | ⟨_, h⟩⟩ := h; exact .inr ⟨_, h⟩; exact .inl h
  case makeMap => exact .inr ⟨_, h.2.2⟩
  case call c =>
   obtain ⟨callee, args, ats⟩ := c
   cases callee with
   | builtin b =>
    cases b with
    | append => exact absurd rfl hc
    | _ => exact .inl h.1
   | value f =>
    rcases h with h | ⟨_, _, _, _, _, _, _, _, _, _, _, _, h⟩
    .exact .inl h.1
    exact .inr ⟨_, h⟩
   | _ => exact .inl h.1
 unfold DY at h
 split at h
 .exact big h
 split at h
 .split at h
  .exact big h
  exact .inl h.2
 .exact .inl h.2
 exact h.elim
theorem L6 {st : St} {o : Oper} {l : LV} {e : E4} (h : DY P AE ops st o l e) {k : Nat} (hk : k ≠ st.ctr) (hn : AL k st.heap = none) : AL k (e.ap st.ctr st.heap) = none := by
 by_cases hw : Bm o.op = .w
 .have big : CV P AE st o.op l e -> AL k (e.ap st.ctr st.heap) = none := by
   intro h
   have : ∃ h1, e = .set h1 /\ (mW AE st o.op fun r h _ => r = l /\ h = h1) := by
    generalize hq : o.op = op at *
    cases op <;> simp only [Bm, reduceCtorEq] at hw <;> simp only [CV] at h ⊢
    case store => exact h.2
    case mapUpdate => exact h
    case mapEntry => exact h
    case entryStore => exact h
    case call c =>
     obtain ⟨callee, args, ats⟩ := c
     cases callee with
     | builtin b =>
      cases b <;> simp only [reduceCtorEq] at hw
      exact h
     | _ => simp only [reduceCtorEq] at hw
   obtain ⟨h1, rfl, g⟩ := this
   obtain ⟨_, _, _, g⟩ := WG (st' := st) hw (fun _ _ => rfl) rfl (fun _ => rfl) g
   exact g k hk hn
  unfold DY at h
  split at h
  .exact big h
  split at h
  .split at h
   .exact big h
   rw [h.2]; exact hn
  .rw [h.2]; exact hn
  exact h.elim
 rcases PQ h hw with rfl | ⟨x, rfl⟩
 .exact hn
 simp only [E4.ap, AL, hk, if_false]; exact hn
def Rh : Op -> Op -> Bool
 | .load .., .mapUpdate .. | .load .., .mapEntry .. | .load .., .entryStore .. => true
 | _, _ => false
def P7 : Op -> Op -> Bool
 | .load .., .store .. => true
 | .load .., .call c => match c.callee with
  | .builtin .append => true
  | _ => false
 | _, _ => false
def OT (q : Bool) (a b : Op) : Bool := Rh a b || (q && P7 a b)
def Ri (q : Bool) (a b : Op) : Bool := OR (Bm a) (Bm b) || OT q a b
theorem WH {o : Op} (h : Mt o = true) : Bm o = .r := by
 unfold Mt at h
 split at h
 .rename_i c
  unfold Bm
  split at h
  .rename_i e; simp only [e]
  cases h
 cases h
theorem TC {a b : Op} (h : P7 a b = true) : Bm a = .r /\ Bm b = .w /\ (∃ t x, a = .load t x) /\ ((∃ t x v, b = .store t x v) \/ ∃ c, b = .call c /\ c.callee = .builtin .append) := by
 unfold P7 at h
 split at h
 .exact ⟨rfl, rfl, ⟨_, _, rfl⟩, .inl ⟨_, _, _, rfl⟩⟩
 .rename_i c
  split at h
  .rename_i e
   exact ⟨rfl, by simp [Bm, e], ⟨_, _, rfl⟩, .inr ⟨_, rfl, e⟩⟩
  cases h
 cases h
theorem Tp {a b : Op} (h : Rh a b = true) : Bm a = .r /\ Bm b = .w /\ (∃ t x, a = .load t x) /\ ((∃ t x i v, b = .mapUpdate t x i v) \/ (∃ t x i, b = .mapEntry t x i) \/ ∃ t x i v, b = .entryStore t x i v) := by
 unfold Rh at h
 split at h
 .exact ⟨rfl, rfl, ⟨_, _, rfl⟩, .inl ⟨_, _, _, _, rfl⟩⟩
 .exact ⟨rfl, rfl, ⟨_, _, rfl⟩, .inr (.inl ⟨_, _, _, rfl⟩)⟩
 .exact ⟨rfl, rfl, ⟨_, _, rfl⟩, .inr (.inr ⟨_, _, _, _, rfl⟩)⟩
 cases h
theorem Ie {q : Bool} {a b : Op} (h : OT q a b = true) : Bm a = .r /\ Bm b = .w /\ (∃ t x, a = .load t x) /\
  (((∃ t x i v, b = .mapUpdate t x i v) \/ (∃ t x i, b = .mapEntry t x i) \/ ∃ t x i v, b = .entryStore t x i v) \/ (q = true /\ ((∃ t x v, b = .store t x v) \/ ∃ c, b = .call c /\ c.callee = .builtin .append))) := by
 simp only [OT, Bool.or_eq_true, Bool.and_eq_true] at h
 rcases h with h | ⟨hq, h⟩
 .obtain ⟨h1, h2, h3, h4⟩ := Tp h; exact ⟨h1, h2, h3, .inl h4⟩
 obtain ⟨h1, h2, h3, h4⟩ := TC h; exact ⟨h1, h2, h3, .inr ⟨hq, h4⟩⟩
theorem ZE {st st' : St} {o : Oper} {l : LV} {e : E4} (hld : ∃ t x, o.op = .load t x) (hnt : st.nt = st'.nt) (hs : ∀ t ∈ o.looksAt ops, Bo st.slots t = Bo st'.slots t)
  (hm : ∀ id x, AL id st.heap = some x -> (∀ m, x ≠ .map m) -> AL id st'.heap = some x) (h : DY P AE ops st o l e) : DY P AE ops st' o l e := by
 have hop := GK hnt hs
 have key : CV P AE st o.op l e -> CV P AE st' o.op l e := by
  obtain ⟨t, x, ho⟩ := hld
  rw [ho] at hop ⊢
  simp only [CV]
  rintro ⟨h1, hc', ti, h2, h3⟩
  have he : st.eval x = st'.eval x := hop x (by simp [Op.operands])
  rw [<- he]
  refine ⟨h1, hc', ti, h2, ?_⟩
  unfold Hj at h3 ⊢
  split at h3
  .rename_i hx; simp only [hx]; exact h3
  .rename_i id off hx
   obtain ⟨cells, r, g1, g2⟩ := h3
   simp only [hx]
   exact ⟨cells, r, hm _ _ g1 (by simp), g2⟩
  .rename_i id i off hx
   obtain ⟨e', sz, elems, y, r, g1, g2⟩ := h3
   simp only [hx]
   exact ⟨e', sz, elems, y, r, hm _ _ g1 (by simp), g2⟩
  exact h3.elim
 unfold DY at *
 split at h
 .exact key h
 rename_i j want hg
 rw [<- Ic hnt hs hg]
 split at h
 .rename_i hb
  split at h
  .rw [if_pos ‹_›]; exact key h
  rw [if_neg ‹_›]; exact h
 .exact h
 exact h.elim
theorem Zl {st : St} {o : Oper} {l : LV} {e : E4} {c : Nat} (hmu : (∃ t x i v, o.op = .mapUpdate t x i v) \/ (∃ t x i, o.op = .mapEntry t x i) \/ ∃ t x i v, o.op = .entryStore t x i v) (h : DY P AE ops st o l e) : ∀ id x, AL id st.heap = some x -> (∀ m, x ≠ .map m) -> AL id (e.ap c st.heap) = some x := by
 have key : CV P AE st o.op l e -> ∀ id x, AL id st.heap = some x -> (∀ m, x ≠ .map m) -> AL id (e.ap c st.heap) = some x := by
  have fin : ∀ (id' : Nat) (m m' : List (DV × DV)), AL id' st.heap = some (.map m) -> ∀ id y, AL id st.heap = some y -> (∀ m, y ≠ .map m) -> AL id (B3 id' (.map m') st.heap) = some y := by
   intro id' m m' h4 id y hy hne
   by_cases hii : id = id'
   .subst hii; rw [h4] at hy; cases hy; exact absurd rfl (hne _)
   rw [E5 hii]; exact hy
  rcases hmu with ⟨t, x, i, v, ho⟩ | ⟨t, x, i, ho⟩ | ⟨t, x, i, v, ho⟩
  .rw [ho]
   simp only [CV]
   rintro ⟨h', rfl, hmw⟩ id y hy hne
   obtain ⟨ti, kt, et, id', m, kd, vd, h1, h2, h3, h4, h5, h6, h7, h8, _, rfl⟩ := hmw
   exact fin id' m _ h4 id y hy hne
  .rw [ho]
   simp only [CV]
   rintro ⟨h', rfl, hmw⟩ id y hy hne
   obtain ⟨ti, kt, et, te, id', m, kd, h1, h2, h3, h4, h5, h6, h7, h8, _, rfl⟩ := hmw
   show AL id (match Dw kd m with | some _ => st.heap | none => _) = some y
   split
   .exact hy
   exact fin id' m _ h5 id y hy hne
  rw [ho]
  simp only [CV]
  rintro ⟨h', rfl, hmw⟩ id y hy hne
  obtain ⟨id', m, k1, n, vd, p, h1, h2, h3, h4, h5, h6, _, rfl⟩ := hmw
  exact fin id' m _ h2 id y hy hne
 unfold DY at h
 split at h
 .exact key h
 split at h
 .split at h
  .exact key h
  obtain ⟨_, rfl⟩ := h; exact fun id x hx _ => hx
 .obtain ⟨_, rfl⟩ := h; exact fun id x hx _ => hx
 exact h.elim
theorem X8 {b : Nat -> Bool} (hb0 : AE.calm = some b) {st st' : St} {o : Oper} {l : LV} {e : E4} (hld : ∃ t x, o.op = .load t x) (hnt : st.nt = st'.nt) (hs : ∀ t ∈ o.looksAt ops, Bo st.slots t = Bo st'.slots t)
  (hm : ∀ id cells, b id = false -> AL id st.heap = some (.box cells) -> AL id st'.heap = some (.box cells)) (h : DY P AE ops st o l e) : DY P AE ops st' o l e := by
 have hop := GK hnt hs
 have key : CV P AE st o.op l e -> CV P AE st' o.op l e := by
  obtain ⟨t, x, ho⟩ := hld
  rw [ho] at hop ⊢
  simp only [CV]
  rintro ⟨h1, hc', ti, h2, h3⟩
  have he : st.eval x = st'.eval x := hop x (by simp [Op.operands])
  rw [<- he]
  refine ⟨h1, hc', ti, h2, ?_⟩
  rw [hb0] at hc'
  unfold Hj at h3 ⊢
  split at h3
  .rename_i hx; simp only [hx]; exact h3
  .rename_i id off hx
   obtain ⟨cells, r, g1, g2⟩ := h3
   simp only [hx]
   simp only [hx, Mp] at hc'
   exact ⟨cells, r, hm _ _ (by simpa using hc') g1, g2⟩
  .rename_i id i off hx
   simp only [hx, Mp, Bool.false_eq_true] at hc'
  exact h3.elim
 unfold DY at *
 split at h
 .exact key h
 rename_i j want hg
 rw [<- Ic hnt hs hg]
 split at h
 .rename_i hb
  split at h
  .rw [if_pos ‹_›]; exact key h
  rw [if_neg ‹_›]; exact h
 .exact h
 exact h.elim
theorem ZF {b : Nat -> Bool} (hb0 : AE.calm = some b) {st : St} {o : Oper} {l : LV} {e : E4} (hfr : AL st.ctr st.heap = none) (hmu : (∃ t x v, o.op = .store t x v) \/ ∃ c, o.op = .call c /\ c.callee = .builtin .append) (h : DY P AE ops st o l e) :
  ∀ id cells, b id = false -> AL id st.heap = some (.box cells) -> AL id (e.ap st.ctr st.heap) = some (.box cells) := by
 have key : CV P AE st o.op l e -> ∀ id cells, b id = false -> AL id st.heap = some (.box cells) -> AL id (e.ap st.ctr st.heap) = some (.box cells) := by
  intro h id cells hid hl
  rcases hmu with ⟨t, x, v, ho⟩ | ⟨c, ho, hcal⟩
  .rw [ho] at h
   simp only [CV] at h
   obtain ⟨hc', h', rfl, ti, h1, hs⟩ := h
   rw [hb0] at hc'
   unfold Ka at hs
   obtain ⟨ls, g1, g2, g3, hs⟩ := hs
   split at hs
   .rename_i id' off hx
    obtain ⟨cells', q1, q2, _, rfl⟩ := hs
    rw [hx] at hc'
    simp only [LN] at hc'
    show AL id (B3 id' _ st.heap) = _
    rw [E5 (fun e2 => by rw [e2, hc'] at hid; cases hid)]; exact hl
   .rename_i hx
    first
    | exact hs.elim
    | (simp only [hx, LN, Bool.false_eq_true] at hc')
   all_goals first
    | exact hs.elim
    | (rename_i hx; simp only [hx, LN, Bool.false_eq_true] at hc')
  obtain ⟨callee, args, ats⟩ := c
  simp only at hcal
  subst hcal
  rw [ho] at h
  simp only [CV, mW] at h
  obtain ⟨h', rfl, _, s, x, t, g1, g2, ti, e', te, q1, q2, q3, q4, new, q5, q6, hs⟩ := h
  have hne : id ≠ st.ctr := fun e2 => by rw [e2, hfr] at hl; cases hl
  show AL id h' = _
  split at hs
  .obtain ⟨_, _, _, rfl⟩ := hs
   simp only [AL, if_neg hne]; exact hl
  .rename_i id' sz off len hx
   obtain ⟨elems, _, hrow, _, _, _, _, rfl⟩ := hs
   have hne2 : id ≠ id' := fun e2 => by rw [e2, hrow] at hl; cases hl
   simp only [AL, if_neg hne]
   rw [GH hne2]; exact hl
  exact hs.elim
 unfold DY at h
 split at h
 .exact key h
 split at h
 .split at h
  .exact key h
  obtain ⟨_, rfl⟩ := h; exact fun id x _ hx => hx
 .obtain ⟨_, rfl⟩ := h; exact fun id x _ hx => hx
 exact h.elim
theorem Qb (q : Bool) (hq : q = true -> ∃ b, AE.calm = some b) {i : Nat} {oi : Oper} {l : LV} {e : E4} (hi : ops[i]? = some oi) (B : Nat -> Bool)
  (hB : ∀ j, B j = true -> j ≠ i /\ ∀ oj, ops[j]? = some oj -> ∃ x ∈ oj.after, Region.binds md x = true /\ (x.on = i \/ B x.on = true)) :
  ∀ (fuel : Nat) (listed : Array Bool) (st : St), (∀ j, B j = true -> listed.getD j false = false) ->
   (∀ j oj, ops[j]? = some oj -> j ≠ i -> listed.getD j true = false -> B j = false -> oi.apart ops oj = true /\ Ri q oi.op oj.op = true /\ (AE.own = true -> Rg oi.op oj.op = true)) ->
   (∀ k, listed.getD k true = false -> AL (base + k) st.heap = none) ->
   i ∈ Region.ready md ops listed -> DY P AE ops (st.at (base + i)) oi l e ->
   I6 P AE md ops base Q fuel (listed.setIfInBounds i true) (apS st (base + i) oi l e) -> I6 P AE md ops base Q (fuel + 1) listed st := by
 intro fuel
 induction fuel with
 | zero =>
  intro listed st _ _ _ hr hy H
  refine ⟨fun h => (by rw [h] at hr; cases hr), fun j hj => ?_⟩
  by_cases hji : j = i
  .subst hji; exact ⟨oi, l, e, hi, hy, H⟩
  have := ready_mono hj hji
  rw [H.1] at this
  cases this
 | succ fuel ih =>
  intro listed st hBl hfree hfresh hr hy H
  refine ⟨fun h => (by rw [h] at hr; cases hr), fun j hj => ?_⟩
  by_cases hji : j = i
  .subst hji; exact ⟨oi, l, e, hi, hy, H⟩
  obtain ⟨oj, lj, ej, hoj, h1, h2⟩ := H.2 j (ready_mono hj hji)
  obtain ⟨hjun, oj', hoj', hall⟩ := mem_ready.1 hj
  rw [hoj] at hoj'; cases hoj'
  have hiun : listed.getD i true = false := (mem_ready.1 hr).1
  have hiF : listed.getD i false = false := by
   rcases Nat.lt_or_ge i listed.size with h' | h'
   .simp [h'] at hiun ⊢; exact hiun
   simp [Array.getElem?_eq_none h']
  have hjB : B j = false := by
   rcases hb : B j with _ | _
   .rfl
   obtain ⟨_, hb2⟩ := hB j hb
   obtain ⟨x, hx, hxb, hxo⟩ := hb2 oj hoj
   have := hall x hx hxb
   rcases hxo with hxo | hxo
   .rw [hxo, hiF] at this; cases this
   rw [hBl _ hxo] at this; cases this
  obtain ⟨hap, hcp, hwp⟩ := hfree j oj hoj hji hjun hjB
  obtain ⟨a1, a2, a3⟩ := Oper.apart_spec hap
  simp only [Ri, Bool.or_eq_true] at hcp
  have hwi : Bm oi.op ≠ .w := by
   rcases hcp with hcp | hcp
   .intro e; rw [e] at hcp; simp [OR] at hcp
   rw [(Ie hcp).1]; simp
  have hwj : Bm oj.op = .w -> Bm oi.op = .n \/ OT q oi.op oj.op = true := by
   intro e
   rcases hcp with hcp | hcp
   .rw [e] at hcp; cases hq : Bm oi.op <;> rw [hq] at hcp <;> simp [OR] at hcp ⊢
   exact .inr hcp
  have hnr : Bm oj.op = .w -> Bm oi.op = .n \/ Bm oi.op = .r := fun e => (hwj e).imp id fun h => (Ie h).1
  have hcp : Bm oj.op ≠ .w -> OR (Bm oi.op) (Bm oj.op) = true := fun e => hcp.resolve_right fun h => e (Ie h).2.1
  have hkp : Bm oi.op = .n \/ Bm oi.op = .r -> Bm oj.op = .r \/ Bm oj.op = .w -> e = .keep := fun hc hj => X7 hy hc fun ho => by
   rcases hj with hj | hj
   .have := hwp ho
    simp only [Rg, hj, ne_eq, not_true_eq_false, decide_false, Bool.or_false, Bool.not_eq_true'] at this
    exact this
   rcases hwj hj with h | h
   .cases hq : Mt oi.op with
    | false => rfl
    | true =>
     rw [WH hq] at h
     cases h
   obtain ⟨_, _, ⟨t, x, h⟩, _⟩ := Ie h
   rw [h]; rfl
  have back : ∃ ej', DY P AE ops (st.at (base + j)) oj lj ej' /\ (∀ id, AL id (ej.ap (base + j) (apS st (base + i) oi l e).heap) = AL id (ej'.ap (base + j) (apS st (base + i) oi l e).heap)) /\ (Bm oj.op ≠ .w -> ej' = ej) := by
   have hsl : ∀ t ∈ oj.looksAt ops, Bo ((apS st (base + i) oi l e).at (base + j)).slots t = Bo (st.at (base + j)).slots t := fun t ht => by
    show Bo (apS st (base + i) oi l e).slots t = Bo st.slots t
    rw [DK, if_neg]
    intro e'; exact a1 t e' ht
   by_cases hcw : Bm oj.op = .w
   .have : e = .keep := hkp (hnr hcw) (.inr hcw)
    subst this
    have heq : HD ((apS st (base + i) oi l .keep).at (base + j)) { (st.at (base + j)) with slots := (apS st (base + i) oi l .keep).slots } := ⟨by simp [St.at, HE], fun _ => rfl, fun id => by simp [St.at, Bx, E4.ap]⟩
    obtain ⟨ej', k1, k2⟩ := XN heq rfl h1
    have h3 : ∃ e3, DY P AE ops (st.at (base + j)) oj lj e3 /\ ∀ id, AL id (ej'.ap (base + j) st.heap) = AL id (e3.ap (base + j) st.heap) :=
     XO (st := { (st.at (base + j)) with slots := (apS st (base + i) oi l .keep).slots }) (st' := st.at (base + j)) hcw rfl hsl rfl (fun _ => rfl) k1
    obtain ⟨e3, g1, g2⟩ := h3
    refine ⟨e3, g1, fun id => ?_, fun hne => absurd hcw hne⟩
    have e1 : (apS st (base + i) oi l .keep).heap = st.heap := by rw [Bx]; rfl
    have k : AL id (ej.ap (base + j) (apS st (base + i) oi l .keep).heap) = AL id (ej'.ap (base + j) st.heap) := k2 id
    rw [k, e1]; exact g2 id
   refine ⟨ej, ?_, fun _ => rfl, fun _ => rfl⟩
   refine NH (st := (apS st (base + i) oi l e).at (base + j)) (st' := st.at (base + j)) hcw (by simp [St.at, HE]) hsl rfl (fun hcr => ?_) h1
   have : e = .keep := by
    refine hkp ?_ (.inl hcr)
    have hcp := hcp hcw
    rw [hcr] at hcp
    cases hq : Bm oi.op <;> rw [hq] at hcp <;> simp [OR] at hcp ⊢
   subst this
   intro id o ho
   have ho' : AL id (apS st (base + i) oi l .keep).heap = some o := ho
   rw [Bx] at ho'; exact ho'
  obtain ⟨ej', back, hej, hsame⟩ := back
  have keep : DY P AE ops ((apS st (base + j) oj lj ej').at (base + i)) oi l e := by
   by_cases hsp : OT q oi.op oj.op = true
   .obtain ⟨_, _, hld, hmu⟩ := Ie hsp
    rcases hmu with hmu | ⟨hqt, hmu⟩
    rotate_left
    .obtain ⟨b, hb0⟩ := hq hqt
     refine X8 hb0 (st := st.at (base + i)) (st' := (apS st (base + j) oj lj ej').at (base + i)) hld (by simp [St.at, HE]) (fun t ht => ?_) (fun id cells hid hx => ?_) hy
     .show Bo st.slots t = Bo (apS st (base + j) oj lj ej').slots t
      rw [DK, if_neg]
      intro e'; exact a3 t e' ht
     show AL id (apS st (base + j) oj lj ej').heap = some _
     rw [Bx]
     exact ZF hb0 (hfresh j hjun) hmu back id cells hid hx
    refine ZE (st := st.at (base + i)) (st' := (apS st (base + j) oj lj ej').at (base + i)) hld (by simp [St.at, HE]) (fun t ht => ?_) (fun id x hx hne => ?_) hy
    .show Bo st.slots t = Bo (apS st (base + j) oj lj ej').slots t
     rw [DK, if_neg]
     intro e'; exact a3 t e' ht
    show AL id (apS st (base + j) oj lj ej').heap = some x
    rw [Bx]
    exact Zl hmu back id x hx hne
   refine NH (st := st.at (base + i)) (st' := (apS st (base + j) oj lj ej').at (base + i)) hwi (by simp [St.at, HE]) (fun t ht => ?_) rfl (fun hcr => ?_) hy
   .show Bo st.slots t = Bo (apS st (base + j) oj lj ej').slots t
    rw [DK, if_neg]
    intro e'; exact a3 t e' ht
   intro id o ho
   show AL id (apS st (base + j) oj lj ej').heap = some o
   rw [Bx]
   have hnw : Bm oj.op ≠ .w := fun hc => by rw [(hwj hc).resolve_right hsp] at hcr; cases hcr
   rcases PQ back hnw with rfl | ⟨x, rfl⟩
   .exact ho
   simp only [E4.ap, AL]
   rw [if_neg]
   .exact ho
   intro e'; subst e'
   have := hfresh j hjun
   have ho' : AL (base + j) st.heap = some o := ho
   rw [this] at ho'; cases ho'
  have swap : HD (apS (apS st (base + i) oi l e) (base + j) oj lj ej) (apS (apS st (base + j) oj lj ej') (base + i) oi l e) := by
   refine ⟨by simp [HE], fun t => ?_, fun id => ?_⟩
   .rw [DK, DK, DK, DK]
    by_cases c1 : oi.dst = some t
    .have := a2 t c1
     simp [c1, this]
    rw [if_neg c1]; split <;> simp [c1]
   by_cases hcw : Bm oj.op = .w
   .have : e = .keep := hkp (hnr hcw) (.inr hcw)
    subst this
    have := hej id
    rw [Bx] at this
    rw [Bx, Bx, Bx, Bx]
    exact this
   have hs2 := hsame hcw
   subst hs2
   rw [Bx, Bx, Bx, Bx]
   rcases PQ back hcw with rfl | ⟨x, rfl⟩ <;> rcases PQ hy hwi with rfl | ⟨y, rfl⟩ <;> simp only [E4.ap, AL]
   by_cases c1 : id = base + j
   .subst c1; simp [hji]
   simp [c1]
  refine ⟨oj, lj, ej', hoj, back, ?_⟩
  refine ih (listed.setIfInBounds j true) _ (fun k hk => ?_) (fun k ok hk hki hun hkB => ?_) (fun k hk => ?_) (ready_mono hr (Ne.symm hji)) keep ?_
  .rw [getD_set_ne false (fun e' => by subst e'; rw [hjB] at hk; cases hk)]; exact hBl k hk
  .refine hfree k ok hk hki ?_ hkB
   by_cases hjk : j = k
   .subst hjk; exact hjun
   rw [getD_set_ne true hjk] at hun; exact hun
  .have hjk : j ≠ k := by
    rintro rfl
    rcases Nat.lt_or_ge j listed.size with h' | h'
    .simp [h'] at hk
    simp [Array.getElem?_eq_none h'] at hk
   rw [Bx]
   have hk' : listed.getD k true = false := by rw [getD_set_ne true hjk] at hk; exact hk
   exact L6 back (by simp only [St.at]; omega) (hfresh k hk')
  rw [Array.setIfInBounds_comm _ _ hji]
  exact NK fuel _ _ _ swap h2
end
end Go.E
/- Drawn regions, the rule (IK). Condition: the checks If and mixedOrders, by kernel. -/
namespace Go.E
open Go Go.RowKit
def NL (md : Region.Mode) (ops : Array Oper) (listed : Array Bool) (i : Nat) : List Nat :=
 (List.range ops.size).foldl (fun acc j => if !(j == i) && !(listed.getD j false) && (match ops[j]? with
  | some oj => oj.after.any fun x => Region.binds md x && (x.on == i || acc.contains x.on)
  | none => false) then j :: acc else acc) []
def PR (q w : Bool) (md : Region.Mode) (ops : Array Oper) (listed : Array Bool) (i : Nat) (oi : Oper) (B : List Nat) : Bool :=
  (B.all fun j => !(j == i) && !(listed.getD j false) && match ops[j]? with
    | some oj => oj.after.any fun x => Region.binds md x && (x.on == i || B.contains x.on)
    | none => false) &&
  ((List.range ops.size).all fun j => j == i || listed.getD j true || B.contains j || match ops[j]? with
    | some oj => oi.apart ops oj && (Ri q oi.op oj.op && (!w || Rg oi.op oj.op))
    | none => true)
def If (q w : Bool) (md : Region.Mode) (ops : Array Oper) : List Nat -> Array Bool -> Bool
 | [], listed => (Region.ready md ops listed).isEmpty
 | i :: rest, listed => (match ops[i]? with
  | none => false
  | some oi => (Region.ready md ops listed == [i]) || ((Region.ready md ops listed).contains i && PR q w md ops listed i oi (NL md ops listed i))) &&
  If q w md ops rest (listed.setIfInBounds i true)
def Hk (P : Program) (AE : BG) (ops : Array Oper) (base : Nat) (K : St -> Prop) : List Nat -> St -> Prop
 | [], st => K st
 | i :: rest, st => match ops[i]? with
  | none => False
  | some o => match o.guard with
   | none => ∃ l e, CV P AE (st.at (base + i)) o.op l e /\ Hk P AE ops base K rest (apS st (base + i) o l e)
   | some (j, want) => match Dz st ops j with
    | .p (.bool b) => (b = want -> ∃ l e, CV P AE (st.at (base + i)) o.op l e /\ Hk P AE ops base K rest (apS st (base + i) o l e)) /\
      (b = !want -> Hk P AE ops base K rest (apS st (base + i) o .und .keep))
    | .und => Hk P AE ops base K rest (apS st (base + i) o .und .keep)
    | _ => False
section
variable {P : Program} {A : BX} {AE : BG} {md : Region.Mode} {ops : Array Oper} {base : Nat} {K : St -> Prop}
theorem NM {i : Nat} {rest : List Nat} {st : St} (h : Hk P AE ops base K (i :: rest) st) :
  ∃ o l e, ops[i]? = some o /\ DY P AE ops (st.at (base + i)) o l e /\ Hk P AE ops base K rest (apS st (base + i) o l e) := by
 simp only [Hk] at h
 split at h
 .exact h.elim
 rename_i o ho
 split at h
 .rename_i hg
  obtain ⟨l, e, h1, h2⟩ := h
  exact ⟨o, l, e, ho, by unfold DY; rw [hg]; exact h1, h2⟩
 rename_i j want hg
 have hgl : Dz (st.at (base + i)) ops j = Dz st ops j := rfl
 split at h
 .rename_i b hb
  by_cases e : b = want
  .obtain ⟨l, e', h1, h2⟩ := h.1 e
   exact ⟨o, l, e', ho, by unfold DY; rw [hg]; simp only [hgl, hb]; rw [if_pos e]; exact h1, h2⟩
  exact ⟨o, .und, .keep, ho, by unfold DY; rw [hg]; simp only [hgl, hb]; rw [if_neg e]; simp, h.2 (by cases b <;> cases want <;> simp_all)⟩
 .rename_i hb
  exact ⟨o, .und, .keep, ho, by unfold DY; rw [hg]; simp [hgl, hb], h⟩
 exact h.elim
theorem Ks (q : Bool) (hq : q = true -> ∃ b, AE.calm = some b) : ∀ (order : List Nat) (listed : Array Bool) (st : St), If q AE.own md ops order listed = true -> (∀ k, listed.getD k true = false -> AL (base + k) st.heap = none) ->
  Hk P AE ops base K order st -> I6 P AE md ops base K order.length listed st
 | [], listed, st, hok, _, h => ⟨by simpa [If] using hok, st, HD.refl st, h⟩
 | i :: rest, listed, st, hok, hfresh, h => by
  obtain ⟨o, l, e, ho, hd, hrest⟩ := NM h
  simp only [If, ho, Bool.and_eq_true, Bool.or_eq_true] at hok
  have hrec : I6 P AE md ops base K rest.length (listed.setIfInBounds i true) (apS st (base + i) o l e) := by
   refine Ks q hq rest _ _ hok.2 (fun k hk => ?_) hrest
   have hik : i ≠ k := by
    rintro rfl
    rcases Nat.lt_or_ge i listed.size with h' | h'
    .simp [h'] at hk
    simp [Array.getElem?_eq_none h'] at hk
   rw [Bx]
   exact L6 hd (by simp only [St.at]; omega) (hfresh k (by rw [getD_set_ne true hik] at hk; exact hk))
  rcases hok.1 with h1 | h1
  .have hr : Region.ready md ops listed = [i] := by simpa using h1
   refine ⟨fun h0 => (by rw [hr] at h0; cases h0), fun j hj => ?_⟩
   rw [hr] at hj
   simp at hj
   subst hj
   exact ⟨o, l, e, ho, hd, hrec⟩
  obtain ⟨h1, h2⟩ := h1
  simp only [PR, Bool.and_eq_true, List.all_eq_true, List.mem_range] at h2
  obtain ⟨h2, h3⟩ := h2
  generalize hBe : NL md ops listed i = B at h2 h3
  refine Qb q hq ho (fun j => B.contains j) (fun j hj => ?_) rest.length listed st (fun j hj => ?_) (fun j oj hoj hji hun hBj => ?_) hfresh (by simpa using h1) hd hrec
  .have := h2 j (by simpa using hj)
   obtain ⟨⟨a1, a2⟩, a3⟩ := this
   refine ⟨by simpa using a1, fun oj hoj => ?_⟩
   rw [hoj] at a3
   obtain ⟨x, hx, hx2⟩ := Array.any_eq_true'.1 a3
   simp only [Bool.and_eq_true, Bool.or_eq_true, beq_iff_eq] at hx2
   exact ⟨x, hx, hx2.1, hx2.2⟩
  .have := (h2 j (by simpa using hj)).1.2
   simpa using this
  have := h3 j (Array.getElem?_eq_some_iff.1 hoj).1
  simp only [Bool.or_eq_true, beq_iff_eq, hji, false_or, hun, Bool.false_eq_true] at this
  rw [hBj] at this
  simp only [Bool.false_eq_true, false_or, hoj, Bool.and_eq_true] at this
  refine ⟨this.1, this.2.1, fun ho => ?_⟩
  have := this.2.2
  rw [ho] at this; simpa using this
theorem X9 {μ : Nat -> Option Bt} {h h' : Ag} (he : ∀ id, AL id h = AL id h') : CN μ h = CN μ h' := by
 funext b; simp only [CN, he]
theorem RF.eqv {F : Nat -> Prop} {st st' : St} {a : Act} {w : World} (h : RF A F st a w) (he : HD st st') : RF A F st' a w := by
 obtain ⟨⟨μ, hh, hs⟩, hnt, hdef⟩ := h
 have hm : CN μ st.heap = CN μ st'.heap := X9 he.heap
 have ho : Au A μ st.heap = Au A μ st'.heap := by funext b; simp only [Au, hm]
 refine ⟨⟨μ, ⟨?_, ?_, hh.fresh, ?_, hh.size, hh.block, hh.os, hh.tape, hh.output, hh.ext⟩, fun t ht => ?_⟩, by rw [<- he.nt]; exact hnt, hdef⟩
 .rw [<- ho]; intro id o; rw [<- he.heap]; exact hh.obj id o
 .intro id id' o o' loc loc'; rw [<- he.heap, <- he.heap]; exact hh.inj id id' o o' loc loc'
 .intro id o loc; rw [<- he.heap]; exact hh.base id o loc
 rw [<- ho, <- he.slots]; exact hs t (by rw [he.nt]; exact ht)
def Fl (base n : Nat) (listed : Array Bool) (id : Nat) : Prop := base + n <= id \/ ∃ i, i < n /\ listed.getD i true = false /\ id = base + i
theorem Ix (hE : BN P AE) {n : Nat} (hn : n = ops.size) {Q' : Exit -> Act -> World -> Prop} (hQ : ∀ st a w listed, K st -> RF A (Fl base n listed) st a w -> Q' .normal a w) :
  ∀ (fuel : Nat) (listed : Array Bool) (st : St) (a : Act) (w : World), listed.size = n -> I6 P AE md ops base K fuel listed st -> RF A (Fl base n listed) st a w -> wpAny P md ops Q' fuel listed a w
 | 0, listed, st, a, w, _, ⟨h1, st', he, hk⟩, hR => ⟨h1, hQ st' a w listed hk (hR.eqv he)⟩
 | fuel + 1, listed, st, a, w, hsz, ⟨h1, h2⟩, hR => by
  refine ⟨fun h0 => ?_, fun i hi => ?_⟩
  .obtain ⟨st', he, hk⟩ := h1 h0
   exact hQ st' a w listed hk (hR.eqv he)
  obtain ⟨o, l, e, ho, hd, hrec⟩ := h2 i hi
  have hun := (mem_ready.1 hi).1
  have hlt : i < n := by rw [hn]; exact (Array.getElem?_eq_some_iff.1 ho).1
  refine P6 (st := st.at (base + i)) hE ho ⟨hR.ex, hR.nt, hR.defers⟩ (.inr ⟨i, hlt, hun, rfl⟩) hd fun a' w' hR' => ?_
  refine Ix hE hn hQ fuel _ _ _ _ (by simpa using hsz) hrec ?_
  have hR'' : RF A (fun id => Fl base n listed id /\ id ≠ base + i) (apS st (base + i) o l e) a' w' := by
   obtain ⟨⟨μ, x1, x2⟩, x3, x4⟩ := hR'
   refine ⟨⟨μ, ?_, fun t ht => ?_⟩, ?_, x4⟩
   .rw [Bx] at x1 ⊢; exact x1
   .have := x2 t (by rw [HE] at ht ⊢; exact ht)
    rw [Bx, DK] at this
    rw [Bx, DK]; exact this
   rw [HE] at x3 ⊢; exact x3
  obtain ⟨⟨μ, x1, x2⟩, x3, x4⟩ := hR''
  refine ⟨⟨μ, x1.less fun id hid => ?_, x2⟩, x3, x4⟩
  rcases hid with hid | ⟨k, hk1, hk2, rfl⟩
  .exact ⟨.inl hid, by omega⟩
  have hik : i ≠ k := by
   rintro rfl
   simp [show i < listed.size by omega] at hk2
  exact ⟨.inr ⟨k, hk1, by rw [getD_set_ne true hik] at hk2; exact hk2, rfl⟩, by omega⟩
theorem Ar.drawn {O : Nat -> Prop} {μ : Nat -> Option Bt} {w : World} {v : Value} {l : LV} (n : Nat) (h : Ar O μ w v l) : Ar O μ { w with drawn := n } v l :=
 Ar.mono (w := w) (w' := { w with drawn := n }) ⟨Nat.le_refl _, fun _ _ _ => rfl⟩ (fun _ _ hb => hb) (fun _ _ h => h) h
theorem R.drawn {st : St} {a : Act} {w : World} (n : Nat) (h : R A st a w) : R A st a { w with drawn := n } := by
 obtain ⟨⟨μ, hh, hs⟩, hnt, hdef⟩ := h
 refine ⟨⟨μ, ⟨fun id o ho => ?_, hh.inj, hh.fresh, hh.base, hh.size, hh.block, hh.os, hh.tape, hh.output, hh.ext⟩, fun t ht => (hs t ht).drawn n⟩, hnt, hdef⟩
 obtain ⟨loc, h1, h2⟩ := hh.obj id o ho
 exact ⟨loc, h1, Dy.mono (w := w) (w' := { w with drawn := n }) ⟨Nat.le_refl _, fun _ _ _ => rfl⟩ (fun _ _ hb => hb) (fun _ _ h => h) (fun _ => rfl) h2⟩
theorem IK (q : Bool) (hq : q = true -> ∃ b, AE.calm = some b) (hE : BN P AE) (hm : P.follows .mixedOrders = true) {id : Nat} {l : List Oper} {order : List Nat} (hok : If q AE.own .any l.toArray order (Array.replicate l.length false) = true)
  (hlen : order.length = l.length) {st : St} {Q : Exit -> St -> Prop} (h : Hk P AE l.toArray st.ctr (fun st' => Q .normal { st' with ctr := st.ctr + l.length }) order st) :
  CM P A (.region id l.toArray true) Q st := fun a w hR => by
 refine wp_region_any hm ?_
 have hR' := (hR.drawn (w.drawn + 1)).toRF
 have hfr : ∀ k, AL (st.ctr + k) st.heap = none := by
  intro k
  cases hx : AL (st.ctr + k) st.heap with
  | none => rfl
  | some o =>
   obtain ⟨⟨μ, hh, _⟩, _, _⟩ := hR
   obtain ⟨loc, h1, _⟩ := hh.obj _ _ hx
   rw [hh.fresh _ (by simp [Fr])] at h1; cases h1
 have hD := Ks q hq order (Array.replicate l.length false) st hok (fun k _ => hfr k) h
 have hsz : l.toArray.size = order.length := by simp [hlen]
 rw [hsz]
 have hrep : Array.replicate order.length false = Array.replicate l.length false := by rw [hlen]
 rw [hrep]
 refine Ix (A := A) (n := l.length) hE (by simp) (fun st' a' w' listed hk hR'' => ?_) order.length _ st a _ (by simp) hD ?_
 .refine ⟨_, ?_, hk⟩
  obtain ⟨⟨μ, x1, x2⟩, x3, x4⟩ := hR''
  exact ⟨⟨μ, x1.less fun id hid => .inl hid, x2⟩, x3, x4⟩
 obtain ⟨⟨μ, x1, x2⟩, x3, x4⟩ := hR'
 refine ⟨⟨μ, x1.less fun id hid => ?_, x2⟩, x3, x4⟩
 rcases hid with hid | ⟨k, _, _, rfl⟩
 .simp only [Fr]; omega
 simp [Fr]
end
end Go.E
/- Equality and keys of flat structs; operations in a short form, for the walk of a function. No condition. -/
namespace Go.E
open Go Go.RowKit
def Gp : Option TypeDesc -> Sh -> Bool
 | some (.int j), .int j' => j == j'
 | some .string, .str => true
 | some .bool, .bool => true
 | _, _ => false
def GL (P : Program) : List Field -> Nat -> List Sh -> Bool
 | [], _, [] => true
 | f :: fs, off, k :: ks => f.name != "_" && f.offset == off && Gp (P.underlying f.type) k && GL P fs (off + 1) ks
 | _, _, _ => false
section
variable {P : Program}
theorem Kt {t : TypeId} {k : Sh} (h : Gp (P.underlying t) k = true) {xs : Array Value} {off : Nat} {v : Value} (hx : xs[off]? = some v) (w : World) : (part t xs off).run P w = .ok v w := by
 cases hu : P.underlying t with
 | none => rw [hu] at h; simp [Gp] at h
 | some d =>
  rw [hu] at h
  cases d <;> simp [Gp] at h <;> simp [part, isAgg, run_underlying hu, hx]
theorem Rj {t : TypeId} {k : Sh} {a b : DV} (h : Gp (P.underlying t) k = true) (ha : DG k a = true) (hb : DG k b = true) (d : Nat) (w : World) :
  (Op.equalIn (d + 1) t (flatV a) (flatV b)).run P w = .ok (ER a b) w := by
 cases hu : P.underlying t with
 | none => rw [hu] at h; simp [Gp] at h
 | some dd =>
  rw [hu] at h
  cases dd <;> cases k <;> simp [Gp] at h <;> cases a <;> simp only [DG, Bool.false_eq_true] at ha <;> cases b <;> simp only [DG, Bool.false_eq_true] at hb
  .simp [flatV, ER, Op.equalIn, run_underlying hu]
  .simp only [beq_iff_eq] at ha hb
   subst ha; subst hb
   simp [flatV, ER, Op.equalIn, run_underlying hu]
  simp [flatV, ER, Op.equalIn, run_underlying hu, beq_toListBytes]
theorem Kz (d : Nat) (w : World) (xs ys : List DV) : ∀ (fs : List Field) (off : Nat) (ks : List Sh) (xa bs : List DV), GL P fs off ks = true -> xs.drop off = xa -> ys.drop off = bs -> fits ks xa = true -> fits ks bs = true ->
  (Op.eqFields (d + 1) (xs.map flatV).toArray (ys.map flatV).toArray fs).run P w = .ok (Cd xa bs) w
 | [], off, [], [], [], _, _, _, _, _ => by simp [Op.eqFields, Cd]
 | f :: fs, off, k :: ks, a :: xa, b :: bs, hB, hx, hy, ha, hb => by
  simp only [GL, Bool.and_eq_true, bne_iff_ne, ne_eq, beq_iff_eq] at hB
  simp only [fits, Bool.and_eq_true] at ha hb
  obtain ⟨⟨⟨h1, h2⟩, h3⟩, h4⟩ := hB
  have ex : xs[off]? = some a := by
   have := congrArg List.head? hx
   rw [List.head?_drop] at this; exact this
  have ey : ys[off]? = some b := by
   have := congrArg List.head? hy
   rw [List.head?_drop] at this; exact this
  have hx' : xs.drop (off + 1) = xa := by rw [<- List.tail_drop, hx]; rfl
  have hy' : ys.drop (off + 1) = bs := by rw [<- List.tail_drop, hy]; rfl
  have ih := Kz d w xs ys fs (off + 1) ks xa bs h4 hx' hy' ha.2 hb.2
  have px := Kt (w := w) h3 (xs := (xs.map flatV).toArray) (off := off) (v := flatV a) (by simp [ex])
  have py := Kt (w := w) h3 (xs := (ys.map flatV).toArray) (off := off) (v := flatV b) (by simp [ey])
  have pe := Rj h3 ha.1 hb.1 d w
  simp only [Op.eqFields, h1, h2, ne_eq, not_false_eq_true, if_true, Sem.run_bind, px, py, pe, Result.andThen_ok, Cd]
  cases ER a b with
  | true => simpa using ih
  | false => simp
 | [], _, _ :: _, _, _, hB, _, _, _, _ => by simp [GL] at hB
 | _ :: _, _, [], _, _, hB, _, _, _, _ => by simp [GL] at hB
 | [], _, [], _ :: _, _, _, _, _, ha, _ => by simp [fits] at ha
 | [], _, [], [], _ :: _, _, _, _, _, hb => by simp [fits] at hb
 | _ :: _, _, _ :: _, [], _, _, _, _, ha, _ => by simp [fits] at ha
 | _ :: _, _, _ :: _, _ :: _, [], _, _, _, _, hb => by simp [fits] at hb
theorem OU {t : TypeId} {ks : List Sh} (hu : P.underlying t = some (.struct (P.fieldsOf t))) (hp : P.stoodInHeld t = false) (hg : P.eqGuardType P.depth t = false)
  (hf : GL P (P.fieldsOf t).toList 0 ks = true) : P8 P t ks :=
 ⟨hg, fun w ds es h1 h2 => by
  show (Op.equalIn (9999 + 1) t _ _).run P w = _
  rw [run_equalIn_struct w 9999 t _ _ hu hp]
  exact Kz 9998 w ds es _ 0 ks ds es hf rfl rfl h1 h2⟩
theorem LO (em : Bool) (d : Nat) (w : World) (xs : List DV) : ∀ (fs : List Field) (off : Nat) (ks : List Sh) (xa : List DV), GL P fs off ks = true -> xs.drop off = xa -> fits ks xa = true ->
  (forIn fs PUnit.unit fun f (_ : PUnit) => (do
   if f.name ≠ "_" then Instr.checkKey em (d + 1) f.type (<- part f.type (xs.map flatV).toArray f.offset)
   pure (ForInStep.yield PUnit.unit) : Sem (ForInStep PUnit))).run P w = .ok PUnit.unit w
 | [], off, [], [], _, _, _ => by simp
 | f :: fs, off, k :: ks, a :: xa, hB, hx, ha => by
  simp only [GL, Bool.and_eq_true, bne_iff_ne, ne_eq, beq_iff_eq] at hB
  simp only [fits, Bool.and_eq_true] at ha
  obtain ⟨⟨⟨h1, h2⟩, h3⟩, h4⟩ := hB
  have ex : xs[off]? = some a := by
   have := congrArg List.head? hx
   rw [List.head?_drop] at this; exact this
  have hx' : xs.drop (off + 1) = xa := by rw [<- List.tail_drop, hx]; rfl
  have ih := LO em d w xs fs (off + 1) ks xa h4 hx' ha.2
  have px := Kt (w := w) h3 (xs := (xs.map flatV).toArray) (off := off) (v := flatV a) (by simp [ex])
  have pc : (Instr.checkKey em (d + 1) f.type (flatV a)).run P w = .ok () w := by
   cases hu : P.underlying f.type with
   | none => rw [hu] at h3; simp [Gp] at h3
   | some dd =>
    rw [hu] at h3
    cases dd <;> simp [Gp] at h3 <;> simp [Instr.checkKey, run_underlying hu]
  simp only [List.forIn_cons, Sem.run_bind, h1, ne_eq, not_false_eq_true, if_true, h2, px, pc, Result.andThen_ok, Sem.run_pure]
  exact ih
 | [], _, _ :: _, _, hB, _, _ => by simp [GL] at hB
 | _ :: _, _, [], _, hB, _, _ => by simp [GL] at hB
 | [], _, [], _ :: _, _, _, ha => by simp [fits] at ha
 | _ :: _, _, _ :: _, [], _, _, ha => by simp [fits] at ha
theorem WI {t : TypeId} {ks : List Sh} (hu : P.underlying t = some (.struct (P.fieldsOf t))) (he : P8 P t ks) (hf : GL P (P.fieldsOf t).toList 0 ks = true) : Qc P t ks := by
 refine ⟨he, by rw [hu]; trivial, fun em w ds h => ?_⟩
 show (Instr.checkKey em (9999 + 1) t _).run P w = _
 unfold Instr.checkKey
 simp only [Sem.run_bind, run_underlying hu, Result.andThen_ok]
 have := LO (P := P) em 9998 w ds (P.fieldsOf t).toList 0 ks ds hf rfl h
 simp only [Array.forIn_toList] at this
 simp at this ⊢
 rw [this]; rfl
end
def St.keep (ts : List Nat) (st : St) : St := { st with slots := ts.map fun t => (t, Bo st.slots t) }
theorem SO {st : St} {t : Nat} : ∀ (ts : List Nat), AL t (ts.map fun t => (t, Bo st.slots t)) = if t ∈ ts then some (Bo st.slots t) else none
 | [] => by simp [AL]
 | u :: ts => by
  simp only [List.map_cons, AL]
  by_cases e : t = u
  .subst e; simp
  rw [if_neg e, SO ts]; simp [e]
theorem R.keep {A : BX} {st : St} {a : Act} {w : World} (ts : List Nat) (h : R A st a w) : R A (st.keep ts) a w := by
 obtain ⟨⟨μ, hh, hs⟩, hnt, hdef⟩ := h
 refine ⟨⟨μ, hh, fun t ht => ?_⟩, hnt, hdef⟩
 have : Bo (st.keep ts).slots t = if t ∈ ts then Bo st.slots t else .any := by
  show (match AL t (ts.map fun t => (t, Bo st.slots t)) with | some v => v | none => LV.any) = _
  rw [SO]
  by_cases e : t ∈ ts <;> simp [e]
 rw [this]
 split
 .exact hs t ht
 exact .any _
end Go.E
/- The walk of a function: operations in a short form (GM), rules for the parts of a body, states made weaker (A9). No condition. -/
namespace Go.E
open Go Go.RowKit
structure Ig where
 dst : Option Tmp
 op : Op
 g : Option (Option Tmp × Bool)
def WK (ops : List Oper) (j : Nat) : Option Tmp :=
 match ops[j]? with
 | some o => o.dst
 | none => none
def OV (ops : List Oper) (o : Oper) : Ig :=
 ⟨o.dst, o.op, match o.guard with
  | none => none
  | some (j, w) => some (WK ops j, w)⟩
structure JQ {α : Sort _} (a : α) : Type where
structure BD (α : Type) where
 f : α -> Prop
 h : JQ f
def Ci {α : Type} (o : Option α) (k : BD α) : Prop :=
 match o with
 | some a => k.f a
 | none => False
def TS (x : LV) (k : BD Bool) : Prop :=
 match x with
 | .p (.bool b) => k.f b
 | _ => False
def NN (x : LV) (k : BD (IntKind × Int)) : Prop :=
 match x with
 | .p (.int kk n) => k.f (kk, n)
 | _ => False
def Tq (x : LV) (k : BD DV) : Prop :=
 match x with
 | .p d => k.f d
 | _ => False
def MV (s : Sh) (k : BD Nat) : Prop :=
 match s with
 | .slc e => k.f e
 | _ => False
def PT (s : Sh) (k : BD (List (Nat × Nat))) : Prop :=
 match s with
 | .struct fs => k.f fs
 | _ => False
def Vg (s : Sh) (k : BD (Nat × Nat)) : Prop :=
 match s with
 | .mp a b => k.f (a, b)
 | _ => False
def DL (AE : BG) (t : Nat) (k : BD TI) : Prop := Ci (AE.tt t) k
def YA (x : LV) (k : BD LV) : Prop :=
 match x with
 | .lpb i o => k.f (.lpb i o)
 | .lpe i j o => k.f (.lpe i j o)
 | .p (.place l o) => k.f (.p (.place l o))
 | _ => False
def Mu (op : BinOp) (kk : IntKind) (a b : Int) (k : BD LV) : Prop :=
 match op with
 | .quo | .rem => b ≠ 0 /\ Ci (Kb op kk a b) ⟨fun v => k.f (.p v), ⟨⟩⟩
 | _ => Ci (Kb op kk a b) ⟨fun v => k.f (.p v), ⟨⟩⟩
def XP (neg : Bool) (empty : Prop) (k : BD LV) : Prop := ∀ r, (¬ empty -> r = false) -> k.f (JR neg r)
def Vh (AE : BG) (neg : Bool) (t : Nat) (x y : LV) (k : BD LV) : Prop :=
 match x, y with
 | .p (.str a), .p (.str b) => k.f (JR neg (a.toList == b.toList))
 | .p (.bool a), .p (.bool b) => DL AE t ⟨fun ti => ti.sh = .bool /\ k.f (JR neg (a == b)), ⟨⟩⟩
 | .p (.agg xs), .p (.agg ys) => Ci (AE.eqk t) ⟨fun ks => fits ks xs = true /\ fits ks ys = true /\ k.f (JR neg (Cd xs ys)), ⟨⟩⟩
 | .p (.slice _ l), .p .nils => DL AE t ⟨fun ti => MV ti.sh ⟨fun _ => XP neg (l = []) k, ⟨⟩⟩, ⟨⟩⟩
 | .p .nils, .p .nils => DL AE t ⟨fun ti => MV ti.sh ⟨fun _ => k.f (JR neg true), ⟨⟩⟩, ⟨⟩⟩
 | .lsl _ _ _ len, .p .nils => DL AE t ⟨fun ti => MV ti.sh ⟨fun _ => XP neg (len = 0) k, ⟨⟩⟩, ⟨⟩⟩
 | .p (.place _ _), .p .nilp => AE.ptr t = true /\ k.f (JR neg false)
 | .p .nilp, .p .nilp => AE.ptr t = true /\ k.f (JR neg true)
 | .lpb _ _, .p .nilp => AE.ptr t = true /\ k.f (JR neg false)
 | _, _ => False
def Rk (AE : BG) (op : BinOp) (t : Nat) (x y : LV) (k : BD LV) : Prop :=
 match x, y with
 | .p (.int k1 a), .p (.int k2 b) => k1 = k2 /\ Mu op k1 a b k
 | x, y => match op with
  | .eql => Vh AE false t x y k
  | .neq => Vh AE true t x y k
  | _ => False
def YB (x : LV) (i : Nat) (k : BD LV) : Prop :=
 match x with
 | .tup l => Ci l[i]? k
 | .p (.tup l) => Ci l[i]? ⟨fun v => k.f (.p v), ⟨⟩⟩
 | _ => False
def YC (x : LV) (k : BD (List LV)) : Prop :=
 match x with
 | .agg l => k.f l
 | .p (.agg l) => k.f (l.map .p)
 | _ => False
def WL (off : Nat) (x : LV) (k : BD LV) : Prop :=
 match x with
 | .lpb id o => k.f (.lpb id (o + off))
 | .lpe id j o => k.f (.lpe id j (o + off))
 | .p (.place l o) => k.f (.p (.place l (o + off)))
 | _ => False
def LQ (AE : BG) (place : Nat -> Option (Nat × Nat)) : List LV -> List (Nat × LV) -> BD (List LV) -> Prop
 | cells, [], k => k.f cells
 | cells, (i, v) :: rest, k => Ci (place i) ⟨fun p => DL AE p.2 ⟨fun ti => Ci v.cells ⟨fun ls => (ls.length = ti.size /\ p.1 + ls.length <= cells.length) /\
   LQ AE place (DA cells p.1 ls) rest k, ⟨⟩⟩, ⟨⟩⟩, ⟨⟩⟩
def OW (AE : BG) (sh : Sh) (zero : List LV) (ps : List (Nat × LV)) (k : BD (List LV)) : Prop :=
 match sh with
 | .struct fs => (fs.all fun p => (AE.tt p.2).isSome) = true /\ LQ AE (fun i => fs[i]?) zero ps k
 | .arr _ e => DL AE e ⟨fun te => LQ AE (fun i => some (i * te.size, e)) zero ps k, ⟨⟩⟩
 | _ => False
def Zm (AE : BG) (sh : Sh) (x : LV) (n : Int) (k : BD LV) : Prop :=
 match sh, x with
 | .slc e, .p (.slice sz l) => DL AE e ⟨fun te => te.size = sz /\ 0 <= n /\ Ci l[n.toNat]? ⟨fun c => k.f (.p (.place c 0)), ⟨⟩⟩, ⟨⟩⟩
 | .slc e, .lsl id sz off len => DL AE e ⟨fun te => te.size = sz /\ (0 <= n /\ n < len) /\ k.f (.lpe id (off + n.toNat) 0), ⟨⟩⟩
 | .arr m e, .lpb id o => DL AE e ⟨fun te => (0 <= n /\ n < m) /\ k.f (.lpb id (o + n.toNat * te.size)), ⟨⟩⟩
 | .arr m e, .p (.place l o) => DL AE e ⟨fun te => (0 <= n /\ n < m) /\ k.f (.p (.place l (o + n.toNat * te.size))), ⟨⟩⟩
 | _, _ => False
def Zn (AE : BG) (sh : Sh) (x : LV) (n : Int) (k : BD LV) : Prop :=
 match sh, x with
 | .arr m e, .agg l => DL AE e ⟨fun te => n < m /\ Ci (Dj te (n.toNat * te.size) l) k, ⟨⟩⟩
 | .arr m e, .p (.agg l) => DL AE e ⟨fun te => n < m /\ Ci (Dj te (n.toNat * te.size) (l.map .p)) k, ⟨⟩⟩
 | .str, .p (.str s) => Ci s[n.toNat]? ⟨fun c => k.f (.p (.int .u8 c.toNat)), ⟨⟩⟩
 | _, _ => False
def LR (dflt : Int) (x : Option LV) (k : BD Int) : Prop :=
 match x with
 | none => k.f dflt
 | some (.p (.int _ n)) => k.f n
 | some _ => False
def LS (AE : BG) (t : Nat) (x : LV) (lo hi : Option LV) (k : BD LV) : Prop :=
 match x with
 | .p (.slice sz l) => DL AE t ⟨fun ti => MV ti.sh ⟨fun e => DL AE e ⟨fun te => te.size = sz /\ LR l.length hi ⟨fun h => LR 0 lo ⟨fun lw => (0 <= lw /\ lw <= h /\ h <= l.length) /\ k.f (.p (.slice sz ((l.take h.toNat).drop lw.toNat))), ⟨⟩⟩, ⟨⟩⟩, ⟨⟩⟩, ⟨⟩⟩, ⟨⟩⟩
 | .lsl id sz off len => DL AE t ⟨fun ti => MV ti.sh ⟨fun e => DL AE e ⟨fun te => te.size = sz /\ len ≠ 0 /\ LR len hi ⟨fun h => LR 0 lo ⟨fun lw => (0 <= lw /\ lw <= h /\ h <= len) /\ k.f (.lsl id sz (off + lw.toNat) (h - lw).toNat), ⟨⟩⟩, ⟨⟩⟩, ⟨⟩⟩, ⟨⟩⟩, ⟨⟩⟩
 | .p (.str s) => DL AE t ⟨fun ti => ti.sh = .str /\ LR s.size hi ⟨fun h => LR 0 lo ⟨fun lw => (0 <= lw /\ lw <= h /\ h <= s.size) /\ k.f (.p (.str (s.extract lw.toNat h.toNat))), ⟨⟩⟩, ⟨⟩⟩, ⟨⟩⟩
 | _ => False
def YD (sh : Sh) (x : LV) (k : BD LV) : Prop :=
 match sh, x with
 | .arr n _, _ => k.f (.p (.int .i64 n))
 | .slc _, .p (.slice _ l) => l.length <= maxLen -> k.f (.p (.int .i64 l.length))
 | .slc _, .p .nils => k.f (.p (.int .i64 0))
 | .slc _, .lsl _ _ _ len => k.f (.p (.int .i64 len))
 | .str, .p (.str s) => k.f (.p (.int .i64 s.size))
 | _, _ => False
def WM (o : BK) (k : BD (List LV)) : Prop :=
 match o with
 | .box cells => k.f cells
 | _ => False
def Tr (o : BK) (k : BD (Nat × Nat × List (List DV))) : Prop :=
 match o with
 | .row e sz l => k.f (e, sz, l)
 | _ => False
def Ts (o : BK) (k : BD (List (DV × DV))) : Prop :=
 match o with
 | .map m => k.f m
 | _ => False
def Qe (h : Ag) (ti : TI) (p : LV) (k : BD LV) : Prop :=
 match p with
 | .p (.place l off) => Ci (Dj ti off (l.map .p)) k
 | .lpb id off => Ci (AL id h) ⟨fun o => WM o ⟨fun cells => Ci (Dj ti off cells) k, ⟨⟩⟩, ⟨⟩⟩
 | .lpe id i off => Ci (AL id h) ⟨fun o => Tr o ⟨fun r => Ci r.2.2[i]? ⟨fun x => Ci (Dj ti off (x.map .p)) k, ⟨⟩⟩, ⟨⟩⟩, ⟨⟩⟩
 | _ => False
def Tt (h : Ag) (ti : TI) (p : LV) (ls : List LV) (k : BD Ag) : Prop :=
 match p with
 | .lpb id off => Ci (AL id h) ⟨fun o => WM o ⟨fun cells => off + ls.length <= cells.length /\ k.f (B3 id (.box (DA cells off ls)) h), ⟨⟩⟩, ⟨⟩⟩
 | .lpe id i off => Ci (AL id h) ⟨fun o => Tr o ⟨fun r => Ci r.2.2[i]? ⟨fun x => Ci (Hw ls) ⟨fun ds => off + ls.length <= x.length /\ k.f (B3 id (.row r.1 r.2.1 (r.2.2.set i (DA x off ds))) h), ⟨⟩⟩, ⟨⟩⟩, ⟨⟩⟩, ⟨⟩⟩
 | _ => False
def St.go (st : St) (dst : Option Tmp) (l : LV) (h : Ag) (c : Nat) : St := ({ st with heap := h, ctr := c } : St).put dst l
def Tu (st : St) (dst : Option Tmp) (e : Nat) (te : TI) (s : LV) (new : List (List DV)) (K : BD St) : Prop :=
  match s with
  | .p .nils => (new.length * te.bytes <= 140737488355328 /\ new.length <= maxLen) /\ K.f (st.go dst (.lsl st.ctr te.size 0 new.length) ((st.ctr, .row e te.size new) :: st.heap) (st.ctr + 1))
  | .lsl id sz off len => sz = te.size /\ Ci (AL id st.heap) ⟨fun o => Tr o ⟨fun r => (r.1 = e /\ r.2.1 = te.size /\ off + len <= r.2.2.length /\
        (len + new.length) * te.bytes <= 140737488355328 /\ len + new.length <= maxLen) /\ K.f (st.go dst (.lsl st.ctr te.size 0 (len + new.length)) ((st.ctr, .row e te.size ((r.2.2.drop off).take len ++ new)) :: JO id st.heap) (st.ctr + 1)), ⟨⟩⟩, ⟨⟩⟩
  | _ => False
def Qf (x : LV) (k : BD Nat) : Prop :=
 match x with
 | .lmap id => k.f id
 | _ => False
def N4 (x : LV) (k : BD (FuncId × List LV)) : Prop :=
 match x with
 | .fn f caps => k.f (f, caps)
 | _ => False
def KH (P : Program) (A : BX) (h : Ag) (ctr k : Nat) (args : List LV) (K : BD (LV × Ag × Nat)) : Prop := Ef P A h ctr k args fun l h c => K.f (l, h, c)
def Qg (P : Program) (A : BX) (AE : BG) (st : St) (dst : Option Tmp) (c : Call) (K : BD St) : Prop :=
 match c.callee, c.args.toList, c.argTypes.toList with
 | .value f, args, _ => N4 (st.eval f) ⟨fun g => KH P A st.heap st.ctr g.1 (args.map st.eval ++ g.2) ⟨fun r => K.f (st.go dst r.1 r.2.1 r.2.2), ⟨⟩⟩, ⟨⟩⟩
 | .builtin .append, [s, x], [t, t'] => t' = t /\ DL AE t ⟨fun ti => MV ti.sh ⟨fun e => DL AE e ⟨fun te => 0 < te.size /\ Ci (K2 st.heap (st.eval x)) ⟨fun new =>
   (∀ y ∈ new, y.length = te.size /\ y.all DV.cell = true) /\ Tu st dst e te (st.eval s) new K, ⟨⟩⟩, ⟨⟩⟩, ⟨⟩⟩, ⟨⟩⟩
 | .builtin .len, [x], [t] => DL AE t ⟨fun ti => YD ti.sh (st.eval x) ⟨fun l => K.f (st.put dst l), ⟨⟩⟩, ⟨⟩⟩
 | .builtin .max, args, _ => Ci (B6 (fun x y => if y > x then y else x) (args.map st.eval)) ⟨fun r => K.f (st.put dst (.p (.int r.1 r.2))), ⟨⟩⟩
 | .builtin .min, args, _ => Ci (B6 (fun x y => if y < x then y else x) (args.map st.eval)) ⟨fun r => K.f (st.put dst (.p (.int r.1 r.2))), ⟨⟩⟩
 | _, _, _ => False
def WN : Sh -> Option IntKind
 | .int k => some k
 | _ => none
def Zo (l : LV) (k : BD (List (DV × DV))) : Prop := match l with
 | .p .nilm => k.f []
 | .p (.map m) => k.f m
 | _ => False
def Zp (h : Ag) (l : LV) (k0 : Unit -> Prop) (k : Nat -> List (DV × DV) -> Nat -> DV × DV -> Prop) : Prop := match l with
 | .lpb id 0 => match AL id h with
  | some (.iter _ left) => (left = [] -> k0 ()) /\ ∀ j p, left[j]? = some p -> k id left j p
  | _ => False
 | _ => False
def Zq (h : Ag) (l : LV) (k : Nat -> DV × DV -> List (DV × DV) -> Prop) : Prop := match l with
 | .lpb id 0 => match AL id h with
  | some (.iter (some p) left) => k id p left
  | _ => False
 | _ => False
def BQ (P : Program) (A : BX) (AE : BG) (st : St) (dst : Option Tmp) (op : Op) (K : BD St) : Prop :=
 match op with
 | .move x | .assign x => K.f (st.put dst (st.eval x))
 | .pick c a b => TS (st.eval c) ⟨fun t => K.f (st.put dst (if t then st.eval a else st.eval b)), ⟨⟩⟩
 | .nilCheck x => YA (st.eval x) ⟨fun l => K.f (st.put dst l), ⟨⟩⟩
 | .binOp op t x y _ => Rk AE op t (st.eval x) (st.eval y) ⟨fun l => K.f (st.put dst l), ⟨⟩⟩
 | .unOp .neg _ x => NN (st.eval x) ⟨fun n => K.f (st.put dst (.p (.int n.1 (n.1.wrap (0 - n.2))))), ⟨⟩⟩
 | .unOp .not _ x => TS (st.eval x) ⟨fun b => K.f (st.put dst (.p (.bool !b))), ⟨⟩⟩
 | .convert s d x => NN (st.eval x) ⟨fun n => DL AE s ⟨fun _ => DL AE d ⟨fun ti => Ci (WN ti.sh) ⟨fun kd => K.f (st.put dst (.p (.int kd (kd.wrap n.2)))), ⟨⟩⟩, ⟨⟩⟩, ⟨⟩⟩, ⟨⟩⟩
 | .extract t i => YB (st.eval t) i ⟨fun l => K.f (st.put dst l), ⟨⟩⟩
 | .field t x i => DL AE t ⟨fun ti => PT ti.sh ⟨fun fs => Ci fs[i]? ⟨fun f => DL AE f.2 ⟨fun tf => YC (st.eval x) ⟨fun ls => Ci (Dj tf f.1 ls) ⟨fun l => K.f (st.put dst l), ⟨⟩⟩, ⟨⟩⟩, ⟨⟩⟩, ⟨⟩⟩, ⟨⟩⟩, ⟨⟩⟩
 | .build t ps => DL AE t ⟨fun ti => OW AE ti.sh (ti.zero.map .p) (ps.toList.map fun p => (p.1, st.eval p.2)) ⟨fun cells => K.f (st.put dst (GD cells)), ⟨⟩⟩, ⟨⟩⟩
 | .fieldAddr t x i => DL AE t ⟨fun ti => PT ti.sh ⟨fun fs => Ci fs[i]? ⟨fun f => DL AE f.2 ⟨fun tf => tf.size ≠ 0 /\ WL f.1 (st.eval x) ⟨fun l => K.f (st.put dst l), ⟨⟩⟩, ⟨⟩⟩, ⟨⟩⟩, ⟨⟩⟩, ⟨⟩⟩
 | .indexAddr t x i => NN (st.eval i) ⟨fun n => DL AE t ⟨fun ti => Zm AE ti.sh (st.eval x) n.2 ⟨fun l => K.f (st.put dst l), ⟨⟩⟩, ⟨⟩⟩, ⟨⟩⟩
 | .index t x i => NN (st.eval i) ⟨fun n => DL AE t ⟨fun ti => 0 <= n.2 /\ Zn AE ti.sh (st.eval x) n.2 ⟨fun l => K.f (st.put dst l), ⟨⟩⟩, ⟨⟩⟩, ⟨⟩⟩
 | .makeFunc (.func f) first caps => first.toList = [] /\ K.f (st.put dst (.fn f (caps.toList.map st.eval)))
 | .slice t x lo hi none => LS AE t (st.eval x) (lo.map st.eval) (hi.map st.eval) ⟨fun l => K.f (st.put dst l), ⟨⟩⟩
 | .load t x => DL AE t ⟨fun ti => Qe st.heap ti (st.eval x) ⟨fun l => K.f (st.put dst l), ⟨⟩⟩, ⟨⟩⟩
 | .store t x v => DL AE t ⟨fun ti => Ci (st.eval v).cells ⟨fun ls => (ls.length = ti.size /\ ls.all LV.one = true) /\ Tt st.heap ti (st.eval x) ls ⟨fun h => K.f (st.go dst .any h st.ctr), ⟨⟩⟩, ⟨⟩⟩, ⟨⟩⟩
 | .alloc t => DL AE t ⟨fun ti => K.f (st.go dst (.lpb st.ctr 0) ((st.ctr, .box (ti.zero.map .p)) :: st.heap) (st.ctr + 1)), ⟨⟩⟩
 | .box _ x => Ci (st.eval x).cells ⟨fun ls => K.f (st.go dst (.lpb st.ctr 0) ((st.ctr, .box ls) :: st.heap) (st.ctr + 1)), ⟨⟩⟩
 | .buildSlice t n ps => DL AE t ⟨fun ti => MV ti.sh ⟨fun e => DL AE e ⟨fun te => (0 < te.size /\ n * te.size <= 16777216) /\ Ci (Hr te.size 0 (ps.toList.map fun p => (p.1, st.eval p.2))) ⟨fun l =>
   l.length = n /\ (K.f (st.go dst (.lsl st.ctr te.size 0 n) ((st.ctr, .row e te.size l) :: st.heap) (st.ctr + 1)) \/ K.f (st.put dst (.p (.slice te.size l)))), ⟨⟩⟩, ⟨⟩⟩, ⟨⟩⟩, ⟨⟩⟩
 | .makeSlice t l c => DL AE t ⟨fun ti => MV ti.sh ⟨fun e => DL AE e ⟨fun te => NN (st.eval l) ⟨fun n => NN (st.eval c) ⟨fun n' => (n'.2 = n.2 /\ 0 <= n.2 /\ te.bytes * n.2.toNat <= 281474976710656 /\ n.2.toNat <= maxLen) /\
   (K.f (st.go dst (.lsl st.ctr te.size 0 n.2.toNat) ((st.ctr, .row e te.size (List.replicate n.2.toNat te.zero)) :: st.heap) (st.ctr + 1)) \/ K.f (st.put dst (.p (.slice te.size (List.replicate n.2.toNat te.zero))))), ⟨⟩⟩, ⟨⟩⟩, ⟨⟩⟩, ⟨⟩⟩, ⟨⟩⟩
 | .makeMap _ none => K.f (st.go dst (.lmap st.ctr) ((st.ctr, .map []) :: st.heap) (st.ctr + 1))
 | .lookup t x i ok => DL AE t ⟨fun ti => Vg ti.sh ⟨fun m => DL AE m.2 ⟨fun te => Ci (K3 st.heap (st.eval x)) ⟨fun l => Tq (st.eval i) ⟨fun kd => (CA AE m.1 kd = true /\ (l.all fun p => CA AE m.1 p.1) = true) /\
   K.f (st.put dst (if ok then .tup [.p ((GN kd l).getD te.zeroDV), .p (.bool (GN kd l).isSome)] else .p ((GN kd l).getD te.zeroDV))), ⟨⟩⟩, ⟨⟩⟩, ⟨⟩⟩, ⟨⟩⟩, ⟨⟩⟩
 | .mapUpdate t x i v => DL AE t ⟨fun ti => Vg ti.sh ⟨fun m => Qf (st.eval x) ⟨fun id => Ci (AL id st.heap) ⟨fun o => Ts o ⟨fun l => Tq (st.eval i) ⟨fun kd => Tq (st.eval v) ⟨fun vd =>
   (CA AE m.1 kd = true /\ (l.all fun p => CA AE m.1 p.1) = true) /\ K.f (st.go dst .any (B3 id (.map (MU kd vd l)) st.heap) st.ctr), ⟨⟩⟩, ⟨⟩⟩, ⟨⟩⟩, ⟨⟩⟩, ⟨⟩⟩, ⟨⟩⟩, ⟨⟩⟩
 | .mapEntry t x i => DL AE t ⟨fun ti => Vg ti.sh ⟨fun m => DL AE m.2 ⟨fun te => Qf (st.eval x) ⟨fun id => Ci (AL id st.heap) ⟨fun o => Ts o ⟨fun l => Tq (st.eval i) ⟨fun kd =>
   (CA AE m.1 kd = true /\ (l.all fun p => CA AE m.1 p.1) = true) /\
   K.f (st.go dst (.tup [.p ((GN kd l).getD te.zeroDV), .p (.int .i64 (((Dw kd l).map (·.1)).getD l.length))]) (match Dw kd l with
    | some _ => st.heap
    | none => B3 id (.map (l ++ [(kd, te.zeroDV)])) st.heap) st.ctr), ⟨⟩⟩, ⟨⟩⟩, ⟨⟩⟩, ⟨⟩⟩, ⟨⟩⟩, ⟨⟩⟩, ⟨⟩⟩
 | .entryStore _ x s v => Qf (st.eval x) ⟨fun id => Ci (AL id st.heap) ⟨fun o => Ts o ⟨fun m => NN (st.eval s) ⟨fun n => Tq (st.eval v) ⟨fun vd => 0 <= n.2 /\ Ci m[n.2.toNat]? ⟨fun p =>
   K.f (st.go dst .any (B3 id (.map (m.set n.2.toNat (p.1, vd))) st.heap) st.ctr), ⟨⟩⟩, ⟨⟩⟩, ⟨⟩⟩, ⟨⟩⟩, ⟨⟩⟩, ⟨⟩⟩
 | .range t x => DL AE t ⟨fun ti => Vg ti.sh ⟨fun _ => Zo (st.eval x) ⟨fun m => K.f (st.go dst (.lpb st.ctr 0) ((st.ctr, .iter none m) :: st.heap) (st.ctr + 1)), ⟨⟩⟩, ⟨⟩⟩, ⟨⟩⟩
 | .next x false => Zp st.heap (st.eval x) (fun _ => K.f (st.go dst (.tup [.p (.bool false)]) st.heap st.ctr)) fun id left j p => ∃ cur', (cur' = none \/ cur' = some p) /\ K.f (st.go dst (.tup [.p (.bool true), .p p.1, .p p.2]) (B3 id (.iter cur' (left.eraseIdx j)) st.heap) st.ctr)
 | .entry x => Zq st.heap (st.eval x) fun id p left => K.f (st.go dst (.tup [.p p.1, .p p.2]) (B3 id (.iter none left) st.heap) st.ctr)
 | .call c => Qg P A AE st dst c K
 | _ => False
def gW (b want : Bool) (X Y : BD Unit) : Prop := (b = want -> X.f ()) /\ (b = !want -> Y.f ())
def gM (v : LV) (want : Bool) (X Y : BD Unit) : Prop :=
 match v with
 | .p (.bool b) => gW b want X Y
 | .und => Y.f ()
 | _ => False
def HF (st : St) (d : Option Tmp) : LV :=
 match d with
 | some t => st.eval (.tmp t)
 | none => .any
structure Zr (K : BD St) (st : St) : Prop where
 h : K.f st
def GM (P : Program) (A : BX) (AE : BG) (K : BD St) : List Ig -> St -> Prop
 | [], st => Zr K st
 | ⟨dst, op, none⟩ :: rest, st => BQ P A AE st dst op ⟨GM P A AE K rest, ⟨⟩⟩
 | ⟨dst, op, some (d, want)⟩ :: rest, st => gM (HF st d) want ⟨fun _ => BQ P A AE st dst op ⟨GM P A AE K rest, ⟨⟩⟩, ⟨⟩⟩ ⟨fun _ => GM P A AE K rest (st.put dst .und), ⟨⟩⟩
section
variable {P : Program} {A : BX} {AE : BG}
theorem Ac {α : Type} {o : Option α} {k : BD α} : Ci o k ↔ ∃ a, o = some a /\ k.f a := by cases o <;> simp [Ci]
theorem Ae {t : Nat} {k : BD TI} : DL AE t k ↔ ∃ a, AE.tt t = some a /\ k.f a := Ac
theorem L7 {x : LV} {k : BD Bool} : TS x k ↔ ∃ b, x = .p (.bool b) /\ k.f b := by
 unfold TS; split <;> simp_all
theorem Ce {x : LV} {k : BD (IntKind × Int)} : NN x k ↔ ∃ kk n, x = .p (.int kk n) /\ k.f (kk, n) := by
 unfold NN; split
 .exact ⟨fun h => ⟨_, _, rfl, h⟩, fun ⟨_, _, e, h⟩ => by cases e; exact h⟩
 simp_all
theorem Do {x : LV} {k : BD DV} : Tq x k ↔ ∃ d, x = .p d /\ k.f d := by
 unfold Tq; split <;> simp_all
theorem Cl {x : Sh} {k : BD Nat} : MV x k ↔ ∃ e, x = .slc e /\ k.f e := by
 unfold MV; split <;> simp_all
theorem F5 {x : Sh} {k : BD (List (Nat × Nat))} : PT x k ↔ ∃ e, x = .struct e /\ k.f e := by
 unfold PT; split <;> simp_all
theorem GO {x : Sh} {k : BD (Nat × Nat)} : Vg x k ↔ ∃ a b, x = .mp a b /\ k.f (a, b) := by
 unfold Vg; split
 .exact ⟨fun h => ⟨_, _, rfl, h⟩, fun ⟨_, _, e, h⟩ => by cases e; exact h⟩
 simp_all
theorem Fo {x : LV} {k : BD Nat} : Qf x k ↔ ∃ id, x = .lmap id /\ k.f id := by
 unfold Qf; split <;> simp_all
theorem Vi {x : LV} {k : BD (FuncId × List LV)} : N4 x k ↔ ∃ f c, x = .fn f c /\ k.f (f, c) := by
 unfold N4; split
 .exact ⟨fun h => ⟨_, _, rfl, h⟩, fun ⟨_, _, e, h⟩ => by cases e; exact h⟩
 simp_all
theorem Gq {x : BK} {k : BD (List (DV × DV))} : Ts x k ↔ ∃ m, x = .map m /\ k.f m := by
 unfold Ts; split <;> simp_all
theorem I7 {x : BK} {k : BD (List LV)} : WM x k ↔ ∃ m, x = .box m /\ k.f m := by
 unfold WM; split <;> simp_all
theorem Gr {x : BK} {k : BD (Nat × Nat × List (List DV))} : Tr x k ↔ ∃ a b c, x = .row a b c /\ k.f (a, b, c) := by
 unfold Tr; split
 .exact ⟨fun h => ⟨_, _, _, rfl, h⟩, fun ⟨_, _, _, e, h⟩ => by cases e; exact h⟩
 simp_all
theorem J3 {d : Int} {x : Option LV} {k : BD Int} {k' : Int -> Prop} (hk : ∀ n, k.f n -> k' n) (h : LR d x k) : HG d x k' := by
 unfold LR at h; unfold HG
 split at h <;> first | exact hk _ h | exact h.elim
theorem Vj {neg : Bool} {t : Nat} {x y : LV} {k : BD LV} (h : Vh AE neg t x y k) : SP AE neg t x y k.f := by
 unfold Vh at h
 unfold SP
 split at h
 .exact h
 .obtain ⟨ti, h1, h2, h3⟩ := Ae.1 h; exact ⟨⟨ti, h1, h2⟩, h3⟩
 .obtain ⟨ks, h1, h2⟩ := Ac.1 h; exact ⟨ks, h1, h2⟩
 .obtain ⟨ti, h1, h2⟩ := Ae.1 h
  obtain ⟨e, h3, h4⟩ := Cl.1 h2
  exact ⟨⟨ti, e, h1, h3⟩, h4⟩
 .obtain ⟨ti, h1, h2⟩ := Ae.1 h
  obtain ⟨e, h3, h4⟩ := Cl.1 h2
  exact ⟨⟨ti, e, h1, h3⟩, h4⟩
 .obtain ⟨ti, h1, h2⟩ := Ae.1 h
  obtain ⟨e, h3, h4⟩ := Cl.1 h2
  exact ⟨⟨ti, e, h1, h3⟩, h4⟩
 .exact h
 .exact h
 .exact h
 exact h.elim
theorem Pq {op : BinOp} {kk : IntKind} {a b : Int} {k : BD LV} (h : Mu op kk a b k) : ∃ v, Kb op kk a b = some v /\ k.f (.p v) := by
 unfold Mu at h
 split at h
 .exact Ac.1 h.2
 .exact Ac.1 h.2
 exact Ac.1 h
theorem YE {op : BinOp} {t : Nat} {x y : LV} {k : BD LV} (h : Rk AE op t x y k) : Rl AE op t x y k.f := by
 unfold Rk at h
 unfold Rl
 split at h
 .exact ⟨h.1, Pq h.2⟩
 rename_i hne
 split
 .exact absurd rfl (hne _ _ _ _ rfl)
 split at h
 .exact Vj h
 .exact Vj h
 exact h.elim
theorem NO {place : Nat -> Option (Nat × Nat)} {k : BD (List LV)} : ∀ {ps : List (Nat × LV)} {cells : List LV}, LQ AE place cells ps k -> JS AE place cells ps k.f
 | [], _, h => h
 | (i, v) :: rest, cells, h => by
  obtain ⟨p, h1, h⟩ := Ac.1 h
  obtain ⟨ti, h2, h⟩ := Ae.1 h
  obtain ⟨ls, h3, ⟨h4, h5⟩, h⟩ := Ac.1 h
  exact ⟨p.1, p.2, ti, ls, h1, h2, h3, h4, h5, NO h⟩
theorem XQ {h : Ag} {ti : TI} {p : LV} {k : BD LV} (hl : Qe h ti p k) : Hj h ti p k.f := by
 unfold Qe at hl
 unfold Hj
 split at hl
 .exact Ac.1 hl
 .obtain ⟨o, h1, hl⟩ := Ac.1 hl
  obtain ⟨cells, rfl, hl⟩ := I7.1 hl
  obtain ⟨r, h2, h3⟩ := Ac.1 hl
  exact ⟨cells, r, h1, h2, h3⟩
 .obtain ⟨o, h1, hl⟩ := Ac.1 hl
  obtain ⟨e, sz, elems, rfl, hl⟩ := Gr.1 hl
  obtain ⟨x, h2, hl⟩ := Ac.1 hl
  obtain ⟨r, h3, h4⟩ := Ac.1 hl
  exact ⟨e, sz, elems, x, r, h1, h2, h3, h4⟩
 exact hl.elim
theorem YF {a b c d : Prop} (h : (a /\ b /\ c) /\ d) : a /\ b /\ c /\ d := ⟨h.1.1, h.1.2.1, h.1.2.2, h.2⟩
theorem WO {t : Nat} {x : LV} {lo hi : Option LV} {k : BD LV} (h : LS AE t x lo hi k) : LU AE t x lo hi k.f := by
 unfold LS at h
 unfold LU
 split at h
 .obtain ⟨ti, h1, h⟩ := Ae.1 h
  obtain ⟨e, h2, h⟩ := Cl.1 h
  obtain ⟨te, h3, h4, h⟩ := Ae.1 h
  exact ⟨⟨ti, e, h1, h2, te, h3, h4⟩, J3 (fun n hn => J3 (fun m hm => YF hm) hn) h⟩
 .obtain ⟨ti, h1, h⟩ := Ae.1 h
  obtain ⟨e, h2, h⟩ := Cl.1 h
  obtain ⟨te, h3, h4, h5, h⟩ := Ae.1 h
  exact ⟨⟨ti, e, h1, h2, te, h3, h4⟩, h5, J3 (fun n hn => J3 (fun m hm => YF hm) hn) h⟩
 .obtain ⟨ti, h1, h2, h⟩ := Ae.1 h
  exact ⟨⟨ti, h1, h2⟩, J3 (fun n hn => J3 (fun m hm => YF hm) hn) h⟩
 exact h.elim
end
end Go.E
/- The walk of a function: the short form holds what the long one says (Rm); rules for the parts of a body, states made weaker (A9). No condition. -/
namespace Go.E
open Go Go.RowKit
section
variable {P : Program} {A : BX} {AE : BG} {K : St -> Prop}
theorem Rm {st : St} {o : Oper} {K : BD St} (h : BQ P A AE st o.dst o.op K) : Yy P A AE st o K.f := by
 obtain ⟨dst, op, type, pos, after, guard⟩ := o
 simp only at h
 cases op <;> simp only [BQ] at h <;> simp only [Yy]
 case move x => exact h
 case assign x => exact h
 case pick c a b => obtain ⟨t, h1, h2⟩ := L7.1 h; exact ⟨t, h1, h2⟩
 case nilCheck x =>
  try dsimp only at h
  unfold YA at h
  simp only [nW]
  split at h <;> first | (rename_i e; simp only [e]; exact ⟨trivial, h⟩) | exact h.elim
 case binOp op t x y z => exact YE h
 case unOp op t x =>
  cases op <;> simp only [BQ] at h
  case neg => obtain ⟨kk, n, h1, h2⟩ := Ce.1 h; simp only [nW, Vk, h1]; exact h2
  case not => obtain ⟨b, h1, h2⟩ := L7.1 h; simp only [nW, Vk, h1]; exact h2
 case convert s d x =>
  obtain ⟨kk, n, h1, h⟩ := Ce.1 h
  obtain ⟨tj, h2, h⟩ := Ae.1 h
  obtain ⟨ti, h3, h⟩ := Ae.1 h
  obtain ⟨kd, h4, h⟩ := Ac.1 h
  refine ⟨kk, n, ti, tj, h1, h2, h3, kd, ?_, h⟩
  generalize ti.sh = q at h4
  cases q <;> simp [WN] at h4
  rw [h4]
 case extract t i =>
  try dsimp only at h
  unfold YB at h
  simp only [nW]
  split at h
  .rename_i l hl; simp only [hl]; exact Ac.1 h
  .rename_i l hl; simp only [hl]; exact Ac.1 h
  exact h.elim
 case field t x i =>
  obtain ⟨ti, h1, h⟩ := Ae.1 h
  obtain ⟨fs, h2, h⟩ := F5.1 h
  obtain ⟨f, h3, h⟩ := Ac.1 h
  obtain ⟨tf, h4, h⟩ := Ae.1 h
  try dsimp only at h
  unfold YC at h
  split at h
  .rename_i l hl
   obtain ⟨v, h5, h6⟩ := Ac.1 h
   exact ⟨ti, fs, f.1, f.2, tf, l, v, h1, h2, h3, h4, by rw [hl]; rfl, by rw [hl]; trivial, h5, h6⟩
  .rename_i l hl
   obtain ⟨v, h5, h6⟩ := Ac.1 h
   exact ⟨ti, fs, f.1, f.2, tf, l.map .p, v, h1, h2, h3, h4, by rw [hl]; rfl, by rw [hl]; trivial, h5, h6⟩
  exact h.elim
 case build t ps =>
  obtain ⟨ti, h1, h⟩ := Ae.1 h
  refine ⟨ti, h1, ?_⟩
  try dsimp only at h
  unfold OW at h
  split at h
  .rename_i fs hsh; simp only [hsh]; exact ⟨h.1, NO h.2⟩
  .rename_i n e hsh
   obtain ⟨te, h2, h⟩ := Ae.1 h
   simp only [hsh]
   exact ⟨te, h2, NO h⟩
  exact h.elim
 case fieldAddr t x i =>
  obtain ⟨ti, h1, h⟩ := Ae.1 h
  obtain ⟨fs, h2, h⟩ := F5.1 h
  obtain ⟨f, h3, h⟩ := Ac.1 h
  obtain ⟨tf, h4, h5, h⟩ := Ae.1 h
  refine ⟨ti, fs, f.1, f.2, tf, h1, h2, h3, h4, h5, ?_⟩
  try dsimp only at h
  unfold WL at h
  split at h <;> first | (rename_i e; simp only [e]; exact h) | exact h.elim
 case indexAddr t x i =>
  obtain ⟨kk, n, h1, h⟩ := Ce.1 h
  obtain ⟨ti, h2, h⟩ := Ae.1 h
  refine ⟨kk, n, ti, h1, h2, ?_⟩
  try dsimp only at h
  unfold Zm at h
  split at h
  .rename_i e1 e2
   obtain ⟨te, g1, g2, g3, h⟩ := Ae.1 h
   simp only [e1, e2]
   exact ⟨⟨te, g1, g2⟩, g3, Ac.1 h⟩
  .rename_i e1 e2
   obtain ⟨te, g1, g2, ⟨g3, g4⟩, h⟩ := Ae.1 h
   simp only [e1, e2]
   exact ⟨⟨te, g1, g2⟩, g3, g4, h⟩
  .rename_i e1 e2
   obtain ⟨te, g1, ⟨g2, g3⟩, h⟩ := Ae.1 h
   simp only [e1, e2]
   exact ⟨te, g1, g2, g3, h⟩
  .rename_i e1 e2
   obtain ⟨te, g1, ⟨g2, g3⟩, h⟩ := Ae.1 h
   simp only [e1, e2]
   exact ⟨te, g1, g2, g3, h⟩
  exact h.elim
 case index t x i =>
  obtain ⟨kk, n, h1, h⟩ := Ce.1 h
  obtain ⟨ti, h2, h0, h⟩ := Ae.1 h
  refine ⟨kk, n, ti, h1, h2, h0, ?_⟩
  try dsimp only at h
  unfold Zn at h
  split at h
  .rename_i e1 e2
   obtain ⟨te, g1, g2, h⟩ := Ae.1 h
   obtain ⟨v, g3, g4⟩ := Ac.1 h
   simp only [e1, e2]
   exact ⟨te, v, g1, g2, g3, g4⟩
  .rename_i e1 e2
   obtain ⟨te, g1, g2, h⟩ := Ae.1 h
   obtain ⟨v, g3, g4⟩ := Ac.1 h
   simp only [e1, e2]
   exact ⟨te, v, g1, g2, g3, g4⟩
  .rename_i e1 e2
   simp only [e1, e2]
   exact Ac.1 h
  exact h.elim
 case makeFunc fn first caps =>
  cases fn <;> simp only [BQ] at h
  rename_i f
  exact ⟨by simpa using h.1, f, rfl, h.2⟩
 case slice t x lo hi mx =>
  cases mx with
  | some m => exact h.elim
  | none => exact ⟨rfl, WO h⟩
 case load t x => obtain ⟨ti, h1, h2⟩ := Ae.1 h; exact ⟨ti, h1, XQ h2⟩
 case store t x v =>
  obtain ⟨ti, h1, h⟩ := Ae.1 h
  obtain ⟨ls, h2, ⟨h3, h4⟩, h⟩ := Ac.1 h
  refine ⟨ti, h1, ls, h2, h3, h4, ?_⟩
  try dsimp only at h
  unfold Tt at h
  split at h
  .rename_i id off e
   obtain ⟨o, g1, h⟩ := Ac.1 h
   obtain ⟨cells, rfl, g2, h⟩ := I7.1 h
   try simp only [e]
   exact ⟨cells, g1, g2, h⟩
  .rename_i id i off e
   obtain ⟨o, g1, h⟩ := Ac.1 h
   obtain ⟨e', sz, elems, rfl, h⟩ := Gr.1 h
   obtain ⟨x, g2, h⟩ := Ac.1 h
   obtain ⟨ds, g3, g4, h⟩ := Ac.1 h
   try simp only [e]
   exact ⟨e', sz, elems, x, ds, g1, g2, g4, g3, h⟩
  exact h.elim
 case alloc t => obtain ⟨ti, h1, h2⟩ := Ae.1 h; exact ⟨ti, h1, h2⟩
 case box t x => obtain ⟨ls, h1, h2⟩ := Ac.1 h; exact ⟨ls, h1, h2⟩
 case buildSlice t n ps =>
  obtain ⟨ti, h1, h⟩ := Ae.1 h
  obtain ⟨e, h2, h⟩ := Cl.1 h
  obtain ⟨te, h3, ⟨h4, h5⟩, h⟩ := Ae.1 h
  obtain ⟨l, h6, h7, h⟩ := Ac.1 h
  exact ⟨ti, e, te, l, h1, h2, h3, h4, h5, h6, h7, h⟩
 case makeSlice t l c =>
  obtain ⟨ti, h1, h⟩ := Ae.1 h
  obtain ⟨e, h2, h⟩ := Cl.1 h
  obtain ⟨te, h3, h⟩ := Ae.1 h
  obtain ⟨k1, n, h4, h⟩ := Ce.1 h
  obtain ⟨k2, n', h5, ⟨h9, h6, h7, h8⟩, h⟩ := Ce.1 h
  simp only at h9
  subst h9
  exact ⟨ti, e, te, n', k1, k2, h1, h2, h3, h4, h5, h6, h7, h8, h⟩
 case makeMap t r =>
  cases r with
  | some r => exact h.elim
  | none => exact ⟨rfl, h⟩
 case lookup t x i ok =>
  obtain ⟨ti, h1, h⟩ := Ae.1 h
  obtain ⟨kt, et, h2, h⟩ := GO.1 h
  obtain ⟨te, h3, h⟩ := Ae.1 h
  obtain ⟨m, h4, h⟩ := Ac.1 h
  obtain ⟨kd, h5, ⟨h6, h7⟩, h⟩ := Do.1 h
  exact ⟨ti, kt, et, te, m, kd, h1, h2, h3, h4, h5, h6, h7, h⟩
 case mapUpdate t x i v =>
  obtain ⟨ti, h1, h⟩ := Ae.1 h
  obtain ⟨kt, et, h2, h⟩ := GO.1 h
  obtain ⟨id, h3, h⟩ := Fo.1 h
  obtain ⟨o, h4, h⟩ := Ac.1 h
  obtain ⟨m, rfl, h⟩ := Gq.1 h
  obtain ⟨kd, h5, h⟩ := Do.1 h
  obtain ⟨vd, h6, ⟨h7, h8⟩, h⟩ := Do.1 h
  exact ⟨ti, kt, et, id, m, kd, vd, h1, h2, h3, h4, h5, h6, h7, h8, h⟩
 case mapEntry t x i =>
  obtain ⟨ti, h1, h⟩ := Ae.1 h
  obtain ⟨kt, et, h2, h⟩ := GO.1 h
  obtain ⟨te, h3, h⟩ := Ae.1 h
  obtain ⟨id, h4, h⟩ := Fo.1 h
  obtain ⟨o, h5, h⟩ := Ac.1 h
  obtain ⟨m, rfl, h⟩ := Gq.1 h
  obtain ⟨kd, h6, ⟨h7, h8⟩, h⟩ := Do.1 h
  exact ⟨ti, kt, et, te, id, m, kd, h1, h2, h3, h4, h5, h6, h7, h8, h⟩
 case entryStore t x s v =>
  obtain ⟨id, h1, h⟩ := Fo.1 h
  obtain ⟨o, h2, h⟩ := Ac.1 h
  obtain ⟨m, rfl, h⟩ := Gq.1 h
  obtain ⟨kk, n, h3, h⟩ := Ce.1 h
  obtain ⟨vd, h4, h0, h⟩ := Do.1 h
  obtain ⟨p, h5, h⟩ := Ac.1 h
  exact ⟨id, m, kk, n, vd, p, h1, h2, h3, h0, h5, h4, h⟩
 case range t x =>
  obtain ⟨ti, h1, h⟩ := Ae.1 h
  obtain ⟨kt, et, h2, h⟩ := GO.1 h
  try dsimp only at h
  unfold Zo at h
  split at h
  .rename_i e; exact ⟨ti, kt, et, [], h1, h2, .inl ⟨e, rfl⟩, h⟩
  .rename_i m e; exact ⟨ti, kt, et, m, h1, h2, .inr e, h⟩
  exact h.elim
 case next x s =>
  cases s with
  | true => exact h.elim
  | false =>
   simp only [BQ] at h
   unfold Zp at h
   split at h
   .rename_i id e
    split at h
    .rename_i cur left hl
     exact ⟨rfl, id, cur, left, e, hl, h.1, h.2⟩
    exact h.elim
   exact h.elim
 case entry x =>
  unfold Zq at h
  split at h
  .rename_i id e
   split at h
   .rename_i p left hl
    exact ⟨id, p, left, e, hl, h⟩
   exact h.elim
  exact h.elim
 case call c =>
  obtain ⟨callee, args, ats⟩ := c
  try dsimp only at h
  unfold Qg at h
  simp only at h
  split at h
  .rename_i f
   obtain ⟨k, caps, g1, g2⟩ := Vi.1 h
   simp only [g1]
   exact g2
  .rename_i s x t t' e2 e3
   obtain ⟨rfl, h⟩ := h
   obtain ⟨ti, h1, h⟩ := Ae.1 h
   obtain ⟨e, h2, h⟩ := Cl.1 h
   obtain ⟨te, h3, h4, h⟩ := Ae.1 h
   obtain ⟨new, h5, h6, h⟩ := Ac.1 h
   have ha : args = #[s, x] := by rw [<- Array.toList_inj, e2]
   have hb : ats = #[t', t'] := by rw [<- Array.toList_inj, e3]
   simp only [mW]
   refine ⟨trivial, s, x, t', ha, hb, ti, e, te, h1, h2, h3, h4, new, h5, h6, ?_⟩
   try dsimp only at h
   unfold Tu at h
   split at h
   .rename_i e; simp only [e]; exact ⟨h.1.1, h.1.2, h.2⟩
   .rename_i id sz off len e
    obtain ⟨hsz, h⟩ := h
    obtain ⟨o, g1, h⟩ := Ac.1 h
    obtain ⟨e', sz', elems, rfl, ⟨k1, k2, g2, g3, g4⟩, h9⟩ := Gr.1 h
    subst k1; subst k2
    try simp only [e]
    exact ⟨elems, hsz, g1, g2, g3, g4, h9⟩
   exact h.elim
  .rename_i x t e2 e3
   obtain ⟨ti, h1, h⟩ := Ae.1 h
   have ha : args = #[x] := by rw [<- Array.toList_inj, e2]
   have hb : ats = #[t] := by rw [<- Array.toList_inj, e3]
   simp only [nW]
   refine ⟨x, t, ti, ha, hb, h1, ?_⟩
   try dsimp only at h
   unfold YD at h
   split at h
   .rename_i g; simp only [g]; exact h
   .rename_i g1 g2; simp only [g1, g2, LW]; exact h
   .rename_i g1 g2; simp only [g1, g2, LW]; exact h
   .rename_i g1 g2; simp only [g1, g2, LW]; exact h
   .rename_i g1 g2; simp only [g1, g2, LW]; exact h
   exact h.elim
  .obtain ⟨r, h1, h⟩ := Ac.1 h
   simp only [nW]
   exact ⟨r, h1, h⟩
  .obtain ⟨r, h1, h⟩ := Ac.1 h
   simp only [nW]
   exact ⟨r, h1, h⟩
  exact h.elim
 all_goals exact h.elim
theorem SQ (st : St) (ops : List Oper) (j : Nat) : HF st (WK ops j) = Dz st ops.toArray j := by
 unfold HF Dz WK
 simp only [List.getElem?_toArray]
 cases ops[j]? with
 | none => rfl
 | some o => cases hd : o.dst <;> simp [hd]
theorem L8 (hE : BN P AE) {ops : List Oper} {K : BD St} {Q : Exit -> Act -> World -> Prop} (hQ : ∀ st a w, K.f st -> R A st a w -> Q .normal a w) :
  ∀ (l : List Oper) (st : St) (a : Act) (w : World), GM P A AE K (l.map (OV ops)) st -> R A st a w -> wpList P ops.toArray Q l a w
 | [], st, a, w, h, hR => hQ st a w h.h hR
 | o :: rest, st, a, w, h, hR => by
  have run : BQ P A AE st o.dst o.op ⟨GM P A AE K (rest.map (OV ops)), ⟨⟩⟩ -> o.wp P a w (wpList P ops.toArray Q rest) Q := fun h =>
   SM hE (Rm h) hR fun st' a' w' hk hR' => L8 hE hQ rest st' a' w' hk hR'
  have skip : GM P A AE K (rest.map (OV ops)) (st.put o.dst .und) -> wpList P ops.toArray Q rest (a.put o.dst undef) w := fun h => by
   obtain ⟨μ, hh, hs⟩ := hR.ex
   exact L8 hE hQ rest _ _ _ h (hR.put hs hh .und)
  unfold wpList
  simp only [List.map_cons, OV] at h
  cases hg : o.guard with
  | none =>
   rw [hg] at h
   rw [if_pos (by simp [Region.wanted, hg])]
   exact .inl (run h)
  | some g =>
   obtain ⟨j, want⟩ := g
   rw [hg] at h
   simp only [GM, SQ] at h
   obtain ⟨μ, hh, hs⟩ := hR.ex
   obtain ⟨g1, g2⟩ := OK (ops := ops.toArray) (j := j) (fun x => Ht hs x)
   unfold gM at h
   split at h
   .rename_i b hb
    have hy := g1 b hb
    by_cases e : b = want
    .rw [if_pos (by simp [Region.wanted, hg, hy, e])]
     exact .inl (run (h.1 e))
    rw [if_neg (by simp [Region.wanted, hg, hy, e])]
    exact skip (h.2 (by cases b <;> cases want <;> simp_all))
   .rename_i hb
    have hy := g2 hb
    rw [if_neg (by simp [Region.wanted, hg, hy])]
    exact skip h
   exact h.elim
theorem ZG (hE : BN P AE) {id : Nat} {ops : List Oper} {ms : List Ig} {y : Code} {Q : Exit -> St -> Prop} {st : St} (hm : ops.map (OV ops) = ms) (h : GM P A AE ⟨fun st' => CM P A y Q st', ⟨⟩⟩ ms st) :
  CM P A (.seq (.region id ops.toArray false) y) Q st :=
 AB fun a w hR => wp_region_lit (L8 hE (fun st' _ _ hk hR' => ⟨st', hR', hk⟩) ops st a w (by rw [hm]; exact h) hR)
theorem YG (hE : BN P AE) {id : Nat} {ops : List Oper} {ms : List Ig} {Q : Exit -> St -> Prop} {st : St} (hm : ops.map (OV ops) = ms) (h : GM P A AE ⟨fun st' => Q .normal st', ⟨⟩⟩ ms st) :
  CM P A (.region id ops.toArray false) Q st :=
 fun a w hR => wp_region_lit (L8 hE (fun st' _ _ hk hR' => ⟨st', hR', hk⟩) ops st a w (by rw [hm]; exact h) hR)
def A9 (A : BX) (st st' : St) : Prop := ∀ a w, R A st a w -> R A st' a w
theorem A9.refl (st : St) : A9 A st st := fun _ _ h => h
theorem A9.trans {a b c : St} (h : A9 A a b) (h' : A9 A b c) : A9 A a c := fun x w hR => h' x w (h x w hR)
theorem J4 {c : Code} {Q : Exit -> St -> Prop} {st st' : St} (hw : A9 A st st') (h : CM P A c Q st') : CM P A c Q st := fun a w hR => h a w (hw a w hR)
def F6 (gl : List (Nat × Nat)) : LV -> LV
 | .lsl id sz off len => .lsl ((AL id gl).getD 0) sz off len
 | .lpb id off => .lpb ((AL id gl).getD 0) off
 | .lpe id i off => .lpe ((AL id gl).getD 0) i off
 | .lmap id => .lmap ((AL id gl).getD 0)
 | .agg l => .agg (renLs gl l)
 | .tup l => .tup (renLs gl l)
 | .fn f l => .fn f (renLs gl l)
 | l => l
where renLs (gl : List (Nat × Nat)) : List LV -> List LV
 | [] => []
 | x :: l => F6 gl x :: renLs gl l
def ES (gl : List (Nat × Nat)) : LV -> Bool
 | .lsl id _ _ _ | .lpb id _ | .lpe id _ _ | .lmap id => (AL id gl).isSome
 | .agg l | .tup l | .fn _ l => namesLs gl l
 | _ => true
where namesLs (gl : List (Nat × Nat)) : List LV -> Bool
 | [] => true
 | x :: l => ES gl x && namesLs gl l
theorem Kc {gl : List (Nat × Nat)} : ∀ {ls : List LV} {i : Nat}, (F6.renLs gl ls)[i]? = (ls[i]?).map (F6 gl)
 | [], i => by simp [F6.renLs]
 | x :: l, 0 => by simp [F6.renLs]
 | x :: l, i + 1 => by simpa [F6.renLs] using Kc (ls := l)
theorem Kd {gl : List (Nat × Nat)} : ∀ {ls : List LV}, (F6.renLs gl ls).length = ls.length
 | [] => rfl
 | x :: l => by simp [F6.renLs, Kd (ls := l)]
theorem Ih {gl : List (Nat × Nat)} : ∀ {ls : List LV} {i : Nat} {x : LV}, ES.namesLs gl ls = true -> ls[i]? = some x -> ES gl x = true
 | [], i, x, _, h => by simp at h
 | y :: l, 0, x, hn, h => by simp at h; subst h; simp only [ES.namesLs, Bool.and_eq_true] at hn; exact hn.1
 | y :: l, i + 1, x, hn, h => by simp only [ES.namesLs, Bool.and_eq_true] at hn; exact Ih hn.2 (by simpa using h)
def Gs (gl : List (Nat × Nat)) (μ : Nat -> Option Bt) (id : Nat) : Option Bt :=
 match AL id gl with
 | some old => μ old
 | none => none
theorem LX {O O' : Nat -> Prop} {μ : Nat -> Option Bt} {w : World} {gl : List (Nat × Nat)} (hO : ∀ b, b < w.heap.size -> O' b -> O b) :
  ∀ (l : LV) (v : Value), ES gl l = true -> Ar O μ w v (F6 gl l) -> Ar O' (Gs gl μ) w v l
 | .p d, v, _, h => .p _ _ (h.p_inv.mono (Bh.refl _ _) hO)
 | .und, v, _, h => by cases h; exact .und
 | .any, v, _, h => .any _
 | .lsl id sz off len, v, hn, h => by
  simp only [ES] at hn
  cases hl : AL id gl with
  | none => rw [hl] at hn; cases hn
  | some old =>
   simp only [F6, hl, Option.getD_some] at h
   have hm : ∀ loc, μ old = some loc -> Gs gl μ id = some loc := fun loc h => by simp [Gs, hl, h]
   cases h with
   | lsln _ loc h1 h2 => exact .lsln id loc (hm _ h1) h2
   | lsl _ _ _ cap a loc h1 h2 h3 h4 h5 h6 h7 => exact .lsl id _ _ cap a loc (hm _ h1) h2 h3 h4 h5 h6 h7
 | .lpb id off, v, hn, h => by
  simp only [ES] at hn
  cases hl : AL id gl with
  | none => rw [hl] at hn; cases hn
  | some old =>
   simp only [F6, hl, Option.getD_some] at h
   have hm : ∀ loc, μ old = some loc -> Gs gl μ id = some loc := fun loc h => by simp [Gs, hl, h]
   cases h with
   | lpb _ _ loc h1 h2 => exact .lpb id _ loc (hm _ h1) h2
 | .lpe id i off, v, hn, h => by
  simp only [ES] at hn
  cases hl : AL id gl with
  | none => rw [hl] at hn; cases hn
  | some old =>
   simp only [F6, hl, Option.getD_some] at h
   have hm : ∀ loc, μ old = some loc -> Gs gl μ id = some loc := fun loc h => by simp [Gs, hl, h]
   cases h with
   | lpe _ _ _ loc h1 h2 => exact .lpe id _ _ loc (hm _ h1) h2
 | .lmap id, v, hn, h => by
  simp only [ES] at hn
  cases hl : AL id gl with
  | none => rw [hl] at hn; cases hn
  | some old =>
   simp only [F6, hl, Option.getD_some] at h
   have hm : ∀ loc, μ old = some loc -> Gs gl μ id = some loc := fun loc h => by simp [Gs, hl, h]
   cases h with
   | lmap _ loc h1 h2 => exact .lmap id loc (hm _ h1) h2
 | .agg ls, v, hn, h => by
  simp only [F6] at h
  simp only [ES] at hn
  cases h with
  | agg vs _ hsz hr =>
   rw [Kd] at hsz
   refine .agg vs ls hsz fun i u x h1 h2 => ?_
   have : SizeOf.sizeOf x < SizeOf.sizeOf ls := List.sizeOf_lt_of_mem (List.mem_of_getElem? h2)
   exact LX hO x u (Ih hn h2) (hr i u _ h1 (by rw [Kc, h2]; rfl))
 | .tup ls, v, hn, h => by
  simp only [F6] at h
  simp only [ES] at hn
  cases h with
  | tup vs _ hsz hr =>
   rw [Kd] at hsz
   refine .tup vs ls hsz fun i u x h1 h2 => ?_
   have : SizeOf.sizeOf x < SizeOf.sizeOf ls := List.sizeOf_lt_of_mem (List.mem_of_getElem? h2)
   exact LX hO x u (Ih hn h2) (hr i u _ h1 (by rw [Kc, h2]; rfl))
 | .fn f ls, v, hn, h => by
  simp only [F6] at h
  simp only [ES] at hn
  cases h with
  | fn _ vs _ hsz hr =>
   rw [Kd] at hsz
   refine .fn f vs ls hsz fun i u x h1 h2 => ?_
   have : SizeOf.sizeOf x < SizeOf.sizeOf ls := List.sizeOf_lt_of_mem (List.mem_of_getElem? h2)
   exact LX hO x u (Ih hn h2) (hr i u _ h1 (by rw [Kc, h2]; rfl))
def WP (gl : List (Nat × Nat)) : BK -> BK
 | .box cells => .box (F6.renLs gl cells)
 | o => o
def Tv (gl : List (Nat × Nat)) : BK -> Bool
 | .box cells => ES.namesLs gl cells
 | _ => true
def TT (gl : List (Nat × Nat)) (sl : List (Nat × LV)) : List (Nat × LV) -> Prop
 | [] => True
 | (t, l) :: rest => (ES gl l = true /\ Bo sl t = F6 gl l) /\ TT gl sl rest
def TU (gl : List (Nat × Nat)) (h : Ag) : Ag -> Prop
 | [] => True
 | (id, o) :: rest => (Tv gl o = true /\ ∃ old, AL id gl = some old /\ AL old h = some (WP gl o)) /\ TU gl h rest
theorem Qh {gl : List (Nat × Nat)} {sl : List (Nat × LV)} : ∀ {sl' : List (Nat × LV)}, TT gl sl sl' -> ∀ t l, AL t sl' = some l -> ES gl l = true /\ Bo sl t = F6 gl l
 | [], _, t, l, h => by simp [AL] at h
 | (u, x) :: rest, ⟨h1, h2⟩, t, l, h => by
  simp only [AL] at h
  split at h
  .cases h; subst_vars; exact h1
  exact Qh h2 t l h
theorem IL {gl : List (Nat × Nat)} {hp : Ag} : ∀ {h' : Ag}, TU gl hp h' -> ∀ id o, AL id h' = some o -> Tv gl o = true /\ ∃ old, AL id gl = some old /\ AL old hp = some (WP gl o)
 | [], _, id, o, h => by simp [AL] at h
 | (u, x) :: rest, ⟨h1, h2⟩, id, o, h => by
  simp only [AL] at h
  split at h
  .cases h; subst_vars; exact h1
  exact IL h2 id o h
theorem NQ {α : Type} {t : Nat} {v : α} : ∀ {l : List (Nat × α)}, AL t l = some v -> (t, v) ∈ l
 | [], h => by simp [AL] at h
 | (k, u) :: l, h => by
  simp only [AL] at h
  split at h
  .cases h; subst_vars; simp
  exact List.mem_cons_of_mem _ (NQ h)
def Qi (gl : List (Nat × Nat)) (h : Ag) (c : Nat) : Bool := decide (h.map fun p => (AL p.1 gl).getD 0).Nodup && gl.all fun p => decide (p.1 < c)
theorem YH {gl : List (Nat × Nat)} {h : Ag} (hn : (h.map fun p => (AL p.1 gl).getD 0).Nodup) {a b : Nat × BK} (ha : a ∈ h) (hb : b ∈ h) (e : (AL a.1 gl).getD 0 = (AL b.1 gl).getD 0) : a = b := by
 induction h with
 | nil => simp at ha
 | cons x l ih =>
  simp only [List.map_cons, List.nodup_cons, List.mem_map, not_exists, not_and] at hn
  rcases List.mem_cons.1 ha with e1 | ha' <;> rcases List.mem_cons.1 hb with e2 | hb'
  .rw [e1, e2]
  .subst e1; exact absurd e.symm (hn.1 b hb')
  .subst e2; exact absurd e (hn.1 a ha')
  exact ih hn.2 ha' hb'
theorem YI (gl : List (Nat × Nat)) {nt : Nat} {sl sl' : List (Nat × LV)} {h h' : Ag} {c c' : Nat} (hext : ∀ id, A.μ0 id ≠ none -> AL id gl = some id) (ho : Qi gl h' c' = true)
  (hs : TT gl sl sl') (hh' : TU gl h h') : A9 A ⟨nt, sl, h, c⟩ ⟨nt, sl', h', c'⟩ := fun a w ⟨⟨μ, hh, hr⟩, hnt, hdef⟩ => by
 simp only [Qi, Bool.and_eq_true, decide_eq_true_eq, List.all_eq_true] at ho
 have hmine : ∀ b, CN (Gs gl μ) h' b -> CN μ h b := by
  rintro b ⟨id, o, loc, h1, h2, h3, h4⟩
  obtain ⟨_, old, g1, g2⟩ := IL hh' id o h1
  simp only [Gs, g1] at h2
  exact ⟨old, _, loc, g2, h2, h3, h4⟩
 have hown : ∀ b, b < w.heap.size -> Au A (Gs gl μ) h' b -> Au A μ h b := fun b _ hb => hb.imp id (hmine b)
 refine ⟨⟨Gs gl μ, ⟨?_, ?_, ?_, ?_, hh.size, hh.block, hh.os, hh.tape, hh.output, ?_⟩, fun t ht => ?_⟩, hnt, hdef⟩
 .intro id o hid
  obtain ⟨hn, old, g1, g2⟩ := IL hh' id o hid
  obtain ⟨loc, k1, k2⟩ := hh.obj old _ g2
  refine ⟨loc, by simp only [Gs, g1]; exact k1, ?_⟩
  cases o with
  | box cells =>
   obtain ⟨a1, cs, ty, a2, a3, a4⟩ := k2
   rw [Kd] at a3
   refine ⟨a1, cs, ty, a2, a3, fun i v l hv hl => LX hown l v (Ih hn hl) (a4 i v _ hv (by rw [Kc, hl]; rfl))⟩
  | row e sz elems =>
   obtain ⟨a1, a2, a3⟩ := k2
   refine ⟨a1, a2, ?_⟩
   rcases a3 with a3 | ⟨b1, cs, b2, b3, b4, b5, b6⟩
   .exact .inl a3
   exact .inr ⟨b1, cs, b2, b3, b4, b5, fun i j x d v hx hd hv => (b6 i j x d v hx hd hv).mono (Bh.refl _ _) hown⟩
  | map m =>
   obtain ⟨a1, es, a2, a3, a4, a5⟩ := k2
   exact ⟨a1, es, a2, a3, a4, fun i e p he hp => ⟨(a5 i e p he hp).1.mono (Bh.refl _ _) hown, (a5 i e p he hp).2.mono (Bh.refl _ _) hown⟩⟩
  | iter cur left => exact ⟨k2.1, k2.2.mono (Bh.refl _ _) hown rfl⟩
 .intro id id' o o' loc loc' h1 h2 m1 m2 n1 n2 hb
  obtain ⟨_, old, g1, g2⟩ := IL hh' id o h1
  obtain ⟨_, old', g1', g2'⟩ := IL hh' id' o' h2
  simp only [Gs, g1] at m1
  simp only [Gs, g1'] at m2
  have := hh.inj _ _ _ _ _ _ g2 g2' m1 m2 n1 n2 hb
  have := YH ho.1 (NQ h1) (NQ h2) (by simp only [g1, g1', Option.getD_some]; exact this)
  exact congrArg (·.1) this
 .intro id hid
  simp only [Gs]
  cases hl : AL id gl with
  | none => rfl
  | some old =>
   have := ho.2 _ (NQ hl)
   simp only [Fr] at hid
   omega
 .intro id o loc h1 m1 n1
  obtain ⟨_, old, g1, g2⟩ := IL hh' id o h1
  simp only [Gs, g1] at m1
  exact hh.base _ _ _ g2 m1 n1
 .intro id loc hm
  have := hext id (by rw [hm]; simp)
  simp only [Gs, this]
  exact hh.ext _ _ hm
 show Ar _ _ _ _ (match AL t sl' with | some v => v | none => .any)
 cases hl : AL t sl' with
 | none => exact .any _
 | some l =>
  obtain ⟨g1, g2⟩ := Qh hs t l hl
  have := hr t ht
  simp only at this
  rw [g2] at this
  exact LX hown l _ g1 this
theorem By {nt : Nat} {sl : List (Nat × LV)} {h : Ag} {c : Nat} (t e sz : Nat) (ht : Bo sl t = .p .nils) : A9 A ⟨nt, sl, h, c⟩ ⟨nt, (t, .lsl c sz 0 0) :: sl, (c, .row e sz []) :: h, c + 1⟩ := fun a w ⟨⟨μ, hh, hr⟩, hnt, hdef⟩ => by
 have hno := hh.fresh c (Nat.le_refl _)
 let loc : Bt := ⟨true, 0, 0, sz, 0⟩
 have hsub : ∀ id x, AL id ((c, BK.row e sz []) :: h) = some x -> (id = c /\ x = .row e sz []) \/ AL id h = some x := by
  intro id x hx
  simp only [AL] at hx
  split at hx
  .cases hx; exact .inl ⟨‹_›, rfl⟩
  exact .inr hx
 have hadd := hh.add hno loc (.row e sz []) ((c, .row e sz []) :: h) (fun hn => by cases hn) (fun hn => by cases hn) hsub (Bh.refl _ _) (fun _ _ _ _ _ _ _ => rfl) rfl rfl rfl ⟨rfl, by simp, .inl ⟨rfl, rfl⟩⟩
 have hown := hh.sub_add loc (.row e sz []) ((c, .row e sz []) :: h) (fun hn => by cases hn) hsub
 refine ⟨⟨_, hadd.less (F' := Fr (c + 1)) fun id hid => ?_, fun u hu => ?_⟩, hnt, hdef⟩
 .simp only [Fr] at hid ⊢; omega
 show Ar _ _ _ _ (match AL u ((t, LV.lsl c sz 0 0) :: sl) with | some v => v | none => .any)
 simp only [AL]
 by_cases hut : u = t
 .subst hut
  rw [if_pos rfl]
  have := hr u hu
  simp only at this
  rw [ht] at this
  rw [this.nils_inv]
  exact .lsln c loc (by simp [Bf]) rfl
 rw [if_neg hut]
 exact (hr u hu).mono (Bh.refl _ _) hown (K1 hno loc)
end
end Go.E
/- Loops whose states are told outright; parts of a body. No condition. -/
namespace Go.E
open Go Go.RowKit
section
variable {P : Program} {A : BX} {AE : BG} {Q : Exit -> St -> Prop} {st : St}
theorem AC {next : St -> Prop} (h : next st) : QX next Q .normal st := h
theorem AI {next : St -> Prop} (h : Q .ret st) : QX next Q .ret st := h
theorem Ab {next : St -> Prop} {id : Nat} (h : Q (.exit id) st) : QX next Q (.exit id) st := h
theorem Ai {id : Nat} (h : Q .normal st) : Hu id Q .normal st := h
theorem AT {id : Nat} (h : Q .ret st) : Hu id Q .ret st := h
theorem Ao {id : Nat} (h : Q .normal st) : Hu id Q (.exit id) st := by simp only [Hu, if_true]; exact h
theorem NR {id id' : Nat} (hne : (id' == id) = false) (h : Q (.exit id') st) : Hu id Q (.exit id') st := by
 simp only [Hu]
 rw [if_neg (by simpa using hne)]; exact h
theorem Zs {P : Program} {AE : BG} (hE : BN P AE) {k : Nat} {fn : Func} {c : Code} (hf : P.funcs[k]? = some fn) (hb : fn.body = some c) (hn : (fn.name == "runtime.NumGoroutine") = false) (nt : Nat) (hnt : fn.ntmps = nt)
  (rs : List ResultVar) (hrs : fn.results.toList = rs) {ds : List DV} (hlen : ds.length <= nt) {Q : DV -> Prop}
  (h : ∀ A : BX, (∀ id, A.μ0 id = none) -> CM P A c (NG fun st => ∃ r, Gm AE.tt rs st = some r /\ Q r) ⟨nt, Dr 0 ds, [], 0⟩) : A4 P k ds Q := by
 subst hnt hrs
 exact QY hE hf hb hn hlen h
theorem AAZ {h : Ag} {c k : Nat} {args : List LV} {ds : List DV} {r : DV} {f : LV × Ag × Nat -> Prop} {hf : JQ f} (hds : Bz h args = some ds) (hF : A4 P k ds (· = r))
  (hs : r.scalar = true \/ args.flatMap (Eg h) = []) (hK : f (.p r, h, c)) : KH P A h c k args ⟨f, hf⟩ :=
 Ef.pure hds hF fun q hq => by
  subst hq
  split
  .exact hK
  rcases hs with hs | hs
  .exact absurd hs ‹_›
  rw [hs]; exact hK
theorem AAa {h h' : Ag} {c k : Nat} {args : List LV} {ds : List DV} {r : DV} {f : LV × Ag × Nat -> Prop} {hf : JQ f} (hds : Bz h args = some ds) (hF : A4 P k ds (· = r))
  (hs : r.scalar = false) (hd : Cp (args.flatMap (Eg h)) h = h') (hK : f (.p r, h', c)) : KH P A h c k args ⟨f, hf⟩ :=
 Ef.pure hds hF fun q hq => by
  subst hq
  rw [if_neg (by simp [hs]), hd]; exact hK
def Le (r d : DV) : Prop := ∀ (O : Nat -> Prop) (w : World) (v : Value), A5 O w v r -> A5 O w v d
theorem Le.of_eq {r d : DV} (h : r = d) : Le r d := fun _ _ _ hv => h ▸ hv
theorem Le.nil (sz : Nat) : Le .nils (.slice sz []) := fun _ _ _ hv => by cases hv; exact .snil sz
theorem Le.tup {l m : List DV} (hl : l.length = m.length) (h : ∀ (i : Nat) (a b : DV), l[i]? = some a -> m[i]? = some b -> Le a b) : Le (.tup l) (.tup m) := fun O w v hv => by
 cases hv with
 | tup vs _ hsz hr =>
  refine .tup vs m (by omega) fun i u d h1 h2 => ?_
  have hi := (List.getElem?_eq_some_iff.1 h2).1
  have hx : l[i]? = some (l[i]'(by omega)) := List.getElem?_eq_getElem _
  exact h i _ d hx h2 O w u (hr i u _ h1 hx)
theorem Le.agg {l m : List DV} (hl : l.length = m.length) (h : ∀ (i : Nat) (a b : DV), l[i]? = some a -> m[i]? = some b -> Le a b) : Le (.agg l) (.agg m) := fun O w v hv => by
 cases hv with
 | agg vs _ hsz hr =>
  refine .agg vs m (by omega) fun i u d h1 h2 => ?_
  have hi := (List.getElem?_eq_some_iff.1 h2).1
  have hx : l[i]? = some (l[i]'(by omega)) := List.getElem?_eq_getElem _
  exact h i _ d hx h2 O w u (hr i u _ h1 hx)
theorem Le.cons {a b : DV} {l m : List DV} (h : Le a b) (hr : ∀ (i : Nat) (a b : DV), l[i]? = some a -> m[i]? = some b -> Le a b) : ∀ (i : Nat) (x y : DV), (a :: l)[i]? = some x -> (b :: m)[i]? = some y -> Le x y := fun i x y h1 h2 => by
 cases i with
 | zero => simp at h1 h2; subst h1 h2; exact h
 | succ i => exact hr i x y (by simpa using h1) (by simpa using h2)
theorem Zt {P : Program} {AE : BG} (hE : BN P AE) {k : Nat} {fn : Func} {c : Code} (hf : P.funcs[k]? = some fn) (hb : fn.body = some c) (hn : (fn.name == "runtime.NumGoroutine") = false) (nt : Nat) (hnt : fn.ntmps = nt)
  (rs : List ResultVar) (hrs : fn.results.toList = rs) {ds : List DV} (hlen : ds.length <= nt) {d : DV}
  (h : ∀ A : BX, (∀ id, A.μ0 id = none) -> CM P A c (NG fun st => ∃ r, Gm AE.tt rs st = some r /\ Le r d) ⟨nt, Dr 0 ds, [], 0⟩) : A4 P k ds (· = d) := by
 have := Zs hE hf hb hn nt hnt rs hrs hlen h
 exact ⟨this.enters, fun O w vs h1 h2 h3 => (this.run O w vs h1 h2 h3).mono fun _ _ ⟨v, r, e, hr, q, hb⟩ => ⟨v, d, e, q _ _ _ hr, rfl, hb⟩⟩
end
end Go.E
/- The equations by which a walk is reckoned. Written by a program (mkev.py). No condition. -/
namespace Go.E
open Go Go.RowKit
theorem Tw : ∀ l : List DV, Hw (l.map .p) = some l
 | [] => rfl
 | x :: l => by simp [Hw, Tw l]
end Go.E
/- Drawn regions in short form. Conditions: If and mixedOrders, by kernel. -/
namespace Go.E
open Go Go.RowKit
def YJ (P : Program) (h : Ag) (k : Nat) (args : List LV) (K : BD DV) : Prop :=
 ∃ ds r, Bz h args = some ds /\ A4 P k ds (· = r) /\ (r.scalar = true \/ args.flatMap (Eg h) = []) /\ K.f r
def AA5 (P : Program) (AE : BG) (h : Ag) (k : Nat) (args : List LV) (K : BD (Nat × Nat × List (List DV))) : Prop :=
 AE.own = true /\ ∃ ds t sz elems, Bz h args = some ds /\ Gn P k ds t sz elems /\ WF (args.flatMap (Eg h)) elems /\ K.f (t, sz, elems)
def Yz (AE : BG) (neg : Bool) (t : Nat) (x y : LV) (k : BD LV) : Prop :=
 match y with
 | .p .nils => False
 | y => Vh AE neg t x y k
def Rn (AE : BG) (op : BinOp) (t : Nat) (x y : LV) (k : BD LV) : Prop :=
 match x, y with
 | .p (.int k1 a), .p (.int k2 b) => k1 = k2 /\ Mu op k1 a b k
 | x, y => match op with
  | .eql => Yz AE false t x y k
  | .neq => Yz AE true t x y k
  | _ => False
def WQ (sh : Sh) (x : LV) (k : BD LV) : Prop :=
 match sh, x with
 | .arr n _, _ => k.f (.p (.int .i64 n))
 | .slc _, .p (.slice _ l) => k.f (.p (.int .i64 l.length))
 | .slc _, .p .nils => k.f (.p (.int .i64 0))
 | .slc _, .lsl _ _ _ len => k.f (.p (.int .i64 len))
 | .str, .p (.str s) => k.f (.p (.int .i64 s.size))
 | _, _ => False
def Jx (P : Program) (A : BX) (AE : BG) (st : St) (dst : Option Tmp) (op : Op) (K : BD St) : Prop :=
 match op with
 | .binOp op t x y _ => Rn AE op t (st.eval x) (st.eval y) ⟨fun l => K.f (st.put dst l), ⟨⟩⟩
 | .call c => match c.callee, c.args.toList, c.argTypes.toList with
  | .builtin .len, [x], [t] => DL AE t ⟨fun ti => WQ ti.sh (st.eval x) ⟨fun l => K.f (st.put dst l), ⟨⟩⟩, ⟨⟩⟩
  | .builtin .len, _, _ => False
  | .value f, args, _ => N4 (st.eval f) ⟨fun g => YJ P st.heap g.1 (args.map st.eval ++ g.2) ⟨fun r => K.f (st.put dst (.p r)), ⟨⟩⟩ \/
    AA5 P AE st.heap g.1 (args.map st.eval ++ g.2) ⟨fun r => K.f (({ st with heap := (st.ctr, .row r.1 r.2.1 r.2.2) :: st.heap, ctr := st.ctr + 1 } : St).put dst (.lsl st.ctr r.2.1 0 r.2.2.length)), ⟨⟩⟩, ⟨⟩⟩
  | _, _, _ => BQ P A AE st dst (.call c) K
 | .range _ _ => False
 | .next _ _ => False
 | .entry _ => False
 | .load t x => Mp AE.calm (st.eval x) = true /\ BQ P A AE st dst (.load t x) K
 | .store t x v => LN AE.calm (st.eval x) = true /\ BQ P A AE st dst (.store t x v) K
 | op => BQ P A AE st dst op K
def Ds (P : Program) (A : BX) (AE : BG) (base n : Nat) (K : BD St) : List (Nat × Ig) -> St -> Prop
 | [], st => Zr K (st.at (base + n))
 | (i, ⟨dst, op, none⟩) :: rest, st => Jx P A AE (st.at (base + i)) dst op ⟨Ds P A AE base n K rest, ⟨⟩⟩
 | (i, ⟨dst, op, some (d, want)⟩) :: rest, st => gM (HF st d) want ⟨fun _ => Jx P A AE (st.at (base + i)) dst op ⟨Ds P A AE base n K rest, ⟨⟩⟩, ⟨⟩⟩ ⟨fun _ => Ds P A AE base n K rest (st.put dst .und), ⟨⟩⟩
section
variable {P : Program} {A : BX} {AE : BG}
theorem St.at_at (st : St) (c d : Nat) : (st.at c).at d = st.at d := rfl
theorem ZH {v : LV} {want : Bool} {f f' g g' : Unit -> Prop} (h1 : f () = f' ()) (h2 : g () = g' ()) : gM v want ⟨f, ⟨⟩⟩ ⟨g, ⟨⟩⟩ = gM v want ⟨f', ⟨⟩⟩ ⟨g', ⟨⟩⟩ := by
 unfold gM
 split
 .simp only [gW, h1, h2]
 .exact h2
 rfl
theorem Qj (base n : Nat) (K : BD St) (l : List (Nat × Ig)) : ∀ (st : St) (c : Nat), Ds P A AE base n K l (st.at c) = Ds P A AE base n K l st := by
 induction l with
 | nil => intro st c; rfl
 | cons p l ih =>
  intro st c
  obtain ⟨i, dst, op, g⟩ := p
  cases g with
  | none => rfl
  | some g =>
   obtain ⟨d, want⟩ := g
   have e1 : HF (st.at c) d = HF st d := by cases d <;> rfl
   have e2 : Ds P A AE base n K l ((st.at c).put dst .und) = Ds P A AE base n K l (st.put dst .und) := by
    have : (st.at c).put dst .und = (st.put dst .und).at c := by cases dst <;> rfl
    rw [this, ih]
   simp only [Ds, e1, St.at_at]
   exact ZH rfl e2
theorem Vl {neg : Bool} {t : Nat} {x y : LV} {k : BD LV} (h : Yz AE neg t x y k) : ∃ l, SP AE neg t x y (· = l) /\ k.f l := by
 unfold Yz at h
 split at h
 .exact h.elim
 rename_i hne
 unfold Vh at h
 unfold SP
 split at h
 .exact ⟨_, rfl, h⟩
 .obtain ⟨ti, h1, h2, h3⟩ := Ae.1 h; exact ⟨_, ⟨⟨ti, h1, h2⟩, rfl⟩, h3⟩
 .obtain ⟨ks, h1, h2, h3, h4⟩ := Ac.1 h; exact ⟨_, ⟨ks, h1, h2, h3, rfl⟩, h4⟩
 .exact absurd rfl hne
 .exact absurd rfl hne
 .exact absurd rfl hne
 .exact ⟨_, ⟨h.1, rfl⟩, h.2⟩
 .exact ⟨_, ⟨h.1, rfl⟩, h.2⟩
 .exact ⟨_, ⟨h.1, rfl⟩, h.2⟩
 exact h.elim
theorem YK {op : BinOp} {t : Nat} {x y : LV} {k : BD LV} (h : Rn AE op t x y k) : ∃ l, Rl AE op t x y (· = l) /\ k.f l := by
 unfold Rn at h
 unfold Rl
 split at h
 .obtain ⟨v, h1, h2⟩ := Pq h.2
  exact ⟨_, ⟨h.1, v, h1, rfl⟩, h2⟩
 rename_i hne
 split
 .exact absurd rfl (hne _ _ _ _ rfl)
 split at h
 .exact Vl h
 .exact Vl h
 exact h.elim
theorem NS {place : Nat -> Option (Nat × Nat)} {k : BD (List LV)} : ∀ {ps : List (Nat × LV)} {cells : List LV}, LQ AE place cells ps k -> ∃ l, JS AE place cells ps (· = l) /\ k.f l
 | [], _, h => ⟨_, rfl, h⟩
 | (i, v) :: rest, cells, h => by
  obtain ⟨p, h1, h⟩ := Ac.1 h
  obtain ⟨ti, h2, h⟩ := Ae.1 h
  obtain ⟨ls, h3, ⟨h4, h5⟩, h⟩ := Ac.1 h
  obtain ⟨l, h6, h7⟩ := NS h
  exact ⟨l, ⟨p.1, p.2, ti, ls, h1, h2, h3, h4, h5, h6⟩, h7⟩
theorem NT {place : Nat -> Option (Nat × Nat)} {f : List LV -> LV} {l : List LV} : ∀ {ps : List (Nat × LV)} {cells : List LV}, JS AE place cells ps (· = l) -> JS AE place cells ps fun c => f c = f l
 | [], _, h => congrArg f h
 | (i, v) :: rest, cells, ⟨off, t, ti, ls, h1, h2, h3, h4, h5, h6⟩ => ⟨off, t, ti, ls, h1, h2, h3, h4, h5, NT h6⟩
theorem J5 {d : Int} {x : Option LV} {k : BD Int} (h : LR d x k) : ∃ n, (∀ k' : Int -> Prop, k' n -> HG d x k') /\ k.f n := by
 unfold LR at h; unfold HG
 split at h
 .exact ⟨_, fun _ h => h, h⟩
 .exact ⟨_, fun _ h => h, h⟩
 exact h.elim
theorem XR {h : Ag} {ti : TI} {p : LV} {k : BD LV} (hl : Qe h ti p k) : ∃ l, Hj h ti p (· = l) /\ k.f l := by
 unfold Qe at hl
 unfold Hj
 split at hl
 .obtain ⟨r, h1, h2⟩ := Ac.1 hl
  exact ⟨r, ⟨r, h1, rfl⟩, h2⟩
 .obtain ⟨o, h1, hl⟩ := Ac.1 hl
  obtain ⟨cells, rfl, hl⟩ := I7.1 hl
  obtain ⟨r, h2, h3⟩ := Ac.1 hl
  exact ⟨r, ⟨cells, r, h1, h2, rfl⟩, h3⟩
 .obtain ⟨o, h1, hl⟩ := Ac.1 hl
  obtain ⟨e, sz, elems, rfl, hl⟩ := Gr.1 hl
  obtain ⟨x, h2, hl⟩ := Ac.1 hl
  obtain ⟨r, h3, h4⟩ := Ac.1 hl
  exact ⟨r, ⟨e, sz, elems, x, r, h1, h2, h3, rfl⟩, h4⟩
 exact hl.elim
theorem WR {t : Nat} {x : LV} {lo hi : Option LV} {k : BD LV} (h : LS AE t x lo hi k) : ∃ l, LU AE t x lo hi (· = l) /\ k.f l := by
 unfold LS at h
 unfold LU
 split at h
 .obtain ⟨ti, h1, h⟩ := Ae.1 h
  obtain ⟨e, h2, h⟩ := Cl.1 h
  obtain ⟨te, h3, h4, h⟩ := Ae.1 h
  obtain ⟨a, ka, h⟩ := J5 h
  obtain ⟨b, kb, h5, h⟩ := J5 h
  exact ⟨_, ⟨⟨ti, e, h1, h2, te, h3, h4⟩, ka _ (kb _ ⟨h5.1, h5.2.1, h5.2.2, rfl⟩)⟩, h⟩
 .obtain ⟨ti, h1, h⟩ := Ae.1 h
  obtain ⟨e, h2, h⟩ := Cl.1 h
  obtain ⟨te, h3, h4, h6, h⟩ := Ae.1 h
  obtain ⟨a, ka, h⟩ := J5 h
  obtain ⟨b, kb, h5, h⟩ := J5 h
  exact ⟨_, ⟨⟨ti, e, h1, h2, te, h3, h4⟩, h6, ka _ (kb _ ⟨h5.1, h5.2.1, h5.2.2, rfl⟩)⟩, h⟩
 .obtain ⟨ti, h1, h2, h⟩ := Ae.1 h
  obtain ⟨a, ka, h⟩ := J5 h
  obtain ⟨b, kb, h5, h⟩ := J5 h
  exact ⟨_, ⟨⟨ti, h1, h2⟩, ka _ (kb _ ⟨h5.1, h5.2.1, h5.2.2, rfl⟩)⟩, h⟩
 exact h.elim
theorem ZI {st : St} {dst : Option Tmp} {op : Op} {K : BD St} (hK : ∀ (s : St) (c : Nat), K.f (s.at c) -> K.f s) (h : Jx P A AE st dst op K) {o : Oper} (ho : o.dst = dst) :
  ∃ l e, CV P AE st op l e /\ K.f (apS st st.ctr o l e) := by
 subst ho
 have keep : ∀ l, K.f (st.put o.dst l) -> K.f (apS st st.ctr o l .keep) := fun l h => by
  have : apS st st.ctr o l .keep = st.put o.dst l := rfl
  rw [this]; exact h
 have goes : ∀ l e h' c, e.ap st.ctr st.heap = h' -> K.f (st.go o.dst l h' c) -> K.f (apS st st.ctr o l e) := fun l e h' c he hk => by
  refine hK _ c ?_
  have : (apS st st.ctr o l e).at c = st.go o.dst l h' c := by
   unfold apS St.go St.at St.put
   rw [he]
   cases o.dst <;> rfl
  rw [this]; exact hk
 have nC : ∀ l, nW AE st op (· = l) -> (CV P AE st op l .keep ↔ (E4.keep = E4.keep /\ nW AE st op (· = l))) -> K.f (st.put o.dst l) -> ∃ l e, CV P AE st op l e /\ K.f (apS st st.ctr o l e) :=
  fun l h1 h2 h3 => ⟨l, .keep, h2.2 ⟨rfl, h1⟩, keep l h3⟩
 cases op <;> simp only [Jx, BQ] at h
 case move x => exact nC _ rfl Iff.rfl h
 case assign x => exact nC _ rfl Iff.rfl h
 case pick c a b => obtain ⟨t, h1, h2⟩ := L7.1 h; exact nC _ ⟨t, h1, rfl⟩ Iff.rfl h2
 case nilCheck x =>
  unfold YA at h
  split at h <;> first | exact h.elim | (rename_i e; refine nC _ ?_ Iff.rfl h; simp only [nW, e]; exact ⟨trivial, trivial⟩)
 case binOp op t x y z => obtain ⟨l, h1, h2⟩ := YK h; exact nC l h1 Iff.rfl h2
 case unOp op t x =>
  cases op <;> simp only at h
  case neg => obtain ⟨kk, n, h1, h2⟩ := Ce.1 h; exact nC _ (by simp only [nW, Vk, h1]) Iff.rfl h2
  case not => obtain ⟨b, h1, h2⟩ := L7.1 h; exact nC _ (by simp only [nW, Vk, h1]) Iff.rfl h2
 case convert s d x =>
  obtain ⟨kk, n, h1, h⟩ := Ce.1 h
  obtain ⟨tj, h2, h⟩ := Ae.1 h
  obtain ⟨ti, h3, h⟩ := Ae.1 h
  obtain ⟨kd, h4, h⟩ := Ac.1 h
  refine nC _ ⟨kk, n, ti, tj, h1, h2, h3, kd, ?_, rfl⟩ Iff.rfl h
  generalize ti.sh = q at h4
  cases q <;> simp [WN] at h4
  rw [h4]
 case extract t i =>
  unfold YB at h
  split at h
  .rename_i l hl; obtain ⟨v, h1, h2⟩ := Ac.1 h; exact nC v (by simp only [nW, hl]; exact ⟨v, h1, rfl⟩) Iff.rfl h2
  .rename_i l hl; obtain ⟨v, h1, h2⟩ := Ac.1 h; exact nC _ (by simp only [nW, hl]; exact ⟨v, h1, rfl⟩) Iff.rfl h2
  exact h.elim
 case field t x i =>
  obtain ⟨ti, h1, h⟩ := Ae.1 h
  obtain ⟨fs, h2, h⟩ := F5.1 h
  obtain ⟨f, h3, h⟩ := Ac.1 h
  obtain ⟨tf, h4, h⟩ := Ae.1 h
  try dsimp only at h
  unfold YC at h
  split at h
  .rename_i l hl
   obtain ⟨v, h5, h6⟩ := Ac.1 h
   exact nC v ⟨ti, fs, f.1, f.2, tf, l, v, h1, h2, h3, h4, by rw [hl]; rfl, by rw [hl]; trivial, h5, rfl⟩ Iff.rfl h6
  .rename_i l hl
   obtain ⟨v, h5, h6⟩ := Ac.1 h
   exact nC v ⟨ti, fs, f.1, f.2, tf, l.map .p, v, h1, h2, h3, h4, by rw [hl]; rfl, by rw [hl]; trivial, h5, rfl⟩ Iff.rfl h6
  exact h.elim
 case build t ps =>
  obtain ⟨ti, h1, h⟩ := Ae.1 h
  try dsimp only at h
  unfold OW at h
  split at h
  .rename_i fs hsh
   obtain ⟨l, h2, h3⟩ := NS h.2
   exact nC _ ⟨ti, h1, by simp only [hsh]; exact ⟨h.1, NT h2⟩⟩ Iff.rfl h3
  .rename_i n e hsh
   obtain ⟨te, h2, h⟩ := Ae.1 h
   obtain ⟨l, h3, h4⟩ := NS h
   exact nC _ ⟨ti, h1, by simp only [hsh]; exact ⟨te, h2, NT h3⟩⟩ Iff.rfl h4
  exact h.elim
 case fieldAddr t x i =>
  obtain ⟨ti, h1, h⟩ := Ae.1 h
  obtain ⟨fs, h2, h⟩ := F5.1 h
  obtain ⟨f, h3, h⟩ := Ac.1 h
  obtain ⟨tf, h4, h5, h⟩ := Ae.1 h
  try dsimp only at h
  unfold WL at h
  split at h <;> first | exact h.elim | (rename_i e; exact nC _ ⟨ti, fs, f.1, f.2, tf, h1, h2, h3, h4, h5, by simp only [e]⟩ Iff.rfl h)
 case indexAddr t x i =>
  obtain ⟨kk, n, h1, h⟩ := Ce.1 h
  obtain ⟨ti, h2, h⟩ := Ae.1 h
  try dsimp only at h
  unfold Zm at h
  split at h
  .rename_i e1 e2
   obtain ⟨te, g1, g2, g3, h⟩ := Ae.1 h
   obtain ⟨c, g4, g5⟩ := Ac.1 h
   exact nC _ ⟨kk, n, ti, h1, h2, by simp only [e1, e2]; exact ⟨⟨te, g1, g2⟩, g3, c, g4, rfl⟩⟩ Iff.rfl g5
  .rename_i e1 e2
   obtain ⟨te, g1, g2, ⟨g3, g4⟩, h⟩ := Ae.1 h
   exact nC _ ⟨kk, n, ti, h1, h2, by simp only [e1, e2]; exact ⟨⟨te, g1, g2⟩, g3, g4, trivial⟩⟩ Iff.rfl h
  .rename_i e1 e2
   obtain ⟨te, g1, ⟨g2, g3⟩, h⟩ := Ae.1 h
   exact nC _ ⟨kk, n, ti, h1, h2, by simp only [e1, e2]; exact ⟨te, g1, g2, g3, rfl⟩⟩ Iff.rfl h
  .rename_i e1 e2
   obtain ⟨te, g1, ⟨g2, g3⟩, h⟩ := Ae.1 h
   exact nC _ ⟨kk, n, ti, h1, h2, by simp only [e1, e2]; exact ⟨te, g1, g2, g3, rfl⟩⟩ Iff.rfl h
  exact h.elim
 case index t x i =>
  obtain ⟨kk, n, h1, h⟩ := Ce.1 h
  obtain ⟨ti, h2, h0, h⟩ := Ae.1 h
  try dsimp only at h
  unfold Zn at h
  split at h
  .rename_i e1 e2
   obtain ⟨te, g1, g2, h⟩ := Ae.1 h
   obtain ⟨v, g3, g4⟩ := Ac.1 h
   exact nC v ⟨kk, n, ti, h1, h2, h0, by simp only [e1, e2]; exact ⟨te, v, g1, g2, g3, rfl⟩⟩ Iff.rfl g4
  .rename_i e1 e2
   obtain ⟨te, g1, g2, h⟩ := Ae.1 h
   obtain ⟨v, g3, g4⟩ := Ac.1 h
   exact nC v ⟨kk, n, ti, h1, h2, h0, by simp only [e1, e2]; exact ⟨te, v, g1, g2, g3, rfl⟩⟩ Iff.rfl g4
  .rename_i e1 e2
   obtain ⟨c, g1, g2⟩ := Ac.1 h
   exact nC _ ⟨kk, n, ti, h1, h2, h0, by simp only [e1, e2]; exact ⟨c, g1, rfl⟩⟩ Iff.rfl g2
  exact h.elim
 case makeFunc fn first caps =>
  cases fn <;> simp only at h
  rename_i f
  exact nC _ ⟨by simpa using h.1, f, rfl, rfl⟩ Iff.rfl h.2
 case slice t x lo hi mx =>
  cases mx with
  | some m => exact h.elim
  | none => obtain ⟨l, h1, h2⟩ := WR h; exact nC l ⟨rfl, h1⟩ Iff.rfl h2
 case load t x =>
  obtain ⟨hc', h⟩ := h
  obtain ⟨ti, h1, h2⟩ := Ae.1 h
  obtain ⟨l, h3, h4⟩ := XR h2
  exact ⟨l, .keep, ⟨rfl, hc', ti, h1, h3⟩, keep l h4⟩
 case store t x v =>
  obtain ⟨hc', h⟩ := h
  obtain ⟨ti, h1, h⟩ := Ae.1 h
  obtain ⟨ls, h2, ⟨h3, h4⟩, h⟩ := Ac.1 h
  try dsimp only at h
  unfold Tt at h
  split at h
  .rename_i id off e
   obtain ⟨o', g1, h⟩ := Ac.1 h
   obtain ⟨cells, rfl, g2, h⟩ := I7.1 h
   refine ⟨.any, .set _, ⟨hc', _, rfl, ?_⟩, goes _ _ _ _ rfl h⟩
   simp only [mW, Ka]
   exact ⟨ti, h1, ls, h2, h3, h4, by simp only [e]; exact ⟨cells, g1, g2, trivial, rfl⟩⟩
  .rename_i id i off e
   obtain ⟨o', g1, h⟩ := Ac.1 h
   obtain ⟨e', sz, elems, rfl, h⟩ := Gr.1 h
   obtain ⟨x, g2, h⟩ := Ac.1 h
   obtain ⟨ds, g3, g4, h⟩ := Ac.1 h
   refine ⟨.any, .set _, ⟨hc', _, rfl, ?_⟩, goes _ _ _ _ rfl h⟩
   simp only [mW, Ka]
   exact ⟨ti, h1, ls, h2, h3, h4, by simp only [e]; exact ⟨e', sz, elems, x, ds, g1, g2, g4, g3, trivial, rfl⟩⟩
  exact h.elim
 case alloc t => obtain ⟨ti, h1, h2⟩ := Ae.1 h; exact ⟨_, .new _, ⟨ti, h1, rfl, rfl⟩, goes _ _ _ _ rfl h2⟩
 case box t x => obtain ⟨ls, h1, h2⟩ := Ac.1 h; exact ⟨_, .new _, ⟨ls, h1, rfl, rfl⟩, goes _ _ _ _ rfl h2⟩
 case buildSlice t n ps =>
  obtain ⟨ti, h1, h⟩ := Ae.1 h
  obtain ⟨e, h2, h⟩ := Cl.1 h
  obtain ⟨te, h3, ⟨h4, h5⟩, h⟩ := Ae.1 h
  obtain ⟨l, h6, h7, h⟩ := Ac.1 h
  rcases h with h | h
  .exact ⟨_, .new _, ⟨ti, e, te, l, h1, h2, h3, h4, h5, h6, h7, .inl ⟨rfl, rfl⟩⟩, goes _ _ _ _ rfl h⟩
  exact ⟨_, .keep, ⟨ti, e, te, l, h1, h2, h3, h4, h5, h6, h7, .inr ⟨rfl, rfl⟩⟩, keep _ h⟩
 case makeSlice t l c =>
  obtain ⟨ti, h1, h⟩ := Ae.1 h
  obtain ⟨e, h2, h⟩ := Cl.1 h
  obtain ⟨te, h3, h⟩ := Ae.1 h
  obtain ⟨k1, n, h4, h⟩ := Ce.1 h
  obtain ⟨k2, n', h5, ⟨h9, h6, h7, h8⟩, h⟩ := Ce.1 h
  simp only at h9
  subst h9
  rcases h with h | h
  .exact ⟨_, .new _, ⟨ti, e, te, n', k1, k2, h1, h2, h3, h4, h5, h6, h7, h8, .inl ⟨rfl, rfl⟩⟩, goes _ _ _ _ rfl h⟩
  exact ⟨_, .keep, ⟨ti, e, te, n', k1, k2, h1, h2, h3, h4, h5, h6, h7, h8, .inr ⟨rfl, rfl⟩⟩, keep _ h⟩
 case makeMap t r =>
  cases r with
  | some r => exact h.elim
  | none => exact ⟨_, .new _, ⟨rfl, rfl, rfl⟩, goes _ _ _ _ rfl h⟩
 case lookup t x i ok =>
  obtain ⟨ti, h1, h⟩ := Ae.1 h
  obtain ⟨kt, et, h2, h⟩ := GO.1 h
  obtain ⟨te, h3, h⟩ := Ae.1 h
  obtain ⟨m, h4, h⟩ := Ac.1 h
  obtain ⟨kd, h5, ⟨h6, h7⟩, h⟩ := Do.1 h
  exact ⟨_, .keep, ⟨rfl, ti, kt, et, te, m, kd, h1, h2, h3, h4, h5, h6, h7, rfl⟩, keep _ h⟩
 case mapUpdate t x i v =>
  obtain ⟨ti, h1, h⟩ := Ae.1 h
  obtain ⟨kt, et, h2, h⟩ := GO.1 h
  obtain ⟨id, h3, h⟩ := Fo.1 h
  obtain ⟨o', h4, h⟩ := Ac.1 h
  obtain ⟨m, rfl, h⟩ := Gq.1 h
  obtain ⟨kd, h5, h⟩ := Do.1 h
  obtain ⟨vd, h6, ⟨h7, h8⟩, h⟩ := Do.1 h
  refine ⟨.any, .set _, ⟨_, rfl, ?_⟩, goes _ _ _ _ rfl h⟩
  simp only [mW, Mr]
  exact ⟨ti, kt, et, id, m, kd, vd, h1, h2, h3, h4, h5, h6, h7, h8, trivial, rfl⟩
 case mapEntry t x i =>
  obtain ⟨ti, h1, h⟩ := Ae.1 h
  obtain ⟨kt, et, h2, h⟩ := GO.1 h
  obtain ⟨te, h3, h⟩ := Ae.1 h
  obtain ⟨id, h4, h⟩ := Fo.1 h
  obtain ⟨o', h5, h⟩ := Ac.1 h
  obtain ⟨m, rfl, h⟩ := Gq.1 h
  obtain ⟨kd, h6, ⟨h7, h8⟩, h⟩ := Do.1 h
  refine ⟨_, .set _, ⟨_, rfl, ?_⟩, goes _ _ _ _ rfl h⟩
  simp only [mW, Ms]
  exact ⟨ti, kt, et, te, id, m, kd, h1, h2, h3, h4, h5, h6, h7, h8, rfl, rfl⟩
 case entryStore t x s v =>
  obtain ⟨id, h1, h⟩ := Fo.1 h
  obtain ⟨o', h2, h⟩ := Ac.1 h
  obtain ⟨m, rfl, h⟩ := Gq.1 h
  obtain ⟨kk, n, h3, h⟩ := Ce.1 h
  obtain ⟨vd, h4, h0, h⟩ := Do.1 h
  obtain ⟨p, h5, h⟩ := Ac.1 h
  refine ⟨.any, .set _, ⟨_, rfl, ?_⟩, goes _ _ _ _ rfl h⟩
  simp only [mW, OQ]
  exact ⟨id, m, kk, n, vd, p, h1, h2, h3, h0, h5, h4, trivial, rfl⟩
 case call c =>
  obtain ⟨callee, args, ats⟩ := c
  simp only at h
  split at h
  .rename_i x t e2 e3
   obtain ⟨ti, h1, h⟩ := Ae.1 h
   have ha : args = #[x] := by rw [<- Array.toList_inj, e2]
   have hb : ats = #[t] := by rw [<- Array.toList_inj, e3]
   try dsimp only at h
   unfold WQ at h
   split at h
   .rename_i g; exact nC _ (by simp only [nW]; exact ⟨x, t, ti, ha, hb, h1, by simp only [g]⟩) Iff.rfl h
   .rename_i g1 g2; exact nC _ (by simp only [nW]; exact ⟨x, t, ti, ha, hb, h1, by simp only [g1, g2, LW]; try (intros; trivial)⟩) Iff.rfl h
   .rename_i g1 g2; exact nC _ (by simp only [nW]; exact ⟨x, t, ti, ha, hb, h1, by simp only [g1, g2, LW]; try (intros; trivial)⟩) Iff.rfl h
   .rename_i g1 g2; exact nC _ (by simp only [nW]; exact ⟨x, t, ti, ha, hb, h1, by simp only [g1, g2, LW]; try (intros; trivial)⟩) Iff.rfl h
   .rename_i g1 g2; exact nC _ (by simp only [nW]; exact ⟨x, t, ti, ha, hb, h1, by simp only [g1, g2, LW]; try (intros; trivial)⟩) Iff.rfl h
   exact h.elim
  .exact h.elim
  .rename_i f
   obtain ⟨k, caps, g1, g2⟩ := Vi.1 h
   rcases g2 with ⟨ds, r, g3, g4, g5, g6⟩ | ⟨g0, ds, t, sz, elems, g3, g4, g5, g6⟩
   .exact ⟨_, .keep, .inl ⟨rfl, k, caps, ds, r, g1, g3, g4, g5, rfl⟩, keep _ g6⟩
   exact ⟨_, .new _, .inr ⟨g0, k, caps, ds, t, sz, elems, g1, g3, g4, g5, rfl, rfl⟩, goes _ _ _ _ rfl g6⟩
  rename_i hne
  unfold Qg at h
  simp only at h
  split at h
  .rename_i g; exact (g _ rfl).elim
  .rename_i s x t t' e2 e3 _ _
   obtain ⟨rfl, h⟩ := h
   obtain ⟨ti, h1, h⟩ := Ae.1 h
   obtain ⟨e, h2, h⟩ := Cl.1 h
   obtain ⟨te, h3, h4, h⟩ := Ae.1 h
   obtain ⟨new, h5, h6, h⟩ := Ac.1 h
   have ha : args = #[s, x] := by rw [<- Array.toList_inj, e2]
   have hb : ats = #[t', t'] := by rw [<- Array.toList_inj, e3]
   try dsimp only at h
   unfold Tu at h
   split at h
   .rename_i e9
    refine ⟨_, .set _, ⟨_, rfl, ?_⟩, goes _ _ _ _ rfl h.2⟩
    simp only [mW]
    exact ⟨trivial, s, x, t', ha, hb, ti, e, te, h1, h2, h3, h4, new, h5, h6, by simp only [e9]; exact ⟨h.1.1, h.1.2, trivial, trivial⟩⟩
   .rename_i id sz off len e9
    obtain ⟨hsz, h⟩ := h
    obtain ⟨o', g1, h⟩ := Ac.1 h
    obtain ⟨e', sz', elems, rfl, ⟨k1, k2, g2, g3, g4⟩, h9⟩ := Gr.1 h
    subst k1; subst k2
    refine ⟨_, .set _, ⟨_, rfl, ?_⟩, goes _ _ _ _ rfl h9⟩
    simp only [mW]
    exact ⟨trivial, s, x, t', ha, hb, ti, e', te, h1, h2, h3, h4, new, h5, h6, by simp only [e9]; exact ⟨elems, hsz, g1, g2, g3, g4, trivial, rfl⟩⟩
   exact h.elim
  .rename_i x t e2 e3
   simp_all
  .obtain ⟨r, h1, h⟩ := Ac.1 h
   exact nC _ (by simp only [nW]; exact ⟨r, h1, rfl⟩) Iff.rfl h
  .obtain ⟨r, h1, h⟩ := Ac.1 h
   exact nC _ (by simp only [nW]; exact ⟨r, h1, rfl⟩) Iff.rfl h
  exact h.elim
 all_goals exact h.elim
def Gt (ops : List Oper) (order : List Nat) : List (Nat × Ig) :=
 match order with
 | [] => []
 | i :: rest => match ops[i]? with
  | some o => (i, OV ops o) :: Gt ops rest
  | none => []
theorem JC {ops : List Oper} {base : Nat} {K : BD St} : ∀ (order : List Nat) (st : St), (order.all fun i => decide (i < ops.length)) = true -> Ds P A AE base ops.length K (Gt ops order) st ->
  Hk P AE ops.toArray base (fun st' => K.f { st' with ctr := base + ops.length }) order st
 | [], st, _, h => h.h
 | i :: rest, st, hb, h => by
  simp only [List.all_cons, Bool.and_eq_true, decide_eq_true_eq] at hb
  obtain ⟨o, ho⟩ : ∃ o, ops[i]? = some o := ⟨_, List.getElem?_eq_getElem hb.1⟩
  have ih := JC (ops := ops) (base := base) (K := K) rest
  have hp : Gt ops (i :: rest) = (i, OV ops o) :: Gt ops rest := by simp [Gt, ho]
  rw [hp] at h
  have ho' : ops.toArray[i]? = some o := by simpa using ho
  have step : Jx P A AE (st.at (base + i)) o.dst o.op ⟨Ds P A AE base ops.length K (Gt ops rest), ⟨⟩⟩ ->
    ∃ l e, CV P AE (st.at (base + i)) o.op l e /\ Hk P AE ops.toArray base (fun st' => K.f { st' with ctr := base + ops.length }) rest (apS st (base + i) o l e) := fun h => by
   obtain ⟨l, e, h1, h2⟩ := ZI (fun s c hk => by
    have := Qj (P := P) (A := A) (AE := AE) base ops.length K (Gt ops rest) s c
    simp only at hk ⊢
    rw [<- this]; exact hk) h (o := o) rfl
   refine ⟨l, e, h1, ih _ hb.2 ?_⟩
   have e1 : apS (st.at (base + i)) (st.at (base + i)).ctr o l e = (apS st (base + i) o l e).at (base + i) := by
    unfold apS St.at St.put
    cases o.dst <;> rfl
   simp only at h2
   rw [e1, Qj] at h2
   exact h2
  simp only [Hk, ho']
  simp only [OV] at h
  cases hg : o.guard with
  | none =>
   rw [hg] at h
   exact step h
  | some g =>
   obtain ⟨j, want⟩ := g
   rw [hg] at h
   simp only [Ds, SQ] at h
   unfold gM at h
   have sk : Ds P A AE base ops.length K (Gt ops rest) (st.put o.dst .und) -> Hk P AE ops.toArray base (fun st' => K.f { st' with ctr := base + ops.length }) rest (apS st (base + i) o .und .keep) := fun h => by
    have e1 : apS st (base + i) o .und .keep = st.put o.dst .und := rfl
    rw [e1]; exact ih _ hb.2 h
   simp only
   split at h
   .rename_i b e
    try simp only [e]
    exact ⟨fun hb => step (h.1 hb), fun hb => sk (h.2 hb)⟩
   .rename_i e
    try simp only [e]
    exact sk h
   exact h.elim
end
end Go.E
/- The equations by which a drawn region is reckoned. Written by a program (mkev.py). No condition. -/
namespace Go.E
open Go Go.RowKit
section
variable {P : Program}
theorem AA6 {h : Ag} {k : Nat} {args : List LV} {ds : List DV} {r : DV} {f : DV -> Prop} {hf : JQ f} (hds : Bz h args = some ds) (hF : A4 P k ds (· = r))
  (hs : r.scalar = true \/ args.flatMap (Eg h) = []) (hK : f r) : YJ P h k args ⟨f, hf⟩ := ⟨ds, r, hds, hF, hs, hK⟩
end
end Go.E
/- Functions that hand back a slice of their own: the caller may write into it. No condition. -/
namespace Go.E
open Go Go.RowKit
section
variable {P : Program} {A : BX} {AE : BG}
theorem Ef.own {h : Ag} {ctr k : Nat} {args : List LV} {ds : List DV} {e sz : Nat} {elems : List (List DV)} {K : LV -> Ag -> Nat -> Prop} (hds : Bz h args = some ds) (hf : Gn P k ds e sz elems)
  (hl : args.flatMap (Eg h) = []) (hK : K (.lsl ctr sz 0 elems.length) ((ctr, .row e sz elems) :: h) (ctr + 1)) : Ef P A h ctr k args K := by
 refine ⟨hf.enters, fun μ w vs hh hsz hr => ?_⟩
 obtain ⟨g1, g2⟩ := F4 hh (l := args.flatMap (Eg h)) hds (fun id hid => hid)
 rw [hl] at g2
 have hO : ∀ b, Au A μ h b -> b < w.heap.size := by
  rintro b (hb | ⟨id, x, lc, h1, h2, h3, rfl⟩)
  .exact Nat.lt_of_lt_of_le (A.hO b hb).1 hh.size
  exact (hh.base id x lc h1 h2 h3).1
 refine (hf.run (Au A μ h) w vs hO (by omega) fun i v d hv hd => ?_).mono fun en w' ⟨v, he, hn, hb⟩ => ?_
 .have hi := (List.getElem?_eq_some_iff.1 hd).1
  have hx : args[i]? = some (args[i]'(by omega)) := List.getElem?_eq_getElem _
  exact g2 i v _ d hx hd (hr i v _ hv hx)
 have hno : μ ctr = none := hh.fresh ctr (Nat.le_refl _)
 obtain ⟨hlen, hn⟩ := hn
 have hkm : Bh (CN μ h) w w' := ⟨hb.size, fun b hb' _ => hb.block b hb'⟩
 have hsub : ∀ id x, AL id ((ctr, BK.row e sz elems) :: h) = some x -> (id = ctr /\ x = .row e sz elems) \/ AL id h = some x := by
  intro id x hx
  simp only [AL] at hx
  split at hx
  .cases hx; exact .inl ⟨‹_›, rfl⟩
  exact .inr hx
 have hold : ∀ id x lc, AL id ((ctr, BK.row e sz elems) :: h) = some x -> id ≠ ctr -> μ id = some lc -> lc.nil = false -> w'.heap[lc.b]? = w.heap[lc.b]? := by
  intro id x lc hx hne hm hnl
  rcases hsub id x hx with ⟨rfl, _⟩ | hx
  .exact absurd rfl hne
  exact hb.block _ (hh.base id x lc hx hm hnl).1
 have fin : ∀ (loc : Bt), (loc.nil = false -> loc.b < w'.heap.size /\ w.heap.size <= loc.b) ->
   (∀ O' : Nat -> Prop, (∀ b, O' b -> Au A μ h b \/ (loc.nil = false /\ b = loc.b)) -> Dy O' (Bf μ ctr loc) w' loc (.row e sz elems)) ->
   (∀ O', Ar O' (Bf μ ctr loc) w' v (.lsl ctr sz 0 elems.length)) ->
   ∃ u l h' c' μ', en = .returned u /\ K l h' c' /\ HRel A μ' h' (Fr c') w' /\ Ar (Au A μ' h') μ' w' u l /\ ∀ v x, Ar (Au A μ h) μ w v x -> Ar (Au A μ' h') μ' w' v x := by
  intro loc hloc ho hu
  have hfr : PP μ h ((ctr, BK.row e sz elems) :: h) w loc := fun hn => .inl (hloc hn).2
  have hown := hh.sub_add loc (.row e sz elems) ((ctr, .row e sz elems) :: h) hfr hsub
  have hcov : ∀ b, Au A (Bf μ ctr loc) ((ctr, .row e sz elems) :: h) b -> Au A μ h b \/ (loc.nil = false /\ b = loc.b) := by
   rintro b (hb' | ⟨id, x, lc, h1, h2, h3, h4⟩)
   .exact .inl (.inl hb')
   by_cases e' : id = ctr
   .subst e'
    simp only [Bf, if_true, Option.some.injEq] at h2
    subst h2; exact .inr ⟨h3, h4.symm⟩
   rcases hsub id x h1 with ⟨e'', _⟩ | h1
   .exact absurd e'' e'
   simp only [Bf, e', if_false] at h2
   exact .inl (.inr ⟨id, x, lc, h1, h2, h3, h4⟩)
  have hadd := hh.add (w' := w') hno loc (.row e sz elems) ((ctr, .row e sz elems) :: h) (fun hn => (hloc hn).1) hfr hsub hkm hold hb.os hb.tape hb.output (ho _ hcov)
  exact ⟨v, _, _, _, _, he, hK, hadd.less (fun id hid => by simp only [Fr] at hid ⊢; omega), hu _, fun v x hv => hv.mono hkm.own hown (K1 hno loc)⟩
 rcases hn with ⟨rfl, rfl⟩ | ⟨a, b, o, cap, c, rfl, h1, h2, h3, h4, h5, h6, h7, h8, h9, h10⟩
 .exact fin ⟨true, 0, 0, sz, 0⟩ (fun hn => by cases hn) (fun O' _ => ⟨rfl, hlen, .inl ⟨rfl, rfl⟩⟩) (fun O' => .lsln ctr ⟨true, 0, 0, sz, 0⟩ (by simp [Bf]) rfl)
 refine fin ⟨false, b, o, sz, cap⟩ (fun _ => ⟨h2, h1⟩) (fun O' hO' => ⟨rfl, hlen, .inr ⟨rfl, c, h6, h7, h8, h9, fun i j x d u hx hd hu => ?_⟩⟩) (fun O' => ?_)
 .refine (h10 i j x d u hx hd hu).mono (Bh.refl _ _) fun q _ hq => ?_
  rcases hO' q hq with hq | ⟨_, hq⟩
  .exact .inl hq
  exact .inr hq
 exact .lsl ctr 0 elems.length cap a ⟨false, b, o, sz, cap⟩ (by simp [Bf]) rfl (by simp) h8 (fun hc => by rw [h3 hc]; simp) h4 h5
def WS (t e sz : Nat) (elems : List (List DV)) : Exit -> St -> Prop := NG fun st =>
 (∃ id, st.eval (.tmp t) = .lsl id sz 0 elems.length /\ AL id st.heap = some (.row e sz elems)) \/ (st.eval (.tmp t) = .p .nils /\ elems = [])
theorem ZJ {k : Nat} {fn : Func} {c : Code} (hf : P.funcs[k]? = some fn) (hb : fn.body = some c) (hn : (fn.name == "runtime.NumGoroutine") = false) (nt : Nat) (hnt : fn.ntmps = nt) (t : Nat) (hrs : fn.results.toList = [.tmp t]) {ds : List DV} (hlen : ds.length <= nt)
  {e sz : Nat} {elems : List (List DV)} (hel : ∀ x ∈ elems, x.length = sz)
  (h : ∀ A : BX, (∀ id, A.μ0 id = none) -> CM P A c (WS t e sz elems) ⟨nt, Dr 0 ds, [], 0⟩) : Gn P k ds e sz elems := by
 subst hnt
 refine ⟨OJ hf hb hn, fun O w vs hO hsz hrel => ?_⟩
 let A : BX := ⟨w, O, fun _ => False, fun _ => none, fun b hb => ⟨hO b hb, id⟩⟩
 have hR : R A ⟨fn.ntmps, Dr 0 ds, [], 0⟩ { tmps := vs ++ Array.replicate (fn.ntmps - vs.size) undef, defers := [] } w := by
  refine ⟨⟨fun _ => none, ⟨by simp [AL], by simp [AL], fun _ _ => rfl, by simp [AL], Nat.le_refl _, fun _ _ _ => rfl, rfl, rfl, rfl, by simp [A]⟩, fun t ht => ?_⟩, by simp; omega, rfl⟩
  have hown : ∀ b, Au A (fun _ => none) [] b -> O b := by
   rintro b (hb | ⟨id, x, lc, h1, _⟩)
   .exact hb
   simp [AL] at h1
  simp only [Bo, OL, Nat.zero_le, if_true, Nat.sub_zero]
  by_cases hlt : t < ds.length
  .have hv : t < vs.size := by omega
   have e : ds[t]? = some ds[t] := by simp [hlt]
   rw [e]
   simp only [Option.map_some]
   have e2 : (vs ++ Array.replicate (fn.ntmps - vs.size) undef).getD t undef = vs[t] := by
    rw [Array.getD_eq_getD_getElem?, Array.getElem?_append_left hv]; simp [hv]
   rw [e2]
   exact .p _ _ ((hrel t _ _ (by simp [hv]) e).mono (Bh.refl _ _) (fun b _ hb => hown b hb))
  have e : ds[t]? = none := by simp; omega
  rw [e]; exact .any _
 refine calls_of_wp hf hb (wp_mono (h A (fun _ => rfl) _ _ hR) ?_)
 rintro en a' w' ⟨st', ⟨⟨μ, hh, hs⟩, hnt, hdef⟩, hq⟩
 have hres : (results fn a'.tmps).run P w' = .ok (a'.eval (.tmp t)) w' := by
  have : (fn.results.toList.mapM (MQ P a'.tmps)).run P w' = .ok [a'.eval (.tmp t)] w' := by
   rw [hrs]; simp [List.mapM_cons, MQ, Act.eval]
  exact MS this
 have hbel : Below w.heap.size w w' := ⟨hh.os, hh.tape, hh.output, hh.size, fun b hb => hh.block b hb id⟩
 have fin : ((∃ id, st'.eval (.tmp t) = .lsl id sz 0 elems.length /\ AL id st'.heap = some (.row e sz elems)) \/ (st'.eval (.tmp t) = .p .nils /\ elems = [])) ->
   a'.defers = [] /\ ∃ v, (results fn a'.tmps).run P w' = .ok v w' /\ ∃ u, Ending.returned v = .returned u /\ LM w w' O u e sz elems /\ Below w.heap.size w w' := by
  intro hc
  refine ⟨hdef, _, hres, _, rfl, ?_, hbel⟩
  have hv := Ht hs (.tmp t)
  rcases hc with ⟨id, h1, h2⟩ | ⟨h1, rfl⟩
  .rw [h1] at hv
   generalize a'.eval (.tmp t) = v at hv
   obtain ⟨loc, m1, ⟨_, m2, m3⟩⟩ := hh.obj id _ h2
   refine ⟨hel, ?_⟩
   generalize hq0 : (0 : Nat) = off at hv
   generalize hq1 : elems.length = n at hv
   cases hv with
   | lsln _ loc' k1 k2 => exact .inl ⟨rfl, by cases elems <;> simp_all⟩
   | lsl _ _ _ cap ad loc' k1 k2 k3 k4 k5 k6 k7 =>
    subst hq0; subst hq1
    rw [m1] at k1; cases k1
    rcases m3 with ⟨m4, _⟩ | ⟨m4, c, m5, m6, m7, m8, m9⟩
    .rw [k2] at m4; cases m4
    have hbase := hh.base id _ loc h2 m1 k2
    refine .inr ⟨ad, loc.b, loc.o, cap, c, rfl, ?_, hbase.1, fun hc => by simpa using k5 hc, k6, k7, m5, by rw [show cap = loc.cap by omega]; exact m6, k4, by omega, fun i j x d u hx hd hu => ?_⟩
    .rcases hbase.2.2 with hb | hb
     .exact hb
     exact hb.elim
    refine (m9 i j x d u hx hd hu).mono (Bh.refl _ _) fun q _ hq => ?_
    rcases hq with hq | rfl
    .exact .inl hq
    exact .inr ⟨id, _, loc, h2, m1, k2, rfl⟩
  rw [h1] at hv
  exact ⟨by simp, .inl ⟨hv.nils_inv, rfl⟩⟩
 cases en with
 | normal => exact fin hq
 | ret => exact fin hq
 | _ => exact hq.elim
theorem AAb {h : Ag} {c k : Nat} {args : List LV} {ds : List DV} {e sz : Nat} {elems : List (List DV)} {f : LV × Ag × Nat -> Prop} {hf : JQ f} (hds : Bz h args = some ds) (hF : Gn P k ds e sz elems)
  (hs : args.flatMap (Eg h) = []) (hK : f (.lsl c sz 0 elems.length, (c, .row e sz elems) :: h, c + 1)) : KH P A h c k args ⟨f, hf⟩ :=
 Ef.own hds hF hs hK
end
end Go.E
/- Operations reckoned by unfolding alone (Gu, Gv, Gw): a run of operations of which each gives its value at once. No condition. -/
namespace Go.E
open Go Go.RowKit
def Bu {α : Type} (t : Nat) : List (Nat × α) -> Option α
 | [] => none
 | p :: l => match Nat.beq t p.1 with
  | true => some p.2
  | false => Bu t l
theorem Bn {α : Type} {t : Nat} : ∀ {l : List (Nat × α)}, Bu t l = AL t l
 | [] => rfl
 | (k, v) :: l => by
  simp only [Bu, AL]
  by_cases h : t = k
  .subst h; simp
  rw [if_neg h]
  have : Nat.beq t k = false := by
   cases hb : Nat.beq t k with
   | false => rfl
   | true => exact absurd (Nat.eq_of_beq_eq_true hb) h
  rw [this]
  exact Bn
def BM (nt : Nat) (sl : List (Nat × LV)) (x : Operand) : LV :=
 match x with
 | .tmp t => match Nat.blt t nt with
  | true => match Bu t sl with
   | some v => v
   | none => .any
  | false => .any
 | .const v => PS v
 | .func f => .fn f []
 | .global _ => .any
theorem BV {nt : Nat} {sl : List (Nat × LV)} {h : Ag} {c : Nat} {x : Operand} : BM nt sl x = (⟨nt, sl, h, c⟩ : St).eval x := by
 cases x with
 | tmp t =>
  simp only [BM, St.eval, Bo, Bn]
  by_cases hb : t < nt
  .rw [if_pos hb]
   have : Nat.blt t nt = true := Nat.ble_eq_true_of_le hb
   rw [this]; rfl
  rw [if_neg hb]
  have : Nat.blt t nt = false := by
   cases hq : Nat.blt t nt with
   | false => rfl
   | true => exact absurd (Nat.le_of_ble_eq_true hq) hb
  rw [this]
 | const v => rfl
 | func f => rfl
 | global g => rfl
section
variable {α β γ : Type}
def FY : List α -> Nat -> List α
 | l, 0 => l
 | [], _ + 1 => []
 | _ :: l, n + 1 => FY l n
theorem J7 : ∀ {l : List α} {n : Nat}, FY l n = l.drop n
 | l, 0 => by simp [FY]
 | [], _ + 1 => by simp [FY]
 | _ :: l, n + 1 => by simp only [FY, List.drop_succ_cons]; exact J7
def K4 : List α -> Nat -> (List α -> Option β) -> Option β
 | _, 0, k => k []
 | x :: l, n + 1, k => K4 l n (fun r => k (x :: r))
 | [], _ + 1, _ => none
theorem P9 : ∀ {l : List α} {n : Nat} {k : List α -> Option β}, K4 l n k = (EG l n).bind k
 | _, 0, k => by simp [K4, EG]
 | x :: l, n + 1, k => by
  simp only [K4, EG]
  rw [P9]
  cases EG l n <;> rfl
 | [], _ + 1, _ => by simp [K4, EG]
def Ro : List LV -> (List DV -> Option β) -> Option β -> Option β
 | [], k, _ => k []
 | .p d :: l, k, e => Ro l (fun ds => k (d :: ds)) e
 | _ :: _, _, e => e
theorem Rp : ∀ {l : List LV} {k : List DV -> Option β} {e : Option β}, Ro l k e = match Hw l with | some ds => k ds | none => e
 | [], k, e => by simp [Ro, Hw]
 | x :: l, k, e => by
  cases x with
  | p d =>
   simp only [Ro, Hw]
   rw [Rp]
   cases Hw l <;> rfl
  | _ => rfl
def Rq (l : List LV) (k : LV -> Option β) : Option β := Ro l (fun ds => k (.p (.agg ds))) (k (.agg l))
theorem Rr {l : List LV} {k : LV -> Option β} : Rq l k = k (GD l) := by
 unfold Rq GD
 rw [Rp]
 cases Hw l <;> rfl
def TV (ti : TI) (off : Nat) (l : List LV) (k : LV -> Option β) : Option β :=
 match ti.sh with
 | .struct _ | .arr _ _ => K4 (FY l off) ti.size (fun r => Rq r k)
 | _ => match FY l off with
  | v :: _ => k v
  | [] => none
theorem T0 {ti : TI} {off : Nat} {l : List LV} {k : LV -> Option β} : TV ti off l k = (Dj ti off l).bind k := by
 have hd : (match FY l off with
  | v :: _ => k v
  | [] => none) = l[off]?.bind k := by
  rw [J7]
  cases hq : l.drop off with
  | nil => simp at hq; simp [List.getElem?_eq_none hq]
  | cons v r =>
   have : l[off]? = some v := by
    have := congrArg (·[0]?) hq
    simpa [List.getElem?_drop] using this
   simp [this]
 have ha : K4 (FY l off) ti.size (fun r => Rq r k) = ((EG (l.drop off) ti.size).map GD).bind k := by
  rw [P9, J7]
  cases EG (l.drop off) ti.size with
  | none => rfl
  | some r => simp [Rr]
 unfold TV Dj
 cases hsh : ti.sh <;> simp only [Sh.isAgg] <;> first | exact ha | exact hd
def Qk (ti : TI) (off : Nat) (l : List DV) (k : LV -> Option β) : Option β :=
 match ti.sh with
 | .struct _ | .arr _ _ => K4 (FY l off) ti.size (fun r => k (.p (.agg r)))
 | _ => match FY l off with
  | v :: _ => k (.p v)
  | [] => none
theorem SR {f : α -> γ} : ∀ {l : List α} {n : Nat}, EG (l.map f) n = (EG l n).map (List.map f)
 | _, 0 => by simp [EG]
 | x :: l, n + 1 => by
  simp only [List.map_cons, EG]
  rw [SR]
  cases EG l n <;> rfl
 | [], _ + 1 => by simp [EG]
theorem XS {l : List DV} : GD (l.map .p) = .p (.agg l) := by simp [GD, Tw]
theorem QA {ti : TI} {off : Nat} {l : List DV} {k : LV -> Option β} : Qk ti off l k = (Dj ti off (l.map .p)).bind k := by
 have hd : (match FY l off with
  | v :: _ => k (.p v)
  | [] => none) = (l.map LV.p)[off]?.bind k := by
  rw [J7, List.getElem?_map]
  cases hq : l.drop off with
  | nil => simp at hq; simp [List.getElem?_eq_none hq]
  | cons v r =>
   have : l[off]? = some v := by
    have := congrArg (·[0]?) hq
    simpa [List.getElem?_drop] using this
   simp [this]
 have ha : K4 (FY l off) ti.size (fun r => k (.p (.agg r))) = ((EG ((l.map LV.p).drop off) ti.size).map GD).bind k := by
  rw [P9, J7, <- List.map_drop, SR]
  cases EG (l.drop off) ti.size with
  | none => rfl
  | some r => simp [XS]
 unfold Qk Dj
 cases hsh : ti.sh <;> simp only [Sh.isAgg] <;> first | exact ha | exact hd
def NV : List DV -> (List LV -> Option β) -> Option β
 | [], k => k []
 | d :: l, k => NV l (fun r => k (.p d :: r))
theorem LY : ∀ {l : List DV} {k : List LV -> Option β}, NV l k = k (l.map .p)
 | [], k => rfl
 | d :: l, k => by simp only [NV, List.map_cons]; rw [LY]
def LZ (v : LV) (k : List LV -> Option β) : Option β :=
 match v with
 | .p (.agg l) => NV l k
 | .agg l => k l
 | .p (.tup _) | .tup _ | .any | .und => none
 | v => k [v]
theorem Kf {v : LV} {k : List LV -> Option β} : LZ v k = v.cells.bind k := by
 cases v with
 | p d => cases d <;> first | rfl | (simp only [LZ, LV.cells]; rw [LY]; rfl)
 | _ => rfl
def PU : List LV -> List LV -> (List LV -> Option β) -> Option β
 | l, [], k => k l
 | [], _ :: _, _ => none
 | _ :: l, v :: vs, k => PU l vs (fun r => k (v :: r))
def QB : List LV -> Nat -> List LV -> (List LV -> Option β) -> Option β
 | l, 0, vs, k => PU l vs k
 | [], _ + 1, _, _ => none
 | x :: l, n + 1, vs, k => QB l n vs (fun r => k (x :: r))
theorem T1 : ∀ {l vs : List LV} {k : List LV -> Option β} {y : β}, PU l vs k = some y -> vs.length <= l.length /\ k (DA.over l vs) = some y
 | l, [], k, y, h => by simp only [PU] at h; exact ⟨by simp, by simpa [DA.over] using h⟩
 | [], _ :: _, _, _, h => by simp [PU] at h
 | _ :: l, v :: vs, k, y, h => by
  simp only [PU] at h
  obtain ⟨h1, h2⟩ := T1 h
  exact ⟨by simpa using h1, h2⟩
theorem Rs : ∀ {l : List LV} {n : Nat} {vs : List LV} {k : List LV -> Option β} {y : β}, QB l n vs k = some y -> n + vs.length <= l.length /\ k (DA l n vs) = some y
 | l, 0, vs, k, y, h => by
  obtain ⟨h1, h2⟩ := T1 (by simpa only [QB] using h)
  cases l <;> exact ⟨by simpa using h1, h2⟩
 | [], _ + 1, _, _, _, h => by simp [QB] at h
 | x :: l, n + 1, vs, k, y, h => by
  simp only [QB] at h
  obtain ⟨h1, h2⟩ := Rs h
  exact ⟨by simp only [List.length_cons]; omega, h2⟩
def MW (t : Nat) (v : BK) : Ag -> (Ag -> Option β) -> Option β
 | [], k => k []
 | (q, u) :: l, k => match Nat.beq t q with
  | true => k ((q, v) :: l)
  | false => MW t v l (fun r => k ((q, u) :: r))
theorem JD {t : Nat} {v : BK} : ∀ {l : Ag} {k : Ag -> Option β}, MW t v l k = k (B3 t v l)
 | [], k => rfl
 | (q, u) :: l, k => by
  simp only [MW, B3]
  by_cases h : t = q
  .subst h; simp
  have : Nat.beq t q = false := by
   cases hb : Nat.beq t q with
   | false => rfl
   | true => exact absurd (Nat.eq_of_beq_eq_true hb) h
  rw [this, if_neg h]
  exact JD
def OY : List LV -> Bool
 | [] => true
 | v :: l => match v.one with
  | true => OY l
  | false => false
theorem OZ : ∀ {l : List LV}, OY l = l.all LV.one
 | [] => rfl
 | v :: l => by
  simp only [OY, List.all_cons]
  cases v.one with
  | true => rw [OZ]; rfl
  | false => rfl
def Ql (sz : Nat) : Nat -> List (Nat × LV) -> (List (List DV) -> Option β) -> Option β
 | _, [], k => k []
 | n, p :: rest, k => match Nat.beq p.1 n with
  | true => LZ p.2 fun ls => Ro ls (fun ds => match Nat.beq ds.length sz with
   | true => Ql sz (n + 1) rest (fun r => k (ds :: r))
   | false => none) none
  | false => none
theorem SS {sz : Nat} : ∀ {ps : List (Nat × LV)} {n : Nat} {k : List (List DV) -> Option β} {y : β}, Ql sz n ps k = some y -> ∃ l, Hr sz n ps = some l /\ k l = some y
 | [], n, k, y, h => ⟨[], by simp [Hr], h⟩
 | (i, v) :: rest, n, k, y, h => by
  simp only [Ql] at h
  split at h
  .rename_i hb
   have hi : i = n := Nat.eq_of_beq_eq_true hb
   subst hi
   rw [Kf] at h
   cases hc : v.cells with
   | none => rw [hc] at h; simp at h
   | some ls =>
    rw [hc] at h
    simp only [Option.bind_some] at h
    rw [Rp] at h
    cases ha : Hw ls with
    | none => rw [ha] at h; simp at h
    | some ds =>
     rw [ha] at h
     simp only at h
     split at h
     .rename_i hl
      obtain ⟨r, h1, h2⟩ := SS h
      refine ⟨ds :: r, ?_, h2⟩
      simp only [Hr, if_true, hc, ha, h1]
      rw [if_pos (Nat.eq_of_beq_eq_true hl)]
     cases h
  cases h
def Rt (v : LV) (k : LV -> Option β) : Option β :=
 match v with
 | .p d => k (.p d)
 | .lsl a b c d => k (.lsl a b c d)
 | .lpb a b => k (.lpb a b)
 | .lpe a b c => k (.lpe a b c)
 | .lmap a => k (.lmap a)
 | .agg l => k (.agg l)
 | .tup l => k (.tup l)
 | .fn g l => k (.fn g l)
 | .und => k .und
 | .any => k .any
theorem Mv {v : LV} {k : LV -> Option β} : Rt v k = k v := by cases v <;> rfl
def PV (nt : Nat) (sl : List (Nat × LV)) : List (Nat × Operand) -> (List (Nat × LV) -> Option β) -> Option β
 | [], k => k []
 | (i, x) :: l, k => Rt (BM nt sl x) fun v => PV nt sl l (fun r => k ((i, v) :: r))
theorem NW {nt : Nat} {sl : List (Nat × LV)} : ∀ {l : List (Nat × Operand)} {k : List (Nat × LV) -> Option β}, PV nt sl l k = k (l.map fun p => (p.1, BM nt sl p.2))
 | [], k => rfl
 | (i, x) :: l, k => by simp only [PV, List.map_cons]; rw [Mv, NW]
def FF (nt : Nat) (sl : List (Nat × LV)) : List Operand -> (List LV -> Option β) -> Option β
 | [], k => k []
 | p :: l, k => Rt (BM nt sl p) fun v => FF nt sl l (fun r => k (v :: r))
theorem Kg {nt : Nat} {sl : List (Nat × LV)} : ∀ {l : List Operand} {k : List LV -> Option β}, FF nt sl l k = k (l.map fun p => BM nt sl p)
 | [], k => rfl
 | p :: l, k => by simp only [FF, List.map_cons]; rw [Mv, Kg]
def Oa (AE : BG) (pl : Nat -> Option (Nat × Nat)) : List LV -> List (Nat × LV) -> (List LV -> Option β) -> Option β
 | cells, [], k => k cells
 | cells, (i, v) :: rest, k => match pl i with
  | some (o, ft) => match AE.tt ft with
   | some ti => LZ v fun ls => match Nat.beq ls.length ti.size with
    | true => QB cells o ls fun cells' => Oa AE pl cells' rest k
    | false => none
   | none => none
  | none => none
theorem Ob {AE : BG} {pl : Nat -> Option (Nat × Nat)} : ∀ {ps : List (Nat × LV)} {cells : List LV} {k : List LV -> Option β} {y : β}, Oa AE pl cells ps k = some y ->
  ∃ l, k l = some y /\ ∀ K : BD (List LV), K.f l -> LQ AE pl cells ps K
 | [], cells, k, y, h => ⟨cells, h, fun _ => id⟩
 | (i, v) :: rest, cells, k, y, h => by
  simp only [Oa] at h
  split at h
  .rename_i o ft hq
   split at h
   .rename_i ti hti
    rw [Kf] at h
    cases hc : v.cells with
    | none => rw [hc] at h; simp at h
    | some ls =>
     rw [hc] at h
     simp only [Option.bind_some] at h
     split at h
     .rename_i hl
      obtain ⟨h1, h2⟩ := Rs h
      obtain ⟨l, h3, h4⟩ := Ob h2
      refine ⟨l, h3, fun K hk => ?_⟩
      simp only [LQ]
      exact Ac.2 ⟨(o, ft), hq, Ae.2 ⟨ti, hti, Ac.2 ⟨ls, hc, ⟨Nat.eq_of_beq_eq_true hl, h1⟩, h4 K hk⟩⟩⟩
     cases h
   cases h
  cases h
def TW (AE : BG) : List (Nat × Nat) -> Bool
 | [] => true
 | p :: l => match AE.tt p.2 with
  | some _ => TW AE l
  | none => false
theorem T2 {AE : BG} : ∀ {l : List (Nat × Nat)}, TW AE l = l.all fun p => (AE.tt p.2).isSome
 | [] => rfl
 | p :: l => by
  simp only [TW, List.all_cons]
  cases AE.tt p.2 with
  | some _ => simp [T2]
  | none => simp
def YL (op : BinOp) (kk : IntKind) (a b : Int) (k : LV -> Option β) : Option β :=
 match op with
 | .add => k (.p (.int kk (kk.wrap (a + b))))
 | .sub => k (.p (.int kk (kk.wrap (a - b))))
 | .mul => k (.p (.int kk (kk.wrap (a * b))))
 | .eql => k (.p (.bool (a == b)))
 | .neq => k (.p (.bool (a != b)))
 | .lss => k (.p (.bool (decide (a < b))))
 | .leq => k (.p (.bool (decide (a <= b))))
 | .gtr => k (.p (.bool (decide (b < a))))
 | .geq => k (.p (.bool (decide (b <= a))))
 | .xor => k (.p (.int kk (kk.wrap (BitVec.ofInt kk.bits a ^^^ BitVec.ofInt kk.bits b).toNat)))
 | .or => k (.p (.int kk (kk.wrap (BitVec.ofInt kk.bits a ||| BitVec.ofInt kk.bits b).toNat)))
 | _ => none
def Ru (AE : BG) (t : Nat) : Bool :=
 match AE.tt t with
 | some ti => match ti.sh with
  | .bool => true
  | _ => false
 | none => false
def Oc : IntKind -> IntKind -> Bool
 | .i8, .i8 | .i16, .i16 | .i32, .i32 | .i64, .i64 | .u8, .u8 | .u16, .u16 | .u32, .u32 | .u64, .u64 => true
 | _, _ => false
theorem Od {a b : IntKind} (h : Oc a b = true) : a = b := by cases a <;> cases b <;> first | rfl | simp [Oc] at h
def YM (AE : BG) (op : BinOp) (t : Nat) (x y : LV) (k : LV -> Option β) : Option β :=
 match x, y with
 | .p (.int k1 a), .p (.int k2 b) => match Oc k1 k2 with
  | true => YL op k1 a b k
  | false => none
 | .p (.str a), .p (.str b) => match op with
  | .eql => k (.p (.bool (a.toList == b.toList)))
  | .neq => k (.p (.bool (!(a.toList == b.toList))))
  | _ => none
 | .p (.bool a), .p (.bool b) => match Ru AE t with
  | true => match op with
   | .eql => k (.p (.bool (a == b)))
   | .neq => k (.p (.bool (!(a == b))))
   | _ => none
  | false => none
 | .p (.place _ _), .p .nilp => match AE.ptr t with
  | true => match op with
   | .eql => k (.p (.bool false))
   | .neq => k (.p (.bool true))
   | _ => none
  | false => none
 | .lpb _ _, .p .nilp => match AE.ptr t with
  | true => match op with
   | .eql => k (.p (.bool false))
   | .neq => k (.p (.bool true))
   | _ => none
  | false => none
 | .p .nilp, .p .nilp => match AE.ptr t with
  | true => match op with
   | .eql => k (.p (.bool true))
   | .neq => k (.p (.bool false))
   | _ => none
  | false => none
 | _, _ => none
def YN (off : Nat) (x : LV) (k : LV -> Option β) : Option β :=
 match x with
 | .lpb id o => k (.lpb id (o + off))
 | .lpe id j o => k (.lpe id j (o + off))
 | .p (.place l o) => k (.p (.place l (o + off)))
 | _ => none
def T3 : IntKind -> Int -> List LV -> (Int -> Option β) -> Option β
 | _, n, [], k => k n
 | kk, n, .p (.int j m) :: rest, k => match Oc j kk with
  | true => T3 kk (if m > n then m else n) rest k
  | false => none
 | _, _, _ :: _, _ => none
def T4 : IntKind -> Int -> List LV -> (Int -> Option β) -> Option β
 | _, n, [], k => k n
 | kk, n, .p (.int j m) :: rest, k => match Oc j kk with
  | true => T4 kk (if m < n then m else n) rest k
  | false => none
 | _, _, _ :: _, _ => none
def Gu (AE : BG) (nt : Nat) (sl : List (Nat × LV)) (h : Ag) (c : Nat) (op : Op) (k : LV -> Ag -> Nat -> Option β) : Option β :=
  match op with
  | .move x | .assign x => Rt (BM nt sl x) fun v => k v h c
  | .pick b x y => match BM nt sl b with
    | .p (.bool b) => match b with
      | true => Rt (BM nt sl x) fun v => k v h c
      | false => Rt (BM nt sl y) fun v => k v h c
    | _ => none
  | .nilCheck x => match BM nt sl x with
    | .lpb i o => k (.lpb i o) h c
    | .lpe i j o => k (.lpe i j o) h c
    | .p (.place l o) => k (.p (.place l o)) h c
    | _ => none
  | .binOp op t x y _ => YM AE op t (BM nt sl x) (BM nt sl y) fun l => k l h c
  | .unOp op _ x => match op with
    | .not => match BM nt sl x with
      | .p (.bool b) => k (.p (.bool !b)) h c
      | _ => none
    | .neg => match BM nt sl x with
      | .p (.int kk n) => k (.p (.int kk (kk.wrap (0 - n)))) h c
      | _ => none
    | _ => none
  | .convert s d x => match BM nt sl x with
    | .p (.int _ n) => match AE.tt s with
      | some _ => match AE.tt d with
        | some ti => match ti.sh with
          | .int kd => k (.p (.int kd (kd.wrap n))) h c
          | _ => none
        | none => none
      | none => none
    | _ => none
  | .extract t i => match BM nt sl t with
    | .tup l => match FY l i with
      | v :: _ => k v h c
      | [] => none
    | .p (.tup l) => match FY l i with
      | v :: _ => k (.p v) h c
      | [] => none
    | _ => none
  | .field t x i => match AE.tt t with
    | some ti => match ti.sh with
      | .struct fs => match FY fs i with
        | (o, ft) :: _ => match AE.tt ft with
          | some tf => match BM nt sl x with
            | .agg ls => TV tf o ls fun l => k l h c
            | .p (.agg ds) => Qk tf o ds fun l => k l h c
            | _ => none
          | none => none
        | [] => none
      | _ => none
    | none => none
  | .build t ps => match AE.tt t with
    | some ti => match ti.sh with
      | .struct fs => match TW AE fs with
        | true => NV ti.zero fun z => PV nt sl ps.toList fun ps' => Oa AE (fun i => fs[i]?) z ps' fun cells => Rq cells fun l => k l h c
        | false => none
      | .arr _ e => match AE.tt e with
        | some te => NV ti.zero fun z => PV nt sl ps.toList fun ps' => Oa AE (fun i => some (i * te.size, e)) z ps' fun cells => Rq cells fun l => k l h c
        | none => none
      | _ => none
    | none => none
  | .fieldAddr t x i => match AE.tt t with
    | some ti => match ti.sh with
      | .struct fs => match FY fs i with
        | (o, ft) :: _ => match AE.tt ft with
          | some tf => match Nat.blt 0 tf.size with
            | true => YN o (BM nt sl x) fun l => k l h c
            | false => none
          | none => none
        | [] => none
      | _ => none
    | none => none
  | .makeFunc (.func f) first caps => match first.toList with
    | [] => FF nt sl caps.toList fun l => k (.fn f l) h c
    | _ => none
  | .load t x => match Mp AE.calm (BM nt sl x) with
   | false => none
   | true => match AE.tt t with
    | some ti => match BM nt sl x with
      | .p (.place l off) => Qk ti off l fun v => k v h c
      | .lpb id off => match Bu id h with
        | some (.box cells) => TV ti off cells fun v => k v h c
        | _ => none
      | _ => none
    | none => none
  | .store t x v => match LN AE.calm (BM nt sl x) with
   | false => none
   | true => match AE.tt t with
    | some ti => match BM nt sl x with
      | .lpb id off => LZ (BM nt sl v) fun ls => match Nat.beq ls.length ti.size with
        | true => match OY ls with
          | true => match Bu id h with
            | some (.box cells) => QB cells off ls fun cells' => MW id (.box cells') h fun h' => k .any h' c
            | _ => none
          | false => none
        | false => none
      | _ => none
    | none => none
  | .alloc t => match AE.tt t with
    | some ti => NV ti.zero fun z => k (.lpb c 0) ((c, .box z) :: h) (c + 1)
    | none => none
  | .box _ x => LZ (BM nt sl x) fun ls => k (.lpb c 0) ((c, .box ls) :: h) (c + 1)
  | .buildSlice t n ps => match AE.tt t with
    | some ti => match ti.sh with
      | .slc e => match AE.tt e with
        | some te => match Nat.blt 0 te.size && Nat.ble (n * te.size) 16777216 with
          | true => PV nt sl ps.toList fun ps' => Ql te.size 0 ps' fun l => match Nat.beq l.length n with
            | true => k (.lsl c te.size 0 n) ((c, .row e te.size l) :: h) (c + 1)
            | false => none
          | false => none
        | none => none
      | _ => none
    | none => none
  | .makeMap _ none => k (.lmap c) ((c, .map []) :: h) (c + 1)
  | .call ⟨.builtin .len, args, ts⟩ => match args.toList, ts.toList with
    | [x], [t] => match AE.tt t with
      | some ti => match ti.sh, BM nt sl x with
        | .arr n _, _ => k (.p (.int .i64 n)) h c
        | .slc _, .p .nils => k (.p (.int .i64 0)) h c
        | .slc _, .lsl _ _ _ len => k (.p (.int .i64 len)) h c
        | .str, .p (.str s) => k (.p (.int .i64 s.size)) h c
        | _, _ => none
      | none => none
    | _, _ => none
  | .call ⟨.builtin .max, args, _⟩ => FF nt sl args.toList fun l => match l with
    | .p (.int kk n) :: rest => T3 kk n rest fun m => k (.p (.int kk m)) h c
    | _ => none
  | .call ⟨.builtin .min, args, _⟩ => FF nt sl args.toList fun l => match l with
    | .p (.int kk n) :: rest => T4 kk n rest fun m => k (.p (.int kk m)) h c
    | _ => none
  | _ => none
end
end Go.E
/- Operations reckoned by unfolding alone: they are sound (Ii); runs of operations (Gv, Gw). No condition. -/
namespace Go.E
open Go Go.RowKit
section
variable {β : Type} {AE : BG} {nt : Nat} {sl : List (Nat × LV)} {hp : Ag} {c : Nat}
theorem ZL {op : BinOp} {kk : IntKind} {a b : Int} {k : LV -> Option β} {y : β} (h : YL op kk a b k = some y) : ∃ l, k l = some y /\ ∀ K : BD LV, K.f l -> Mu op kk a b K := by
 cases op <;> simp only [YL] at h <;> first | cases h | exact ⟨_, h, fun K hk => hk⟩
theorem WU {t : Nat} (h : Ru AE t = true) : ∃ ti, AE.tt t = some ti /\ ti.sh = .bool := by
 unfold Ru at h
 split at h
 .rename_i ti hti
  split at h
  .exact ⟨ti, hti, ‹_›⟩
  cases h
 cases h
theorem ZM {op : BinOp} {t : Nat} {x y : LV} {k : LV -> Option β} {z : β} (h : YM AE op t x y k = some z) : ∃ l, k l = some z /\ ∀ K : BD LV, K.f l -> Rk AE op t x y K /\ Rn AE op t x y K := by
 unfold YM at h
 split at h
 .rename_i k1 a k2 b
  split at h
  .rename_i hk
   have := Od hk
   subst this
   obtain ⟨l, h1, h2⟩ := ZL h
   exact ⟨l, h1, fun K hk => ⟨⟨rfl, h2 K hk⟩, ⟨rfl, h2 K hk⟩⟩⟩
  cases h
 .rename_i a b
  split at h
  .exact ⟨_, h, fun K hk => ⟨hk, hk⟩⟩
  .exact ⟨_, h, fun K hk => ⟨hk, hk⟩⟩
  cases h
 .rename_i a b
  split at h
  .rename_i hb
   obtain ⟨ti, hti, hsh⟩ := WU hb
   split at h
   .exact ⟨_, h, fun K hk => ⟨Ae.2 ⟨ti, hti, hsh, hk⟩, Ae.2 ⟨ti, hti, hsh, hk⟩⟩⟩
   .exact ⟨_, h, fun K hk => ⟨Ae.2 ⟨ti, hti, hsh, hk⟩, Ae.2 ⟨ti, hti, hsh, hk⟩⟩⟩
   cases h
  cases h
 .split at h
  .rename_i hb
   split at h
   .exact ⟨_, h, fun K hk => ⟨⟨hb, hk⟩, ⟨hb, hk⟩⟩⟩
   .exact ⟨_, h, fun K hk => ⟨⟨hb, hk⟩, ⟨hb, hk⟩⟩⟩
   cases h
  cases h
 .split at h
  .rename_i hb
   split at h
   .exact ⟨_, h, fun K hk => ⟨⟨hb, hk⟩, ⟨hb, hk⟩⟩⟩
   .exact ⟨_, h, fun K hk => ⟨⟨hb, hk⟩, ⟨hb, hk⟩⟩⟩
   cases h
  cases h
 .split at h
  .rename_i hb
   split at h
   .exact ⟨_, h, fun K hk => ⟨⟨hb, hk⟩, ⟨hb, hk⟩⟩⟩
   .exact ⟨_, h, fun K hk => ⟨⟨hb, hk⟩, ⟨hb, hk⟩⟩⟩
   cases h
  cases h
 cases h
theorem ZN {off : Nat} {x : LV} {k : LV -> Option β} {y : β} (h : YN off x k = some y) : ∃ l, k l = some y /\ ∀ K : BD LV, K.f l -> WL off x K := by
 unfold YN at h
 split at h
 .exact ⟨_, h, fun K hk => hk⟩
 .exact ⟨_, h, fun K hk => hk⟩
 .exact ⟨_, h, fun K hk => hk⟩
 cases h
theorem JT {α : Type} {l r : List α} {n : Nat} {x : α} (h : FY l n = x :: r) : l[n]? = some x := by
 rw [J7] at h
 have := congrArg (·[0]?) h
 simpa [List.getElem?_drop] using this
theorem Vm {kk : IntKind} : ∀ {l : List LV} {n : Int} {k : Int -> Option β} {y : β}, T3 kk n l k = some y -> ∃ m, k m = some y /\ B6.go (fun x y => if y > x then y else x) kk n l = some m
 | [], n, k, y, h => ⟨n, h, rfl⟩
 | .p (.int j m) :: rest, n, k, y, h => by
  simp only [T3] at h
  split at h
  .rename_i hj
   have := Od hj
   subst this
   obtain ⟨r, h1, h2⟩ := Vm h
   exact ⟨r, h1, by simp only [B6.go, if_true]; exact h2⟩
  cases h
 | .p .nils :: _, _, _, _, h | .p .nilp :: _, _, _, _, h | .p .nilm :: _, _, _, _, h | .p (.bool _) :: _, _, _, _, h | .p (.str _) :: _, _, _, _, h | .p (.agg _) :: _, _, _, _, h | .p (.tup _) :: _, _, _, _, h
 | .p (.slice _ _) :: _, _, _, _, h | .p (.place _ _) :: _, _, _, _, h | .p (.map _) :: _, _, _, _, h | .lsl .. :: _, _, _, _, h | .lpb .. :: _, _, _, _, h | .lpe .. :: _, _, _, _, h | .lmap _ :: _, _, _, _, h | .p (.fn _ _) :: _, _, _, _, h
 | .agg _ :: _, _, _, _, h | .tup _ :: _, _, _, _, h | .fn .. :: _, _, _, _, h | .und :: _, _, _, _, h | .any :: _, _, _, _, h => by simp [T3] at h
theorem Vn {kk : IntKind} : ∀ {l : List LV} {n : Int} {k : Int -> Option β} {y : β}, T4 kk n l k = some y -> ∃ m, k m = some y /\ B6.go (fun x y => if y < x then y else x) kk n l = some m
 | [], n, k, y, h => ⟨n, h, rfl⟩
 | .p (.int j m) :: rest, n, k, y, h => by
  simp only [T4] at h
  split at h
  .rename_i hj
   have := Od hj
   subst this
   obtain ⟨r, h1, h2⟩ := Vn h
   exact ⟨r, h1, by simp only [B6.go, if_true]; exact h2⟩
  cases h
 | .p .nils :: _, _, _, _, h | .p .nilp :: _, _, _, _, h | .p .nilm :: _, _, _, _, h | .p (.bool _) :: _, _, _, _, h | .p (.str _) :: _, _, _, _, h | .p (.agg _) :: _, _, _, _, h | .p (.tup _) :: _, _, _, _, h
 | .p (.slice _ _) :: _, _, _, _, h | .p (.place _ _) :: _, _, _, _, h | .p (.map _) :: _, _, _, _, h | .lsl .. :: _, _, _, _, h | .lpb .. :: _, _, _, _, h | .lpe .. :: _, _, _, _, h | .lmap _ :: _, _, _, _, h | .p (.fn _ _) :: _, _, _, _, h
 | .agg _ :: _, _, _, _, h | .tup _ :: _, _, _, _, h | .fn .. :: _, _, _, _, h | .und :: _, _, _, _, h | .any :: _, _, _, _, h => by simp [T4] at h
def XT (AE : BG) (st : St) (op : Op) (l : LV) (h' : Ag) (c' : Nat) : Prop :=
 ∀ (P : Program) (A : BX) (dst : Option Tmp) (K : BD St), K.f (st.go dst l h' c') -> BQ P A AE st dst op K /\ Jx P A AE st dst op K
theorem Ii {op : Op} {k : LV -> Ag -> Nat -> Option β} {y : β} (h : Gu AE nt sl hp c op k = some y) : ∃ l h' c', k l h' c' = some y /\ XT AE ⟨nt, sl, hp, c⟩ op l h' c' := by
 have hev : ∀ x, BM nt sl x = (⟨nt, sl, hp, c⟩ : St).eval x := fun x => BV
 cases op <;> simp only [Gu] at h <;> try (cases h; done)
 case move x => rw [Mv] at h; exact ⟨_, _, _, h, fun P A dst K hk => by rw [hev] at hk; exact ⟨hk, hk⟩⟩
 case assign x => rw [Mv] at h; exact ⟨_, _, _, h, fun P A dst K hk => by rw [hev] at hk; exact ⟨hk, hk⟩⟩
 case pick b x z =>
  split at h
  .rename_i b' hb
   rw [hev] at hb
   simp only [Mv] at h
   split at h
   .exact ⟨_, _, _, h, fun P A dst K hk => by
     rw [hev] at hk
     have : BQ P A AE ⟨nt, sl, hp, c⟩ dst (.pick b x z) K := by simp only [BQ]; rw [hb]; exact hk
     exact ⟨this, this⟩⟩
   exact ⟨_, _, _, h, fun P A dst K hk => by
    rw [hev] at hk
    have : BQ P A AE ⟨nt, sl, hp, c⟩ dst (.pick b x z) K := by simp only [BQ]; rw [hb]; exact hk
    exact ⟨this, this⟩⟩
  cases h
 case nilCheck x =>
  split at h
  .rename_i hx; rw [hev] at hx
   exact ⟨_, _, _, h, fun P A dst K hk => by
    have : BQ P A AE ⟨nt, sl, hp, c⟩ dst (.nilCheck x) K := by simp only [BQ]; rw [hx]; exact hk
    exact ⟨this, this⟩⟩
  .rename_i hx; rw [hev] at hx
   exact ⟨_, _, _, h, fun P A dst K hk => by
    have : BQ P A AE ⟨nt, sl, hp, c⟩ dst (.nilCheck x) K := by simp only [BQ]; rw [hx]; exact hk
    exact ⟨this, this⟩⟩
  .rename_i hx; rw [hev] at hx
   exact ⟨_, _, _, h, fun P A dst K hk => by
    have : BQ P A AE ⟨nt, sl, hp, c⟩ dst (.nilCheck x) K := by simp only [BQ]; rw [hx]; exact hk
    exact ⟨this, this⟩⟩
  cases h
 case binOp op t x z w =>
  obtain ⟨l, h1, h2⟩ := ZM h
  refine ⟨l, _, _, h1, fun P A dst K hk => ?_⟩
  rw [hev, hev] at h2
  exact ⟨(h2 ⟨fun l => K.f (St.put ⟨nt, sl, hp, c⟩ dst l), ⟨⟩⟩ hk).1, (h2 ⟨fun l => K.f (St.put ⟨nt, sl, hp, c⟩ dst l), ⟨⟩⟩ hk).2⟩
 case unOp op t x =>
  split at h
  .split at h
   .rename_i hx; rw [hev] at hx
    exact ⟨_, _, _, h, fun P A dst K hk => by
     have : BQ P A AE ⟨nt, sl, hp, c⟩ dst (.unOp .not t x) K := by simp only [BQ]; rw [hx]; exact hk
     exact ⟨this, this⟩⟩
   cases h
  .split at h
   .rename_i hx; rw [hev] at hx
    exact ⟨_, _, _, h, fun P A dst K hk => by
     have : BQ P A AE ⟨nt, sl, hp, c⟩ dst (.unOp .neg t x) K := by simp only [BQ]; rw [hx]; exact hk
     exact ⟨this, this⟩⟩
   cases h
  cases h
 case convert s d x =>
  split at h
  .rename_i kk n hx; rw [hev] at hx
   split at h
   .rename_i ts hs
    split at h
    .rename_i ti ht
     split at h
     .rename_i kd hsh
      exact ⟨_, _, _, h, fun P A dst K hk => by
       have : BQ P A AE ⟨nt, sl, hp, c⟩ dst (.convert s d x) K := by
        simp only [BQ]; rw [hx]
        exact Ae.2 ⟨ts, hs, Ae.2 ⟨ti, ht, Ac.2 ⟨kd, by rw [hsh]; rfl, hk⟩⟩⟩
       exact ⟨this, this⟩⟩
     cases h
    cases h
   cases h
  cases h
 case extract t i =>
  split at h
  .rename_i l hx; rw [hev] at hx
   split at h
   .rename_i v r hd
    exact ⟨_, _, _, h, fun P A dst K hk => by
     have : BQ P A AE ⟨nt, sl, hp, c⟩ dst (.extract t i) K := by
      simp only [BQ]; rw [hx]
      exact Ac.2 ⟨v, JT hd, hk⟩
     exact ⟨this, this⟩⟩
   cases h
  .rename_i l hx; rw [hev] at hx
   split at h
   .rename_i v r hd
    exact ⟨_, _, _, h, fun P A dst K hk => by
     have : BQ P A AE ⟨nt, sl, hp, c⟩ dst (.extract t i) K := by
      simp only [BQ]; rw [hx]
      exact Ac.2 ⟨v, JT hd, hk⟩
     exact ⟨this, this⟩⟩
   cases h
  cases h
 case field t x i =>
  split at h
  .rename_i ti ht
   split at h
   .rename_i fs hsh
    split at h
    .rename_i o ft r hd
     split at h
     .rename_i tf htf
      split at h
      .rename_i ls hx; rw [hev] at hx
       rw [T0, Option.bind_eq_some_iff] at h
       obtain ⟨v, hv, h⟩ := h
       exact ⟨_, _, _, h, fun P A dst K hk => by
        have : BQ P A AE ⟨nt, sl, hp, c⟩ dst (.field t x i) K := by
         simp only [BQ]; rw [hx]
         exact Ae.2 ⟨ti, ht, F5.2 ⟨fs, hsh, Ac.2 ⟨(o, ft), JT hd, Ae.2 ⟨tf, htf, Ac.2 ⟨v, hv, hk⟩⟩⟩⟩⟩
        exact ⟨this, this⟩⟩
      .rename_i ds hx; rw [hev] at hx
       rw [QA, Option.bind_eq_some_iff] at h
       obtain ⟨v, hv, h⟩ := h
       exact ⟨_, _, _, h, fun P A dst K hk => by
        have : BQ P A AE ⟨nt, sl, hp, c⟩ dst (.field t x i) K := by
         simp only [BQ]; rw [hx]
         exact Ae.2 ⟨ti, ht, F5.2 ⟨fs, hsh, Ac.2 ⟨(o, ft), JT hd, Ae.2 ⟨tf, htf, Ac.2 ⟨v, hv, hk⟩⟩⟩⟩⟩
        exact ⟨this, this⟩⟩
      cases h
     cases h
    cases h
   cases h
  cases h
 case build t ps =>
  split at h
  .rename_i ti ht
   split at h
   .rename_i fs hsh
    split at h
    .rename_i hall
     rw [LY, NW] at h
     obtain ⟨l, h1, h2⟩ := Ob h
     rw [Rr] at h1
     exact ⟨_, _, _, h1, fun P A dst K hk => by
      have : BQ P A AE ⟨nt, sl, hp, c⟩ dst (.build t ps) K := by
       simp only [BQ]
       refine Ae.2 ⟨ti, ht, ?_⟩
       simp only [OW, hsh]
       rw [T2] at hall
       refine ⟨hall, ?_⟩
       have := h2 ⟨fun cells => K.f (St.put ⟨nt, sl, hp, c⟩ dst (GD cells)), ⟨⟩⟩ hk
       simpa only [hev] using this
      exact ⟨this, this⟩⟩
    cases h
   .rename_i n e hsh
    split at h
    .rename_i te hte
     rw [LY, NW] at h
     obtain ⟨l, h1, h2⟩ := Ob h
     rw [Rr] at h1
     exact ⟨_, _, _, h1, fun P A dst K hk => by
      have : BQ P A AE ⟨nt, sl, hp, c⟩ dst (.build t ps) K := by
       simp only [BQ]
       refine Ae.2 ⟨ti, ht, ?_⟩
       simp only [OW, hsh]
       refine Ae.2 ⟨te, hte, ?_⟩
       have := h2 ⟨fun cells => K.f (St.put ⟨nt, sl, hp, c⟩ dst (GD cells)), ⟨⟩⟩ hk
       simpa only [hev] using this
      exact ⟨this, this⟩⟩
    cases h
   cases h
  cases h
 case fieldAddr t x i =>
  split at h
  .rename_i ti ht
   split at h
   .rename_i fs hsh
    split at h
    .rename_i o ft r hd
     split at h
     .rename_i tf htf
      split at h
      .rename_i hsz
       obtain ⟨l, h1, h2⟩ := ZN h
       rw [hev] at h2
       exact ⟨_, _, _, h1, fun P A dst K hk => by
        have : BQ P A AE ⟨nt, sl, hp, c⟩ dst (.fieldAddr t x i) K := by
         simp only [BQ]
         refine Ae.2 ⟨ti, ht, F5.2 ⟨fs, hsh, Ac.2 ⟨(o, ft), JT hd, Ae.2 ⟨tf, htf, ?_, h2 ⟨fun l => K.f (St.put ⟨nt, sl, hp, c⟩ dst l), ⟨⟩⟩ hk⟩⟩⟩⟩
         have := Nat.le_of_ble_eq_true hsz
         omega
        exact ⟨this, this⟩⟩
      cases h
     cases h
    cases h
   cases h
  cases h
 case makeFunc fn first caps =>
  cases fn <;> simp only at h <;> try (cases h; done)
  rename_i f
  split at h
  .rename_i hf
   rw [Kg] at h
   exact ⟨_, _, _, h, fun P A dst K hk => by
    have : BQ P A AE ⟨nt, sl, hp, c⟩ dst (.makeFunc (.func f) first caps) K := by
     simp only [BQ]
     refine ⟨hf, ?_⟩
     have e : (caps.toList.map fun p => BM nt sl p) = caps.toList.map (St.eval ⟨nt, sl, hp, c⟩) := List.map_congr_left fun x _ => hev x
     rw [e] at hk
     exact hk
    exact ⟨this, this⟩⟩
  cases h
 case load t x =>
  split at h
  .cases h
  rename_i hc'
  rw [hev] at hc'
  split at h
  .rename_i ti ht
   split at h
   .rename_i l off hx; rw [hev] at hx
    rw [QA, Option.bind_eq_some_iff] at h
    obtain ⟨v, hv, h⟩ := h
    exact ⟨_, _, _, h, fun P A dst K hk => by
     have : BQ P A AE ⟨nt, sl, hp, c⟩ dst (.load t x) K := by
      simp only [BQ]; rw [hx]
      exact Ae.2 ⟨ti, ht, Ac.2 ⟨v, hv, hk⟩⟩
     exact ⟨this, hc', this⟩⟩
   .rename_i id off hx; rw [hev] at hx
    split at h
    .rename_i cells hl
     rw [Bn] at hl
     rw [T0, Option.bind_eq_some_iff] at h
     obtain ⟨v, hv, h⟩ := h
     exact ⟨_, _, _, h, fun P A dst K hk => by
      have : BQ P A AE ⟨nt, sl, hp, c⟩ dst (.load t x) K := by
       simp only [BQ]; rw [hx]
       exact Ae.2 ⟨ti, ht, Ac.2 ⟨_, hl, by dsimp only; refine I7.2 ⟨cells, rfl, ?_⟩; exact Ac.2 ⟨v, hv, hk⟩⟩⟩
      exact ⟨this, hc', this⟩⟩
    cases h
   cases h
  cases h
 case store t x v =>
  split at h
  .cases h
  rename_i hc'
  rw [hev] at hc'
  split at h
  .rename_i ti ht
   split at h
   .rename_i id off hx; rw [hev] at hx
    rw [Kf, Option.bind_eq_some_iff] at h
    obtain ⟨ls, hls, h⟩ := h
    rw [hev] at hls
    split at h
    .rename_i hlen
     split at h
     .rename_i hone
      rw [OZ] at hone
      split at h
      .rename_i cells hl
       rw [Bn] at hl
       obtain ⟨h1, h2⟩ := Rs h
       rw [JD] at h2
       exact ⟨_, _, _, h2, fun P A dst K hk => by
        have : BQ P A AE ⟨nt, sl, hp, c⟩ dst (.store t x v) K := by
         simp only [BQ]; rw [hx]
         exact Ae.2 ⟨ti, ht, Ac.2 ⟨ls, hls, ⟨Nat.eq_of_beq_eq_true hlen, hone⟩, Ac.2 ⟨_, hl, by dsimp only; refine I7.2 ⟨cells, rfl, ?_⟩; exact ⟨h1, hk⟩⟩⟩⟩
        exact ⟨this, hc', this⟩⟩
      cases h
     cases h
    cases h
   cases h
  cases h
 case alloc t =>
  split at h
  .rename_i ti ht
   rw [LY] at h
   exact ⟨_, _, _, h, fun P A dst K hk => by
    have : BQ P A AE ⟨nt, sl, hp, c⟩ dst (.alloc t) K := by
     simp only [BQ]
     exact Ae.2 ⟨ti, ht, hk⟩
    exact ⟨this, this⟩⟩
  cases h
 case box t x =>
  rw [Kf, Option.bind_eq_some_iff] at h
  obtain ⟨ls, hls, h⟩ := h
  rw [hev] at hls
  exact ⟨_, _, _, h, fun P A dst K hk => by
   have : BQ P A AE ⟨nt, sl, hp, c⟩ dst (.box t x) K := by
    simp only [BQ]
    exact Ac.2 ⟨ls, hls, hk⟩
   exact ⟨this, this⟩⟩
 case buildSlice t n ps =>
  split at h
  .rename_i ti ht
   split at h
   .rename_i e hsh
    split at h
    .rename_i te hte
     split at h
     .rename_i hb
      rw [NW] at h
      obtain ⟨l, h1, h2⟩ := SS h
      split at h2
      .rename_i hlen
       simp only [Bool.and_eq_true] at hb
       exact ⟨_, _, _, h2, fun P A dst K hk => by
        have : BQ P A AE ⟨nt, sl, hp, c⟩ dst (.buildSlice t n ps) K := by
         simp only [BQ]
         simp only [hev] at h1
         exact Ae.2 ⟨ti, ht, Cl.2 ⟨e, hsh, Ae.2 ⟨te, hte, ⟨Nat.le_of_ble_eq_true hb.1, Nat.le_of_ble_eq_true hb.2⟩, Ac.2 ⟨l, h1, Nat.eq_of_beq_eq_true hlen, .inl hk⟩⟩⟩⟩
        exact ⟨this, this⟩⟩
      cases h2
     cases h
    cases h
   cases h
  cases h
 case makeMap t r =>
  cases r with
  | some r => cases h
  | none => exact ⟨_, _, _, h, fun P A dst K hk => ⟨hk, hk⟩⟩
 case call cl =>
  obtain ⟨callee, args, ts⟩ := cl
  cases callee with
  | value f => cases h
  | invoke r m => cases h
  | builtin b =>
   cases b <;> simp only at h <;> try (cases h; done)
   case len =>
    split at h
    .rename_i x t hargs hts
     split at h
     .rename_i ti ht
      have ha : args = #[x] := by cases args; simpa using hargs
      have ht' : ts = #[t] := by cases ts; simpa using hts
      subst ha ht'
      have fin : ∀ l, k l hp c = some y -> (∀ K : BD LV, K.f l -> YD ti.sh ((⟨nt, sl, hp, c⟩ : St).eval x) K /\ WQ ti.sh ((⟨nt, sl, hp, c⟩ : St).eval x) K) ->
        ∃ l h' c', k l h' c' = some y /\ XT AE ⟨nt, sl, hp, c⟩ (.call ⟨.builtin .len, #[x], #[t]⟩) l h' c' := fun l h1 h2 => ⟨l, hp, c, h1, fun P A dst K hk => by
       have := h2 ⟨fun l => K.f (St.put ⟨nt, sl, hp, c⟩ dst l), ⟨⟩⟩ hk
       exact ⟨Ae.2 ⟨ti, ht, this.1⟩, Ae.2 ⟨ti, ht, this.2⟩⟩⟩
      split at h
      .rename_i hsh
       exact fin _ h fun K hk => by rw [hsh]; exact ⟨hk, hk⟩
      .rename_i hsh hx; rw [hev] at hx
       exact fin _ h fun K hk => by rw [hsh, hx]; exact ⟨hk, hk⟩
      .rename_i hsh hx; rw [hev] at hx
       exact fin _ h fun K hk => by rw [hsh, hx]; exact ⟨hk, hk⟩
      .rename_i hsh hx; rw [hev] at hx
       exact fin _ h fun K hk => by rw [hsh, hx]; exact ⟨hk, hk⟩
      cases h
     cases h
    cases h
   case max =>
    rw [Kg] at h
    split at h
    .rename_i kk n rest hl
     obtain ⟨m, h1, h2⟩ := Vm h
     exact ⟨_, _, _, h1, fun P A dst K hk => by
      have : BQ P A AE ⟨nt, sl, hp, c⟩ dst (.call ⟨.builtin .max, args, ts⟩) K := by
       simp only [BQ, Qg]
       simp only [hev] at hl
       refine Ac.2 ⟨(kk, m), ?_, hk⟩
       show B6 _ (args.toList.map fun x => St.eval _ x) = _
       rw [hl]
       simp only [B6, h2]; rfl
      exact ⟨this, this⟩⟩
    cases h
   case min =>
    rw [Kg] at h
    split at h
    .rename_i kk n rest hl
     obtain ⟨m, h1, h2⟩ := Vn h
     exact ⟨_, _, _, h1, fun P A dst K hk => by
      have : BQ P A AE ⟨nt, sl, hp, c⟩ dst (.call ⟨.builtin .min, args, ts⟩) K := by
       simp only [BQ, Qg]
       simp only [hev] at hl
       refine Ac.2 ⟨(kk, m), ?_, hk⟩
       show B6 _ (args.toList.map fun x => St.eval _ x) = _
       rw [hl]
       simp only [B6, h2]; rfl
      exact ⟨this, this⟩⟩
    cases h
end
end Go.E
/- Runs of operations (Gv, Gw), loops and joins told by plain Lean (AO, FG), rules for a walk in step with a plain function. No condition. -/
namespace Go.E
open Go Go.RowKit
section
variable {β : Type}
def La : Bool -> Bool -> Bool
 | true, true | false, false => true
 | _, _ => false
theorem Lb {a b : Bool} (h : La a b = true) : a = b := by cases a <;> cases b <;> first | rfl | cases h
theorem NX {a b : Bool} (h : La a b = false) : a = !b := by cases a <;> cases b <;> first | rfl | cases h
def Gv (AE : BG) : Nat -> List Ig -> Nat -> List (Nat × LV) -> Ag -> Nat -> Option (List Ig × St)
 | 0, ms, nt, sl, h, c => some (ms, ⟨nt, sl, h, c⟩)
 | _ + 1, [], _, _, _, _ => none
 | n + 1, m :: ms, nt, sl, h, c => match m with
  | ⟨dst, op, g⟩ => match g with
   | none => Gu AE nt sl h c op fun l h' c' => match dst with
    | some t => Gv AE n ms nt ((t, l) :: sl) h' c'
    | none => Gv AE n ms nt sl h' c'
   | some (some d, want) => match BM nt sl (.tmp d) with
    | .p (.bool b) => match La b want with
     | true => Gu AE nt sl h c op fun l h' c' => match dst with
      | some t => Gv AE n ms nt ((t, l) :: sl) h' c'
      | none => Gv AE n ms nt sl h' c'
     | false => match dst with
      | some t => Gv AE n ms nt ((t, .und) :: sl) h c
      | none => Gv AE n ms nt sl h c
    | .und => match dst with
     | some t => Gv AE n ms nt ((t, .und) :: sl) h c
     | none => Gv AE n ms nt sl h c
    | _ => none
   | some (none, _) => none
def I8 (AE : BG) : List Ig -> Nat -> List (Nat × LV) -> Ag -> Nat -> Option St
 | [], nt, sl, h, c => some ⟨nt, sl, h, c⟩
 | m :: ms, nt, sl, h, c => match m with
  | ⟨dst, op, g⟩ => match g with
   | none => Gu AE nt sl h c op fun l h' c' => match dst with
    | some t => I8 AE ms nt ((t, l) :: sl) h' c'
    | none => I8 AE ms nt sl h' c'
   | some (some d, want) => match BM nt sl (.tmp d) with
    | .p (.bool b) => match La b want with
     | true => Gu AE nt sl h c op fun l h' c' => match dst with
      | some t => I8 AE ms nt ((t, l) :: sl) h' c'
      | none => I8 AE ms nt sl h' c'
     | false => match dst with
      | some t => I8 AE ms nt ((t, .und) :: sl) h c
      | none => I8 AE ms nt sl h c
    | .und => match dst with
     | some t => I8 AE ms nt ((t, .und) :: sl) h c
     | none => I8 AE ms nt sl h c
    | _ => none
   | some (none, _) => none
def Gw (AE : BG) (base : Nat) : Nat -> List (Nat × Ig) -> Nat -> List (Nat × LV) -> Ag -> Option (List (Nat × Ig) × List (Nat × LV) × Ag)
 | 0, ms, _, sl, h => some (ms, sl, h)
 | _ + 1, [], _, _, _ => none
 | n + 1, m :: ms, nt, sl, h => match m with
  | (i, ⟨dst, op, g⟩) => match g with
   | none => Gu AE nt sl h (base + i) op fun l h' _ => match dst with
    | some t => Gw AE base n ms nt ((t, l) :: sl) h'
    | none => Gw AE base n ms nt sl h'
   | some (some d, want) => match BM nt sl (.tmp d) with
    | .p (.bool b) => match La b want with
     | true => Gu AE nt sl h (base + i) op fun l h' _ => match dst with
      | some t => Gw AE base n ms nt ((t, l) :: sl) h'
      | none => Gw AE base n ms nt sl h'
     | false => match dst with
      | some t => Gw AE base n ms nt ((t, .und) :: sl) h
      | none => Gw AE base n ms nt sl h
    | .und => match dst with
     | some t => Gw AE base n ms nt ((t, .und) :: sl) h
     | none => Gw AE base n ms nt sl h
    | _ => none
   | some (none, _) => none
def Gx (AE : BG) (base : Nat) : List (Nat × Ig) -> Nat -> List (Nat × LV) -> Ag -> Option (List (Nat × LV) × Ag)
 | [], _, sl, h => some (sl, h)
 | m :: ms, nt, sl, h => match m with
  | (i, ⟨dst, op, g⟩) => match g with
   | none => Gu AE nt sl h (base + i) op fun l h' _ => match dst with
    | some t => Gx AE base ms nt ((t, l) :: sl) h'
    | none => Gx AE base ms nt sl h'
   | some (some d, want) => match BM nt sl (.tmp d) with
    | .p (.bool b) => match La b want with
     | true => Gu AE nt sl h (base + i) op fun l h' _ => match dst with
      | some t => Gx AE base ms nt ((t, l) :: sl) h'
      | none => Gx AE base ms nt sl h'
     | false => match dst with
      | some t => Gx AE base ms nt ((t, .und) :: sl) h
      | none => Gx AE base ms nt sl h
    | .und => match dst with
     | some t => Gx AE base ms nt ((t, .und) :: sl) h
     | none => Gx AE base ms nt sl h
    | _ => none
   | some (none, _) => none
end
section
variable {P : Program} {A : BX} {AE : BG} {f : St -> Prop} {hf : JQ f} {nt : Nat} {sl : List (Nat × LV)} {h : Ag} {c : Nat}
theorem PW {dst : Option Tmp} {l : LV} {h' : Ag} {c' : Nat} : (⟨nt, sl, h, c⟩ : St).go dst l h' c' = match dst with | some t => ⟨nt, (t, l) :: sl, h', c'⟩ | none => ⟨nt, sl, h', c'⟩ := by
 cases dst <;> rfl
theorem rn (n : Nat) {ms ms' : List Ig} {st' : St} (hr : Gv AE n ms nt sl h c = some (ms', st')) (k : GM P A AE ⟨f, hf⟩ ms' st') : GM P A AE ⟨f, hf⟩ ms ⟨nt, sl, h, c⟩ := by
  induction n generalizing ms nt sl h c with
  | zero =>
    have : (ms, (⟨nt, sl, h, c⟩ : St)) = (ms', st') := by simpa [Gv] using hr
    cases this; exact k
  | succ n ih =>
    cases ms with
    | nil => simp [Gv] at hr
    | cons m ms =>
      obtain ⟨dst, op, g⟩ := m
      have run : (Gu AE nt sl h c op fun l h' c' => match (generalizing := false) dst with
            | some t => Gv AE n ms nt ((t, l) :: sl) h' c'
            | none => Gv AE n ms nt sl h' c') = some (ms', st') -> BQ P A AE ⟨nt, sl, h, c⟩ dst op ⟨GM P A AE ⟨f, hf⟩ ms, ⟨⟩⟩ := fun hs => by
        obtain ⟨l, h', c', h1, h2⟩ := Ii hs
        refine (h2 P A dst _ ?_).1
        rw [PW]
        cases dst with
        | some t => exact ih h1
        | none => exact ih h1
      have skip : (match (generalizing := false) dst with
          | some t => Gv AE n ms nt ((t, .und) :: sl) h c
          | none => Gv AE n ms nt sl h c) = some (ms', st') -> GM P A AE ⟨f, hf⟩ ms ((⟨nt, sl, h, c⟩ : St).put dst .und) := fun hs => by
        cases dst with
        | some t => exact ih hs
        | none => exact ih hs
      simp only [Gv] at hr
      cases g with
      | none => exact run hr
      | some g =>
        obtain ⟨d, want⟩ := g
        cases d with
        | none => simp at hr
        | some d =>
          simp only at hr
          simp only [GM, HF, <- BV (h := h) (c := c)]
          generalize BM nt sl (.tmp d) = v at hr ⊢
          split at hr
          . rename_i b
            split at hr
            . rename_i hb
              refine ⟨fun _ => run hr, fun e => ?_⟩
              rw [Lb hb] at e; cases want <;> cases e
            rename_i hb
            refine ⟨fun e => ?_, fun _ => skip hr⟩
            rw [NX hb] at e; cases want <;> cases e
          . exact skip hr
          cases hr
theorem rl {ms : List Ig} {st' : St} (hr : I8 AE ms nt sl h c = some st') (k : f st') : GM P A AE ⟨f, hf⟩ ms ⟨nt, sl, h, c⟩ := by
  induction ms generalizing nt sl h c with
  | nil =>
    have : (⟨nt, sl, h, c⟩ : St) = st' := by simpa [I8] using hr
    subst this; exact ⟨k⟩
  | cons m ms ih =>
      obtain ⟨dst, op, g⟩ := m
      have run : (Gu AE nt sl h c op fun l h' c' => match (generalizing := false) dst with
            | some t => I8 AE ms nt ((t, l) :: sl) h' c'
            | none => I8 AE ms nt sl h' c') = some st' -> BQ P A AE ⟨nt, sl, h, c⟩ dst op ⟨GM P A AE ⟨f, hf⟩ ms, ⟨⟩⟩ := fun hs => by
        obtain ⟨l, h', c', h1, h2⟩ := Ii hs
        refine (h2 P A dst _ ?_).1
        rw [PW]
        cases dst with
        | some t => exact ih h1
        | none => exact ih h1
      have skip : (match (generalizing := false) dst with
          | some t => I8 AE ms nt ((t, .und) :: sl) h c
          | none => I8 AE ms nt sl h c) = some st' -> GM P A AE ⟨f, hf⟩ ms ((⟨nt, sl, h, c⟩ : St).put dst .und) := fun hs => by
        cases dst with
        | some t => exact ih hs
        | none => exact ih hs
      simp only [I8] at hr
      cases g with
      | none => exact run hr
      | some g =>
        obtain ⟨d, want⟩ := g
        cases d with
        | none => simp at hr
        | some d =>
          simp only at hr
          simp only [GM, HF, <- BV (h := h) (c := c)]
          generalize BM nt sl (.tmp d) = v at hr ⊢
          split at hr
          . rename_i b
            split at hr
            . rename_i hb
              refine ⟨fun _ => run hr, fun e => ?_⟩
              rw [Lb hb] at e; cases want <;> cases e
            rename_i hb
            refine ⟨fun e => ?_, fun _ => skip hr⟩
            rw [NX hb] at e; cases want <;> cases e
          . exact skip hr
          cases hr
theorem Am (n : Nat) {base m : Nat} {ms ms' : List (Nat × Ig)} {sl' : List (Nat × LV)} {h' : Ag} (hr : Gw AE base n ms nt sl h = some (ms', sl', h')) (k : Ds P A AE base m ⟨f, hf⟩ ms' ⟨nt, sl', h', c⟩) : Ds P A AE base m ⟨f, hf⟩ ms ⟨nt, sl, h, c⟩ := by
  induction n generalizing ms sl h with
  | zero =>
    have : (ms, sl, h) = (ms', sl', h') := by simpa [Gw] using hr
    cases this; exact k
  | succ n ih =>
    cases ms with
    | nil => simp [Gw] at hr
    | cons p ms =>
      obtain ⟨i, dst, op, g⟩ := p
      have at_ : ∀ {sl h c'} , Ds P A AE base m ⟨f, hf⟩ ms ⟨nt, sl, h, c⟩ -> Ds P A AE base m ⟨f, hf⟩ ms ⟨nt, sl, h, c'⟩ := fun {sl h c'} hd => by
        have := Qj (P := P) (A := A) (AE := AE) base m ⟨f, hf⟩ ms ⟨nt, sl, h, c⟩ c'
        rw [<- this] at hd; exact hd
      have run : (Gu AE nt sl h (base + i) op fun l h' c' => match (generalizing := false) dst with
            | some t => Gw AE base n ms nt ((t, l) :: sl) h'
            | none => Gw AE base n ms nt sl h') = some (ms', sl', h') -> Jx P A AE ((⟨nt, sl, h, c⟩ : St).at (base + i)) dst op ⟨Ds P A AE base m ⟨f, hf⟩ ms, ⟨⟩⟩ := fun hs => by
        obtain ⟨l, h', c', h1, h2⟩ := Ii hs
        refine (h2 P A dst _ ?_).2
        rw [PW]
        cases dst with
        | some t => exact at_ (ih h1)
        | none => exact at_ (ih h1)
      have skip : (match (generalizing := false) dst with
          | some t => Gw AE base n ms nt ((t, .und) :: sl) h
          | none => Gw AE base n ms nt sl h) = some (ms', sl', h') -> Ds P A AE base m ⟨f, hf⟩ ms ((⟨nt, sl, h, c⟩ : St).put dst .und) := fun hs => by
        cases dst with
        | some t => exact ih hs
        | none => exact ih hs
      simp only [Gw] at hr
      cases g with
      | none => exact run hr
      | some g =>
        obtain ⟨d, want⟩ := g
        cases d with
        | none => simp at hr
        | some d =>
          simp only at hr
          simp only [Ds, HF, <- BV (h := h) (c := c)]
          generalize BM nt sl (.tmp d) = v at hr ⊢
          split at hr
          . rename_i b
            split at hr
            . rename_i hb
              refine ⟨fun _ => run hr, fun e => ?_⟩
              rw [Lb hb] at e; cases want <;> cases e
            rename_i hb
            refine ⟨fun e => ?_, fun _ => skip hr⟩
            rw [NX hb] at e; cases want <;> cases e
          . exact skip hr
          cases hr
theorem A0 {base m : Nat} {ms : List (Nat × Ig)} {sl' : List (Nat × LV)} {h' : Ag} (hr : Gx AE base ms nt sl h = some (sl', h')) (k : f ⟨nt, sl', h', base + m⟩) : Ds P A AE base m ⟨f, hf⟩ ms ⟨nt, sl, h, c⟩ := by
  induction ms generalizing sl h with
  | nil =>
    have : (sl, h) = (sl', h') := by simpa [Gx] using hr
    cases this; exact ⟨k⟩
  | cons p ms ih =>
      obtain ⟨i, dst, op, g⟩ := p
      have at_ : ∀ {sl h c'} , Ds P A AE base m ⟨f, hf⟩ ms ⟨nt, sl, h, c⟩ -> Ds P A AE base m ⟨f, hf⟩ ms ⟨nt, sl, h, c'⟩ := fun {sl h c'} hd => by
        have := Qj (P := P) (A := A) (AE := AE) base m ⟨f, hf⟩ ms ⟨nt, sl, h, c⟩ c'
        rw [<- this] at hd; exact hd
      have run : (Gu AE nt sl h (base + i) op fun l h' c' => match (generalizing := false) dst with
            | some t => Gx AE base ms nt ((t, l) :: sl) h'
            | none => Gx AE base ms nt sl h') = some (sl', h') -> Jx P A AE ((⟨nt, sl, h, c⟩ : St).at (base + i)) dst op ⟨Ds P A AE base m ⟨f, hf⟩ ms, ⟨⟩⟩ := fun hs => by
        obtain ⟨l, h', c', h1, h2⟩ := Ii hs
        refine (h2 P A dst _ ?_).2
        rw [PW]
        cases dst with
        | some t => exact at_ (ih h1)
        | none => exact at_ (ih h1)
      have skip : (match (generalizing := false) dst with
          | some t => Gx AE base ms nt ((t, .und) :: sl) h
          | none => Gx AE base ms nt sl h) = some (sl', h') -> Ds P A AE base m ⟨f, hf⟩ ms ((⟨nt, sl, h, c⟩ : St).put dst .und) := fun hs => by
        cases dst with
        | some t => exact ih hs
        | none => exact ih hs
      simp only [Gx] at hr
      cases g with
      | none => exact run hr
      | some g =>
        obtain ⟨d, want⟩ := g
        cases d with
        | none => simp at hr
        | some d =>
          simp only at hr
          simp only [Ds, HF, <- BV (h := h) (c := c)]
          generalize BM nt sl (.tmp d) = v at hr ⊢
          split at hr
          . rename_i b
            split at hr
            . rename_i hb
              refine ⟨fun _ => run hr, fun e => ?_⟩
              rw [Lb hb] at e; cases want <;> cases e
            rename_i hb
            refine ⟨fun e => ?_, fun _ => skip hr⟩
            rw [NX hb] at e; cases want <;> cases e
          . exact skip hr
          cases hr
end
end Go.E
/- Rules for a walk in step with a plain function. No condition. -/
namespace Go.E
open Go Go.RowKit
def Oe : List Nat -> Nat -> Bool
 | [], _ => false
 | x :: l, t => match Nat.beq t x with
  | true => true
  | false => Oe l t
theorem Vo : ∀ {l : List Nat} {t : Nat}, Oe l t = true ↔ t ∈ l
 | [], t => by simp [Oe]
 | x :: l, t => by
  simp only [Oe, List.mem_cons]
  split
  .rename_i h; have := Nat.eq_of_beq_eq_true h; subst this; simp
  rename_i h
  have hne : t ≠ x := by rintro rfl; simp at h
  rw [Vo]; simp [hne]
theorem YO {P : Program} {l : List (Nat × TI)} (h : (l.map fun p => WT P p.1) = l.map fun p => some p.2) : OX P (fun t => Bu t l) := by
 have := Tz h
 intro t ti ht
 exact this t ti (by simpa only [Bn] using ht)
section
variable {α β γ : Type}
theorem bd {o : Option α} {f : α -> Option β} {b : β} (h : o.bind f = some b) : ∃ a, o = some a /\ f a = some b := Option.bind_eq_some_iff.1 h
def Ak (l : List α) (n : Int) : Option α := match n with
 | .ofNat k => l[k]?
 | .negSucc _ => none
theorem Gy {l : List α} {n : Int} {y : α} (h : Ak l n = some y) : 0 <= n /\ n.toNat < l.length /\ l[n.toNat]? = some y := by
 cases n with
 | ofNat k => exact ⟨Int.natCast_nonneg k, (List.getElem?_eq_some_iff.1 h).1, h⟩
 | negSucc k => cases h
def Kv (s : ByteArray) (n : Int) : Option UInt8 := match n with
 | .ofNat k => s[k]?
 | .negSucc _ => none
def JU (l : List α) (lo hi : Int) : Option (List α) := if 0 <= lo /\ lo <= hi /\ hi <= l.length then some ((l.take hi.toNat).drop lo.toNat) else none
def BE (l m : List α) : Option (List α) := if l.length + m.length <= 4294967296 then some (l ++ m) else none
def BF (l : List α) (n : Int) (z : α) : List α := l.set n.toNat z
def GE (step : α -> Option (α ⊕ β)) : Nat -> α -> Option β
 | 0, _ => none
 | n + 1, s => match step s with
  | none => none
  | some (.inl s') => GE step n s'
  | some (.inr b) => some b
theorem Of {step : α -> Option (α ⊕ β)} : ∀ {n m : Nat} {s : α} {b : β}, GE step n s = some b -> GE step (n + m) s = some b
 | 0, _, _, _, h => by cases h
 | n + 1, m, s, b, h => by
  rw [show n + 1 + m = (n + m) + 1 by omega]
  simp only [GE] at h ⊢
  split at h
  .cases h
  .exact Of h
  exact h
open Classical in
noncomputable def Qm (step : α -> Option (α ⊕ β)) (s : α) : Option β := if h : ∃ b n, GE step n s = some b then some h.choose else none
noncomputable def AO (step : α -> Option (α ⊕ β)) (s : α) : Option β := match GE step 18446744073709551616 s with
 | some b => some b
 | none => Qm step s
theorem T5 {step : α -> Option (α ⊕ β)} {n : Nat} {s : α} {b : β} (h : GE step n s = some b) : Qm step s = some b := by
 have hex : ∃ b n, GE step n s = some b := ⟨b, n, h⟩
 unfold Qm
 rw [dif_pos hex]
 obtain ⟨m, hm⟩ := hex.choose_spec
 have h1 := Of (m := m) h
 have h2 := Of (m := n) hm
 rw [show m + n = n + m by omega, h1] at h2
 exact h2.symm
theorem Vp (step : α -> Option (α ⊕ β)) (s : α) : AO step s = Qm step s := by
 unfold AO
 split
 .rename_i h; exact (T5 h).symm
 rfl
theorem QC {step : α -> Option (α ⊕ β)} {n : Nat} {s : α} {b : β} (h : GE step n s = some b) : AO step s = some b := by
 rw [Vp]; exact T5 h
theorem K5 {step : α -> Option (α ⊕ β)} {s : α} {b : β} (h : AO step s = some b) : ∃ n, GE step n s = some b := by
 rw [Vp] at h
 unfold Qm at h
 split at h
 .rename_i hex
  obtain ⟨m, hm⟩ := hex.choose_spec
  simp only [Option.some.injEq] at h
  rw [h] at hm
  exact ⟨m, hm⟩
 cases h
theorem FH (step : α -> Option (α ⊕ β)) (s : α) : AO step s = match step s with
  | none => none
  | some (.inl s') => AO step s'
  | some (.inr b) => some b := by
 cases hs : step s with
 | none =>
  cases hl : AO step s with
  | none => rfl
  | some b =>
   obtain ⟨n, hn⟩ := K5 hl
   cases n with
   | zero => cases hn
   | succ n => simp [GE, hs] at hn
 | some r =>
  cases r with
  | inl s' =>
   simp only
   cases hl : AO step s' with
   | some b => obtain ⟨n, hn⟩ := K5 hl; exact QC (n := n + 1) (by simp only [GE, hs]; exact hn)
   | none =>
    cases hl' : AO step s with
    | none => rfl
    | some b =>
     obtain ⟨n, hn⟩ := K5 hl'
     cases n with
     | zero => cases hn
     | succ n =>
      simp only [GE, hs] at hn
      rw [QC hn] at hl; cases hl
  | inr b => exact QC (n := 1) (by simp [GE, hs])
def FG (sp : Option (α ⊕ β)) (rest : α -> Option β) : Option β := match sp with
 | none => none
 | some (.inl t) => rest t
 | some (.inr b) => some b
def Rv (o : Option α) (a : Option β) (b : α -> Option β) : Option β := match o with
 | none => a
 | some x => b x
theorem omN {a : Option β} {b : α -> Option β} {r : Option β} (h : Rv none a b = r) : a = r := h
theorem omS {x : α} {a : Option β} {b : α -> Option β} {r : Option β} (h : Rv (some x) a b = r) : b x = r := h
end
section
variable {P : Program} {A : BX} {AE : BG} {st : St} {σ Ans : Type}
def LP (A : BX) (S : σ -> St) (Q : Ans -> Exit -> St -> Prop) : σ ⊕ Ans -> Exit -> St -> Prop
 | .inl s, e, st => e = .normal /\ A9 A st (S s)
 | .inr a, e, st => e ≠ .normal /\ Q a e st
theorem lp {c : Code} {Q : Ans -> Exit -> St -> Prop} {a : Ans} (I : σ -> St) {step : σ -> Option (σ ⊕ Ans)} {s0 : σ} (h : AO step s0 = some a) (hw : A9 A st (I s0))
  (hb : ∀ s b, step s = some b -> CM P A c (LP A I Q b) (I s)) : CM P A (.loop c) (Q a) st := by
 obtain ⟨n, hn⟩ := K5 h
 refine X3 (ι := Nat × σ) (fun i s => GE step i.1 i.2 = some a /\ A9 A s (I i.2)) (fun i => i.1) (n, s0) ⟨hn, hw⟩ ?_
 rintro ⟨n, s⟩ st' ⟨hi, hws⟩
 refine J4 hws ?_
 cases n with
 | zero => cases hi
 | succ n =>
  simp only [GE] at hi
  cases hs : step s with
  | none => rw [hs] at hi; cases hi
  | some r =>
   rw [hs] at hi
   refine LL (hb s r hs) fun e st'' q => ?_
   cases r with
   | inl s' =>
    obtain ⟨he, hw'⟩ := q
    subst he
    exact ⟨(n, s'), ⟨hi, hw'⟩, Nat.lt_succ_self n⟩
   | inr a' =>
    obtain ⟨he, hq⟩ := q
    simp only [Option.some.injEq] at hi
    subst hi
    cases e <;> first | exact absurd rfl he | exact hq
theorem jn {x y : Code} {Q : Ans -> Exit -> St -> Prop} {a : Ans} (S : σ -> St) {sp : Option (σ ⊕ Ans)} {rest : σ -> Option Ans} (h : FG sp rest = some a)
  (hx : ∀ b, sp = some b -> CM P A x (LP A S Q b) st) (hy : ∀ t, rest t = some a -> CM P A y (Q a) (S t)) : CM P A (.seq x y) (Q a) st := by
 refine AB ?_
 cases hs : sp with
 | none => rw [hs] at h; cases h
 | some r =>
  rw [hs] at h
  refine LL (hx r hs) fun e st' q => ?_
  cases r with
  | inl t =>
   obtain ⟨he, hw⟩ := q
   subst he
   exact J4 hw (hy t h)
  | inr a' =>
   obtain ⟨he, hq⟩ := q
   simp only [FG, Option.some.injEq] at h
   subst h
   cases e <;> first | exact absurd rfl he | exact hq
def NP (A : BX) (S : σ -> St) (s : σ) (e : Exit) (st : St) : Prop := e = .normal /\ A9 A st (S s)
theorem jb {x y : Code} {Q : Exit -> St -> Prop} {a : Ans} (S : σ -> St) {sp : Option σ} {rest : σ -> Option Ans} (h : sp.bind rest = some a)
  (hx : ∀ t, sp = some t -> CM P A x (NP A S t) st) (hy : ∀ t, rest t = some a -> CM P A y Q (S t)) : CM P A (.seq x y) Q st := by
 obtain ⟨t, h1, h2⟩ := bd h
 refine AB (LL (hx t h1) fun e st' q => ?_)
 obtain ⟨he, hw⟩ := q
 subst he
 exact J4 hw (hy t h2)
theorem rg (hE : BN P AE) {id : Nat} {ops : List Oper} {Q : Exit -> St -> Prop} (k : GM P A AE ⟨Q .normal, ⟨⟩⟩ (ops.map (OV ops)) st) : CM P A (.region id ops.toArray false) Q st := YG hE rfl k
theorem rs (hE : BN P AE) {id : Nat} {ops : List Oper} {y : Code} {Q : Exit -> St -> Prop} (k : GM P A AE ⟨CM P A y Q, ⟨⟩⟩ (ops.map (OV ops)) st) : CM P A (.seq (.region id ops.toArray false) y) Q st := ZG hE rfl k
theorem Bi (hE : BN P AE) (hm : P.follows .mixedOrders = true) {id : Nat} {ops : List Oper} {Q : Exit -> St -> Prop} {nt : Nat} {sl : List (Nat × LV)} {h : Ag} {c : Nat} (order : List Nat) (n : Nat)
  (hok : If false AE.own .any ops.toArray order (Array.replicate ops.length false) = true) (hl : Nat.beq order.length ops.length = true) (hb : (order.all fun i => Nat.blt i ops.length) = true) (hn : Nat.beq ops.length n = true)
  (k : Ds P A AE c n ⟨Q .normal, ⟨⟩⟩ (Gt ops order) ⟨nt, sl, h, c⟩) : CM P A (.region id ops.toArray true) Q ⟨nt, sl, h, c⟩ := by
 have hb' : (order.all fun i => decide (i < ops.length)) = true := by
  rw [List.all_eq_true] at hb ⊢
  intro i hi
  have := Nat.le_of_ble_eq_true (hb i hi)
  simp only [decide_eq_true_eq]; omega
 have hn' := Nat.eq_of_beq_eq_true hn
 subst hn'
 exact IK false (fun h => by cases h) hE hm hok (Nat.eq_of_beq_eq_true hl) (JC order _ hb' k)
theorem Zv (hE : BN P AE) (hm : P.follows .mixedOrders = true) {id : Nat} {ops : List Oper} {Q : Exit -> St -> Prop} {nt : Nat} {sl : List (Nat × LV)} {h : Ag} {c : Nat} (order : List Nat) (n : Nat)
  (hq : AE.calm.isSome = true) (hok : If true AE.own .any ops.toArray order (Array.replicate ops.length false) = true) (hl : Nat.beq order.length ops.length = true) (hb : (order.all fun i => Nat.blt i ops.length) = true) (hn : Nat.beq ops.length n = true)
  (k : Ds P A AE c n ⟨Q .normal, ⟨⟩⟩ (Gt ops order) ⟨nt, sl, h, c⟩) : CM P A (.region id ops.toArray true) Q ⟨nt, sl, h, c⟩ := by
 have hb' : (order.all fun i => decide (i < ops.length)) = true := by
  rw [List.all_eq_true] at hb ⊢
  intro i hi
  have := Nat.le_of_ble_eq_true (hb i hi)
  simp only [decide_eq_true_eq]; omega
 have hn' := Nat.eq_of_beq_eq_true hn
 subst hn'
 exact IK true (fun _ => Option.isSome_iff_exists.1 hq) hE hm hok (Nat.eq_of_beq_eq_true hl) (JC order _ hb' k)
theorem cd {x : Operand} {cx cy : Code} {Q : Exit -> St -> Prop} {nt : Nat} {sl : List (Nat × LV)} {h : Ag} {c : Nat} {b : Bool} {p q : Option Ans} {a : Ans} (hb : BM nt sl x = .p (.bool b)) (hh : cond b p q = some a)
  (hx : p = some a -> CM P A cx Q ⟨nt, sl, h, c⟩) (hy : q = some a -> CM P A cy Q ⟨nt, sl, h, c⟩) : CM P A (.cond x cx cy) Q ⟨nt, sl, h, c⟩ := by
 refine P4 (b := b) (by rw [<- BV]; exact hb) (fun e => ?_) (fun e => ?_)
 .subst e; exact hx hh
 subst e; exact hy hh
theorem Qn {x : Operand} {cx cy : Code} {Q : Exit -> St -> Prop} {nt : Nat} {sl : List (Nat × LV)} {h : Ag} {c : Nat} (hb : BM nt sl x = .p (.bool true)) (hx : CM P A cx Q ⟨nt, sl, h, c⟩) : CM P A (.cond x cx cy) Q ⟨nt, sl, h, c⟩ :=
 P4 (b := true) (by rw [<- BV]; exact hb) (fun _ => hx) (fun e => by cases e)
theorem Qo {x : Operand} {cx cy : Code} {Q : Exit -> St -> Prop} {nt : Nat} {sl : List (Nat × LV)} {h : Ag} {c : Nat} (hb : BM nt sl x = .p (.bool false)) (hx : CM P A cy Q ⟨nt, sl, h, c⟩) : CM P A (.cond x cx cy) Q ⟨nt, sl, h, c⟩ :=
 P4 (b := false) (by rw [<- BV]; exact hb) (fun e => by cases e) (fun _ => hx)
end
end Go.E
/- Rules for single operations of a walk in step with a plain function. No condition. -/
namespace Go.E
open Go Go.RowKit
section
variable {β : Type}
def WV (t : Nat) (v : LV) : List (Nat × LV) -> (List (Nat × LV) -> Option β) -> Option β
 | [], _ => none
 | (q, u) :: l, k => match Nat.beq t q with
  | true => k ((q, v) :: l)
  | false => WV t v l (fun r => k ((q, u) :: r))
theorem Vq {t : Nat} {v : LV} : ∀ {l : List (Nat × LV)} {k : List (Nat × LV) -> Option β} {y : β}, Bu t l = some v -> WV t v l k = some y -> k l = some y
 | [], _, _, h, _ => by simp [Bu] at h
 | (q, u) :: l, k, y, h, hr => by
  simp only [Bu] at h
  simp only [WV] at hr
  split at h
  .rename_i hb
   rw [hb] at hr
   simp only [Option.some.injEq] at h
   subst h; exact hr
  rename_i hb
  rw [hb] at hr
  exact Vq (k := fun r => k ((q, u) :: r)) h hr
def XU (t : Nat) (v : LV) (l : List (Nat × LV)) : Option (List (Nat × LV)) := WV t v l some
theorem Qp {t : Nat} {v : LV} {l l' : List (Nat × LV)} (h : Bu t l = some v) (hr : XU t v l = some l') : l = l' := by
 have := Vq h hr
 simpa using this
theorem NY {nt t : Nat} {sl : List (Nat × LV)} {d : DV} (h : BM nt sl (.tmp t) = .p d) : Bu t sl = some (.p d) := by
 simp only [BM] at h
 split at h
 .split at h
  .subst h; assumption
  cases h
 cases h
def Y0 (nt : Nat) (sl : List (Nat × LV)) : Option (Option Tmp × Bool) -> Bool
 | none => true
 | some (some d, want) => match BM nt sl (.tmp d) with
  | .p (.bool b) => La b want
  | _ => false
 | some (none, _) => false
theorem T6 {nt : Nat} {sl : List (Nat × LV)} {d : Tmp} {want : Bool} (h : Y0 nt sl (some (some d, want)) = true) : BM nt sl (.tmp d) = .p (.bool want) := by
 simp only [Y0] at h
 split at h
 .rename_i b hb; rw [hb, Lb h]
 cases h
end
section
variable {P : Program} {A : BX} {AE : BG} {f : St -> Prop} {hf : JQ f} {nt : Nat} {sl : List (Nat × LV)} {h : Ag} {c : Nat} {Ans : Type}
theorem gs (t : Nat) {ms : List Ig} {b : Bool} {p q : Option Ans} {a : Ans} {slT slF : List (Nat × LV)} (hh : cond b p q = some a) (hv : BM nt sl (.tmp t) = .p (.bool b))
  (hT : XU t (.p (.bool true)) sl = some slT) (hF : XU t (.p (.bool false)) sl = some slF)
  (hx : p = some a -> GM P A AE ⟨f, hf⟩ ms ⟨nt, slT, h, c⟩) (hy : q = some a -> GM P A AE ⟨f, hf⟩ ms ⟨nt, slF, h, c⟩) : GM P A AE ⟨f, hf⟩ ms ⟨nt, sl, h, c⟩ := by
 cases b with
 | true => rw [Qp (NY hv) hT]; exact hx hh
 | false => rw [Qp (NY hv) hF]; exact hy hh
theorem Dk (t : Nat) {base m : Nat} {ms : List (Nat × Ig)} {b : Bool} {p q : Option Ans} {a : Ans} {slT slF : List (Nat × LV)} (hh : cond b p q = some a) (hv : BM nt sl (.tmp t) = .p (.bool b))
  (hT : XU t (.p (.bool true)) sl = some slT) (hF : XU t (.p (.bool false)) sl = some slF)
  (hx : p = some a -> Ds P A AE base m ⟨f, hf⟩ ms ⟨nt, slT, h, c⟩) (hy : q = some a -> Ds P A AE base m ⟨f, hf⟩ ms ⟨nt, slF, h, c⟩) : Ds P A AE base m ⟨f, hf⟩ ms ⟨nt, sl, h, c⟩ := by
 cases b with
 | true => rw [Qp (NY hv) hT]; exact hx hh
 | false => rw [Qp (NY hv) hF]; exact hy hh
theorem sx {dst : Option Tmp} {op : Op} {g : Option (Option Tmp × Bool)} {rest : List Ig} (hg : Y0 nt sl g = true) (k : BQ P A AE ⟨nt, sl, h, c⟩ dst op ⟨GM P A AE ⟨f, hf⟩ rest, ⟨⟩⟩) :
  GM P A AE ⟨f, hf⟩ (⟨dst, op, g⟩ :: rest) ⟨nt, sl, h, c⟩ := by
 cases g with
 | none => exact k
 | some g =>
  obtain ⟨d, want⟩ := g
  cases d with
  | none => cases hg
  | some d =>
   have := T6 hg
   simp only [GM, HF, <- BV (h := h) (c := c), this, gM, gW]
   exact ⟨fun _ => k, fun e => by cases want <;> cases e⟩
theorem An {base m i : Nat} {dst : Option Tmp} {op : Op} {g : Option (Option Tmp × Bool)} {rest : List (Nat × Ig)} (hg : Y0 nt sl g = true) (k : Jx P A AE ⟨nt, sl, h, base + i⟩ dst op ⟨Ds P A AE base m ⟨f, hf⟩ rest, ⟨⟩⟩) :
  Ds P A AE base m ⟨f, hf⟩ ((i, ⟨dst, op, g⟩) :: rest) ⟨nt, sl, h, c⟩ := by
 cases g with
 | none => exact k
 | some g =>
  obtain ⟨d, want⟩ := g
  cases d with
  | none => cases hg
  | some d =>
   have := T6 hg
   simp only [Ds, HF, <- BV (h := h) (c := c), this, gM, gW]
   exact ⟨fun _ => k, fun e => by cases want <;> cases e⟩
def ZO : Op -> Bool
 | .binOp .. | .call _ | .range .. | .next .. | .entry .. | .load .. | .store .. => false
 | _ => true
theorem AZ {st : St} {dst : Option Tmp} {op : Op} {K : BD St} (hp : ZO op = true) (k : BQ P A AE st dst op K) : Jx P A AE st dst op K := by
 cases op <;> first | exact k | cases hp
theorem Hy {nt : Nat} {sl : List (Nat × LV)} {h : Ag} {c : Nat} {dst : Option Tmp} {t : TypeId} {x : Operand} {K : BD St} (hc : Mp AE.calm (BM nt sl x) = true) (k : BQ P A AE ⟨nt, sl, h, c⟩ dst (.load t x) K) : Jx P A AE ⟨nt, sl, h, c⟩ dst (.load t x) K := ⟨by rw [<- BV (h := h) (c := c)]; exact hc, k⟩
theorem Mw {nt : Nat} {sl : List (Nat × LV)} {h : Ag} {c : Nat} {dst : Option Tmp} {t : TypeId} {x v : Operand} {K : BD St} (hc : LN AE.calm (BM nt sl x) = true) (k : BQ P A AE ⟨nt, sl, h, c⟩ dst (.store t x v) K) : Jx P A AE ⟨nt, sl, h, c⟩ dst (.store t x v) K := ⟨by rw [<- BV (h := h) (c := c)]; exact hc, k⟩
theorem BY {st : St} {dst : Option Tmp} {args : Array Operand} {ts : Array TypeId} {K : BD St} (k : BQ P A AE st dst (.call ⟨.builtin .append, args, ts⟩) K) : Jx P A AE st dst (.call ⟨.builtin .append, args, ts⟩) K := k
def Qq (AE : BG) (t : Nat) : Bool := match AE.tt t with
 | some ti => match ti.sh with
  | .slc _ => true
  | _ => false
 | none => false
def WW (AE : BG) (t : Nat) : Bool := match AE.tt t with
 | some ti => match ti.sh with
  | .str => true
  | _ => false
 | none => false
theorem YP {t : Nat} (h : WW AE t = true) : ∃ ti, AE.tt t = some ti /\ ti.sh = .str := by
 unfold WW at h
 split at h
 .rename_i ti hti
  split at h
  .rename_i he; exact ⟨ti, hti, he⟩
  cases h
 cases h
theorem QD {t : Nat} (h : Qq AE t = true) : ∃ ti e, AE.tt t = some ti /\ ti.sh = .slc e := by
 unfold Qq at h
 split at h
 .rename_i ti hti
  split at h
  .rename_i e he; exact ⟨ti, e, hti, he⟩
  cases h
 cases h
def NZ (AE : BG) (t sz : Nat) : Bool := match AE.tt t with
 | some ti => match ti.sh with
  | .slc e => match AE.tt e with
   | some te => Nat.beq te.size sz
   | none => false
  | _ => false
 | none => false
theorem Na {t sz : Nat} (h : NZ AE t sz = true) : ∃ ti e te, AE.tt t = some ti /\ ti.sh = .slc e /\ AE.tt e = some te /\ te.size = sz := by
 unfold NZ at h
 split at h
 .rename_i ti hti
  split at h
  .rename_i e he
   split at h
   .rename_i te hte; exact ⟨ti, e, te, hti, he, hte, Nat.eq_of_beq_eq_true h⟩
   cases h
  cases h
 cases h
variable {α : Type} {enc : α -> List DV} {l : List α} {d : Tmp} {t sz : Nat} {x : Operand}
theorem Al (ht : Qq AE t = true) (hx : BM nt sl x = .p (.slice sz (l.map enc))) (k : f ⟨nt, (d, .p (.int .i64 l.length)) :: sl, h, c⟩) : BQ P A AE ⟨nt, sl, h, c⟩ (some d) (.call ⟨.builtin .len, #[x], #[t]⟩) ⟨f, hf⟩ := by
 obtain ⟨ti, e, h1, h2⟩ := QD ht
 refine Ae.2 ⟨ti, h1, ?_⟩
 rw [BV (h := h) (c := c)] at hx
 dsimp only
 rw [h2, hx]
 intro _
 simp only [List.length_map]
 exact k
theorem Og (ht : Qq AE t = true) (hx : BM nt sl x = .p (.slice sz (l.map enc))) (k : f ⟨nt, (d, .p (.int .i64 l.length)) :: sl, h, c⟩) : Jx P A AE ⟨nt, sl, h, c⟩ (some d) (.call ⟨.builtin .len, #[x], #[t]⟩) ⟨f, hf⟩ := by
 obtain ⟨ti, e, h1, h2⟩ := QD ht
 refine Ae.2 ⟨ti, h1, ?_⟩
 rw [BV (h := h) (c := c)] at hx
 dsimp only
 rw [h2, hx]
 simp only [WQ, List.length_map]
 exact k
theorem Aj {i : Operand} {kk : IntKind} {n : Int} {y : α} (hy : Ak l n = some y) (ht : NZ AE t sz = true) (hx : BM nt sl x = .p (.slice sz (l.map enc))) (hi : BM nt sl i = .p (.int kk n))
  (k : f ⟨nt, (d, .p (.place (enc y) 0)) :: sl, h, c⟩) : BQ P A AE ⟨nt, sl, h, c⟩ (some d) (.indexAddr t x i) ⟨f, hf⟩ := by
 obtain ⟨ti, e, te, h1, h2, h3, h4⟩ := Na ht
 obtain ⟨g1, g2, g3⟩ := Gy hy
 rw [BV (h := h) (c := c)] at hx hi
 refine Ce.2 ⟨kk, n, hi, Ae.2 ⟨ti, h1, ?_⟩⟩
 dsimp only
 rw [h2, hx]
 exact Ae.2 ⟨te, h3, h4, g1, Ac.2 ⟨enc y, by rw [List.getElem?_map, g3]; rfl, k⟩⟩
theorem Oh {s : ByteArray} {i : Operand} {kk : IntKind} {n : Int} {y : UInt8} (hy : Kv s n = some y) (ht : WW AE t = true) (hx : BM nt sl x = .p (.str s)) (hi : BM nt sl i = .p (.int kk n))
  (k : f ⟨nt, (d, .p (.int .u8 y.toNat)) :: sl, h, c⟩) : BQ P A AE ⟨nt, sl, h, c⟩ (some d) (.index t x i) ⟨f, hf⟩ := by
 obtain ⟨ti, hti, hsh⟩ := YP ht
 rw [BV (h := h) (c := c)] at hx hi
 cases n with
 | negSucc n => cases hy
 | ofNat n =>
  refine Ce.2 ⟨kk, _, hi, Ae.2 ⟨ti, hti, Int.natCast_nonneg n, ?_⟩⟩
  dsimp only
  rw [hsh, hx]
  exact Ac.2 ⟨y, hy, k⟩
def Oi (nt : Nat) (sl : List (Nat × LV)) (d : Int) : Option Operand -> Option Int
 | none => some d
 | some o => match BM nt sl o with
  | .p (.int _ n) => some n
  | _ => none
theorem PX {d n : Int} {x : Option Operand} {k : BD Int} (hb : Oi nt sl d x = some n) (hk : k.f n) : LR d (x.map (St.eval ⟨nt, sl, h, c⟩)) k := by
 cases x with
 | none => simp only [Oi, Option.some.injEq] at hb; subst hb; exact hk
 | some o =>
  simp only [Oi, BV (h := h) (c := c)] at hb
  simp only [Option.map_some]
  split at hb
  .rename_i kk m he
   simp only [Option.some.injEq] at hb
   subst hb
   rw [he]; exact hk
  cases hb
theorem Qr {lo hi : Option Operand} {n m : Int} {r : List α} (hr : JU l n m = some r) (ht : NZ AE t sz = true) (hx : BM nt sl x = .p (.slice sz (l.map enc)))
  (hlo : Oi nt sl 0 lo = some n) (hhi : Oi nt sl l.length hi = some m)
  (k : f ⟨nt, (d, .p (.slice sz (r.map enc))) :: sl, h, c⟩) : BQ P A AE ⟨nt, sl, h, c⟩ (some d) (.slice t x lo hi none) ⟨f, hf⟩ := by
 obtain ⟨ti, e, te, h1, h2, h3, h4⟩ := Na ht
 rw [BV (h := h) (c := c)] at hx
 simp only [JU] at hr
 split at hr
 .rename_i hb
  simp only [Option.some.injEq] at hr
  subst hr
  show LS AE t _ _ _ _
  rw [hx]
  refine Ae.2 ⟨ti, h1, Cl.2 ⟨e, h2, Ae.2 ⟨te, h3, h4, ?_⟩⟩⟩
  rw [List.length_map]
  refine PX hhi (PX hlo ⟨hb, ?_⟩)
  rw [<- List.map_take, <- List.map_drop]; exact k
 cases hr
end
end Go.E
/- Rules for single operations: calls, what is appended, made, looked up, set against another. No condition. -/
namespace Go.E
open Go Go.RowKit
inductive L9 : List DV -> List DV -> Prop where
 | nil : L9 [] []
 | cons {a b : DV} {l m : List DV} (h : Le a b) (t : L9 l m) : L9 (a :: l) (b :: m)
theorem Le.rfl {d : DV} : Le d d := fun _ _ _ h => h
theorem L9.rfl : ∀ {l : List DV}, L9 l l
 | [] => .nil
 | _ :: _ => .cons Le.rfl L9.rfl
theorem L9.len {l m : List DV} (h : L9 l m) : l.length = m.length := by induction h with
 | nil => exact Eq.refl _
 | cons _ _ ih => simp [ih]
theorem L9.get {l m : List DV} (h : L9 l m) : ∀ (i : Nat) (a b : DV), l[i]? = some a -> m[i]? = some b -> Le a b := by
 induction h with
 | nil => intro i a b h1; simp at h1
 | cons h _ ih =>
  intro i x y h1 h2
  cases i with
  | zero => simp at h1 h2; subst h1 h2; exact h
  | succ i => exact ih i x y (by simpa using h1) (by simpa using h2)
theorem Le.tup' {l m : List DV} (h : L9 l m) : Le (.tup l) (.tup m) := Le.tup h.len h.get
theorem Le.agg' {l m : List DV} (h : L9 l m) : Le (.agg l) (.agg m) := Le.agg h.len h.get
theorem Le.nilm : Le .nilm (.map []) := fun _ _ _ hv => by cases hv; exact .mnil
theorem Le.own {α : Type} {enc : α -> List DV} {l : List α} {sz : Nat} : Le (.slice sz (((l.map enc).drop 0).take l.length)) (.slice sz (l.map enc)) := Le.of_eq (by rw [List.drop_zero, List.take_of_length_le (by simp)])
theorem A4.le {P : Program} {k : Nat} {ds ds' : List DV} {Q : DV -> Prop} (h : A4 P k ds Q) (hl : L9 ds' ds) : A4 P k ds' Q :=
 ⟨h.enters, fun O w vs h1 h2 h3 => h.run O w vs h1 (by rw [h2, hl.len]) fun i v d hv hd => by
  have hi := (List.getElem?_eq_some_iff.1 hd).1
  have hlen := hl.len
  have hx : ds'[i]? = some (ds'[i]'(by omega)) := List.getElem?_eq_getElem _
  exact hl.get i _ d hx hd _ _ _ (h3 i v _ hv hx)⟩
theorem Gn.le {P : Program} {k : Nat} {ds ds' : List DV} {e sz : Nat} {el : List (List DV)} (h : Gn P k ds e sz el) (hl : L9 ds' ds) : Gn P k ds' e sz el :=
 ⟨h.enters, fun O w vs h1 h2 h3 => h.run O w vs h1 (by rw [h2, hl.len]) fun i v d hv hd => by
  have hi := (List.getElem?_eq_some_iff.1 hd).1
  have hlen := hl.len
  have hx : ds'[i]? = some (ds'[i]'(by omega)) := List.getElem?_eq_getElem _
  exact hl.get i _ d hx hd _ _ _ (h3 i v _ hv hx)⟩
section
variable {κ υ : Type} [BEq κ]
def Ap (m : List (κ × υ)) (x : κ) : Option υ := match m with
 | [] => none
 | p :: m => if x == p.1 then some p.2 else Ap m x
def BC (x : κ) (v : υ) : List (κ × υ) -> List (κ × υ)
 | [] => [(x, v)]
 | p :: m => if x == p.1 then (p.1, v) :: m else p :: BC x v m
structure Lc (AE : BG) (kt : Nat) (ke : κ -> DV) : Prop where
 eq : ∀ a b, Ew (ke a) (ke b) = (a == b)
 fits : ∀ a, CA AE kt (ke a) = true
def Aw (ke : κ -> DV) (ve : υ -> DV) (m : List (κ × υ)) : List (DV × DV) := m.map fun p => (ke p.1, ve p.2)
variable {AE : BG} {kt : Nat} {ke : κ -> DV} {ve : υ -> DV}
theorem MA (hk : Lc AE kt ke) (x : κ) : ∀ m : List (κ × υ), GN (ke x) (Aw ke ve m) = (Ap m x).map ve
 | [] => by simp [Aw, GN, Dw, Ap]
 | p :: m => by
  have ih := MA hk x m
  simp only [Aw, GN] at ih
  simp only [Aw, List.map_cons, GN, Dw, hk.eq, Ap]
  by_cases h : (x == p.1) = true
  .simp [h]
  simp only [h]
  simp only [Bool.false_eq_true, if_false, Option.map_map]
  rw [<- ih]
  cases Dw (ke x) (m.map fun p => (ke p.1, ve p.2)) <;> simp
theorem SU (hk : Lc AE kt ke) (x : κ) (v : υ) : ∀ m : List (κ × υ), MU (ke x) (ve v) (Aw ke ve m) = Aw ke ve (BC x v m)
 | [] => by simp [Aw, MU, BC]
 | p :: m => by
  have ih := SU hk x v m
  simp only [Aw] at ih
  simp only [Aw, List.map_cons, MU, hk.eq, BC]
  by_cases h : (x == p.1) = true
  .simp [h]
  simp only [h]
  simp only [Bool.false_eq_true, if_false, List.map_cons, ih]
theorem MB (hk : Lc AE kt ke) (m : List (κ × υ)) : ((Aw ke ve m).all fun p => CA AE kt p.1) = true := by
 simp only [Aw, List.all_map, List.all_eq_true, Function.comp]
 intro p _; exact hk.fits _
end
section
variable {β : Type}
def T7 (t : Nat) : Ag -> (Ag -> Option β) -> Option β
 | [], k => k []
 | (q, u) :: l, k => match Nat.beq t q with
  | true => T7 t l k
  | false => T7 t l (fun r => k ((q, u) :: r))
theorem Rw {t : Nat} : ∀ {l : Ag} {k : Ag -> Option β}, T7 t l k = k (JO t l)
 | [], k => rfl
 | (q, u) :: l, k => by
  simp only [T7, JO]
  by_cases h : t = q
  .subst h; simp only [Nat.beq_refl, if_true]; exact Rw
  have : Nat.beq t q = false := by
   cases hb : Nat.beq t q with
   | false => rfl
   | true => exact absurd (Nat.eq_of_beq_eq_true hb) h
  rw [this, if_neg h]
  exact Rw
end
section
variable {P : Program} {A : BX} {AE : BG} {f : St -> Prop} {hf : JQ f} {nt : Nat} {sl : List (Nat × LV)} {h : Ag} {c : Nat} {d : Tmp}
theorem IM {args : List Operand} {ls : List LV} (hl : FF nt sl args some = some ls) : args.map (St.eval ⟨nt, sl, h, c⟩) = ls := by
 rw [Kg, Option.some.injEq] at hl
 rw [<- hl]
 exact List.map_congr_left fun x _ => (BV (h := h) (c := c)).symm
theorem AS {fo : Operand} {args : Array Operand} {ts : Array TypeId} {k : Nat} {caps ls : List LV} {ds : List DV} {r : DV} (hF : A4 P k ds (· = r)) (hs : r.scalar = true \/ (ls ++ caps).flatMap (Eg h) = [])
  (hfn : BM nt sl fo = .fn k caps) (hl : FF nt sl args.toList some = some ls) (hds : Bz h (ls ++ caps) = some ds) (kk : f ⟨nt, (d, .p r) :: sl, h, c⟩) : BQ P A AE ⟨nt, sl, h, c⟩ (some d) (.call ⟨.value fo, args, ts⟩) ⟨f, hf⟩ := by
 rw [BV (h := h) (c := c)] at hfn
 show N4 _ _
 rw [hfn]
 show KH P A h c k (args.toList.map _ ++ caps) _
 rw [IM hl]
 exact AAZ hds hF hs kk
theorem ZP {fo : Operand} {args : Array Operand} {ts : Array TypeId} {k : Nat} {caps ls : List LV} {ds : List DV} {r : DV} {h' : Ag} (hF : A4 P k ds (· = r)) (hs : r.scalar = false)
  (hfn : BM nt sl fo = .fn k caps) (hl : FF nt sl args.toList some = some ls) (hds : Bz h (ls ++ caps) = some ds) (hd : Cp ((ls ++ caps).flatMap (Eg h)) h = h') (kk : f ⟨nt, (d, .p r) :: sl, h', c⟩) : BQ P A AE ⟨nt, sl, h, c⟩ (some d) (.call ⟨.value fo, args, ts⟩) ⟨f, hf⟩ := by
 rw [BV (h := h) (c := c)] at hfn
 show N4 _ _
 rw [hfn]
 show KH P A h c k (args.toList.map _ ++ caps) _
 rw [IM hl]
 exact AAa hds hF hs hd kk
theorem BA {fo : Operand} {args : Array Operand} {ts : Array TypeId} {k : Nat} {caps ls : List LV} {ds : List DV} {r : DV} (hF : A4 P k ds (· = r)) (hs : r.scalar = true \/ (ls ++ caps).flatMap (Eg h) = [])
  (hfn : BM nt sl fo = .fn k caps) (hl : FF nt sl args.toList some = some ls) (hds : Bz h (ls ++ caps) = some ds) (kk : f ⟨nt, (d, .p r) :: sl, h, c⟩) : Jx P A AE ⟨nt, sl, h, c⟩ (some d) (.call ⟨.value fo, args, ts⟩) ⟨f, hf⟩ := by
 rw [BV (h := h) (c := c)] at hfn
 show N4 _ _
 rw [hfn]
 refine .inl ?_
 show YJ P h k (args.toList.map _ ++ caps) _
 rw [IM hl]
 exact AA6 hds hF hs kk
def WX (AE : BG) (t e sz : Nat) : Bool := match AE.tt t with
 | some ti => match ti.sh with
  | .slc e' => match AE.tt e with
   | some te => Nat.beq e' e && (Nat.beq te.size sz && (Nat.blt 0 sz && Nat.ble te.bytes 32768))
   | none => false
  | _ => false
 | none => false
theorem Vr {t e sz : Nat} (h : WX AE t e sz = true) : ∃ ti te, AE.tt t = some ti /\ ti.sh = .slc e /\ AE.tt e = some te /\ te.size = sz /\ 0 < sz /\ te.bytes <= 32768 := by
 unfold WX at h
 split at h
 .rename_i ti hti
  split at h
  .rename_i e' he
   split at h
   .rename_i te hte
    simp only [Bool.and_eq_true] at h
    obtain ⟨h1, h2, h3, h4⟩ := h
    have := Nat.eq_of_beq_eq_true h1
    subst this
    exact ⟨ti, te, hti, he, hte, Nat.eq_of_beq_eq_true h2, Nat.le_of_ble_eq_true h3, Nat.le_of_ble_eq_true h4⟩
   cases h
  cases h
 cases h
variable {α : Type} {enc : α -> List DV} {l m r : List α} {t e sz : Nat} {s x : Operand}
def WY (enc : α -> List DV) (sz : Nat) : Prop := ∀ a, (enc a).length = sz /\ (enc a).all DV.cell = true
theorem SV (hr : BE l m = some r) : r = l ++ m /\ l.length + m.length <= 4294967296 := by
 simp only [BE] at hr
 split at hr
 .simp only [Option.some.injEq] at hr; exact ⟨hr.symm, ‹_›⟩
 cases hr
theorem SW {n b : Nat} (hb : b <= 32768) (hn : n <= 4294967296) : n * b <= 140737488355328 :=
 Nat.le_trans (Nat.mul_le_mul hn hb) (by decide)
theorem Vs {n : Nat} (hn : n <= 4294967296) : n <= maxLen := by unfold maxLen; omega
theorem XV (hr : BE [] m = some r) (hen : WY enc sz) (hs : BM nt sl s = .p .nils) (hx : K2 h (BM nt sl x) = some (m.map enc)) (ht : WX AE t e sz = true)
  (k : f ⟨nt, (d, .lsl c sz 0 r.length) :: sl, (c, .row e sz (r.map enc)) :: h, c + 1⟩) : BQ P A AE ⟨nt, sl, h, c⟩ (some d) (.call ⟨.builtin .append, #[s, x], #[t, t]⟩) ⟨f, hf⟩ := by
 obtain ⟨ti, te, h1, h2, h3, h4, h5, h6⟩ := Vr ht
 obtain ⟨rfl, hn⟩ := SV hr
 simp only [List.length_nil, Nat.zero_add] at hn
 rw [BV (h := h) (c := c)] at hs hx
 subst h4
 refine ⟨rfl, Ae.2 ⟨ti, h1, Cl.2 ⟨e, h2, Ae.2 ⟨te, h3, h5, Ac.2 ⟨_, hx, ?_, ?_⟩⟩⟩⟩⟩
 .intro y hy
  obtain ⟨a, _, rfl⟩ := List.mem_map.1 hy
  exact hen a
 rw [hs]
 simp only [Tu, List.length_map]
 exact ⟨⟨SW h6 hn, Vs hn⟩, k⟩
theorem Ax {id n : Nat} {h' : Ag} (hr : BE l m = some r) (hen : WY enc sz) (hs : BM nt sl s = .lsl id sz 0 n) (hl : Bu id h = some (.row e sz (l.map enc))) (hn : n = l.length) (hd : T7 id h some = some h')
  (hx : K2 h (BM nt sl x) = some (m.map enc)) (ht : WX AE t e sz = true)
  (k : f ⟨nt, (d, .lsl c sz 0 r.length) :: sl, (c, .row e sz (r.map enc)) :: h', c + 1⟩) : BQ P A AE ⟨nt, sl, h, c⟩ (some d) (.call ⟨.builtin .append, #[s, x], #[t, t]⟩) ⟨f, hf⟩ := by
 obtain ⟨ti, te, h1, h2, h3, h4, h5, h6⟩ := Vr ht
 obtain ⟨rfl, hb⟩ := SV hr
 rw [BV (h := h) (c := c)] at hs hx
 rw [Rw, Option.some.injEq] at hd
 rw [Bn] at hl
 subst h4 hn hd
 refine ⟨rfl, Ae.2 ⟨ti, h1, Cl.2 ⟨e, h2, Ae.2 ⟨te, h3, h5, Ac.2 ⟨_, hx, ?_, ?_⟩⟩⟩⟩⟩
 .intro y hy
  obtain ⟨a, _, rfl⟩ := List.mem_map.1 hy
  exact hen a
 rw [hs]
 simp only [Tu]
 refine ⟨trivial, Ac.2 ⟨_, hl, ?_⟩⟩
 dsimp only
 refine Gr.2 ⟨e, te.size, l.map enc, rfl, ?_⟩
 refine ⟨⟨rfl, rfl, by simp, by rw [List.length_map]; exact SW h6 hb, by rw [List.length_map]; exact Vs hb⟩, ?_⟩
 have e1 : ((l.map enc).drop 0).take l.length ++ m.map enc = (l ++ m).map enc := by rw [List.drop_zero, List.take_of_length_le (by simp), List.map_append]
 rw [List.length_append] at k
 simp only [e1, List.length_map]
 exact k
theorem B4 {i : Operand} {kk : IntKind} {n : Int} {id len : Nat} {y : α} (hy : Ak l n = some y) (ht : NZ AE t sz = true) (hx : BM nt sl x = .lsl id sz 0 len) (hi : BM nt sl i = .p (.int kk n)) (hn : len = l.length)
  (k : f ⟨nt, (d, .lpe id n.toNat 0) :: sl, h, c⟩) : BQ P A AE ⟨nt, sl, h, c⟩ (some d) (.indexAddr t x i) ⟨f, hf⟩ := by
 obtain ⟨ti, e, te, h1, h2, h3, h4⟩ := Na ht
 obtain ⟨g1, g2, g3⟩ := Gy hy
 rw [BV (h := h) (c := c)] at hx hi
 refine Ce.2 ⟨kk, n, hi, Ae.2 ⟨ti, h1, ?_⟩⟩
 dsimp only
 rw [h2, hx]
 refine Ae.2 ⟨te, h3, h4, ⟨g1, by omega⟩, ?_⟩
 simp only [Nat.zero_add]
 exact k
theorem DM {n : Int} {id o : Nat} {y : α} {v : LV} (hy : Ak l n = some y) (hx : BM nt sl x = .lpe id n.toNat o) (hl : Bu id h = some (.row e sz (l.map enc)))
  (hv : (match AE.tt t with | some ti => Qk ti o (enc y) some | none => none) = some v) (k : f ⟨nt, (d, v) :: sl, h, c⟩) : BQ P A AE ⟨nt, sl, h, c⟩ (some d) (.load t x) ⟨f, hf⟩ := by
 obtain ⟨g1, g2, g3⟩ := Gy hy
 rw [BV (h := h) (c := c)] at hx
 rw [Bn] at hl
 split at hv
 .rename_i ti hti
  rw [QA] at hv
  obtain ⟨u, h1, h2⟩ := Option.bind_eq_some_iff.1 hv
  simp only [Option.some.injEq] at h2
  subst h2
  refine Ae.2 ⟨ti, hti, ?_⟩
  rw [hx]
  refine Ac.2 ⟨_, hl, ?_⟩
  dsimp only
  refine Gr.2 ⟨e, sz, l.map enc, rfl, ?_⟩
  exact Ac.2 ⟨enc y, by rw [List.getElem?_map, g3]; rfl, Ac.2 ⟨u, h1, k⟩⟩
 cases hv
theorem MC {n : Int} {id o : Nat} {y z : α} {v : Operand} {ls : List LV} {ds : List DV} {h' : Ag} (hy : Ak l n = some y) (hx : BM nt sl x = .lpe id n.toNat o) (hl : Bu id h = some (.row e sz (l.map enc)))
  (hc : LZ (BM nt sl v) some = some ls) (hds : Hw ls = some ds) (hsz : (match AE.tt t with | some ti => Nat.beq ls.length ti.size && OY ls | none => false) = true) (hz : DA (enc y) o ds = enc z) (hlen : Nat.ble (o + ls.length) (enc y).length = true)
  (hu : MW id (.row e sz ((BF l n z).map enc)) h some = some h') (k : f ⟨nt, sl, h', c⟩) : BQ P A AE ⟨nt, sl, h, c⟩ none (.store t x v) ⟨f, hf⟩ := by
 obtain ⟨g1, g2, g3⟩ := Gy hy
 rw [BV (h := h) (c := c)] at hx hc
 rw [Bn] at hl
 rw [JD, Option.some.injEq] at hu
 subst hu
 split at hsz
 .rename_i ti hti
  simp only [Bool.and_eq_true] at hsz
  rw [Kf, Option.bind_eq_some_iff] at hc
  obtain ⟨ls', h1, h2⟩ := hc
  simp only [Option.some.injEq] at h2
  subst h2
  refine Ae.2 ⟨ti, hti, Ac.2 ⟨ls', h1, ⟨Nat.eq_of_beq_eq_true hsz.1, by rw [<- OZ]; exact hsz.2⟩, ?_⟩⟩
  rw [hx]
  refine Ac.2 ⟨_, hl, ?_⟩
  dsimp only
  refine Gr.2 ⟨e, sz, l.map enc, rfl, ?_⟩
  refine Ac.2 ⟨enc y, by rw [List.getElem?_map, g3]; rfl, Ac.2 ⟨ds, hds, Nat.le_of_ble_eq_true hlen, ?_⟩⟩
  dsimp only
  rw [hz]
  simp only [BF, List.map_set] at k
  exact k
 cases hsz
def Vt (AE : BG) (t kt et : Nat) : Bool := match AE.tt t with
 | some ti => match ti.sh with
  | .mp k e => Nat.beq k kt && Nat.beq e et
  | _ => false
 | none => false
theorem Qs {kt et : Nat} (h : Vt AE t kt et = true) : ∃ ti, AE.tt t = some ti /\ ti.sh = .mp kt et := by
 unfold Vt at h
 split at h
 .rename_i ti hti
  split at h
  .rename_i k e he
   simp only [Bool.and_eq_true] at h
   have h1 := Nat.eq_of_beq_eq_true h.1; have h2 := Nat.eq_of_beq_eq_true h.2
   subst h1 h2
   exact ⟨ti, hti, he⟩
  cases h
 cases h
variable {κ υ : Type} [BEq κ] {ke : κ -> DV} {ve : υ -> DV} {mp : List (κ × υ)} {kt et : Nat} {i : Operand}
theorem QE {o : Option υ} {z : υ} : (o.map ve).getD (ve z) = ve (o.getD z) := by cases o <;> rfl
theorem JV {y : κ} (z : υ) (hk : Lc AE kt ke) (hm : K3 h (BM nt sl x) = some (Aw ke ve mp)) (hi : BM nt sl i = .p (ke y)) (ht : Vt AE t kt et = true) (hz : (AE.tt et).map TI.zeroDV = some (ve z))
  (k : f ⟨nt, (d, .tup [.p (ve ((Ap mp y).getD z)), .p (.bool (Ap mp y).isSome)]) :: sl, h, c⟩) : BQ P A AE ⟨nt, sl, h, c⟩ (some d) (.lookup t x i true) ⟨f, hf⟩ := by
 obtain ⟨ti, h1, h2⟩ := Qs ht
 rw [BV (h := h) (c := c)] at hm hi
 obtain ⟨te, h3, h4⟩ := Option.map_eq_some_iff.1 hz
 refine Ae.2 ⟨ti, h1, GO.2 ⟨kt, et, h2, Ae.2 ⟨te, h3, Ac.2 ⟨_, hm, Do.2 ⟨_, hi, ⟨hk.fits y, MB hk mp⟩, ?_⟩⟩⟩⟩⟩
 simp only [if_true, MA hk, h4, QE, Option.isSome_map]
 exact k
theorem K6 {y : κ} (z : υ) (hk : Lc AE kt ke) (hm : K3 h (BM nt sl x) = some (Aw ke ve mp)) (hi : BM nt sl i = .p (ke y)) (ht : Vt AE t kt et = true) (hz : (AE.tt et).map TI.zeroDV = some (ve z))
  (k : f ⟨nt, (d, .p (ve ((Ap mp y).getD z))) :: sl, h, c⟩) : BQ P A AE ⟨nt, sl, h, c⟩ (some d) (.lookup t x i false) ⟨f, hf⟩ := by
 obtain ⟨ti, h1, h2⟩ := Qs ht
 rw [BV (h := h) (c := c)] at hm hi
 obtain ⟨te, h3, h4⟩ := Option.map_eq_some_iff.1 hz
 refine Ae.2 ⟨ti, h1, GO.2 ⟨kt, et, h2, Ae.2 ⟨te, h3, Ac.2 ⟨_, hm, Do.2 ⟨_, hi, ⟨hk.fits y, MB hk mp⟩, ?_⟩⟩⟩⟩⟩
 simp only [Bool.false_eq_true, if_false, MA hk, h4, QE]
 exact k
theorem JW {y : κ} {z : υ} {id : Nat} {v : Operand} {h' : Ag} (hk : Lc AE kt ke) (hx : BM nt sl x = .lmap id) (hm : Bu id h = some (.map (Aw ke ve mp))) (hi : BM nt sl i = .p (ke y)) (hv : BM nt sl v = .p (ve z)) (ht : Vt AE t kt et = true)
  (hu : MW id (.map (Aw ke ve (BC y z mp))) h some = some h') (k : f ⟨nt, sl, h', c⟩) : BQ P A AE ⟨nt, sl, h, c⟩ none (.mapUpdate t x i v) ⟨f, hf⟩ := by
 obtain ⟨ti, h1, h2⟩ := Qs ht
 rw [BV (h := h) (c := c)] at hx hi hv
 rw [Bn] at hm
 rw [JD, Option.some.injEq] at hu
 subst hu
 refine Ae.2 ⟨ti, h1, GO.2 ⟨kt, et, h2, Fo.2 ⟨id, hx, Ac.2 ⟨_, hm, ?_⟩⟩⟩⟩
 dsimp only
 refine Gq.2 ⟨Aw ke ve mp, rfl, ?_⟩
 refine Do.2 ⟨_, hi, Do.2 ⟨_, hv, ⟨hk.fits y, MB hk mp⟩, ?_⟩⟩
 rw [SU hk]
 exact k
theorem AAc {ks : List Sh} {xs ys : List DV} {b : Bool} {y : Operand} {t' : Nat} (hb : Cd xs ys = b) (hx : BM nt sl x = .p (.agg xs)) (hy : BM nt sl y = .p (.agg ys)) (hk : AE.eqk t = some ks) (f1 : fits ks xs = true) (f2 : fits ks ys = true)
  (k : f ⟨nt, (d, .p (.bool b)) :: sl, h, c⟩) : BQ P A AE ⟨nt, sl, h, c⟩ (some d) (.binOp .eql t x y t') ⟨f, hf⟩ := by
 rw [BV (h := h) (c := c)] at hx hy
 show Rk AE .eql t _ _ _
 rw [hx, hy]
 exact Ac.2 ⟨ks, hk, f1, f2, by rw [hb]; exact k⟩
theorem Lf {ks : List Sh} {xs ys : List DV} {b : Bool} {y : Operand} {t' : Nat} (hb : Cd xs ys = b) (hx : BM nt sl x = .p (.agg xs)) (hy : BM nt sl y = .p (.agg ys)) (hk : AE.eqk t = some ks) (f1 : fits ks xs = true) (f2 : fits ks ys = true)
  (k : f ⟨nt, (d, .p (.bool b)) :: sl, h, c⟩) : Jx P A AE ⟨nt, sl, h, c⟩ (some d) (.binOp .eql t x y t') ⟨f, hf⟩ := by
 rw [BV (h := h) (c := c)] at hx hy
 show Rn AE .eql t _ _ _
 rw [hx, hy]
 exact Ac.2 ⟨ks, hk, f1, f2, by rw [hb]; exact k⟩
theorem Qt {ks : List Sh} {xs ys : List DV} {b : Bool} {y : Operand} {t' : Nat} (hb : Cd xs ys = b) (hx : BM nt sl x = .p (.agg xs)) (hy : BM nt sl y = .p (.agg ys)) (hk : AE.eqk t = some ks) (f1 : fits ks xs = true) (f2 : fits ks ys = true)
  (k : f ⟨nt, (d, .p (.bool !b)) :: sl, h, c⟩) : Jx P A AE ⟨nt, sl, h, c⟩ (some d) (.binOp .neq t x y t') ⟨f, hf⟩ := by
 rw [BV (h := h) (c := c)] at hx hy
 show Rn AE .neq t _ _ _
 rw [hx, hy]
 exact Ac.2 ⟨ks, hk, f1, f2, by rw [hb]; exact k⟩
end
end Go.E
/- Rules for a function's beginning and end, and for states that are made weaker, by unfolding alone. No condition. -/
namespace Go.E
open Go Go.RowKit
abbrev li (n : Int) : LV := .p (.int .i64 n)
abbrev lb (b : Bool) : LV := .p (.bool b)
abbrev lq (l : List DV) : LV := .p (.place l 0)
abbrev ls {α : Type} (sz : Nat) (enc : α -> List DV) (l : List α) : LV := .p (.slice sz (l.map enc))
section
variable {P : Program} {A : BX} {AE : BG}
theorem fn (hE : BN P AE) {k : Nat} {fn : Func} {c : Code} {ds : List DV} {d : DV} (hf : P.funcs[k]? = some fn) (hb : fn.body = some c) (hn : (fn.name == "runtime.NumGoroutine") = false) (nt : Nat) (hnt : Nat.beq fn.ntmps nt = true)
  (rs : List ResultVar) (hrs : fn.results.toList = rs) (sl : List (Nat × LV)) (hsl : Dr 0 ds = sl) (hlen : Nat.ble ds.length nt = true)
  (h : ∀ A : BX, (∀ id, A.μ0 id = none) -> CM P A c (NG fun st => ∃ r, Gm AE.tt rs st = some r /\ Le r d) ⟨nt, sl, [], 0⟩) : A4 P k ds (· = d) := by
 subst hsl
 exact Zt hE hf hb hn nt (Nat.eq_of_beq_eq_true hnt) rs hrs (Nat.le_of_ble_eq_true hlen) h
theorem er {rs : List ResultVar} {st : St} {r d : DV} (h : Gm AE.tt rs st = some r) (hle : Le r d) : NG (fun st => ∃ r, Gm AE.tt rs st = some r /\ Le r d) .ret st := ⟨r, h, hle⟩
theorem en {rs : List ResultVar} {st : St} {r d : DV} (h : Gm AE.tt rs st = some r) (hle : Le r d) : NG (fun st => ∃ r, Gm AE.tt rs st = some r /\ Le r d) .normal st := ⟨r, h, hle⟩
inductive MD (h : Ag) : LV -> DV -> Prop where
 | p (d : DV) : MD h (.p d) d
 | own {α : Type} {enc : α -> List DV} (l : List α) {id e sz n : Nat} (hl : Bu id h = some (.row e sz (l.map enc))) (hn : n = l.length) : MD h (.lsl id sz 0 n) (.slice sz (l.map enc))
 | map {id : Nat} {m : List (DV × DV)} (hl : Bu id h = some (.map m)) : MD h (.lmap id) (.map m)
 | sub {α : Type} {enc : α -> List DV} (l r : List α) {id e sz off n : Nat} (hl : Bu id h = some (.row e sz (l.map enc))) (hr : off + n <= l.length /\ (l.drop off).take n = r) : MD h (.lsl id sz off n) (.slice sz (r.map enc))
inductive Qu (h : Ag) : List LV -> List DV -> Prop where
 | nil : Qu h [] []
 | cons {v : LV} {d : DV} {vs : List LV} {ds : List DV} (k : MD h v d) (r : Qu h vs ds) : Qu h (v :: vs) (d :: ds)
inductive SX (h : Ag) : List LV -> List DV -> Prop where
 | nil : SX h [] []
 | box {us : List LV} {es : List DV} {id off : Nat} {vs : List LV} {ds : List DV} (hl : Bu id h = some (.box us)) (k : Qu h us es) (r : SX h vs ds) : SX h (.lpb id off :: vs) (.place es off :: ds)
 | cons {v : LV} {d : DV} {vs : List LV} {ds : List DV} (k : MD h v d) (r : SX h vs ds) : SX h (v :: vs) (d :: ds)
inductive Ld (h : Ag) : LV -> DV -> Prop where
 | one {v : LV} {d : DV} (k : MD h v d) : Ld h v d
 | agg {vs : List LV} {ds : List DV} (k : Qu h vs ds) : Ld h (.agg vs) (.agg ds)
 | tup {vs : List LV} {ds : List DV} (k : Qu h vs ds) : Ld h (.tup vs) (.tup ds)
 | box {vs : List LV} {ds : List DV} {id off : Nat} (hl : Bu id h = some (.box vs)) (k : Qu h vs ds) : Ld h (.lpb id off) (.place ds off)
 | fn {f : Nat} {vs : List LV} {ds : List DV} (k : SX h vs ds) : Ld h (.fn f vs) (.fn f ds)
inductive C9 (h : Ag) : List LV -> List DV -> Prop where
 | nil : C9 h [] []
 | cons {v : LV} {d : DV} {vs : List LV} {ds : List DV} (k : Ld h v d) (r : C9 h vs ds) : C9 h (v :: vs) (d :: ds)
theorem MD.eq {h : Ag} {v : LV} {d : DV} (k : MD h v d) : Gl h v = some d := by
 cases k with
 | p => rfl
 | own l hl hn =>
  rw [Bn] at hl
  subst hn
  simp only [Gl, hl, Nat.zero_add, List.length_map, Nat.le_refl, and_self, if_true, List.drop_zero]
  rw [List.take_of_length_le (by simp)]
 | map hl => rw [Bn] at hl; simp only [Gl, hl]
 | sub l r hl hr =>
  rw [Bn] at hl
  simp only [Gl, hl, List.length_map]
  rw [if_pos ⟨trivial, hr.1⟩, <- List.map_drop, <- List.map_take, hr.2]
theorem Qu.eq {h : Ag} {vs : List LV} {ds : List DV} (k : Qu h vs ds) : Hi h vs = some ds := by
 induction k with
 | nil => rfl
 | cons k _ ih => simp only [Hi, k.eq, ih]
theorem MD.eqb {h : Ag} {v : LV} {d : DV} (k : MD h v d) : KE h v = some d := by
 have := k.eq
 cases k <;> exact this
theorem SX.eq {h : Ag} {vs : List LV} {ds : List DV} (k : SX h vs ds) : HB h vs = some ds := by
 induction k with
 | nil => rfl
 | box hl k _ ih => rw [Bn] at hl; simp only [HB, KE, hl, k.eq, ih, Option.map_some]
 | cons k _ ih => simp only [HB, k.eqb, ih]
theorem Ld.eq {h : Ag} {v : LV} {d : DV} (k : Ld h v d) : GJ h v = some d := by
 cases k with
 | one k => cases k with
  | p => rfl
  | own l hl hn => exact MD.eq (.own l hl hn)
  | map hl => exact MD.eq (.map hl)
  | sub l r hl hr => exact MD.eq (.sub l r hl hr)
 | agg k => simp only [GJ, k.eq, Option.map_some]
 | tup k => simp only [GJ, k.eq, Option.map_some]
 | box hl k => rw [Bn] at hl; simp only [GJ, hl, k.eq, Option.map_some]
 | fn k => simp only [GJ, k.eq, Option.map_some]
theorem C9.eq {h : Ag} {vs : List LV} {ds : List DV} (k : C9 h vs ds) : Bz h vs = some ds := by
 induction k with
 | nil => rfl
 | cons k _ ih => simp only [Bz, k.eq, ih]
theorem HH {rs : List ResultVar} {st : St} {v : LV} {d : DV} (hr : KF AE.tt st rs = some [v]) (k : Ld st.heap v d) : Gm AE.tt rs st = some d := by
 simp only [Gm, hr, k.eq]
theorem SY {rs : List ResultVar} {st : St} {v u : LV} {vs : List LV} {ds : List DV} (hr : KF AE.tt st rs = some (v :: u :: vs)) (k : C9 st.heap (v :: u :: vs) ds) : Gm AE.tt rs st = some (.tup ds) := by
 simp only [Gm, hr, k.eq, Option.map_some]
def WZ (sl : List (Nat × LV)) (t : Nat) : LV := match Bu t sl with
 | some v => v
 | none => .any
theorem ZQ {sl : List (Nat × LV)} {t : Nat} : WZ sl t = Bo sl t := by simp only [WZ, Bo, Bn]; rfl
inductive Vu (gl : List (Nat × Nat)) (sl : List (Nat × LV)) : List (Nat × LV) -> Prop where
 | nil : Vu gl sl []
 | cons {t : Nat} {l : LV} {r : List (Nat × LV)} (h : WZ sl t = F6 gl l) (k : Vu gl sl r) : Vu gl sl ((t, l) :: r)
inductive Vv (gl : List (Nat × Nat)) (h : Ag) : Ag -> Prop where
 | nil : Vv gl h []
 | cons {id old : Nat} {o : BK} {r : Ag} (h1 : Bu id gl = some old) (h2 : Bu old h = some (WP gl o)) (k : Vv gl h r) : Vv gl h ((id, o) :: r)
def Mx (gl : List (Nat × Nat)) : List (Nat × LV) -> Bool
 | [] => true
 | (_, l) :: r => match ES gl l with
  | true => Mx gl r
  | false => false
def My (gl : List (Nat × Nat)) : Ag -> Bool
 | [] => true
 | (_, o) :: r => match Tv gl o with
  | true => My gl r
  | false => false
theorem YQ {gl : List (Nat × Nat)} {sl sl' : List (Nat × LV)} (h : Vu gl sl sl') : Mx gl sl' = true -> TT gl sl sl' := by
 induction h with
 | nil => intro _; trivial
 | cons h _ ih =>
  intro hn
  simp only [Mx] at hn
  split at hn
  .rename_i hq; exact ⟨⟨hq, by rw [<- ZQ]; exact h⟩, ih hn⟩
  cases hn
theorem YR {gl : List (Nat × Nat)} {h h' : Ag} (k : Vv gl h h') : My gl h' = true -> TU gl h h' := by
 induction k with
 | nil => intro _; trivial
 | cons h1 h2 _ ih =>
  intro hn
  simp only [My] at hn
  split at hn
  .rename_i hq; exact ⟨⟨hq, _, by rw [<- Bn]; exact h1, by rw [<- Bn]; exact h2⟩, ih hn⟩
  cases hn
theorem wk (gl : List (Nat × Nat)) {nt : Nat} {sl sl' : List (Nat × LV)} {h h' : Ag} {c c' : Nat} (hext : ∀ id, A.μ0 id ≠ none -> AL id gl = some id) (ho : Qi gl h' c' = true) (hn : Mx gl sl' = true) (hm : My gl h' = true)
  (hs : Vu gl sl sl') (hh : Vv gl h h') : A9 A ⟨nt, sl, h, c⟩ ⟨nt, sl', h', c'⟩ := YI gl hext ho (YQ hs hn) (YR hh hm)
def TX (sl : List (Nat × LV)) : List (Nat × LV) -> List LV
 | [] => []
 | (t, _) :: r => WZ sl t :: TX sl r
def TY (gl : List (Nat × Nat)) : List (Nat × LV) -> List LV
 | [] => []
 | (_, l) :: r => F6 gl l :: TY gl r
def Zw (gl : List (Nat × Nat)) (h : Ag) (id : Nat) : Option BK := match Bu id gl with
 | some old => Bu old h
 | none => none
def TZ (gl : List (Nat × Nat)) (h : Ag) : Ag -> List (Option BK)
 | [] => []
 | (id, _) :: r => Zw gl h id :: TZ gl h r
def Ta (gl : List (Nat × Nat)) : Ag -> List (Option BK)
 | [] => []
 | (_, o) :: r => some (WP gl o) :: Ta gl r
theorem T8 {gl : List (Nat × Nat)} {sl : List (Nat × LV)} : ∀ {sl' : List (Nat × LV)}, TX sl sl' = TY gl sl' -> Vu gl sl sl'
 | [], _ => .nil
 | (_, _) :: _, h => .cons (List.cons.inj h).1 (T8 (List.cons.inj h).2)
theorem T9 {gl : List (Nat × Nat)} {h : Ag} : ∀ {h' : Ag}, TZ gl h h' = Ta gl h' -> Vv gl h h'
 | [], _ => .nil
 | (id, o) :: _, e => by
  have e1 := (List.cons.inj e).1
  unfold Zw at e1
  split at e1
  .rename_i old hl; exact .cons hl e1 (T9 (List.cons.inj e).2)
  cases e1
def Wa (gl : List (Nat × Nat)) (sl' : List (Nat × LV)) (h' : Ag) (c' : Nat) : Bool := match Qi gl h' c' with
 | true => match Mx gl sl' with
  | true => My gl h'
  | false => false
 | false => false
theorem LH {gl : List (Nat × Nat)} {sl' : List (Nat × LV)} {h' : Ag} {c' : Nat} (h : Wa gl sl' h' c' = true) : Qi gl h' c' = true /\ Mx gl sl' = true /\ My gl h' = true := by
 unfold Wa at h
 split at h
 .split at h
  .exact ⟨‹_›, ‹_›, h⟩
  cases h
 cases h
def gi : Nat -> List (Nat × Nat) -> List (Nat × Nat)
 | 0, l => l
 | n + 1, l => gi n ((n, n) :: l)
theorem wf {nt : Nat} {sl sl' : List (Nat × LV)} {h h' : Ag} {c c' : Nat} (hA : ∀ id, A.μ0 id = none) (gl : List (Nat × Nat)) (ha : Wa gl sl' h' c' = true) (hs : TX sl sl' = TY gl sl') (hh : TZ gl h h' = Ta gl h') : A9 A ⟨nt, sl, h, c⟩ ⟨nt, sl', h', c'⟩ :=
 wk gl (fun id h => absurd (hA id) h) (LH ha).1 (LH ha).2.1 (LH ha).2.2 (T8 hs) (T9 hh)
theorem Oj (hA : ∀ id, A.μ0 id = none) (gl : List (Nat × Nat)) : ∀ id, A.μ0 id ≠ none -> AL id gl = some id := fun id h => absurd (hA id) h
section
variable {σ Ans : Type} {S : σ -> St} {Q : Ans -> Exit -> St -> Prop} {st : St}
theorem lpn {s : σ} (hw : A9 A st (S s)) : LP A S Q (.inl s) .normal st := ⟨rfl, hw⟩
theorem lpx {a : Ans} {id : Nat} (k : Q a (.exit id) st) : LP A S Q (.inr a) (.exit id) st := ⟨nofun, k⟩
theorem lpt {a : Ans} (k : Q a .ret st) : LP A S Q (.inr a) .ret st := ⟨nofun, k⟩
theorem npn {s : σ} (hw : A9 A st (S s)) : NP A S s .normal st := ⟨rfl, hw⟩
end
theorem mp {σ Ans : Type} {o : Option Ans} {b : σ ⊕ Ans} (h : o.map .inr = some b) : ∃ a, o = some a /\ b = .inr a := by
 cases o with
 | none => cases h
 | some a => exact ⟨a, rfl, (Option.some.inj h).symm⟩
theorem mps {σ Ans : Type} {x : Ans} {b : σ ⊕ Ans} (h : some (.inr x) = some b) : ∃ a, some x = some a /\ b = .inr a := ⟨x, rfl, (Option.some.inj h).symm⟩
end
end Go.E
/- Scopes, slices set against nil, functions walked where they are called (Cy), slices handed back (Gn). No condition. -/
namespace Go.E
open Go Go.RowKit
section
variable {α : Type} [DecidableEq α]
def Tb (a b : Option α) : Option α := if a = b then a else none
theorem Wb {a b : Option α} {x : α} (h : Tb a b = some x) : a = some x /\ b = some x := by
 unfold Tb at h
 split at h
 .rename_i e; exact ⟨h, e ▸ h⟩
 cases h
def MX {β : Type} (l : List β) (a b : Option α) : Option α := match l with
 | [] => Tb a b
 | _ :: _ => b
end
section
variable {P : Program} {A : BX} {AE : BG} {st : St}
def Zx (Q : Exit -> St -> Prop) : Exit -> St -> Prop
 | .goto _, _ => False
 | e, st => Q e st
theorem sc {c : Code} {Q : Exit -> St -> Prop} (h : CM P A c (Zx Q) st) : CM P A (.scope c) Q st := fun a w hR =>
 wp_scope_straight (wp_mono (h a w hR) fun e a' w' ⟨st', hR', q⟩ => by
  cases e <;> first | exact q.elim | exact ⟨st', hR', q⟩)
theorem Em {Q : Exit -> St -> Prop} (h : Q .ret st) : Zx Q .ret st := h
theorem Zy {Q : Exit -> St -> Prop} {id : Nat} (h : Q (.exit id) st) : Zx Q (.exit id) st := h
section
variable {f : St -> Prop} {hf : JQ f} {nt : Nat} {sl : List (Nat × LV)} {h : Ag} {c : Nat} {α Ans : Type} [DecidableEq Ans] {enc : α -> List DV} {l : List α} {d : Tmp} {t t' sz : Nat} {x y : Operand} {p q : Option Ans} {a : Ans}
theorem JX (hh : MX l p q = some a) (ht : Qq AE t = true) (hx : BM nt sl x = .p (.slice sz (l.map enc))) (hy : BM nt sl y = .p .nils)
  (k1 : p = some a -> f ⟨nt, (d, .p (.bool true)) :: sl, h, c⟩) (k2 : q = some a -> f ⟨nt, (d, .p (.bool false)) :: sl, h, c⟩) : BQ P A AE ⟨nt, sl, h, c⟩ (some d) (.binOp .eql t x y t') ⟨f, hf⟩ := by
 obtain ⟨ti, e, h1, h2⟩ := QD ht
 rw [BV (h := h) (c := c)] at hx hy
 show Rk AE .eql t _ _ _
 rw [hx, hy]
 refine Ae.2 ⟨ti, h1, Cl.2 ⟨e, h2, ?_⟩⟩
 intro r hr
 cases l with
 | nil =>
  obtain ⟨g1, g2⟩ := Wb hh
  cases r with
  | true => exact k1 g1
  | false => exact k2 g2
 | cons z l => rw [hr (by simp)]; exact k2 hh
end
def JY (tt : Nat -> Option TI) (rs : List ResultVar) (st : St) : Option LV :=
 match KF tt st rs with
 | some [l] => some l
 | some ls => some (.tup ls)
 | none => none
def ME : Nat -> List LV -> List (Nat × LV)
 | _, [] => []
 | n, d :: ds => (n, d) :: ME (n + 1) ds
theorem Qv : ∀ (ds : List LV) (n t : Nat), AL t (ME n ds) = if n <= t then ds[t - n]? else none
 | [], n, t => by simp [ME, AL]
 | d :: ds, n, t => by
  simp only [ME, AL]
  by_cases e : t = n
  .subst e; simp
  rw [if_neg e, Qv ds (n + 1) t]
  by_cases h : n + 1 <= t
  .rw [if_pos h, if_pos (by omega), show t - n = t - (n + 1) + 1 by omega, List.getElem?_cons_succ]
  rw [if_neg h, if_neg (by omega)]
theorem VD (hE : BN P AE) {A : BX} {μ : Nat -> Option Bt} {F : Nat -> Prop} {st : St} {a : Act} {w : World} (hs : ∀ x, Ar (Au A μ st.heap) μ w (a.eval x) (st.eval x)) (hh : HRel A μ st.heap F w) {fn : Func} {r : LV} (h : JY AE.tt fn.results.toList st = some r) :
  ∃ v, (results fn a.tmps).run P w = .ok v w /\ Ar (Au A μ st.heap) μ w v r := by
 unfold JY at h
 cases hr : KF AE.tt st fn.results.toList with
 | none => rw [hr] at h; cases h
 | some ls =>
  rw [hr] at h
  obtain ⟨vs, g1, g2, g3⟩ := MR (P := P) hE hs hh hr
  have hrun := MS g1
  match ls, vs, g2 with
  | [], [], _ => cases h; exact ⟨_, hrun, .tup _ _ rfl (by simp)⟩
  | [l], [v], _ => simp only [Option.some.injEq] at h; subst h; exact ⟨_, hrun, g3 0 v l rfl rfl⟩
  | l :: m :: ls, u :: v :: vs, g2 => simp only [Option.some.injEq] at h; subst h; exact ⟨_, hrun, .tup _ _ (by simpa using g2) fun i x d hx hd => g3 i x d (by simpa using hx) hd⟩
theorem Vw {c : Code} {Q : Exit -> St -> Prop} (h : CM P A c (fun e s => ∃ s', A9 A s s' /\ Q e s') st) : CM P A c Q st := fun a w hR =>
 wp_mono (h a w hR) fun _ a' w' ⟨_, hR', s', hw, q⟩ => ⟨s', hw a' w' hR', q⟩
theorem UA (hE : BN P AE) {k : Nat} {fn : Func} {cd : Code} (hf : P.funcs[k]? = some fn) (hb : fn.body = some cd) (hn : (fn.name == "runtime.NumGoroutine") = false) (nt : Nat) (hnt : fn.ntmps = nt) (rs : List ResultVar) (hrs : fn.results.toList = rs)
  {h : Ag} {ctr : Nat} {args : List LV} (hlen : args.length <= nt) {K : LV -> Ag -> Nat -> Prop}
  (body : ∀ A' : BX, (∀ id, A'.μ0 id ≠ none -> id < ctr) -> CM P A' cd (NG fun st => ∃ l, JY AE.tt rs st = some l /\ K l st.heap st.ctr) ⟨nt, ME 0 args, h, ctr⟩) : Ef P A h ctr k args K := by
 subst hnt hrs
 refine ⟨OJ hf hb hn, fun μ w vs hh hsz hr => ?_⟩
 have hlt : ∀ id loc, μ id = some loc -> id < ctr := by
  intro id loc hm
  by_cases hi : id < ctr
  .exact hi
  rw [hh.fresh id (by simp only [Fr]; omega)] at hm; cases hm
 let A' : BX := ⟨w, A.O, CN μ h, fun id => if id < ctr then μ id else none, fun b hb' => ⟨Nat.lt_of_lt_of_le (A.hO b hb').1 hh.size, by
  rintro ⟨id, o, loc, h1, h2, h3, rfl⟩
  exact (hh.base id o loc h1 h2 h3).2.1 hb'⟩⟩
 have hA' : ∀ id, A'.μ0 id ≠ none -> id < ctr := by
  intro id hid
  by_cases hi : id < ctr
  .exact hi
  simp [A', hi] at hid
 have hown : ∀ b, Au A' μ h b ↔ Au A μ h b := fun b => Iff.rfl
 have hh' : HRel A' μ h (Fr ctr) w := ⟨hh.obj, hh.inj, hh.fresh, fun id o loc h1 h2 h3 => ⟨(hh.base id o loc h1 h2 h3).1, (hh.base id o loc h1 h2 h3).2.1, .inr ⟨id, o, loc, h1, h2, h3, rfl⟩⟩, Nat.le_refl _, fun _ _ _ => rfl, rfl, rfl, rfl, fun id loc hm => by
  simp only [A'] at hm
  split at hm
  .exact hm
  cases hm⟩
 have hR : R A' ⟨fn.ntmps, ME 0 args, h, ctr⟩ { tmps := vs ++ Array.replicate (fn.ntmps - vs.size) undef, defers := [] } w := by
  refine ⟨⟨μ, hh', fun t ht => ?_⟩, by simp; omega, rfl⟩
  simp only [Bo, Qv, Nat.zero_le, if_true, Nat.sub_zero]
  by_cases hlt' : t < args.length
  .have hv : t < vs.size := by omega
   have e : args[t]? = some args[t] := by simp [hlt']
   rw [e]
   have e2 : (vs ++ Array.replicate (fn.ntmps - vs.size) undef).getD t undef = vs[t] := by
    rw [Array.getD_eq_getD_getElem?, Array.getElem?_append_left hv]; simp [hv]
   rw [e2]
   exact hr t _ _ (by simp [hv]) e
  have e : args[t]? = none := by simp; omega
  rw [e]; exact .any _
 refine calls_of_wp hf hb (wp_mono (body A' hA' _ _ hR) ?_)
 rintro e a' w' ⟨st', ⟨⟨μ', hh2, hs⟩, hnt, hdef⟩, hq⟩
 have fin : (∃ l, JY AE.tt fn.results.toList st' = some l /\ K l st'.heap st'.ctr) -> a'.defers = [] /\ ∃ v, (results fn a'.tmps).run P w' = .ok v w' /\
   ∃ u l h' c' μ', Ending.returned v = .returned u /\ K l h' c' /\ HRel A μ' h' (Fr c') w' /\ Ar (Au A μ' h') μ' w' u l /\ ∀ v x, Ar (Au A μ h) μ w v x -> Ar (Au A μ' h') μ' w' v x := by
  rintro ⟨l, h1, h2⟩
  obtain ⟨v, g1, g2⟩ := VD (P := P) hE (fun x => Ht hs x) hh2 h1
  have mineof : ∀ b, b < w.heap.size -> CN μ' st'.heap b -> CN μ h b := by
   rintro b hb' ⟨id, o, loc, k1, k2, k3, rfl⟩
   rcases (hh2.base id o loc k1 k2 k3).2.2 with hb2 | hb2
   .exact absurd hb2 (by show ¬ w.heap.size <= _; omega)
   exact hb2
  have keepμ' : ∀ id loc, μ id = some loc -> μ' id = some loc := fun id loc hm => hh2.ext id loc (by simp only [A']; rw [if_pos (hlt id loc hm)]; exact hm)
  refine ⟨hdef, v, g1, v, l, st'.heap, st'.ctr, μ', rfl, h2, ⟨hh2.obj, hh2.inj, hh2.fresh, fun id o loc k1 k2 k3 => ⟨(hh2.base id o loc k1 k2 k3).1, (hh2.base id o loc k1 k2 k3).2.1, ?_⟩, Nat.le_trans hh.size hh2.size, fun b hb' hnf => ?_, hh2.os.trans hh.os, hh2.tape.trans hh.tape, hh2.output.trans hh.output, fun id loc hm => keepμ' id loc (hh.ext id loc hm)⟩, g2, fun v x hv => hv.mono ⟨hh2.size, fun b hb' hno => hh2.block b hb' fun hm => hno (.inr hm)⟩ (fun b hb' ho => ?_) keepμ'⟩
  .rcases (hh2.base id o loc k1 k2 k3).2.2 with hb2 | ⟨id2, o2, loc2, m1, m2, m3, m4⟩
   .exact .inl (Nat.le_trans hh.size hb2)
   rw [<- m4]; exact (hh.base id2 o2 loc2 m1 m2 m3).2.2
  .have hnm : ¬ CN μ h b := by
    rintro ⟨id2, o2, loc2, m1, m2, m3, rfl⟩
    rcases (hh.base id2 o2 loc2 m1 m2 m3).2.2 with hb2 | hb2
    .omega
    exact hnf hb2
   rw [hh2.block b (Nat.lt_of_lt_of_le hb' hh.size) hnm]
   exact hh.block b hb' hnf
  rcases ho with ho | ho
  .exact .inl ho
  exact .inr (mineof b hb' ho)
 cases e with
 | normal => exact fin hq
 | ret => exact fin hq
 | _ => exact hq.elim
def IP (tt : Nat -> Option TI) (rs : List ResultVar) (A : BX) (L : LV) (H : Ag) (C : Nat) (e : Exit) (st : St) : Prop :=
 ∃ s', A9 A st s' /\ NG (fun s => JY tt rs s = some L /\ s.heap = H /\ s.ctr = C) e s'
theorem Co {rs : List ResultVar} {L : LV} {nt C : Nat} {sl : List (Nat × LV)} {H : Ag} (hw : A9 A st ⟨nt, sl, H, C⟩) (hr : JY AE.tt rs ⟨nt, sl, H, C⟩ = some L) : IP AE.tt rs A L H C .ret st := ⟨_, hw, hr, rfl, rfl⟩
theorem Gf {rs : List ResultVar} {L : LV} {nt C : Nat} {sl : List (Nat × LV)} {H : Ag} (hw : A9 A st ⟨nt, sl, H, C⟩) (hr : JY AE.tt rs ⟨nt, sl, H, C⟩ = some L) : IP AE.tt rs A L H C .normal st := ⟨_, hw, hr, rfl, rfl⟩
section
variable {f : St -> Prop} {hf : JQ f} {nt : Nat} {sl : List (Nat × LV)} {h : Ag} {c : Nat} {σ Ans : Type}
theorem Cy (hE : BN P AE) (L : σ -> LV) (H : σ -> Ag) (C : Nat) {sp : Option σ} {rest : σ -> Option Ans} {a : Ans} {dst : Option Tmp} {fo : Operand} {args : Array Operand} {ts : Array TypeId} {k : Nat} {fn : Func} {cd : Code} {caps ls : List LV}
  (hh : sp.bind rest = some a) (hfun : P.funcs[k]? = some fn) (nt' : Nat) (rs : List ResultVar) (sl' : List (Nat × LV)) (hb : fn.body = some cd) (hn : (fn.name == "runtime.NumGoroutine") = false) (hnt : Nat.beq fn.ntmps nt' = true) (hrs : fn.results.toList = rs)
  (hfn : BM nt sl fo = .fn k caps) (hl : FF nt sl args.toList some = some ls) (hlen : Nat.ble (ls ++ caps).length nt' = true) (hsl : ME 0 (ls ++ caps) = sl')
  (body : ∀ A : BX, (∀ id, A.μ0 id ≠ none -> id < c) -> ∀ t, sp = some t -> CM P A cd (IP AE.tt rs A (L t) (H t) C) ⟨nt', sl', h, c⟩)
  (kk : ∀ t, rest t = some a -> f (match dst with | some d => ⟨nt, (d, L t) :: sl, H t, C⟩ | none => ⟨nt, sl, H t, C⟩)) : BQ P A AE ⟨nt, sl, h, c⟩ dst (.call ⟨.value fo, args, ts⟩) ⟨f, hf⟩ := by
 obtain ⟨t, h1, h2⟩ := bd hh
 rw [BV (h := h) (c := c)] at hfn
 show N4 _ _
 rw [hfn]
 show KH P A h c k (args.toList.map _ ++ caps) _
 rw [IM hl]
 subst hsl
 refine UA hE hfun hb hn nt' (Nat.eq_of_beq_eq_true hnt) rs hrs (Nat.le_of_ble_eq_true hlen) fun A' hA' => ?_
 have := Vw (body A' hA' t h1)
 refine LL this fun e s q => ?_
 have fin : (JY AE.tt rs s = some (L t) /\ s.heap = H t /\ s.ctr = C) -> ∃ l, JY AE.tt rs s = some l /\ f (St.go ⟨nt, sl, h, c⟩ dst l s.heap s.ctr) := by
  rintro ⟨q1, q2, q3⟩
  refine ⟨_, q1, ?_⟩
  rw [q2, q3, PW]
  have := kk t h2
  cases dst <;> exact this
 cases e <;> first | exact fin q | exact q.elim
end
def Qw : Nat -> List (Nat × Nat) -> Bool
 | 0, _ => true
 | n + 1, gl => match Bu n gl with
  | some m => match Nat.beq n m with
   | true => Qw n gl
   | false => false
  | none => false
theorem UB : ∀ {n : Nat} {gl : List (Nat × Nat)}, Qw n gl = true -> ∀ i, i < n -> AL i gl = some i
 | 0, _, _, i, h => by omega
 | n + 1, gl, hk, i, hi => by
  simp only [Qw] at hk
  split at hk
  .rename_i m hm
   split at hk
   .rename_i hb
    have := Nat.eq_of_beq_eq_true hb
    subst this
    by_cases e : i = n
    .subst e; rw [<- Bn]; exact hm
    exact UB hk i (by omega)
   cases hk
  cases hk
theorem kept {n : Nat} (hA : ∀ id, A.μ0 id ≠ none -> id < n) (gl : List (Nat × Nat)) (hk : Qw n gl = true) : ∀ id, A.μ0 id ≠ none -> AL id gl = some id := fun id h => UB hk id (hA id h)
theorem wj {n nt : Nat} {sl sl' : List (Nat × LV)} {h h' : Ag} {c c' : Nat} (hA : ∀ id, A.μ0 id ≠ none -> id < n) (gl : List (Nat × Nat)) (hk : Qw n gl = true) (ha : Wa gl sl' h' c' = true) (hs : TX sl sl' = TY gl sl') (hh : TZ gl h h' = Ta gl h') : A9 A ⟨nt, sl, h, c⟩ ⟨nt, sl', h', c'⟩ :=
 wk gl (kept hA gl hk) (LH ha).1 (LH ha).2.1 (LH ha).2.2 (T8 hs) (T9 hh)
section
variable {f : St -> Prop} {hf : JQ f} {nt : Nat} {sl : List (Nat × LV)} {h : Ag} {c : Nat} {d : Tmp} {α : Type} {enc : α -> List DV}
theorem Rx {fo : Operand} {args : Array Operand} {ts : Array TypeId} {k e sz : Nat} {caps ls : List LV} {ds : List DV} {r : List α} (hF : Gn P k ds e sz (r.map enc))
  (hs : (ls ++ caps).flatMap (Eg h) = []) (hfn : BM nt sl fo = .fn k caps) (hl : FF nt sl args.toList some = some ls) (hds : Bz h (ls ++ caps) = some ds)
  (kk : f ⟨nt, (d, .lsl c sz 0 r.length) :: sl, (c, .row e sz (r.map enc)) :: h, c + 1⟩) : BQ P A AE ⟨nt, sl, h, c⟩ (some d) (.call ⟨.value fo, args, ts⟩) ⟨f, hf⟩ := by
 rw [BV (h := h) (c := c)] at hfn
 show N4 _ _
 rw [hfn]
 show KH P A h c k (args.toList.map _ ++ caps) _
 rw [IM hl]
 refine AAb hds hF hs ?_
 rw [List.length_map]
 exact kk
theorem YS {fo : Operand} {args : Array Operand} {ts : Array TypeId} {k e sz : Nat} {caps ls : List LV} {ds : List DV} {r : List α} (hF : Gn P k ds e sz (r.map enc)) (hw : AE.own = true)
  (hs : (ls ++ caps).flatMap (Eg h) = []) (hfn : BM nt sl fo = .fn k caps) (hl : FF nt sl args.toList some = some ls) (hds : Bz h (ls ++ caps) = some ds)
  (kk : f ⟨nt, (d, .lsl c sz 0 r.length) :: sl, (c, .row e sz (r.map enc)) :: h, c + 1⟩) : Jx P A AE ⟨nt, sl, h, c⟩ (some d) (.call ⟨.value fo, args, ts⟩) ⟨f, hf⟩ := by
 rw [BV (h := h) (c := c)] at hfn
 show N4 _ _
 rw [hfn]
 refine .inr ⟨hw, ds, e, sz, r.map enc, ?_, hF, ?_, ?_⟩
 .show Bz h (args.toList.map _ ++ caps) = _
  rw [IM hl]; exact hds
 .show WF (List.flatMap _ (args.toList.map _ ++ caps)) _
  rw [IM hl]; exact .inl hs
 show f ⟨nt, (d, .lsl c sz 0 (r.map enc).length) :: sl, _, _⟩
 rw [List.length_map]
 exact kk
theorem XW {k : Nat} {fn : Func} {cd : Code} {ds : List DV} {e sz : Nat} {r : List α} (hen : WY enc sz) (hf : P.funcs[k]? = some fn) (hb : fn.body = some cd) (hn : (fn.name == "runtime.NumGoroutine") = false) (nt : Nat) (hnt : Nat.beq fn.ntmps nt = true)
  (t : Nat) (hrs : fn.results.toList = [.tmp t]) (sl : List (Nat × LV)) (hsl : Dr 0 ds = sl) (hlen : Nat.ble ds.length nt = true)
  (h : ∀ A : BX, (∀ id, A.μ0 id = none) -> CM P A cd (WS t e sz (r.map enc)) ⟨nt, sl, [], 0⟩) : Gn P k ds e sz (r.map enc) := by
 subst hsl
 refine ZJ hf hb hn nt (Nat.eq_of_beq_eq_true hnt) t hrs (Nat.le_of_ble_eq_true hlen) (fun x hx => ?_) h
 obtain ⟨a, _, rfl⟩ := List.mem_map.1 hx
 exact (hen a).1
theorem XX {t e sz id n : Nat} {r : List α} (hv : BM nt sl (.tmp t) = .lsl id sz 0 n) (hl : Bu id h = some (.row e sz (r.map enc))) (hn : n = r.length) : WS t e sz (r.map enc) .ret ⟨nt, sl, h, c⟩ := by
 rw [BV (h := h) (c := c)] at hv
 rw [Bn] at hl
 refine .inl ⟨id, ?_, hl⟩
 rw [hv, hn, List.length_map]
theorem YT {t e sz : Nat} (hv : BM nt sl (.tmp t) = .p .nils) : WS t e sz (([] : List α).map enc) .ret ⟨nt, sl, h, c⟩ := by
 rw [BV (h := h) (c := c)] at hv
 exact .inr ⟨hv, rfl⟩
end
end
end Go.E
/- Rules for single operations: arrays, division, a nil slice as an empty one. No condition. -/
namespace Go.E
open Go Go.RowKit
section
variable {P : Program} {A : BX} {AE : BG} {f : St -> Prop} {hf : JQ f} {nt : Nat} {sl : List (Nat × LV)} {h : Ag} {c : Nat} {d : Tmp} {α : Type} {l : List α} {t : Nat} {x i : Operand}
theorem BW {α : Type} (l : List α) (n : Int) (z : α) : (BF l n z).length = l.length := by simp [BF]
def Wc (AE : BG) (t m : Nat) : Bool := match AE.tt t with
 | some ti => match ti.sh with
  | .arr n e => match AE.tt e with
   | some te => match te.sh with
    | .struct _ | .arr _ _ => false
    | _ => Nat.beq n m && Nat.beq te.size 1
   | none => false
  | _ => false
 | none => false
theorem Vx {t m : Nat} (h : Wc AE t m = true) : ∃ ti e te, AE.tt t = some ti /\ ti.sh = .arr m e /\ AE.tt e = some te /\ te.size = 1 /\ te.sh.isAgg = false := by
 unfold Wc at h
 split at h
 .rename_i ti hti
  split at h
  .rename_i n e he
   split at h
   .rename_i te hte
    split at h
    .cases h
    .cases h
    rename_i k1 k2
    simp only [Bool.and_eq_true] at h
    have h1 := Nat.eq_of_beq_eq_true h.1
    subst h1
    refine ⟨ti, e, te, hti, he, hte, Nat.eq_of_beq_eq_true h.2, ?_⟩
    cases hq : te.sh <;> first | rfl | exact absurd hq (k1 _) | exact absurd hq (k2 _ _)
   cases h
  cases h
 cases h
theorem AAd {n : Int} {kk : IntKind} {id : Nat} {y : α} (hy : Ak l n = some y) (ht : Wc AE t l.length = true) (hx : BM nt sl x = .lpb id 0) (hi : BM nt sl i = .p (.int kk n)) (_ : True = True)
  (k : f ⟨nt, (d, .lpb id n.toNat) :: sl, h, c⟩) : BQ P A AE ⟨nt, sl, h, c⟩ (some d) (.indexAddr t x i) ⟨f, hf⟩ := by
 obtain ⟨ti, e, te, h1, h2, h3, h4, _⟩ := Vx ht
 obtain ⟨g1, g2, g3⟩ := Gy hy
 rw [BV (h := h) (c := c)] at hx hi
 refine Ce.2 ⟨kk, n, hi, Ae.2 ⟨ti, h1, ?_⟩⟩
 dsimp only
 rw [h2, hx]
 refine Ae.2 ⟨te, h3, ⟨g1, by omega⟩, ?_⟩
 simp only [Nat.zero_add, h4, Nat.mul_one]
 exact k
def Wd (AE : BG) (t : Nat) : Bool := match AE.tt t with
 | some ti => match ti.sh with
  | .struct _ | .arr _ _ => false
  | _ => true
 | none => false
theorem YU {t : Nat} (h : Wd AE t = true) : ∃ ti, AE.tt t = some ti /\ ti.sh.isAgg = false := by
 unfold Wd at h
 split at h
 .rename_i ti hti
  refine ⟨ti, hti, ?_⟩
  split at h
  .cases h
  .cases h
  rename_i k1 k2
  cases hq : ti.sh <;> first | rfl | exact absurd hq (k1 _) | exact absurd hq (k2 _ _)
 cases h
theorem AAe {n : Int} {id : Nat} {y : α} {g : α -> LV} (hy : Ak l n = some y) (hx : BM nt sl x = .lpb id n.toNat) (hl : Bu id h = some (.box (l.map g))) (ht : Wd AE t = true) (_ : True = True)
  (k : f ⟨nt, (d, g y) :: sl, h, c⟩) : BQ P A AE ⟨nt, sl, h, c⟩ (some d) (.load t x) ⟨f, hf⟩ := by
 obtain ⟨ti, h1, h2⟩ := YU ht
 obtain ⟨g1, g2, g3⟩ := Gy hy
 rw [BV (h := h) (c := c)] at hx
 rw [Bn] at hl
 refine Ae.2 ⟨ti, h1, ?_⟩
 rw [hx]
 refine Ac.2 ⟨_, hl, ?_⟩
 dsimp only
 refine I7.2 ⟨_, rfl, ?_⟩
 refine Ac.2 ⟨g y, ?_, k⟩
 simp only [Dj, h2, Bool.false_eq_true, if_false, List.getElem?_map, g3, Option.map_some]
theorem AAf {n : Int} {kk : IntKind} {y : α} {g : α -> DV} (hy : Ak l n = some y) (ht : Wc AE t l.length = true) (hx : BM nt sl x = .p (.agg (l.map g))) (hi : BM nt sl i = .p (.int kk n)) (_ : True = True)
  (k : f ⟨nt, (d, .p (g y)) :: sl, h, c⟩) : BQ P A AE ⟨nt, sl, h, c⟩ (some d) (.index t x i) ⟨f, hf⟩ := by
 obtain ⟨ti, e, te, h1, h2, h3, h4, h5⟩ := Vx ht
 obtain ⟨g1, g2, g3⟩ := Gy hy
 rw [BV (h := h) (c := c)] at hx hi
 refine Ce.2 ⟨kk, n, hi, Ae.2 ⟨ti, h1, g1, ?_⟩⟩
 dsimp only
 rw [h2, hx]
 refine Ae.2 ⟨te, h3, by show n < (l.length : Int); omega, Ac.2 ⟨.p (g y), ?_, k⟩⟩
 simp only [Dj, h5, Bool.false_eq_true, if_false, h4, Nat.mul_one, List.map_map, List.getElem?_map, g3, Option.map_some, Function.comp]
section
variable {κ υ : Type} [BEq κ] {ke : κ -> DV} {ve : υ -> DV} {mp : List (κ × υ)} {kt et : Nat}
def Lg (m : List (κ × υ)) (x : κ) : Nat := match m with
 | [] => 0
 | p :: m => if x == p.1 then 0 else Lg m x + 1
def JZ (m : List (κ × υ)) (x : κ) (z : υ) : List (κ × υ) := match m with
 | [] => [(x, z)]
 | p :: m => if x == p.1 then p :: m else p :: JZ m x z
theorem Qx (hk : Lc AE kt ke) (x : κ) : ∀ m : List (κ × υ), (Dw (ke x) (Aw ke ve m)).map (·.1) = if (Ap m x).isSome then some (Lg m x) else none
 | [] => by simp [Aw, Dw, Ap]
 | p :: m => by
  have ih := Qx hk x m
  simp only [Aw] at ih
  simp only [Aw, List.map_cons, Dw, hk.eq, Ap, Lg]
  by_cases h : (x == p.1) = true
  .simp [h]
  simp only [h, Bool.false_eq_true, if_false, Option.map_map]
  cases ha : (Ap m x).isSome with
  | true =>
   rw [ha, if_pos rfl] at ih
   obtain ⟨r, hr, h1⟩ := Option.map_eq_some_iff.1 ih
   rw [hr]; simp [h1]
  | false =>
   rw [ha] at ih
   simp only [Bool.false_eq_true, if_false, Option.map_eq_none_iff] at ih
   rw [ih]; simp
theorem SZ {x : κ} {z : υ} : ∀ {m : List (κ × υ)}, (Ap m x).isSome = true -> JZ m x z = m
 | [], h => by simp [Ap] at h
 | p :: m, h => by
  simp only [Ap] at h
  simp only [JZ]
  by_cases hx : (x == p.1) = true
  .rw [if_pos hx]
  rw [if_neg hx] at h ⊢; rw [SZ h]
theorem Sa {x : κ} {z : υ} : ∀ {m : List (κ × υ)}, (Ap m x).isSome = false -> JZ m x z = m ++ [(x, z)] /\ Lg m x = m.length
 | [], _ => ⟨rfl, rfl⟩
 | p :: m, h => by
  simp only [Ap] at h
  simp only [JZ, Lg]
  by_cases hx : (x == p.1) = true
  .rw [if_pos hx] at h; cases h
  rw [if_neg hx] at h ⊢
  obtain ⟨h1, h2⟩ := Sa (z := z) h
  rw [h1, if_neg hx, h2]; simp
theorem Sb {x : κ} {z w : υ} : ∀ (m : List (κ × υ)), ∃ p, (JZ m x z)[Lg m x]? = some p /\ (JZ m x z).set (Lg m x) (p.1, w) = BC x w m
 | [] => ⟨(x, z), rfl, rfl⟩
 | p :: m => by
  simp only [JZ, Lg, BC]
  by_cases hx : (x == p.1) = true
  .simp only [hx, if_true]; exact ⟨p, rfl, rfl⟩
  simp only [hx, Bool.false_eq_true, if_false]
  obtain ⟨q, h1, h2⟩ := Sb (x := x) (z := z) (w := w) m
  exact ⟨q, by simpa using h1, by simp [h2]⟩
theorem UC {id : Nat} {v : BK} : ∀ {h : Ag}, AL id h = some v -> B3 id v h = h
 | [], hl => by simp [AL] at hl
 | (q, u) :: r, hl => by
  simp only [AL] at hl
  simp only [B3]
  split
  .rw [if_pos ‹_›] at hl; cases hl; rfl
  rw [if_neg ‹_›] at hl; rw [UC hl]
theorem Qy {y : κ} {id : Nat} {h' : Ag} (z : υ) (hk : Lc AE kt ke) (hx : BM nt sl x = .lmap id) (hm : Bu id h = some (.map (Aw ke ve mp))) (hi : BM nt sl i = .p (ke y)) (ht : Vt AE t kt et = true) (hz : (AE.tt et).map TI.zeroDV = some (ve z))
  (hu : MW id (.map (Aw ke ve (JZ mp y z))) h some = some h') (k : f ⟨nt, (d, .tup [.p (ve ((Ap mp y).getD z)), .p (.int .i64 (Lg mp y))]) :: sl, h', c⟩) : BQ P A AE ⟨nt, sl, h, c⟩ (some d) (.mapEntry t x i) ⟨f, hf⟩ := by
 obtain ⟨ti, h1, h2⟩ := Qs ht
 rw [BV (h := h) (c := c)] at hx hi
 rw [Bn] at hm
 rw [JD, Option.some.injEq] at hu
 subst hu
 obtain ⟨te, h3, h4⟩ := Option.map_eq_some_iff.1 hz
 refine Ae.2 ⟨ti, h1, GO.2 ⟨kt, et, h2, Ae.2 ⟨te, h3, Fo.2 ⟨id, hx, Ac.2 ⟨_, hm, ?_⟩⟩⟩⟩⟩
 dsimp only
 refine Gq.2 ⟨Aw ke ve mp, rfl, ?_⟩
 refine Do.2 ⟨_, hi, ⟨hk.fits y, MB hk mp⟩, ?_⟩
 have hf1 := Qx (ve := ve) hk y mp
 rw [MA hk, h4, QE]
 cases ha : (Ap mp y).isSome with
 | true =>
  rw [ha, if_pos rfl] at hf1
  obtain ⟨r, hr, h5⟩ := Option.map_eq_some_iff.1 hf1
  rw [SZ ha, UC hm] at k
  rw [hr]
  simp only [Option.map_some, Option.getD_some, h5]
  exact k
 | false =>
  rw [ha] at hf1
  simp only [Bool.false_eq_true, if_false, Option.map_eq_none_iff] at hf1
  obtain ⟨g1, g2⟩ := Sa (z := z) ha
  rw [g1, g2] at k
  rw [hf1]
  have e1 : Aw ke ve (mp ++ [(y, z)]) = Aw ke ve mp ++ [(ke y, ve z)] := by simp [Aw]
  have e2 : (Aw ke ve mp).length = mp.length := by simp [Aw]
  rw [e1] at k
  simp only [Option.map_none, Option.getD_none, e2]
  exact k
theorem Qz {y : κ} {z w : υ} {id : Nat} {h' : Ag} {s v : Operand} (hx : BM nt sl x = .lmap id) (hm : Bu id h = some (.map (Aw ke ve (JZ mp y z)))) (hs : BM nt sl s = .p (.int .i64 (Lg mp y))) (hv : BM nt sl v = .p (ve w))
  (hu : MW id (.map (Aw ke ve (BC y w mp))) h some = some h') (k : f ⟨nt, sl, h', c⟩) : BQ P A AE ⟨nt, sl, h, c⟩ none (.entryStore t x s v) ⟨f, hf⟩ := by
 rw [BV (h := h) (c := c)] at hx hs hv
 rw [Bn] at hm
 rw [JD, Option.some.injEq] at hu
 subst hu
 refine Fo.2 ⟨id, hx, Ac.2 ⟨_, hm, ?_⟩⟩
 dsimp only
 refine Gq.2 ⟨_, rfl, ?_⟩
 refine Ce.2 ⟨.i64, _, hs, Do.2 ⟨_, hv, Int.natCast_nonneg _, ?_⟩⟩
 obtain ⟨p, h1, h2⟩ := Sb (x := y) (z := z) (w := w) mp
 refine Ac.2 ⟨(ke p.1, ve p.2), by simp only [Int.toNat_natCast, Aw, List.getElem?_map, h1, Option.map_some], ?_⟩
 have e : (Aw ke ve (JZ mp y z)).set (Int.toNat (Lg mp y : Int)) (ke p.1, ve w) = Aw ke ve (BC y w mp) := by
  rw [<- h2]; simp [Aw, List.map_set]
 dsimp only
 rw [e]
 exact k
end
end
end Go.E
/- The types that the functions of this seat use, as plain data. Written by a program (mkenv.py). No condition. -/
namespace Go.E
open Go Go.RowKit Go.Proofs
def Zz : List (Nat × TI) := [
 (3, ⟨.int .i64, 1, 8, [.int .i64 0]⟩),
 (4, ⟨.bool, 1, 1, [.bool false]⟩),
 (5, ⟨.int .u8, 1, 1, [.int .u8 0]⟩),
 (9, ⟨.str, 1, 16, [.str .empty]⟩),
 (22, ⟨.slc 152, 1, 24, [.nils]⟩),
 (23, ⟨.slc 154, 1, 24, [.nils]⟩),
 (24, ⟨.slc 157, 1, 24, [.nils]⟩),
 (25, ⟨.slc 163, 1, 24, [.nils]⟩),
 (27, ⟨.struct [(0, 22), (1, 23), (2, 24), (3, 25), (4, 3), (5, 3), (6, 3), (7, 3), (8, 4)], 9, 136, [.nils, .nils, .nils, .nils, .int .i64 0, .int .i64 0, .int .i64 0, .int .i64 0, .bool false]⟩),
 (28, ⟨.slc 3, 1, 24, [.nils]⟩),
 (31, ⟨.other, 1, 8, [.nilp]⟩),
 (33, ⟨.slc 65, 1, 24, [.nils]⟩),
 (34, ⟨.slc 91, 1, 24, [.nils]⟩),
 (36, ⟨.struct [(0, 3), (1, 3), (2, 3), (3, 33), (4, 34), (5, 34), (6, 28), (7, 28), (8, 4)], 9, 152, [.int .i64 0, .int .i64 0, .int .i64 0, .nils, .nils, .nils, .nils, .nils, .bool false]⟩),
 (41, ⟨.slc 4, 1, 24, [.nils]⟩),
 (46, ⟨.slc 55, 1, 24, [.nils]⟩),
 (48, ⟨.other, 1, 8, [.nilp]⟩),
 (50, ⟨.other, 1, 8, [.nilp]⟩),
 (55, ⟨.struct [(0, 3), (1, 3), (2, 3), (3, 36)], 12, 176, [.int .i64 0, .int .i64 0, .int .i64 0, .int .i64 0, .int .i64 0, .int .i64 0, .nils, .nils, .nils, .nils, .nils, .bool false]⟩),
 (60, ⟨.slc 5, 1, 24, [.nils]⟩),
 (61, ⟨.slc 36, 1, 24, [.nils]⟩),
 (65, ⟨.struct [(0, 3), (1, 3), (2, 3)], 3, 24, [.int .i64 0, .int .i64 0, .int .i64 0]⟩),
 (68, ⟨.struct [(0, 27), (9, 61)], 10, 160, [.nils, .nils, .nils, .nils, .int .i64 0, .int .i64 0, .int .i64 0, .int .i64 0, .bool false, .nils]⟩),
 (72, ⟨.int .i64, 1, 8, [.int .i64 0]⟩),
 (91, ⟨.struct [(0, 3), (1, 3)], 2, 16, [.int .i64 0, .int .i64 0]⟩),
 (92, ⟨.mp 96 4, 1, 8, [.nilm]⟩),
 (93, ⟨.slc 96, 1, 24, [.nils]⟩),
 (96, ⟨.struct [(0, 3), (1, 3)], 2, 16, [.int .i64 0, .int .i64 0]⟩),
 (104, ⟨.other, 1, 8, [.nilp]⟩),
 (108, ⟨.mp 3 4, 1, 8, [.nilm]⟩),
 (115, ⟨.mp 3 28, 1, 8, [.nilm]⟩),
 (116, ⟨.mp 3 34, 1, 8, [.nilm]⟩),
 (118, ⟨.struct [(0, 3), (1, 115), (2, 115), (3, 116), (4, 116)], 5, 40, [.int .i64 0, .nilm, .nilm, .nilm, .nilm]⟩),
 (119, ⟨.slc 124, 1, 24, [.nils]⟩),
 (121, ⟨.struct [(0, 3), (1, 119)], 2, 32, [.int .i64 0, .nils]⟩),
 (124, ⟨.struct [(0, 3), (1, 28), (2, 28), (3, 34), (4, 34)], 5, 104, [.int .i64 0, .nils, .nils, .nils, .nils]⟩),
 (131, ⟨.mp 3 3, 1, 8, [.nilm]⟩),
 (145, ⟨.slc 147, 1, 24, [.nils]⟩),
 (147, ⟨.struct [(0, 3), (1, 3)], 2, 16, [.int .i64 0, .int .i64 0]⟩),
 (152, ⟨.struct [(0, 9), (1, 3), (2, 3)], 3, 32, [.str .empty, .int .i64 0, .int .i64 0]⟩),
 (154, ⟨.struct [(0, 96), (2, 96)], 4, 32, [.int .i64 0, .int .i64 0, .int .i64 0, .int .i64 0]⟩),
 (157, ⟨.struct [(0, 9), (1, 96), (3, 4)], 4, 40, [.str .empty, .int .i64 0, .int .i64 0, .bool false]⟩),
 (160, ⟨.slc 34, 1, 24, [.nils]⟩),
 (163, ⟨.struct [(0, 9), (1, 28)], 2, 40, [.str .empty, .nils]⟩),
 (164, ⟨.slc 9, 1, 24, [.nils]⟩),
 (169, ⟨.mp 96 96, 1, 8, [.nilm]⟩),
 (170, ⟨.mp 96 3, 1, 8, [.nilm]⟩),
 (171, ⟨.mp 3 174, 1, 8, [.nilm]⟩),
 (173, ⟨.struct [(0, 27), (9, 169), (10, 170), (11, 171), (12, 131)], 13, 168, [.nils, .nils, .nils, .nils, .int .i64 0, .int .i64 0, .int .i64 0, .int .i64 0, .bool false, .nilm, .nilm, .nilm, .nilm]⟩),
 (174, ⟨.arr 2 3, 2, 16, [.int .i64 0, .int .i64 0]⟩),
 (180, ⟨.int .u64, 1, 8, [.int .u64 0]⟩),
 (193, ⟨.other, 1, 8, [.nilp]⟩),
 (195, ⟨.struct [(0, 27), (9, 36), (18, 93)], 19, 312, [.nils, .nils, .nils, .nils, .int .i64 0, .int .i64 0, .int .i64 0, .int .i64 0, .bool false, .int .i64 0, .int .i64 0, .int .i64 0, .nils, .nils, .nils, .nils, .nils, .bool false, .nils]⟩),
 (201, ⟨.arr 4 3, 4, 32, [.int .i64 0, .int .i64 0, .int .i64 0, .int .i64 0]⟩),
 (202, ⟨.arr 3 3, 3, 24, [.int .i64 0, .int .i64 0, .int .i64 0]⟩),
 (222, ⟨.int .i64, 1, 8, [.int .i64 0]⟩),
 (229, ⟨.int .u32, 1, 4, [.int .u32 0]⟩),
 (231, ⟨.int .u64, 1, 8, [.int .u64 0]⟩),
 (233, ⟨.other, 1, 8, [.nilp]⟩),
 (234, ⟨.slc 145, 1, 24, [.nils]⟩),
 (236, ⟨.struct [(0, 3), (1, 33), (2, 28), (3, 234)], 4, 80, [.int .i64 0, .nils, .nils, .nils]⟩),
 (243, ⟨.mp 9 4, 1, 8, [.nilm]⟩),
 (245, ⟨.int .u64, 1, 8, [.int .u64 0]⟩),
 (249, ⟨.other, 1, 8, [.nilp]⟩)]
def Y1 : List (Nat × List Sh) := [(65, [.int .i64, .int .i64, .int .i64]), (91, [.int .i64, .int .i64]), (96, [.int .i64, .int .i64])]
def Wg : List (Nat × List Sh) := [(96, [.int .i64, .int .i64])]
def Wh : List Nat := [31, 48]
def AE : BG := ⟨fun t => Bu t Zz, fun t => Bu t Y1, fun t => Bu t Wg, Oe Wh, none, false⟩
def AA8 (b : Nat) (l : List Nat) : BG := ⟨fun t => Bu t Zz, fun t => Bu t Y1, fun t => Bu t Wg, Oe Wh, some fun id => Nat.ble b id || Oe l id, false⟩
def AA9 : BG := ⟨fun t => Bu t Zz, fun t => Bu t Y1, fun t => Bu t Wg, Oe Wh, none, true⟩
theorem Z0 : ∃ e, Tryz.prog.underlying 31 = some (.pointer e) := ⟨173, by kernel_rfl⟩
theorem Z1 : ∃ e, Tryz.prog.underlying 48 = some (.pointer e) := ⟨118, by kernel_rfl⟩
theorem XZ : OX Tryz.prog AE.tt := YO (by kernel_rfl)
theorem AAg : P8 Tryz.prog 65 [.int .i64, .int .i64, .int .i64] := OU (by kernel_rfl) (by kernel_rfl) (by kernel_rfl) (by kernel_rfl)
theorem AAh : P8 Tryz.prog 91 [.int .i64, .int .i64] := OU (by kernel_rfl) (by kernel_rfl) (by kernel_rfl) (by kernel_rfl)
theorem Y2 : P8 Tryz.prog 96 [.int .i64, .int .i64] := OU (by kernel_rfl) (by kernel_rfl) (by kernel_rfl) (by kernel_rfl)
theorem Z2 : Qc Tryz.prog 96 [.int .i64, .int .i64] := WI (by kernel_rfl) Y2 (by kernel_rfl)
theorem AA : BN Tryz.prog AE := by
 refine ⟨XZ, fun t ks h => ?_, fun t ks h => ?_, fun t h => ?_⟩
 .simp only [AE, Bn, Y1, AL] at h
  split at h
  .subst_vars; cases h; exact AAg
  split at h
  .subst_vars; cases h; exact AAh
  split at h
  .subst_vars; cases h; exact Y2
  cases h
 .simp only [AE, Bn, Wg, AL] at h
  split at h
  .subst_vars; cases h; exact Z2
  cases h
 simp only [AE, Wh, Vo, List.mem_cons, List.not_mem_nil, or_false] at h
 rcases h with rfl | rfl
 .exact Z0
 exact Z1
theorem Rz (b : Nat) (l : List Nat) : BN Tryz.prog (AA8 b l) := ⟨AA.tt, AA.eqk, AA.keyk, AA.ptr⟩
theorem ZT : BN Tryz.prog AA9 := ⟨AA.tt, AA.eqk, AA.keyk, AA.ptr⟩
theorem Az : Tryz.prog.follows .mixedOrders = true := by kernel_rfl
end Go.E
/- slices.Delete as a call out of a data state: the row goes on under a new name. For an own slice, i up to j up to its length. -/
namespace Go.E
open Go Go.RowKit Go.Shelf Go.Proofs
variable {P : Program} {ρ : Ren} {AE : BG} {A : BX}
section
variable {α : Type} {enc : α -> List DV} {l r : List α} {i j : Int} {nt : Nat} {sl : List (Nat × LV)} {h h' : Ag} {c d : Nat} {f : St -> Prop} {hf : JQ f}
end
end Go.E
/- slices.Sort and slices.Compact of an own row of whole numbers, as calls out of a data state. For rows of fewer than 2^62 numbers. -/
namespace Go.E
open Go Go.RowKit Go.Shelf Go.Proofs Go.Sort
section
variable {P : Program} {ρ : Ren} {AE : BG} {A : BX}
end
section
variable {P : Program} {ρ : Ren} {AE : BG} {A : BX} {l r : List Int} {nt : Nat} {sl : List (Nat × LV)} {h h' : Ag} {c d : Nat} {f : St -> Prop} {hf : JQ f}
end
end Go.E
/- A scope in which the run jumps back to one label, and on to another. No condition. -/
namespace Go.E
open Go Go.RowKit
section
variable {P : Program} {A : BX} {st : St} {σ Ans : Type}
end
def MH {α : Type} (l : List α) (lo hi : Int) : Option (List α) := match l with
 | [] => none
 | x :: r => JU (x :: r) lo hi
theorem Xf {α : Type} {l r : List α} {lo hi : Int} (h : MH l lo hi = some r) : l ≠ [] /\ JU l lo hi = some r := by
 cases l with
 | nil => cases h
 | cons x l => exact ⟨by simp, h⟩
theorem RA {α : Type} {l r : List α} {lo hi : Int} (h : MH l lo hi = some r) : lo.toNat + (hi - lo).toNat <= l.length /\ (l.drop lo.toNat).take (hi - lo).toNat = r := by
 obtain ⟨-, h⟩ := Xf h
 unfold JU at h
 split at h
 .rename_i hb
  cases h
  refine ⟨by omega, ?_⟩
  rw [List.drop_take]
  congr 1
  omega
 cases h
section
variable {P : Program} {A : BX} {AE : BG} {α : Type} {enc : α -> List DV} {l r : List α} {nt : Nat} {sl : List (Nat × LV)} {h : Ag} {c d : Nat} {f : St -> Prop} {hf : JQ f} {x : Operand} {t sz : Nat}
theorem Wl {lo hi : Option Operand} {n m : Int} {id k : Nat} (hr : MH l n m = some r) (ht : NZ AE t sz = true) (hk : k = l.length) (hx : BM nt sl x = .lsl id sz 0 k)
  (hlo : Oi nt sl 0 lo = some n) (hhi : Oi nt sl l.length hi = some m)
  (kk : f ⟨nt, (d, .lsl id sz n.toNat (m - n).toNat) :: sl, h, c⟩) : BQ P A AE ⟨nt, sl, h, c⟩ (some d) (.slice t x lo hi none) ⟨f, hf⟩ := by
 obtain ⟨ti, e, te, h1, h2, h3, h4⟩ := Na ht
 obtain ⟨hne, hs⟩ := Xf hr
 have hpos := List.length_pos_iff.2 hne
 subst hk
 rw [BV (h := h) (c := c)] at hx
 simp only [JU] at hs
 split at hs
 .rename_i hb
  show LS AE t _ _ _ _
  rw [hx]
  refine Ae.2 ⟨ti, h1, Cl.2 ⟨e, h2, Ae.2 ⟨te, h3, h4, by omega, ?_⟩⟩⟩
  refine PX hhi (PX hlo ⟨hb, ?_⟩)
  rw [Nat.zero_add]; exact kk
 cases hs
end
end Go.E
