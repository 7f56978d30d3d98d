/- Drawn regions: whatever order is drawn, the operations give what they give in one order that a check accepts (H7). -/
import Derived.Scope
import Derived.Test.YtilbadmonidmhaaGreatProg
import Derived.Test.YtilbadmonidmhaaGreatDel
import Derived.Shelf.Sort.Plain
import Derived.Shelf.Slices.In.SortNone
import Derived.Shelf.Slices.CompactI
import Derived.Lib.RowBridge
import Derived.ScopeJumps
import Derived.Test.YtilbadmonidmhaaGreatJ1
set_option linter.unusedVariables false
set_option linter.unusedSimpArgs false
namespace Go.E
open Go Go.RowKit
structure RF (A : BZ) (F : Nat -> Prop) (st : St) (a : Act) (w : World) : Prop where
 ex : ∃ μ, HRel A μ st.heap F w /\ ∀ t, t < st.nt -> Aq (Ar A μ st.heap) μ w (a.tmps.getD t undef) (Bo st.slots t)
 nt : a.tmps.size = st.nt
 defers : a.defers = []
theorem R.toRF {A : BZ} {st : St} {a : Act} {w : World} (h : R A st a w) : RF A (Fr st.ctr) st a w := ⟨h.ex, h.nt, h.defers⟩
theorem RF.put' {A : BZ} {F F' : Nat -> Prop} {st : St} {a : Act} {w w' : World} {h' : Ag} {ctr' : Nat} {μ' : Nat -> Option Bs} (hR : RF A F st a w)
  (hs : ∀ t, t < st.nt -> Aq (Ar A μ' h') μ' w' (a.tmps.getD t undef) (Bo st.slots t))
  (hh : HRel A μ' h' F' w') {dst : Option Tmp} {v : Value} {l : LV} (hv : Aq (Ar A μ' h') μ' w' v l) :
  RF A F' (({ st with heap := h', ctr := ctr' } : St).put dst l) (a.put dst v) w' := by
 cases dst with
 | none => exact ⟨⟨μ', hh, hs⟩, hR.nt, hR.defers⟩
 | some d =>
  refine ⟨⟨μ', hh, fun t ht => ?_⟩, by simpa [Act.put, St.put] using hR.nt, hR.defers⟩
  have hn : t < a.tmps.size := by rw [hR.nt]; exact ht
  simp only [Act.put, St.put, Bo, AL]
  by_cases e : t = d
  .subst e
   simp only [if_true]
   rw [Array.getD_eq_getD_getElem?, Array.getElem?_setIfInBounds_self_of_lt hn]
   exact hv
  simp only [e, if_false]
  rw [Array.getD_eq_getD_getElem?, Array.getElem?_setIfInBounds_ne (by omega), <- Array.getD_eq_getD_getElem?]
  exact hs t ht
section
variable {P : Program} {A : BZ} {AE : BH} {F : Nat -> Prop} {st : St} {a : Act} {w : World}
theorem X7 {μ : Nat -> Option Bs} {h : Ag} {F : Nat -> Prop} {w w' : World} {v : Value} {ctr e sz : Nat} {elems : List (List DV)} (hh : HRel A μ h F w) (hc : F ctr) (hn : LJ w w' (Ar A μ h) v e sz elems) (hb : Below w.heap.size w w') :
  ∃ μ', HRel A μ' ((ctr, .row e sz elems) :: h) (fun id => F id /\ id ≠ ctr) w' /\ Aq (Ar A μ' ((ctr, .row e sz elems) :: h)) μ' w' v (.lsl ctr sz 0 elems.length) /\ ∀ v x, Aq (Ar A μ h) μ w v x -> Aq (Ar A μ' ((ctr, .row e sz elems) :: h)) μ' w' v x := by
 have hno : μ ctr = none := hh.fresh ctr hc
 obtain ⟨hlen, hn⟩ := hn
 have hkm : Bg (CK μ h) w w' := ⟨hb.size, fun b hb' _ => hb.block b hb'⟩
 have hsub : ∀ id x, AL id ((ctr, BM.row e sz elems) :: h) = some x -> (id = ctr /\ x = .row e sz elems) \/ AL id h = some x := by
  intro id x hx
  simp only [AL] at hx
  split at hx
  .cases hx; exact .inl ⟨‹_›, rfl⟩
  exact .inr hx
 have hold : ∀ id x lc, AL id ((ctr, BM.row e sz elems) :: h) = some x -> id ≠ ctr -> μ id = some lc -> lc.nil = false -> w'.heap[lc.b]? = w.heap[lc.b]? := by
  intro id x lc hx hne hm hnl
  rcases hsub id x hx with ⟨rfl, _⟩ | hx
  .exact absurd rfl hne
  exact hb.block _ (hh.base id x lc hx hm hnl).1
 have fin : ∀ (loc : Bs), (loc.nil = false -> loc.b < w'.heap.size /\ w.heap.size <= loc.b) ->
   (∀ O' : Nat -> Prop, (∀ b, O' b -> Ar A μ h b \/ (loc.nil = false /\ b = loc.b)) -> (∀ b, Ar A μ h b -> b < w.heap.size -> O' b \/ True) -> (∀ b, Ar A (Bd μ ctr loc) ((ctr, BM.row e sz elems) :: h) b ↔ O' b) -> Db O' (Bd μ ctr loc) w' loc (.row e sz elems)) ->
   (∀ O', Aq O' (Bd μ ctr loc) w' v (.lsl ctr sz 0 elems.length)) ->
   ∃ μ', HRel A μ' ((ctr, .row e sz elems) :: h) (fun id => F id /\ id ≠ ctr) w' /\ Aq (Ar A μ' ((ctr, .row e sz elems) :: h)) μ' w' v (.lsl ctr sz 0 elems.length) /\ ∀ v x, Aq (Ar A μ h) μ w v x -> Aq (Ar A μ' ((ctr, .row e sz elems) :: h)) μ' w' v x := by
  intro loc hloc ho hu
  have hfr : PP μ h ((ctr, BM.row e sz elems) :: h) w loc := fun hn => .inl (hloc hn).2
  have hown := hh.sub_add loc (.row e sz elems) ((ctr, .row e sz elems) :: h) hfr hsub
  have hcov : ∀ b, Ar A (Bd μ ctr loc) ((ctr, .row e sz elems) :: h) b -> Ar A μ h b \/ (loc.nil = false /\ b = loc.b) := by
   rintro b (hb' | ⟨id, x, lc, h1, h2, h3, h4⟩)
   .exact .inl (.inl hb')
   by_cases e' : id = ctr
   .subst e'
    simp only [Bd, if_true, Option.some.injEq] at h2
    subst h2; exact .inr ⟨h3, h4.symm⟩
   rcases hsub id x h1 with ⟨e'', _⟩ | h1
   .exact absurd e'' e'
   simp only [Bd, e', if_false] at h2
   exact .inl (.inr ⟨id, x, lc, h1, h2, h3, h4⟩)
  have hadd := hh.add (w' := w') hno loc (.row e sz elems) ((ctr, .row e sz elems) :: h) (fun hn => (hloc hn).1) hfr hsub hkm hold hb.os hb.tape hb.output (ho _ hcov (fun _ _ _ => .inr trivial) (fun _ => Iff.rfl))
  exact ⟨_, hadd, hu _, fun v x hv => hv.mono hkm.own hown (Kz hno loc)⟩
 rcases hn with ⟨rfl, rfl⟩ | ⟨a, b, o, cap, c, rfl, h1, h2, h3, h4, h5, h6, h7, h8, h9, h10⟩
 .exact fin ⟨true, 0, 0, sz, 0⟩ (fun hn => by cases hn) (fun O' _ _ _ => ⟨rfl, hlen, .inl ⟨rfl, rfl⟩⟩) (fun O' => .lsln ctr ⟨true, 0, 0, sz, 0⟩ (by simp [Bd]) rfl)
 refine fin ⟨false, b, o, sz, cap⟩ (fun _ => ⟨h2, h1⟩) (fun O' hO' _ _ => ⟨rfl, hlen, .inr ⟨rfl, c, h6, h7, h8, h9, fun i j x d u hx hd hu => ?_⟩⟩) (fun O' => ?_)
 .refine (h10 i j x d u hx hd hu).mono (Bg.refl _ _) fun q _ hq => ?_
  rcases hO' q hq with hq | ⟨_, hq⟩
  .exact .inl hq
  exact .inr hq
 exact .lsl ctr 0 elems.length cap a ⟨false, b, o, sz, cap⟩ (by simp [Bd]) rfl (by simp) h8 (fun hc => by rw [h3 hc]; simp) h4 h5
theorem SO (hE : BP P AE) {o : Oper} {l : LV} {e : EY} (hR : RF A F st a w) (hc : F st.ctr) (h : CT P AE st o.op l e) {next : Act -> World -> Prop} {Q : Exit -> Act -> World -> Prop}
  (hK : ∀ a' w', RF A (fun id => F id /\ id ≠ st.ctr) (apS st st.ctr o l e) a' w' -> next a' w') : o.wp P a w next Q := by
 obtain ⟨⟨μ, hh, hs0⟩, hnt, hdef⟩ := id hR
 have hs := fun x => HY hs0 x
 have less : ∀ {μ h w} (c' : Nat), HRel A μ h (fun id => F id /\ (st.ctr < c' -> id ≠ st.ctr)) w -> HRel A μ h (fun id => F id /\ id ≠ st.ctr) w := fun _ h => h.less fun _ h => ⟨h.1, fun _ => h.2⟩
 have nCase : e = .keep -> nW AE st o.op (· = l) -> o.wp P a w next Q := by
  rintro rfl h
  obtain ⟨u, v, rfl, hv, hg⟩ := Jm hE hs h
  unfold Oper.wp
  rw [hg o rfl w]
  exact hK _ _ (hR.put' (ctr' := st.ctr) hs0 (hh.less fun _ h => h.1) hv)
 have mCase : mW AE st o.op (fun r h _ => r = l /\ h = e.ap st.ctr st.heap) -> o.wp P a w next Q := by
  intro h
  obtain ⟨l', h', c', u, w', μ', ⟨rfl, rfl⟩, ⟨_, hh'⟩, hl, hmono, hrun⟩ := P2 (a := a) (F := F) hE hs ⟨hh, hc⟩ h
  have := hK _ _ (hR.put' (ctr' := st.ctr) (fun t ht => hmono _ _ (hs0 t ht)) (less c' hh') hl)
  unfold Oper.wp
  rcases hrun o rfl with hr | ⟨hr, rfl⟩ <;> rw [hr] <;> exact this
 obtain ⟨dst, op, type, pos, after, guard⟩ := o
 simp only at h nCase mCase
 cases op <;> simp only [CT] at h <;> (try exact nCase h.1 h.2)
 case load t x =>
  obtain ⟨rfl, _, ti, h1, h2⟩ := h
  refine mCase ?_
  simp only [mW, EY.ap]
  exact ⟨ti, h1, by
   unfold HM at *
   split at h2
   .obtain ⟨r, g1, g2⟩ := h2; exact ⟨r, g1, g2, trivial⟩
   .obtain ⟨c, r, g1, g2, g3⟩ := h2; exact ⟨c, r, g1, g2, g3, trivial⟩
   .obtain ⟨c1, c2, c3, c4, r, g1, g2, g3, g4⟩ := h2; exact ⟨c1, c2, c3, c4, r, g1, g2, g3, g4, trivial⟩
   exact h2⟩
 case lookup t x i ok =>
  obtain ⟨rfl, ti, kt, et, te, m, kd, h1, h2, h3, h4, h5, h6, h7, h8⟩ := h
  refine mCase ?_
  simp only [mW, EY.ap]
  exact ⟨ti, kt, et, te, m, kd, h1, h2, h3, h4, h5, h6, h7, h8, trivial⟩
 case store => obtain ⟨_, h', rfl, h⟩ := h; exact mCase h
 case mapUpdate => obtain ⟨h', rfl, h⟩ := h; exact mCase h
 case mapEntry => obtain ⟨h', rfl, h⟩ := h; exact mCase h
 case entryStore => obtain ⟨h', rfl, h⟩ := h; exact mCase h
 case alloc t => obtain ⟨ti, h1, rfl, rfl⟩ := h; exact mCase (by simp only [mW]; exact ⟨ti, h1, trivial, rfl⟩)
 case box t x => obtain ⟨ls, h1, rfl, rfl⟩ := h; exact mCase (by simp only [mW]; exact ⟨ls, h1, trivial, rfl⟩)
 case buildSlice t n ps =>
  obtain ⟨ti, e', te, l', h1, h2, h3, h4, h5, h6, h7, ⟨rfl, rfl⟩ | ⟨rfl, rfl⟩⟩ := h
  .exact mCase (by simp only [mW]; exact ⟨ti, e', te, l', h1, h2, h3, h4, h5, h6, h7, .inl ⟨rfl, rfl⟩⟩)
  exact mCase (by simp only [mW]; exact ⟨ti, e', te, l', h1, h2, h3, h4, h5, h6, h7, .inr ⟨rfl, rfl⟩⟩)
 case makeSlice t x y =>
  obtain ⟨ti, e', te, n, k1, k2, h1, h2, h3, h4, h5, h6, h7, h8, ⟨rfl, rfl⟩ | ⟨rfl, rfl⟩⟩ := h
  .exact mCase (by simp only [mW]; exact ⟨ti, e', te, n, k1, k2, h1, h2, h3, h4, h5, h6, h7, h8, .inl ⟨rfl, rfl⟩⟩)
  exact mCase (by simp only [mW]; exact ⟨ti, e', te, n, k1, k2, h1, h2, h3, h4, h5, h6, h7, h8, .inr ⟨rfl, rfl⟩⟩)
 case makeMap t r => obtain ⟨rfl, rfl, rfl⟩ := h; exact mCase (by simp only [mW]; exact ⟨trivial, trivial, rfl⟩)
 case call c =>
  obtain ⟨callee, args, ats⟩ := c
  cases callee with
  | value f =>
   simp only at h
   rcases h with ⟨rfl, k, caps, ds, r, h1, h2, h3, h4, rfl⟩ | ⟨_, k, caps, ds, tt, sz, elems, h1, h2, h3, h4, rfl, rfl⟩
   .have hfv := hs f
    rw [h1] at hfv
    generalize hv : a.eval f = v at hfv
    cases hfv with
    | fn _ cs _ hsz hr =>
     have hx : (execOp a.eval ⟨dst, .call ⟨.value f, args, ats⟩, type, pos, after, guard⟩).run P w = .ok (.enter k (args.map a.eval ++ cs)) w := by
      simp [execOp, resolve, Deferred.ofValue, hv, invoke]
      exact h3.enters _ _
     unfold Oper.wp
     rw [hx, Oper.upon_enter]
     obtain ⟨g1, g2⟩ := FZ hh (l := (args.toList.map st.eval ++ caps).flatMap (D6 st.heap)) h2 (fun id hid => hid)
     have hO : ∀ b, Ar A μ (Ce ((args.toList.map st.eval ++ caps).flatMap (D6 st.heap)) st.heap) b -> b < w.heap.size := by
      rintro b (hb | ⟨id, x, lc, h1, h2, h3, rfl⟩)
      .exact Nat.lt_of_lt_of_le (A.hO b hb).1 hh.size
      exact (hh.base id x lc (HX h1).2 h2 h3).1
     refine (h3.run _ w _ hO (by rw [<- g1]; simp [hsz]) fun i v d hvi hdi => ?_).mono fun e w' ⟨v, r', he, hp, hq, hb⟩ => ?_
     .have hi := (List.getElem?_eq_some_iff.1 hdi).1
      have hx : (args.toList.map st.eval ++ caps)[i]? = some ((args.toList.map st.eval ++ caps)[i]'(by omega)) := List.getElem?_eq_getElem _
      refine g2 i v _ d hx hdi ?_
      rw [List.getElem?_append] at hx
      rw [Array.getElem?_append] at hvi
      by_cases hi' : i < args.size
      .rw [if_pos (by simpa using hi')] at hvi hx
       exact KR hs args.toList i v _ (by simpa using hvi) hx
      rw [if_neg (by simpa using hi')] at hvi hx
      exact hr _ v _ (by simpa using hvi) (by simpa using hx)
     subst he hq
     obtain ⟨hh', hown⟩ := hh.keep (w' := w') (h' := st.heap) (μ' := μ) (fun _ _ h => h) hh.fresh (fun _ _ h => h) hb.block hb.size hb.os hb.tape hb.output
     have hp' : A6 (Ar A μ st.heap) w' v r' := by
      rcases h4 with h4 | h4
      .exact hp.scalar h4 _ _
      rw [h4] at hp; exact hp
     exact hK _ _ (hR.put' (ctr' := st.ctr) (fun t ht => (hs0 t ht).mono ⟨hb.size, fun b hb' _ => hb.block b hb'⟩ (fun b _ hb => hb) (fun _ _ h => h)) (hh'.less fun _ h => h.1) (.p _ _ hp'))
   have hfv := hs f
   rw [h1] at hfv
   generalize hv : a.eval f = v at hfv
   cases hfv with
   | fn _ cs _ hsz hr =>
    have hx : (execOp a.eval ⟨dst, .call ⟨.value f, args, ats⟩, type, pos, after, guard⟩).run P w = .ok (.enter k (args.map a.eval ++ cs)) w := by
     simp [execOp, resolve, Deferred.ofValue, hv, invoke]
     exact h3.enters _ _
    unfold Oper.wp
    rw [hx, Oper.upon_enter]
    obtain ⟨g1, g2⟩ := FZ hh (l := (args.toList.map st.eval ++ caps).flatMap (D6 st.heap)) h2 (fun id hid => hid)
    have hO : ∀ b, Ar A μ (Ce ((args.toList.map st.eval ++ caps).flatMap (D6 st.heap)) st.heap) b -> b < w.heap.size := by
     rintro b (hb | ⟨id, x, lc, h1, h2, h3, rfl⟩)
     .exact Nat.lt_of_lt_of_le (A.hO b hb).1 hh.size
     exact (hh.base id x lc (HX h1).2 h2 h3).1
    refine (h3.run _ w _ hO (by rw [<- g1]; simp [hsz]) fun i v d hvi hdi => ?_).mono fun e w' ⟨v, he, hn', hb⟩ => ?_
    .have hi := (List.getElem?_eq_some_iff.1 hdi).1
     have hx : (args.toList.map st.eval ++ caps)[i]? = some ((args.toList.map st.eval ++ caps)[i]'(by omega)) := List.getElem?_eq_getElem _
     refine g2 i v _ d hx hdi ?_
     rw [List.getElem?_append] at hx
     rw [Array.getElem?_append] at hvi
     by_cases hi' : i < args.size
     .rw [if_pos (by simpa using hi')] at hvi hx
      exact KR hs args.toList i v _ (by simpa using hvi) hx
     rw [if_neg (by simpa using hi')] at hvi hx
     exact hr _ v _ (by simpa using hvi) (by simpa using hx)
    subst he
    have hn2 : LJ w w' (Ar A μ st.heap) v tt sz elems := by
     rcases h4 with h4 | h4
     .rw [h4] at hn'; exact hn'
     exact hn'.flat h4 _
    obtain ⟨μ', k1, k2, k3⟩ := X7 hh hc hn2 hb
    exact hK _ _ (hR.put' (ctr' := st.ctr) (fun t ht => k3 _ _ (hs0 t ht)) k1 k2)
  | builtin b =>
   cases b with
   | append => obtain ⟨h', rfl, h⟩ := h; exact mCase h
   | _ => exact nCase h.1 h.2
  | invoke r m => exact nCase h.1 h.2
theorem P5 (hE : BP P AE) {ops : Array Oper} {i : Nat} {o : Oper} (ho : ops[i]? = some o) {l : LV} {e : EY} (hR : RF A F st a w) (hc : F st.ctr) (h : DC P AE ops st o l e) {next : Act -> World -> Prop} {Q : Exit -> Act -> World -> Prop}
  (hK : ∀ a' w', RF A (fun id => F id /\ id ≠ st.ctr) (apS st st.ctr o l e) a' w' -> next a' w') : wpOp P ops Q i next a w := by
 obtain ⟨⟨μ, hh, hs0⟩, hnt, hdef⟩ := id hR
 have hs := fun x => HY hs0 x
 unfold wpOp
 rw [ho]
 simp only
 unfold DC at h
 have skip : l = .und /\ e = .keep -> next (a.put o.dst undef) w := by
  rintro ⟨rfl, rfl⟩
  exact hK _ _ (hR.put' (ctr' := st.ctr) hs0 (hh.less fun _ h => h.1) .und)
 split at h
 .rename_i hg
  rw [if_pos (by simp [Region.wanted, hg])]
  exact .inl (SO hE hR hc h hK)
 rename_i j want hg
 obtain ⟨g1, g2⟩ := OL (ops := ops) (j := j) hs
 split at h
 .rename_i b hb
  have hy := g1 b hb
  split at h
  .rename_i e
   rw [if_pos (by simp [Region.wanted, hg, hy, e])]
   exact .inl (SO hE hR hc h hK)
  rename_i e
  rw [if_neg (by simp [Region.wanted, hg, hy, e])]
  exact skip h
 .rename_i hb
  have hy := g2 hb
  rw [if_neg (by simp [Region.wanted, hg, hy])]
  exact skip h
 exact h.elim
end
section
variable {P : Program} {AE : BH} {md : Region.Mode} {ops : Array Oper} {base : Nat} {Q : St -> Prop}
def Iv (P : Program) (AE : BH) (md : Region.Mode) (ops : Array Oper) (base : Nat) (Q : St -> Prop) : Nat -> Array Bool -> St -> Prop
 | 0, listed, st => Region.ready md ops listed = [] /\ ∃ st', Gr st st' /\ Q st'
 | fuel + 1, listed, st => (Region.ready md ops listed = [] -> ∃ st', Gr st st' /\ Q st') /\
  ∀ i ∈ Region.ready md ops listed, ∃ o l e, ops[i]? = some o /\ DC P AE ops (st.at (base + i)) o l e /\ Iv P AE md ops base Q fuel (listed.setIfInBounds i true) (apS st (base + i) o l e)
theorem Gr.trans {a b c : St} (h : Gr a b) (h' : Gr b c) : Gr a c := ⟨h.nt.trans h'.nt, fun t => (h.slots t).trans (h'.slots t), fun i => (h.heap i).trans (h'.heap i)⟩
theorem Gr.symm {a b : St} (h : Gr a b) : Gr b a := ⟨h.nt.symm, fun t => (h.slots t).symm, fun i => (h.heap i).symm⟩
theorem X8 {st : St} {dst : Option Tmp} {l : LV} {t : Nat} : Bo (st.put dst l).slots t = if dst = some t then l else Bo st.slots t := by
 cases dst with
 | none => simp [St.put]
 | some d =>
  simp only [St.put, Bo, AL, Option.some.injEq]
  by_cases e : t = d
  .subst e; simp
  rw [if_neg e, if_neg (fun h => e h.symm)]
theorem Gs {st : St} {c : Nat} {o : Oper} {l : LV} {e : EY} : (apS st c o l e).nt = st.nt := by
 unfold apS St.put; split <;> rfl
theorem Bw {st : St} {c : Nat} {o : Oper} {l : LV} {e : EY} : (apS st c o l e).heap = e.ap c st.heap := by
 unfold apS St.put; split <;> rfl
theorem C2 {st : St} {c : Nat} {o : Oper} {l : LV} {e : EY} {t : Nat} : Bo (apS st c o l e).slots t = if o.dst = some t then l else Bo st.slots t := by
 unfold apS; rw [X8]
theorem Gr.at {st st' : St} (h : Gr st st') (c : Nat) : Gr (st.at c) (st'.at c) := ⟨h.nt, h.slots, h.heap⟩
theorem Gr.apS {st st' : St} (h : Gr st st') {c : Nat} {o : Oper} {l : LV} {e e' : EY} (he : ∀ id, AL id (e.ap c st.heap) = AL id (e'.ap c st'.heap)) : Gr (apS st c o l e) (apS st' c o l e') :=
 ⟨by rw [Gs, Gs]; exact h.nt, fun t => by rw [C2, C2, h.slots], fun id => by rw [Bw, Bw]; exact he id⟩
theorem NI : ∀ (fuel : Nat) (listed : Array Bool) (st st' : St), Gr st st' -> Iv P AE md ops base Q fuel listed st -> Iv P AE md ops base Q fuel listed st'
 | 0, _, _, _, he, ⟨h1, s, h2, h3⟩ => ⟨h1, s, he.symm.trans h2, h3⟩
 | fuel + 1, _, st, st', he, ⟨h1, h2⟩ => ⟨fun hr => by obtain ⟨s, a, b⟩ := h1 hr; exact ⟨s, he.symm.trans a, b⟩, fun i hi => by
   obtain ⟨o, l, e, g1, g2, g3⟩ := h2 i hi
   obtain ⟨e', k1, k2⟩ := XN (he.at (base + i)) rfl g2
   exact ⟨o, l, e', g1, k1, NI fuel _ _ _ (he.apS k2) g3⟩⟩
def OT : Zm -> Zm -> Bool
 | .n, .w => true
 | .w, _ | _, .w => false
 | .a, .r => false
 | _, _ => true
def Mp : Op -> Bool
 | .call c => match c.callee with
  | .value _ => true
  | _ => false
 | _ => false
def Rj (a b : Op) : Bool := !(Mp a) || decide (Bl b ≠ .r)
theorem X9 {st : St} {o : Oper} {l : LV} {e : EY} (h : DC P AE ops st o l e) (hc : Bl o.op = .n \/ Bl o.op = .r) (hw : AE.own = true -> Mp o.op = false) : e = .keep := by
 have big : CT P AE st o.op l e -> e = .keep := by
  intro h
  generalize o.op = op at *
  cases op <;> simp only [Bl, reduceCtorEq, or_self] at hc <;> simp only [CT] at h <;> (try exact h.1)
  case call c =>
   obtain ⟨callee, args, ats⟩ := c
   cases callee with
   | builtin b => cases b <;> simp only [reduceCtorEq, or_self] at hc <;> exact h.1
   | value f =>
    rcases h with h | ⟨h, _⟩
    .exact h.1
    have := hw h
    simp [Mp] at this
   | _ => exact h.1
 unfold DC at h
 split at h
 .exact big h
 split at h
 .split at h
  .exact big h
  exact h.2
 .exact h.2
 exact h.elim
theorem PQ {st : St} {o : Oper} {l : LV} {e : EY} (h : DC P AE ops st o l e) (hc : Bl o.op ≠ .w) : e = .keep \/ ∃ x, e = .new x := by
 have big : CT P AE st o.op l e -> e = .keep \/ ∃ x, e = .new x := by
  intro h
  generalize o.op = op at *
  cases op <;> simp only [CT] at h <;> (try exact .inl h.1)
  case store => exact absurd rfl hc
  case mapUpdate => exact absurd rfl hc
  case mapEntry => exact absurd rfl hc
  case entryStore => exact absurd rfl hc
  case alloc => obtain ⟨_, _, _, h⟩ := h; exact .inr ⟨_, h⟩
  case box => obtain ⟨_, _, _, h⟩ := h; exact .inr ⟨_, h⟩
  case buildSlice => obtain ⟨_, _, _, _, _, _, _, _, _, _, _, ⟨_, h⟩ | ⟨_, h⟩⟩ := h; exact .inr ⟨_, h⟩; exact .inl h
  case makeSlice => obtain ⟨_, _, _, _, _, _, _, _, _, _, _, _, _, _, ⟨_, h⟩ | ⟨_, h⟩⟩ := h; exact .inr ⟨_, h⟩; exact .inl h
  case makeMap => exact .inr ⟨_, h.2.2⟩
  case call c =>
   obtain ⟨callee, args, ats⟩ := c
   cases callee with
   | builtin b =>
    cases b with
    | append => exact absurd rfl hc
    | _ => exact .inl h.1
   | value f =>
    rcases h with h | ⟨_, _, _, _, _, _, _, _, _, _, _, _, h⟩
    .exact .inl h.1
    exact .inr ⟨_, h⟩
   | _ => exact .inl h.1
 unfold DC at h
 split at h
 .exact big h
 split at h
 .split at h
  .exact big h
  exact .inl h.2
 .exact .inl h.2
 exact h.elim
theorem Lz {st : St} {o : Oper} {l : LV} {e : EY} (h : DC P AE ops st o l e) {k : Nat} (hk : k ≠ st.ctr) (hn : AL k st.heap = none) : AL k (e.ap st.ctr st.heap) = none := by
 by_cases hw : Bl o.op = .w
 .have big : CT P AE st o.op l e -> AL k (e.ap st.ctr st.heap) = none := by
   intro h
   have : ∃ h1, e = .set h1 /\ (mW AE st o.op fun r h _ => r = l /\ h = h1) := by
    generalize hq : o.op = op at *
    cases op <;> simp only [Bl, reduceCtorEq] at hw <;> simp only [CT] at h ⊢
    case store => exact h.2
    case mapUpdate => exact h
    case mapEntry => exact h
    case entryStore => exact h
    case call c =>
     obtain ⟨callee, args, ats⟩ := c
     cases callee with
     | builtin b =>
      cases b <;> simp only [reduceCtorEq] at hw
      exact h
     | _ => simp only [reduceCtorEq] at hw
   obtain ⟨h1, rfl, g⟩ := this
   obtain ⟨_, _, _, g⟩ := WG (st' := st) hw (fun _ _ => rfl) rfl (fun _ => rfl) g
   exact g k hk hn
  unfold DC at h
  split at h
  .exact big h
  split at h
  .split at h
   .exact big h
   rw [h.2]; exact hn
  .rw [h.2]; exact hn
  exact h.elim
 rcases PQ h hw with rfl | ⟨x, rfl⟩
 .exact hn
 simp only [EY.ap, AL, hk, if_false]; exact hn
def Rk : Op -> Op -> Bool
 | .load .., .mapUpdate .. | .load .., .mapEntry .. | .load .., .entryStore .. => true
 | _, _ => false
def P6 : Op -> Op -> Bool
 | .load .., .store .. => true
 | .load .., .call c => match c.callee with
  | .builtin .append => true
  | _ => false
 | _, _ => false
def OU (q : Bool) (a b : Op) : Bool := Rk a b || (q && P6 a b)
def Rl (q : Bool) (a b : Op) : Bool := OT (Bl a) (Bl b) || OU q a b
theorem WH {o : Op} (h : Mp o = true) : Bl o = .r := by
 unfold Mp at h
 split at h
 .rename_i c
  unfold Bl
  split at h
  .rename_i e; simp only [e]
  cases h
 cases h
theorem TG {a b : Op} (h : P6 a b = true) : Bl a = .r /\ Bl b = .w /\ (∃ t x, a = .load t x) /\ ((∃ t x v, b = .store t x v) \/ ∃ c, b = .call c /\ c.callee = .builtin .append) := by
 unfold P6 at h
 split at h
 .exact ⟨rfl, rfl, ⟨_, _, rfl⟩, .inl ⟨_, _, _, rfl⟩⟩
 .rename_i c
  split at h
  .rename_i e
   exact ⟨rfl, by simp [Bl, e], ⟨_, _, rfl⟩, .inr ⟨_, rfl, e⟩⟩
  cases h
 cases h
theorem Tq {a b : Op} (h : Rk a b = true) : Bl a = .r /\ Bl b = .w /\ (∃ t x, a = .load t x) /\ ((∃ t x i v, b = .mapUpdate t x i v) \/ (∃ t x i, b = .mapEntry t x i) \/ ∃ t x i v, b = .entryStore t x i v) := by
 unfold Rk at h
 split at h
 .exact ⟨rfl, rfl, ⟨_, _, rfl⟩, .inl ⟨_, _, _, _, rfl⟩⟩
 .exact ⟨rfl, rfl, ⟨_, _, rfl⟩, .inr (.inl ⟨_, _, _, rfl⟩)⟩
 .exact ⟨rfl, rfl, ⟨_, _, rfl⟩, .inr (.inr ⟨_, _, _, _, rfl⟩)⟩
 cases h
theorem IR {q : Bool} {a b : Op} (h : OU q a b = true) : Bl a = .r /\ Bl b = .w /\ (∃ t x, a = .load t x) /\
  (((∃ t x i v, b = .mapUpdate t x i v) \/ (∃ t x i, b = .mapEntry t x i) \/ ∃ t x i v, b = .entryStore t x i v) \/ (q = true /\ ((∃ t x v, b = .store t x v) \/ ∃ c, b = .call c /\ c.callee = .builtin .append))) := by
 simp only [OU, Bool.or_eq_true, Bool.and_eq_true] at h
 rcases h with h | ⟨hq, h⟩
 .obtain ⟨h1, h2, h3, h4⟩ := Tq h; exact ⟨h1, h2, h3, .inl h4⟩
 obtain ⟨h1, h2, h3, h4⟩ := TG h; exact ⟨h1, h2, h3, .inr ⟨hq, h4⟩⟩
theorem ZH {st st' : St} {o : Oper} {l : LV} {e : EY} (hld : ∃ t x, o.op = .load t x) (hnt : st.nt = st'.nt) (hs : ∀ t ∈ o.looksAt ops, Bo st.slots t = Bo st'.slots t)
  (hm : ∀ id x, AL id st.heap = some x -> (∀ m, x ≠ .map m) -> AL id st'.heap = some x) (h : DC P AE ops st o l e) : DC P AE ops st' o l e := by
 have hop := Fo hnt hs
 have key : CT P AE st o.op l e -> CT P AE st' o.op l e := by
  obtain ⟨t, x, ho⟩ := hld
  rw [ho] at hop ⊢
  simp only [CT]
  rintro ⟨h1, hc', ti, h2, h3⟩
  have he : st.eval x = st'.eval x := hop x (by simp [Op.operands])
  rw [<- he]
  refine ⟨h1, hc', ti, h2, ?_⟩
  unfold HM at h3 ⊢
  split at h3
  .rename_i hx; simp only [hx]; exact h3
  .rename_i id off hx
   obtain ⟨cells, r, g1, g2⟩ := h3
   simp only [hx]
   exact ⟨cells, r, hm _ _ g1 (by simp), g2⟩
  .rename_i id i off hx
   obtain ⟨e', sz, elems, y, r, g1, g2⟩ := h3
   simp only [hx]
   exact ⟨e', sz, elems, y, r, hm _ _ g1 (by simp), g2⟩
  exact h3.elim
 unfold DC at *
 split at h
 .exact key h
 rename_i j want hg
 rw [<- IQ hnt hs hg]
 split at h
 .rename_i hb
  split at h
  .rw [if_pos ‹_›]; exact key h
  rw [if_neg ‹_›]; exact h
 .exact h
 exact h.elim
theorem Zn {st : St} {o : Oper} {l : LV} {e : EY} {c : Nat} (hmu : (∃ t x i v, o.op = .mapUpdate t x i v) \/ (∃ t x i, o.op = .mapEntry t x i) \/ ∃ t x i v, o.op = .entryStore t x i v) (h : DC P AE ops st o l e) : ∀ id x, AL id st.heap = some x -> (∀ m, x ≠ .map m) -> AL id (e.ap c st.heap) = some x := by
 have key : CT P AE st o.op l e -> ∀ id x, AL id st.heap = some x -> (∀ m, x ≠ .map m) -> AL id (e.ap c st.heap) = some x := by
  have fin : ∀ (id' : Nat) (m m' : List (DV × DV)), AL id' st.heap = some (.map m) -> ∀ id y, AL id st.heap = some y -> (∀ m, y ≠ .map m) -> AL id (B1 id' (.map m') st.heap) = some y := by
   intro id' m m' h4 id y hy hne
   by_cases hii : id = id'
   .subst hii; rw [h4] at hy; cases hy; exact absurd rfl (hne _)
   rw [Eb hii]; exact hy
  rcases hmu with ⟨t, x, i, v, ho⟩ | ⟨t, x, i, ho⟩ | ⟨t, x, i, v, ho⟩
  .rw [ho]
   simp only [CT]
   rintro ⟨h', rfl, hmw⟩ id y hy hne
   obtain ⟨ti, kt, et, id', m, kd, vd, h1, h2, h3, h4, h5, h6, h7, h8, _, rfl⟩ := hmw
   exact fin id' m _ h4 id y hy hne
  .rw [ho]
   simp only [CT]
   rintro ⟨h', rfl, hmw⟩ id y hy hne
   obtain ⟨ti, kt, et, te, id', m, kd, h1, h2, h3, h4, h5, h6, h7, h8, _, rfl⟩ := hmw
   show AL id (match Da kd m with | some _ => st.heap | none => _) = some y
   split
   .exact hy
   exact fin id' m _ h5 id y hy hne
  rw [ho]
  simp only [CT]
  rintro ⟨h', rfl, hmw⟩ id y hy hne
  obtain ⟨id', m, k1, n, vd, p, h1, h2, h3, h4, h5, h6, _, rfl⟩ := hmw
  exact fin id' m _ h2 id y hy hne
 unfold DC at h
 split at h
 .exact key h
 split at h
 .split at h
  .exact key h
  obtain ⟨_, rfl⟩ := h; exact fun id x hx _ => hx
 .obtain ⟨_, rfl⟩ := h; exact fun id x hx _ => hx
 exact h.elim
theorem YA {b : Nat -> Bool} (hb0 : AE.calm = some b) {st st' : St} {o : Oper} {l : LV} {e : EY} (hld : ∃ t x, o.op = .load t x) (hnt : st.nt = st'.nt) (hs : ∀ t ∈ o.looksAt ops, Bo st.slots t = Bo st'.slots t)
  (hm : ∀ id cells, b id = false -> AL id st.heap = some (.box cells) -> AL id st'.heap = some (.box cells)) (h : DC P AE ops st o l e) : DC P AE ops st' o l e := by
 have hop := Fo hnt hs
 have key : CT P AE st o.op l e -> CT P AE st' o.op l e := by
  obtain ⟨t, x, ho⟩ := hld
  rw [ho] at hop ⊢
  simp only [CT]
  rintro ⟨h1, hc', ti, h2, h3⟩
  have he : st.eval x = st'.eval x := hop x (by simp [Op.operands])
  rw [<- he]
  refine ⟨h1, hc', ti, h2, ?_⟩
  rw [hb0] at hc'
  unfold HM at h3 ⊢
  split at h3
  .rename_i hx; simp only [hx]; exact h3
  .rename_i id off hx
   obtain ⟨cells, r, g1, g2⟩ := h3
   simp only [hx]
   simp only [hx, Ml] at hc'
   exact ⟨cells, r, hm _ _ (by simpa using hc') g1, g2⟩
  .rename_i id i off hx
   simp only [hx, Ml, Bool.false_eq_true] at hc'
  exact h3.elim
 unfold DC at *
 split at h
 .exact key h
 rename_i j want hg
 rw [<- IQ hnt hs hg]
 split at h
 .rename_i hb
  split at h
  .rw [if_pos ‹_›]; exact key h
  rw [if_neg ‹_›]; exact h
 .exact h
 exact h.elim
theorem ZI {b : Nat -> Bool} (hb0 : AE.calm = some b) {st : St} {o : Oper} {l : LV} {e : EY} (hfr : AL st.ctr st.heap = none) (hmu : (∃ t x v, o.op = .store t x v) \/ ∃ c, o.op = .call c /\ c.callee = .builtin .append) (h : DC P AE ops st o l e) :
  ∀ id cells, b id = false -> AL id st.heap = some (.box cells) -> AL id (e.ap st.ctr st.heap) = some (.box cells) := by
 have key : CT P AE st o.op l e -> ∀ id cells, b id = false -> AL id st.heap = some (.box cells) -> AL id (e.ap st.ctr st.heap) = some (.box cells) := by
  intro h id cells hid hl
  rcases hmu with ⟨t, x, v, ho⟩ | ⟨c, ho, hcal⟩
  .rw [ho] at h
   simp only [CT] at h
   obtain ⟨hc', h', rfl, ti, h1, hs⟩ := h
   rw [hb0] at hc'
   unfold KT at hs
   obtain ⟨ls, g1, g2, g3, hs⟩ := hs
   split at hs
   .rename_i id' off hx
    obtain ⟨cells', q1, q2, _, rfl⟩ := hs
    rw [hx] at hc'
    simp only [LK] at hc'
    show AL id (B1 id' _ st.heap) = _
    rw [Eb (fun e2 => by rw [e2, hc'] at hid; cases hid)]; exact hl
   .rename_i hx
    first
    | exact hs.elim
    | (simp only [hx, LK, Bool.false_eq_true] at hc')
   all_goals first
    | exact hs.elim
    | (rename_i hx; simp only [hx, LK, Bool.false_eq_true] at hc')
  obtain ⟨callee, args, ats⟩ := c
  simp only at hcal
  subst hcal
  rw [ho] at h
  simp only [CT, mW] at h
  obtain ⟨h', rfl, _, s, x, t, g1, g2, ti, e', te, q1, q2, q3, q4, new, q5, q6, hs⟩ := h
  have hne : id ≠ st.ctr := fun e2 => by rw [e2, hfr] at hl; cases hl
  show AL id h' = _
  split at hs
  .obtain ⟨_, _, _, rfl⟩ := hs
   simp only [AL, if_neg hne]; exact hl
  .rename_i id' sz off len hx
   obtain ⟨elems, _, hrow, _, _, _, _, rfl⟩ := hs
   have hne2 : id ≠ id' := fun e2 => by rw [e2, hrow] at hl; cases hl
   simp only [AL, if_neg hne]
   rw [Fk hne2]; exact hl
  exact hs.elim
 unfold DC at h
 split at h
 .exact key h
 split at h
 .split at h
  .exact key h
  obtain ⟨_, rfl⟩ := h; exact fun id x _ hx => hx
 .obtain ⟨_, rfl⟩ := h; exact fun id x _ hx => hx
 exact h.elim
theorem Qa (q : Bool) (hq : q = true -> ∃ b, AE.calm = some b) {i : Nat} {oi : Oper} {l : LV} {e : EY} (hi : ops[i]? = some oi) (B : Nat -> Bool)
  (hB : ∀ j, B j = true -> j ≠ i /\ ∀ oj, ops[j]? = some oj -> ∃ x ∈ oj.after, Region.binds md x = true /\ (x.on = i \/ B x.on = true)) :
  ∀ (fuel : Nat) (listed : Array Bool) (st : St), (∀ j, B j = true -> listed.getD j false = false) ->
   (∀ j oj, ops[j]? = some oj -> j ≠ i -> listed.getD j true = false -> B j = false -> oi.apart ops oj = true /\ Rl q oi.op oj.op = true /\ (AE.own = true -> Rj oi.op oj.op = true)) ->
   (∀ k, listed.getD k true = false -> AL (base + k) st.heap = none) ->
   i ∈ Region.ready md ops listed -> DC P AE ops (st.at (base + i)) oi l e ->
   Iv P AE md ops base Q fuel (listed.setIfInBounds i true) (apS st (base + i) oi l e) -> Iv P AE md ops base Q (fuel + 1) listed st := by
 intro fuel
 induction fuel with
 | zero =>
  intro listed st _ _ _ hr hy H
  refine ⟨fun h => (by rw [h] at hr; cases hr), fun j hj => ?_⟩
  by_cases hji : j = i
  .subst hji; exact ⟨oi, l, e, hi, hy, H⟩
  have := ready_mono hj hji
  rw [H.1] at this
  cases this
 | succ fuel ih =>
  intro listed st hBl hfree hfresh hr hy H
  refine ⟨fun h => (by rw [h] at hr; cases hr), fun j hj => ?_⟩
  by_cases hji : j = i
  .subst hji; exact ⟨oi, l, e, hi, hy, H⟩
  obtain ⟨oj, lj, ej, hoj, h1, h2⟩ := H.2 j (ready_mono hj hji)
  obtain ⟨hjun, oj', hoj', hall⟩ := mem_ready.1 hj
  rw [hoj] at hoj'; cases hoj'
  have hiun : listed.getD i true = false := (mem_ready.1 hr).1
  have hiF : listed.getD i false = false := by
   rcases Nat.lt_or_ge i listed.size with h' | h'
   .simp [h'] at hiun ⊢; exact hiun
   simp [Array.getElem?_eq_none h']
  have hjB : B j = false := by
   rcases hb : B j with _ | _
   .rfl
   obtain ⟨_, hb2⟩ := hB j hb
   obtain ⟨x, hx, hxb, hxo⟩ := hb2 oj hoj
   have := hall x hx hxb
   rcases hxo with hxo | hxo
   .rw [hxo, hiF] at this; cases this
   rw [hBl _ hxo] at this; cases this
  obtain ⟨hap, hcp, hwp⟩ := hfree j oj hoj hji hjun hjB
  obtain ⟨a1, a2, a3⟩ := Oper.apart_spec hap
  simp only [Rl, Bool.or_eq_true] at hcp
  have hwi : Bl oi.op ≠ .w := by
   rcases hcp with hcp | hcp
   .intro e; rw [e] at hcp; simp [OT] at hcp
   rw [(IR hcp).1]; simp
  have hwj : Bl oj.op = .w -> Bl oi.op = .n \/ OU q oi.op oj.op = true := by
   intro e
   rcases hcp with hcp | hcp
   .rw [e] at hcp; cases hq : Bl oi.op <;> rw [hq] at hcp <;> simp [OT] at hcp ⊢
   exact .inr hcp
  have hnr : Bl oj.op = .w -> Bl oi.op = .n \/ Bl oi.op = .r := fun e => (hwj e).imp id fun h => (IR h).1
  have hcp : Bl oj.op ≠ .w -> OT (Bl oi.op) (Bl oj.op) = true := fun e => hcp.resolve_right fun h => e (IR h).2.1
  have hkp : Bl oi.op = .n \/ Bl oi.op = .r -> Bl oj.op = .r \/ Bl oj.op = .w -> e = .keep := fun hc hj => X9 hy hc fun ho => by
   rcases hj with hj | hj
   .have := hwp ho
    simp only [Rj, hj, ne_eq, not_true_eq_false, decide_false, Bool.or_false, Bool.not_eq_true'] at this
    exact this
   rcases hwj hj with h | h
   .cases hq : Mp oi.op with
    | false => rfl
    | true =>
     rw [WH hq] at h
     cases h
   obtain ⟨_, _, ⟨t, x, h⟩, _⟩ := IR h
   rw [h]; rfl
  have back : ∃ ej', DC P AE ops (st.at (base + j)) oj lj ej' /\ (∀ id, AL id (ej.ap (base + j) (apS st (base + i) oi l e).heap) = AL id (ej'.ap (base + j) (apS st (base + i) oi l e).heap)) /\ (Bl oj.op ≠ .w -> ej' = ej) := by
   have hsl : ∀ t ∈ oj.looksAt ops, Bo ((apS st (base + i) oi l e).at (base + j)).slots t = Bo (st.at (base + j)).slots t := fun t ht => by
    show Bo (apS st (base + i) oi l e).slots t = Bo st.slots t
    rw [C2, if_neg]
    intro e'; exact a1 t e' ht
   by_cases hcw : Bl oj.op = .w
   .have : e = .keep := hkp (hnr hcw) (.inr hcw)
    subst this
    have heq : Gr ((apS st (base + i) oi l .keep).at (base + j)) { (st.at (base + j)) with slots := (apS st (base + i) oi l .keep).slots } := ⟨by simp [St.at, Gs], fun _ => rfl, fun id => by simp [St.at, Bw, EY.ap]⟩
    obtain ⟨ej', k1, k2⟩ := XN heq rfl h1
    have h3 : ∃ e3, DC P AE ops (st.at (base + j)) oj lj e3 /\ ∀ id, AL id (ej'.ap (base + j) st.heap) = AL id (e3.ap (base + j) st.heap) :=
     XO (st := { (st.at (base + j)) with slots := (apS st (base + i) oi l .keep).slots }) (st' := st.at (base + j)) hcw rfl hsl rfl (fun _ => rfl) k1
    obtain ⟨e3, g1, g2⟩ := h3
    refine ⟨e3, g1, fun id => ?_, fun hne => absurd hcw hne⟩
    have e1 : (apS st (base + i) oi l .keep).heap = st.heap := by rw [Bw]; rfl
    have k : AL id (ej.ap (base + j) (apS st (base + i) oi l .keep).heap) = AL id (ej'.ap (base + j) st.heap) := k2 id
    rw [k, e1]; exact g2 id
   refine ⟨ej, ?_, fun _ => rfl, fun _ => rfl⟩
   refine NF (st := (apS st (base + i) oi l e).at (base + j)) (st' := st.at (base + j)) hcw (by simp [St.at, Gs]) hsl rfl (fun hcr => ?_) h1
   have : e = .keep := by
    refine hkp ?_ (.inl hcr)
    have hcp := hcp hcw
    rw [hcr] at hcp
    cases hq : Bl oi.op <;> rw [hq] at hcp <;> simp [OT] at hcp ⊢
   subst this
   intro id o ho
   have ho' : AL id (apS st (base + i) oi l .keep).heap = some o := ho
   rw [Bw] at ho'; exact ho'
  obtain ⟨ej', back, hej, hsame⟩ := back
  have keep : DC P AE ops ((apS st (base + j) oj lj ej').at (base + i)) oi l e := by
   by_cases hsp : OU q oi.op oj.op = true
   .obtain ⟨_, _, hld, hmu⟩ := IR hsp
    rcases hmu with hmu | ⟨hqt, hmu⟩
    rotate_left
    .obtain ⟨b, hb0⟩ := hq hqt
     refine YA hb0 (st := st.at (base + i)) (st' := (apS st (base + j) oj lj ej').at (base + i)) hld (by simp [St.at, Gs]) (fun t ht => ?_) (fun id cells hid hx => ?_) hy
     .show Bo st.slots t = Bo (apS st (base + j) oj lj ej').slots t
      rw [C2, if_neg]
      intro e'; exact a3 t e' ht
     show AL id (apS st (base + j) oj lj ej').heap = some _
     rw [Bw]
     exact ZI hb0 (hfresh j hjun) hmu back id cells hid hx
    refine ZH (st := st.at (base + i)) (st' := (apS st (base + j) oj lj ej').at (base + i)) hld (by simp [St.at, Gs]) (fun t ht => ?_) (fun id x hx hne => ?_) hy
    .show Bo st.slots t = Bo (apS st (base + j) oj lj ej').slots t
     rw [C2, if_neg]
     intro e'; exact a3 t e' ht
    show AL id (apS st (base + j) oj lj ej').heap = some x
    rw [Bw]
    exact Zn hmu back id x hx hne
   refine NF (st := st.at (base + i)) (st' := (apS st (base + j) oj lj ej').at (base + i)) hwi (by simp [St.at, Gs]) (fun t ht => ?_) rfl (fun hcr => ?_) hy
   .show Bo st.slots t = Bo (apS st (base + j) oj lj ej').slots t
    rw [C2, if_neg]
    intro e'; exact a3 t e' ht
   intro id o ho
   show AL id (apS st (base + j) oj lj ej').heap = some o
   rw [Bw]
   have hnw : Bl oj.op ≠ .w := fun hc => by rw [(hwj hc).resolve_right hsp] at hcr; cases hcr
   rcases PQ back hnw with rfl | ⟨x, rfl⟩
   .exact ho
   simp only [EY.ap, AL]
   rw [if_neg]
   .exact ho
   intro e'; subst e'
   have := hfresh j hjun
   have ho' : AL (base + j) st.heap = some o := ho
   rw [this] at ho'; cases ho'
  have swap : Gr (apS (apS st (base + i) oi l e) (base + j) oj lj ej) (apS (apS st (base + j) oj lj ej') (base + i) oi l e) := by
   refine ⟨by simp [Gs], fun t => ?_, fun id => ?_⟩
   .rw [C2, C2, C2, C2]
    by_cases c1 : oi.dst = some t
    .have := a2 t c1
     simp [c1, this]
    rw [if_neg c1]; split <;> simp [c1]
   by_cases hcw : Bl oj.op = .w
   .have : e = .keep := hkp (hnr hcw) (.inr hcw)
    subst this
    have := hej id
    rw [Bw] at this
    rw [Bw, Bw, Bw, Bw]
    exact this
   have hs2 := hsame hcw
   subst hs2
   rw [Bw, Bw, Bw, Bw]
   rcases PQ back hcw with rfl | ⟨x, rfl⟩ <;> rcases PQ hy hwi with rfl | ⟨y, rfl⟩ <;> simp only [EY.ap, AL]
   by_cases c1 : id = base + j
   .subst c1; simp [hji]
   simp [c1]
  refine ⟨oj, lj, ej', hoj, back, ?_⟩
  refine ih (listed.setIfInBounds j true) _ (fun k hk => ?_) (fun k ok hk hki hun hkB => ?_) (fun k hk => ?_) (ready_mono hr (Ne.symm hji)) keep ?_
  .rw [getD_set_ne false (fun e' => by subst e'; rw [hjB] at hk; cases hk)]; exact hBl k hk
  .refine hfree k ok hk hki ?_ hkB
   by_cases hjk : j = k
   .subst hjk; exact hjun
   rw [getD_set_ne true hjk] at hun; exact hun
  .have hjk : j ≠ k := by
    rintro rfl
    rcases Nat.lt_or_ge j listed.size with h' | h'
    .simp [h'] at hk
    simp [Array.getElem?_eq_none h'] at hk
   rw [Bw]
   have hk' : listed.getD k true = false := by rw [getD_set_ne true hjk] at hk; exact hk
   exact Lz back (by simp only [St.at]; omega) (hfresh k hk')
  rw [Array.setIfInBounds_comm _ _ hji]
  exact NI fuel _ _ _ swap h2
end
end Go.E
/- Drawn regions, the rule (H7). Condition: the checks IS and mixedOrders, by kernel. -/
namespace Go.E
open Go Go.RowKit
def NJ (md : Region.Mode) (ops : Array Oper) (listed : Array Bool) (i : Nat) : List Nat :=
 (List.range ops.size).foldl (fun acc j => if !(j == i) && !(listed.getD j false) && (match ops[j]? with
  | some oj => oj.after.any fun x => Region.binds md x && (x.on == i || acc.contains x.on)
  | none => false) then j :: acc else acc) []
def PR (q w : Bool) (md : Region.Mode) (ops : Array Oper) (listed : Array Bool) (i : Nat) (oi : Oper) (B : List Nat) : Bool :=
  (B.all fun j => !(j == i) && !(listed.getD j false) && match ops[j]? with
    | some oj => oj.after.any fun x => Region.binds md x && (x.on == i || B.contains x.on)
    | none => false) &&
  ((List.range ops.size).all fun j => j == i || listed.getD j true || B.contains j || match ops[j]? with
    | some oj => oi.apart ops oj && (Rl q oi.op oj.op && (!w || Rj oi.op oj.op))
    | none => true)
def IS (q w : Bool) (md : Region.Mode) (ops : Array Oper) : List Nat -> Array Bool -> Bool
 | [], listed => (Region.ready md ops listed).isEmpty
 | i :: rest, listed => (match ops[i]? with
  | none => false
  | some oi => (Region.ready md ops listed == [i]) || ((Region.ready md ops listed).contains i && PR q w md ops listed i oi (NJ md ops listed i))) &&
  IS q w md ops rest (listed.setIfInBounds i true)
def HN (P : Program) (AE : BH) (ops : Array Oper) (base : Nat) (K : St -> Prop) : List Nat -> St -> Prop
 | [], st => K st
 | i :: rest, st => match ops[i]? with
  | none => False
  | some o => match o.guard with
   | none => ∃ l e, CT P AE (st.at (base + i)) o.op l e /\ HN P AE ops base K rest (apS st (base + i) o l e)
   | some (j, want) => match Dc st ops j with
    | .p (.bool b) => (b = want -> ∃ l e, CT P AE (st.at (base + i)) o.op l e /\ HN P AE ops base K rest (apS st (base + i) o l e)) /\
      (b = !want -> HN P AE ops base K rest (apS st (base + i) o .und .keep))
    | .und => HN P AE ops base K rest (apS st (base + i) o .und .keep)
    | _ => False
section
variable {P : Program} {A : BZ} {AE : BH} {md : Region.Mode} {ops : Array Oper} {base : Nat} {K : St -> Prop}
theorem NK {i : Nat} {rest : List Nat} {st : St} (h : HN P AE ops base K (i :: rest) st) :
  ∃ o l e, ops[i]? = some o /\ DC P AE ops (st.at (base + i)) o l e /\ HN P AE ops base K rest (apS st (base + i) o l e) := by
 simp only [HN] at h
 split at h
 .exact h.elim
 rename_i o ho
 split at h
 .rename_i hg
  obtain ⟨l, e, h1, h2⟩ := h
  exact ⟨o, l, e, ho, by unfold DC; rw [hg]; exact h1, h2⟩
 rename_i j want hg
 have hgl : Dc (st.at (base + i)) ops j = Dc st ops j := rfl
 split at h
 .rename_i b hb
  by_cases e : b = want
  .obtain ⟨l, e', h1, h2⟩ := h.1 e
   exact ⟨o, l, e', ho, by unfold DC; rw [hg]; simp only [hgl, hb]; rw [if_pos e]; exact h1, h2⟩
  exact ⟨o, .und, .keep, ho, by unfold DC; rw [hg]; simp only [hgl, hb]; rw [if_neg e]; simp, h.2 (by cases b <;> cases want <;> simp_all)⟩
 .rename_i hb
  exact ⟨o, .und, .keep, ho, by unfold DC; rw [hg]; simp [hgl, hb], h⟩
 exact h.elim
theorem Kp (q : Bool) (hq : q = true -> ∃ b, AE.calm = some b) : ∀ (order : List Nat) (listed : Array Bool) (st : St), IS q AE.own md ops order listed = true -> (∀ k, listed.getD k true = false -> AL (base + k) st.heap = none) ->
  HN P AE ops base K order st -> Iv P AE md ops base K order.length listed st
 | [], listed, st, hok, _, h => ⟨by simpa [IS] using hok, st, Gr.refl st, h⟩
 | i :: rest, listed, st, hok, hfresh, h => by
  obtain ⟨o, l, e, ho, hd, hrest⟩ := NK h
  simp only [IS, ho, Bool.and_eq_true, Bool.or_eq_true] at hok
  have hrec : Iv P AE md ops base K rest.length (listed.setIfInBounds i true) (apS st (base + i) o l e) := by
   refine Kp q hq rest _ _ hok.2 (fun k hk => ?_) hrest
   have hik : i ≠ k := by
    rintro rfl
    rcases Nat.lt_or_ge i listed.size with h' | h'
    .simp [h'] at hk
    simp [Array.getElem?_eq_none h'] at hk
   rw [Bw]
   exact Lz hd (by simp only [St.at]; omega) (hfresh k (by rw [getD_set_ne true hik] at hk; exact hk))
  rcases hok.1 with h1 | h1
  .have hr : Region.ready md ops listed = [i] := by simpa using h1
   refine ⟨fun h0 => (by rw [hr] at h0; cases h0), fun j hj => ?_⟩
   rw [hr] at hj
   simp at hj
   subst hj
   exact ⟨o, l, e, ho, hd, hrec⟩
  obtain ⟨h1, h2⟩ := h1
  simp only [PR, Bool.and_eq_true, List.all_eq_true, List.mem_range] at h2
  obtain ⟨h2, h3⟩ := h2
  generalize hBe : NJ md ops listed i = B at h2 h3
  refine Qa q hq ho (fun j => B.contains j) (fun j hj => ?_) rest.length listed st (fun j hj => ?_) (fun j oj hoj hji hun hBj => ?_) hfresh (by simpa using h1) hd hrec
  .have := h2 j (by simpa using hj)
   obtain ⟨⟨a1, a2⟩, a3⟩ := this
   refine ⟨by simpa using a1, fun oj hoj => ?_⟩
   rw [hoj] at a3
   obtain ⟨x, hx, hx2⟩ := Array.any_eq_true'.1 a3
   simp only [Bool.and_eq_true, Bool.or_eq_true, beq_iff_eq] at hx2
   exact ⟨x, hx, hx2.1, hx2.2⟩
  .have := (h2 j (by simpa using hj)).1.2
   simpa using this
  have := h3 j (Array.getElem?_eq_some_iff.1 hoj).1
  simp only [Bool.or_eq_true, beq_iff_eq, hji, false_or, hun, Bool.false_eq_true] at this
  rw [hBj] at this
  simp only [Bool.false_eq_true, false_or, hoj, Bool.and_eq_true] at this
  refine ⟨this.1, this.2.1, fun ho => ?_⟩
  have := this.2.2
  rw [ho] at this; simpa using this
theorem YB {μ : Nat -> Option Bs} {h h' : Ag} (he : ∀ id, AL id h = AL id h') : CK μ h = CK μ h' := by
 funext b; simp only [CK, he]
theorem RF.eqv {F : Nat -> Prop} {st st' : St} {a : Act} {w : World} (h : RF A F st a w) (he : Gr st st') : RF A F st' a w := by
 obtain ⟨⟨μ, hh, hs⟩, hnt, hdef⟩ := h
 have hm : CK μ st.heap = CK μ st'.heap := YB he.heap
 have ho : Ar A μ st.heap = Ar A μ st'.heap := by funext b; simp only [Ar, hm]
 refine ⟨⟨μ, ⟨?_, ?_, hh.fresh, ?_, hh.size, hh.block, hh.os, hh.tape, hh.output, hh.ext⟩, fun t ht => ?_⟩, by rw [<- he.nt]; exact hnt, hdef⟩
 .rw [<- ho]; intro id o; rw [<- he.heap]; exact hh.obj id o
 .intro id id' o o' loc loc'; rw [<- he.heap, <- he.heap]; exact hh.inj id id' o o' loc loc'
 .intro id o loc; rw [<- he.heap]; exact hh.base id o loc
 rw [<- ho, <- he.slots]; exact hs t (by rw [he.nt]; exact ht)
def Fl (base n : Nat) (listed : Array Bool) (id : Nat) : Prop := base + n <= id \/ ∃ i, i < n /\ listed.getD i true = false /\ id = base + i
theorem Il (hE : BP P AE) {n : Nat} (hn : n = ops.size) {Q' : Exit -> Act -> World -> Prop} (hQ : ∀ st a w listed, K st -> RF A (Fl base n listed) st a w -> Q' .normal a w) :
  ∀ (fuel : Nat) (listed : Array Bool) (st : St) (a : Act) (w : World), listed.size = n -> Iv P AE md ops base K fuel listed st -> RF A (Fl base n listed) st a w -> wpAny P md ops Q' fuel listed a w
 | 0, listed, st, a, w, _, ⟨h1, st', he, hk⟩, hR => ⟨h1, hQ st' a w listed hk (hR.eqv he)⟩
 | fuel + 1, listed, st, a, w, hsz, ⟨h1, h2⟩, hR => by
  refine ⟨fun h0 => ?_, fun i hi => ?_⟩
  .obtain ⟨st', he, hk⟩ := h1 h0
   exact hQ st' a w listed hk (hR.eqv he)
  obtain ⟨o, l, e, ho, hd, hrec⟩ := h2 i hi
  have hun := (mem_ready.1 hi).1
  have hlt : i < n := by rw [hn]; exact (Array.getElem?_eq_some_iff.1 ho).1
  refine P5 (st := st.at (base + i)) hE ho ⟨hR.ex, hR.nt, hR.defers⟩ (.inr ⟨i, hlt, hun, rfl⟩) hd fun a' w' hR' => ?_
  refine Il hE hn hQ fuel _ _ _ _ (by simpa using hsz) hrec ?_
  have hR'' : RF A (fun id => Fl base n listed id /\ id ≠ base + i) (apS st (base + i) o l e) a' w' := by
   obtain ⟨⟨μ, x1, x2⟩, x3, x4⟩ := hR'
   refine ⟨⟨μ, ?_, fun t ht => ?_⟩, ?_, x4⟩
   .rw [Bw] at x1 ⊢; exact x1
   .have := x2 t (by rw [Gs] at ht ⊢; exact ht)
    rw [Bw, C2] at this
    rw [Bw, C2]; exact this
   rw [Gs] at x3 ⊢; exact x3
  obtain ⟨⟨μ, x1, x2⟩, x3, x4⟩ := hR''
  refine ⟨⟨μ, x1.less fun id hid => ?_, x2⟩, x3, x4⟩
  rcases hid with hid | ⟨k, hk1, hk2, rfl⟩
  .exact ⟨.inl hid, by omega⟩
  have hik : i ≠ k := by
   rintro rfl
   simp [show i < listed.size by omega] at hk2
  exact ⟨.inr ⟨k, hk1, by rw [getD_set_ne true hik] at hk2; exact hk2, rfl⟩, by omega⟩
theorem Aq.drawn {O : Nat -> Prop} {μ : Nat -> Option Bs} {w : World} {v : Value} {l : LV} (n : Nat) (h : Aq O μ w v l) : Aq O μ { w with drawn := n } v l :=
 Aq.mono (w := w) (w' := { w with drawn := n }) ⟨Nat.le_refl _, fun _ _ _ => rfl⟩ (fun _ _ hb => hb) (fun _ _ h => h) h
theorem R.drawn {st : St} {a : Act} {w : World} (n : Nat) (h : R A st a w) : R A st a { w with drawn := n } := by
 obtain ⟨⟨μ, hh, hs⟩, hnt, hdef⟩ := h
 refine ⟨⟨μ, ⟨fun id o ho => ?_, hh.inj, hh.fresh, hh.base, hh.size, hh.block, hh.os, hh.tape, hh.output, hh.ext⟩, fun t ht => (hs t ht).drawn n⟩, hnt, hdef⟩
 obtain ⟨loc, h1, h2⟩ := hh.obj id o ho
 exact ⟨loc, h1, Db.mono (w := w) (w' := { w with drawn := n }) ⟨Nat.le_refl _, fun _ _ _ => rfl⟩ (fun _ _ hb => hb) (fun _ _ h => h) (fun _ => rfl) h2⟩
theorem H7 (q : Bool) (hq : q = true -> ∃ b, AE.calm = some b) (hE : BP P AE) (hm : P.follows .mixedOrders = true) {id : Nat} {l : List Oper} {order : List Nat} (hok : IS q AE.own .any l.toArray order (Array.replicate l.length false) = true)
  (hlen : order.length = l.length) {st : St} {Q : Exit -> St -> Prop} (h : HN P AE l.toArray st.ctr (fun st' => Q .normal { st' with ctr := st.ctr + l.length }) order st) :
  CJ P A (.region id l.toArray true) Q st := fun a w hR => by
 refine wp_region_any hm ?_
 have hR' := (hR.drawn (w.drawn + 1)).toRF
 have hfr : ∀ k, AL (st.ctr + k) st.heap = none := by
  intro k
  cases hx : AL (st.ctr + k) st.heap with
  | none => rfl
  | some o =>
   obtain ⟨⟨μ, hh, _⟩, _, _⟩ := hR
   obtain ⟨loc, h1, _⟩ := hh.obj _ _ hx
   rw [hh.fresh _ (by simp [Fr])] at h1; cases h1
 have hD := Kp q hq order (Array.replicate l.length false) st hok (fun k _ => hfr k) h
 have hsz : l.toArray.size = order.length := by simp [hlen]
 rw [hsz]
 have hrep : Array.replicate order.length false = Array.replicate l.length false := by rw [hlen]
 rw [hrep]
 refine Il (A := A) (n := l.length) hE (by simp) (fun st' a' w' listed hk hR'' => ?_) order.length _ st a _ (by simp) hD ?_
 .refine ⟨_, ?_, hk⟩
  obtain ⟨⟨μ, x1, x2⟩, x3, x4⟩ := hR''
  exact ⟨⟨μ, x1.less fun id hid => .inl hid, x2⟩, x3, x4⟩
 obtain ⟨⟨μ, x1, x2⟩, x3, x4⟩ := hR'
 refine ⟨⟨μ, x1.less fun id hid => ?_, x2⟩, x3, x4⟩
 rcases hid with hid | ⟨k, _, _, rfl⟩
 .simp only [Fr]; omega
 simp [Fr]
end
end Go.E
/- Equality and keys of flat structs; operations in a short form, for the walk of a function. No condition. -/
namespace Go.E
open Go Go.RowKit
def GW : Option TypeDesc -> Sh -> Bool
 | some (.int j), .int j' => j == j'
 | some .string, .str => true
 | some .bool, .bool => true
 | _, _ => false
def Fp (P : Program) : List Field -> Nat -> List Sh -> Bool
 | [], _, [] => true
 | f :: fs, off, k :: ks => f.name != "_" && f.offset == off && GW (P.underlying f.type) k && Fp P fs (off + 1) ks
 | _, _, _ => false
section
variable {P : Program}
theorem Kq {t : TypeId} {k : Sh} (h : GW (P.underlying t) k = true) {xs : Array Value} {off : Nat} {v : Value} (hx : xs[off]? = some v) (w : World) : (part t xs off).run P w = .ok v w := by
 cases hu : P.underlying t with
 | none => rw [hu] at h; simp [GW] at h
 | some d =>
  rw [hu] at h
  cases d <;> simp [GW] at h <;> simp [part, isAgg, run_underlying hu, hx]
theorem Rm {t : TypeId} {k : Sh} {a b : DV} (h : GW (P.underlying t) k = true) (ha : Cz k a = true) (hb : Cz k b = true) (d : Nat) (w : World) :
  (Op.equalIn (d + 1) t (flatV a) (flatV b)).run P w = .ok (Dx a b) w := by
 cases hu : P.underlying t with
 | none => rw [hu] at h; simp [GW] at h
 | some dd =>
  rw [hu] at h
  cases dd <;> cases k <;> simp [GW] at h <;> cases a <;> simp only [Cz, Bool.false_eq_true] at ha <;> cases b <;> simp only [Cz, Bool.false_eq_true] at hb
  .simp [flatV, Dx, Op.equalIn, run_underlying hu]
  .simp only [beq_iff_eq] at ha hb
   subst ha; subst hb
   simp [flatV, Dx, Op.equalIn, run_underlying hu]
  simp [flatV, Dx, Op.equalIn, run_underlying hu, beq_toListBytes]
theorem Kw (d : Nat) (w : World) (xs ys : List DV) : ∀ (fs : List Field) (off : Nat) (ks : List Sh) (xa bs : List DV), Fp P fs off ks = true -> xs.drop off = xa -> ys.drop off = bs -> fits ks xa = true -> fits ks bs = true ->
  (Op.eqFields (d + 1) (xs.map flatV).toArray (ys.map flatV).toArray fs).run P w = .ok (CX xa bs) w
 | [], off, [], [], [], _, _, _, _, _ => by simp [Op.eqFields, CX]
 | f :: fs, off, k :: ks, a :: xa, b :: bs, hB, hx, hy, ha, hb => by
  simp only [Fp, Bool.and_eq_true, bne_iff_ne, ne_eq, beq_iff_eq] at hB
  simp only [fits, Bool.and_eq_true] at ha hb
  obtain ⟨⟨⟨h1, h2⟩, h3⟩, h4⟩ := hB
  have ex : xs[off]? = some a := by
   have := congrArg List.head? hx
   rw [List.head?_drop] at this; exact this
  have ey : ys[off]? = some b := by
   have := congrArg List.head? hy
   rw [List.head?_drop] at this; exact this
  have hx' : xs.drop (off + 1) = xa := by rw [<- List.tail_drop, hx]; rfl
  have hy' : ys.drop (off + 1) = bs := by rw [<- List.tail_drop, hy]; rfl
  have ih := Kw d w xs ys fs (off + 1) ks xa bs h4 hx' hy' ha.2 hb.2
  have px := Kq (w := w) h3 (xs := (xs.map flatV).toArray) (off := off) (v := flatV a) (by simp [ex])
  have py := Kq (w := w) h3 (xs := (ys.map flatV).toArray) (off := off) (v := flatV b) (by simp [ey])
  have pe := Rm h3 ha.1 hb.1 d w
  simp only [Op.eqFields, h1, h2, ne_eq, not_false_eq_true, if_true, Sem.run_bind, px, py, pe, Result.andThen_ok, CX]
  cases Dx a b with
  | true => simpa using ih
  | false => simp
 | [], _, _ :: _, _, _, hB, _, _, _, _ => by simp [Fp] at hB
 | _ :: _, _, [], _, _, hB, _, _, _, _ => by simp [Fp] at hB
 | [], _, [], _ :: _, _, _, _, _, ha, _ => by simp [fits] at ha
 | [], _, [], [], _ :: _, _, _, _, _, hb => by simp [fits] at hb
 | _ :: _, _, _ :: _, [], _, _, _, _, ha, _ => by simp [fits] at ha
 | _ :: _, _, _ :: _, _ :: _, [], _, _, _, _, hb => by simp [fits] at hb
theorem OV {t : TypeId} {ks : List Sh} (hu : P.underlying t = some (.struct (P.fieldsOf t))) (hp : P.stoodInHeld t = false) (hg : P.eqGuardType P.depth t = false)
  (hf : Fp P (P.fieldsOf t).toList 0 ks = true) : P7 P t ks :=
 ⟨hg, fun w ds es h1 h2 => by
  show (Op.equalIn (9999 + 1) t _ _).run P w = _
  rw [run_equalIn_struct w 9999 t _ _ hu hp]
  exact Kw 9998 w ds es _ 0 ks ds es hf rfl rfl h1 h2⟩
theorem LL (em : Bool) (d : Nat) (w : World) (xs : List DV) : ∀ (fs : List Field) (off : Nat) (ks : List Sh) (xa : List DV), Fp P fs off ks = true -> xs.drop off = xa -> fits ks xa = true ->
  (forIn fs PUnit.unit fun f (_ : PUnit) => (do
   if f.name ≠ "_" then Instr.checkKey em (d + 1) f.type (<- part f.type (xs.map flatV).toArray f.offset)
   pure (ForInStep.yield PUnit.unit) : Sem (ForInStep PUnit))).run P w = .ok PUnit.unit w
 | [], off, [], [], _, _, _ => by simp
 | f :: fs, off, k :: ks, a :: xa, hB, hx, ha => by
  simp only [Fp, Bool.and_eq_true, bne_iff_ne, ne_eq, beq_iff_eq] at hB
  simp only [fits, Bool.and_eq_true] at ha
  obtain ⟨⟨⟨h1, h2⟩, h3⟩, h4⟩ := hB
  have ex : xs[off]? = some a := by
   have := congrArg List.head? hx
   rw [List.head?_drop] at this; exact this
  have hx' : xs.drop (off + 1) = xa := by rw [<- List.tail_drop, hx]; rfl
  have ih := LL em d w xs fs (off + 1) ks xa h4 hx' ha.2
  have px := Kq (w := w) h3 (xs := (xs.map flatV).toArray) (off := off) (v := flatV a) (by simp [ex])
  have pc : (Instr.checkKey em (d + 1) f.type (flatV a)).run P w = .ok () w := by
   cases hu : P.underlying f.type with
   | none => rw [hu] at h3; simp [GW] at h3
   | some dd =>
    rw [hu] at h3
    cases dd <;> simp [GW] at h3 <;> simp [Instr.checkKey, run_underlying hu]
  simp only [List.forIn_cons, Sem.run_bind, h1, ne_eq, not_false_eq_true, if_true, h2, px, pc, Result.andThen_ok, Sem.run_pure]
  exact ih
 | [], _, _ :: _, _, hB, _, _ => by simp [Fp] at hB
 | _ :: _, _, [], _, hB, _, _ => by simp [Fp] at hB
 | [], _, [], _ :: _, _, _, ha => by simp [fits] at ha
 | _ :: _, _, _ :: _, [], _, _, ha => by simp [fits] at ha
theorem WI {t : TypeId} {ks : List Sh} (hu : P.underlying t = some (.struct (P.fieldsOf t))) (he : P7 P t ks) (hf : Fp P (P.fieldsOf t).toList 0 ks = true) : Qb P t ks := by
 refine ⟨he, by rw [hu]; trivial, fun em w ds h => ?_⟩
 show (Instr.checkKey em (9999 + 1) t _).run P w = _
 unfold Instr.checkKey
 simp only [Sem.run_bind, run_underlying hu, Result.andThen_ok]
 have := LL (P := P) em 9998 w ds (P.fieldsOf t).toList 0 ks ds hf rfl h
 simp only [Array.forIn_toList] at this
 simp at this ⊢
 rw [this]; rfl
end
def St.keep (ts : List Nat) (st : St) : St := { st with slots := ts.map fun t => (t, Bo st.slots t) }
theorem SP {st : St} {t : Nat} : ∀ (ts : List Nat), AL t (ts.map fun t => (t, Bo st.slots t)) = if t ∈ ts then some (Bo st.slots t) else none
 | [] => by simp [AL]
 | u :: ts => by
  simp only [List.map_cons, AL]
  by_cases e : t = u
  .subst e; simp
  rw [if_neg e, SP ts]; simp [e]
theorem R.keep {A : BZ} {st : St} {a : Act} {w : World} (ts : List Nat) (h : R A st a w) : R A (st.keep ts) a w := by
 obtain ⟨⟨μ, hh, hs⟩, hnt, hdef⟩ := h
 refine ⟨⟨μ, hh, fun t ht => ?_⟩, hnt, hdef⟩
 have : Bo (st.keep ts).slots t = if t ∈ ts then Bo st.slots t else .any := by
  show (match AL t (ts.map fun t => (t, Bo st.slots t)) with | some v => v | none => LV.any) = _
  rw [SP]
  by_cases e : t ∈ ts <;> simp [e]
 rw [this]
 split
 .exact hs t ht
 exact .any _
end Go.E
/- The walk of a function: operations in a short form (Fq), rules for the parts of a body, states made weaker (A0). No condition. -/
namespace Go.E
open Go Go.RowKit
structure IT where
 dst : Option Tmp
 op : Op
 g : Option (Option Tmp × Bool)
def WK (ops : List Oper) (j : Nat) : Option Tmp :=
 match ops[j]? with
 | some o => o.dst
 | none => none
def OW (ops : List Oper) (o : Oper) : IT :=
 ⟨o.dst, o.op, match o.guard with
  | none => none
  | some (j, w) => some (WK ops j, w)⟩
structure JE {α : Sort _} (a : α) : Type where
structure BD (α : Type) where
 f : α -> Prop
 h : JE f
def Cb {α : Type} (o : Option α) (k : BD α) : Prop :=
 match o with
 | some a => k.f a
 | none => False
def TV (x : LV) (k : BD Bool) : Prop :=
 match x with
 | .p (.bool b) => k.f b
 | _ => False
def NL (x : LV) (k : BD (IntKind × Int)) : Prop :=
 match x with
 | .p (.int kk n) => k.f (kk, n)
 | _ => False
def Tr (x : LV) (k : BD DV) : Prop :=
 match x with
 | .p d => k.f d
 | _ => False
def MP (s : Sh) (k : BD Nat) : Prop :=
 match s with
 | .slc e => k.f e
 | _ => False
def PT (s : Sh) (k : BD (List (Nat × Nat))) : Prop :=
 match s with
 | .struct fs => k.f fs
 | _ => False
def Vf (s : Sh) (k : BD (Nat × Nat)) : Prop :=
 match s with
 | .mp a b => k.f (a, b)
 | _ => False
def C3 (AE : BH) (t : Nat) (k : BD TI) : Prop := Cb (AE.tt t) k
def YC (x : LV) (k : BD LV) : Prop :=
 match x with
 | .lpb i o => k.f (.lpb i o)
 | .lpe i j o => k.f (.lpe i j o)
 | .p (.place l o) => k.f (.p (.place l o))
 | _ => False
def Mq (op : BinOp) (kk : IntKind) (a b : Int) (k : BD LV) : Prop :=
 match op with
 | .quo | .rem => b ≠ 0 /\ Cb (Hb op kk a b) ⟨fun v => k.f (.p v), ⟨⟩⟩
 | _ => Cb (Hb op kk a b) ⟨fun v => k.f (.p v), ⟨⟩⟩
def XP (neg : Bool) (empty : Prop) (k : BD LV) : Prop := ∀ r, (¬ empty -> r = false) -> k.f (JF neg r)
def Vg (AE : BH) (neg : Bool) (t : Nat) (x y : LV) (k : BD LV) : Prop :=
 match x, y with
 | .p (.str a), .p (.str b) => k.f (JF neg (a.toList == b.toList))
 | .p (.bool a), .p (.bool b) => C3 AE t ⟨fun ti => ti.sh = .bool /\ k.f (JF neg (a == b)), ⟨⟩⟩
 | .p (.agg xs), .p (.agg ys) => Cb (AE.eqk t) ⟨fun ks => fits ks xs = true /\ fits ks ys = true /\ k.f (JF neg (CX xs ys)), ⟨⟩⟩
 | .p (.slice _ l), .p .nils => C3 AE t ⟨fun ti => MP ti.sh ⟨fun _ => XP neg (l = []) k, ⟨⟩⟩, ⟨⟩⟩
 | .p .nils, .p .nils => C3 AE t ⟨fun ti => MP ti.sh ⟨fun _ => k.f (JF neg true), ⟨⟩⟩, ⟨⟩⟩
 | .lsl _ _ _ len, .p .nils => C3 AE t ⟨fun ti => MP ti.sh ⟨fun _ => XP neg (len = 0) k, ⟨⟩⟩, ⟨⟩⟩
 | .p (.place _ _), .p .nilp => AE.ptr t = true /\ k.f (JF neg false)
 | .p .nilp, .p .nilp => AE.ptr t = true /\ k.f (JF neg true)
 | .lpb _ _, .p .nilp => AE.ptr t = true /\ k.f (JF neg false)
 | _, _ => False
def OX (AE : BH) (op : BinOp) (t : Nat) (x y : LV) (k : BD LV) : Prop :=
 match x, y with
 | .p (.int k1 a), .p (.int k2 b) => k1 = k2 /\ Mq op k1 a b k
 | x, y => match op with
  | .eql => Vg AE false t x y k
  | .neq => Vg AE true t x y k
  | _ => False
def YD (x : LV) (i : Nat) (k : BD LV) : Prop :=
 match x with
 | .tup l => Cb l[i]? k
 | .p (.tup l) => Cb l[i]? ⟨fun v => k.f (.p v), ⟨⟩⟩
 | _ => False
def YE (x : LV) (k : BD (List LV)) : Prop :=
 match x with
 | .agg l => k.f l
 | .p (.agg l) => k.f (l.map .p)
 | _ => False
def WL (off : Nat) (x : LV) (k : BD LV) : Prop :=
 match x with
 | .lpb id o => k.f (.lpb id (o + off))
 | .lpe id j o => k.f (.lpe id j (o + off))
 | .p (.place l o) => k.f (.p (.place l (o + off)))
 | _ => False
def LM (AE : BH) (place : Nat -> Option (Nat × Nat)) : List LV -> List (Nat × LV) -> BD (List LV) -> Prop
 | cells, [], k => k.f cells
 | cells, (i, v) :: rest, k => Cb (place i) ⟨fun p => C3 AE p.2 ⟨fun ti => Cb v.cells ⟨fun ls => (ls.length = ti.size /\ p.1 + ls.length <= cells.length) /\
   LM AE place (Cv cells p.1 ls) rest k, ⟨⟩⟩, ⟨⟩⟩, ⟨⟩⟩
def OY (AE : BH) (sh : Sh) (zero : List LV) (ps : List (Nat × LV)) (k : BD (List LV)) : Prop :=
 match sh with
 | .struct fs => (fs.all fun p => (AE.tt p.2).isSome) = true /\ LM AE (fun i => fs[i]?) zero ps k
 | .arr _ e => C3 AE e ⟨fun te => LM AE (fun i => some (i * te.size, e)) zero ps k, ⟨⟩⟩
 | _ => False
def Zo (AE : BH) (sh : Sh) (x : LV) (n : Int) (k : BD LV) : Prop :=
 match sh, x with
 | .slc e, .p (.slice sz l) => C3 AE e ⟨fun te => te.size = sz /\ 0 <= n /\ Cb l[n.toNat]? ⟨fun c => k.f (.p (.place c 0)), ⟨⟩⟩, ⟨⟩⟩
 | .slc e, .lsl id sz off len => C3 AE e ⟨fun te => te.size = sz /\ (0 <= n /\ n < len) /\ k.f (.lpe id (off + n.toNat) 0), ⟨⟩⟩
 | .arr m e, .lpb id o => C3 AE e ⟨fun te => (0 <= n /\ n < m) /\ k.f (.lpb id (o + n.toNat * te.size)), ⟨⟩⟩
 | .arr m e, .p (.place l o) => C3 AE e ⟨fun te => (0 <= n /\ n < m) /\ k.f (.p (.place l (o + n.toNat * te.size))), ⟨⟩⟩
 | _, _ => False
def Zp (AE : BH) (sh : Sh) (x : LV) (n : Int) (k : BD LV) : Prop :=
 match sh, x with
 | .arr m e, .agg l => C3 AE e ⟨fun te => n < m /\ Cb (DI te (n.toNat * te.size) l) k, ⟨⟩⟩
 | .arr m e, .p (.agg l) => C3 AE e ⟨fun te => n < m /\ Cb (DI te (n.toNat * te.size) (l.map .p)) k, ⟨⟩⟩
 | .str, .p (.str s) => Cb s[n.toNat]? ⟨fun c => k.f (.p (.int .u8 c.toNat)), ⟨⟩⟩
 | _, _ => False
def LN (dflt : Int) (x : Option LV) (k : BD Int) : Prop :=
 match x with
 | none => k.f dflt
 | some (.p (.int _ n)) => k.f n
 | some _ => False
def LO (AE : BH) (t : Nat) (x : LV) (lo hi : Option LV) (k : BD LV) : Prop :=
 match x with
 | .p (.slice sz l) => C3 AE t ⟨fun ti => MP ti.sh ⟨fun e => C3 AE e ⟨fun te => te.size = sz /\ LN l.length hi ⟨fun h => LN 0 lo ⟨fun lw => (0 <= lw /\ lw <= h /\ h <= l.length) /\ k.f (.p (.slice sz ((l.take h.toNat).drop lw.toNat))), ⟨⟩⟩, ⟨⟩⟩, ⟨⟩⟩, ⟨⟩⟩, ⟨⟩⟩
 | .lsl id sz off len => C3 AE t ⟨fun ti => MP ti.sh ⟨fun e => C3 AE e ⟨fun te => te.size = sz /\ len ≠ 0 /\ LN len hi ⟨fun h => LN 0 lo ⟨fun lw => (0 <= lw /\ lw <= h /\ h <= len) /\ k.f (.lsl id sz (off + lw.toNat) (h - lw).toNat), ⟨⟩⟩, ⟨⟩⟩, ⟨⟩⟩, ⟨⟩⟩, ⟨⟩⟩
 | .p (.str s) => C3 AE t ⟨fun ti => ti.sh = .str /\ LN s.size hi ⟨fun h => LN 0 lo ⟨fun lw => (0 <= lw /\ lw <= h /\ h <= s.size) /\ k.f (.p (.str (s.extract lw.toNat h.toNat))), ⟨⟩⟩, ⟨⟩⟩, ⟨⟩⟩
 | _ => False
def YF (sh : Sh) (x : LV) (k : BD LV) : Prop :=
 match sh, x with
 | .arr n _, _ => k.f (.p (.int .i64 n))
 | .slc _, .p (.slice _ l) => l.length <= maxLen -> k.f (.p (.int .i64 l.length))
 | .slc _, .p .nils => k.f (.p (.int .i64 0))
 | .slc _, .lsl _ _ _ len => k.f (.p (.int .i64 len))
 | .str, .p (.str s) => k.f (.p (.int .i64 s.size))
 | _, _ => False
def WM (o : BM) (k : BD (List LV)) : Prop :=
 match o with
 | .box cells => k.f cells
 | _ => False
def Ts (o : BM) (k : BD (Nat × Nat × List (List DV))) : Prop :=
 match o with
 | .row e sz l => k.f (e, sz, l)
 | _ => False
def Tt (o : BM) (k : BD (List (DV × DV))) : Prop :=
 match o with
 | .map m => k.f m
 | _ => False
def Qd (h : Ag) (ti : TI) (p : LV) (k : BD LV) : Prop :=
 match p with
 | .p (.place l off) => Cb (DI ti off (l.map .p)) k
 | .lpb id off => Cb (AL id h) ⟨fun o => WM o ⟨fun cells => Cb (DI ti off cells) k, ⟨⟩⟩, ⟨⟩⟩
 | .lpe id i off => Cb (AL id h) ⟨fun o => Ts o ⟨fun r => Cb r.2.2[i]? ⟨fun x => Cb (DI ti off (x.map .p)) k, ⟨⟩⟩, ⟨⟩⟩, ⟨⟩⟩
 | _ => False
def Tu (h : Ag) (ti : TI) (p : LV) (ls : List LV) (k : BD Ag) : Prop :=
 match p with
 | .lpb id off => Cb (AL id h) ⟨fun o => WM o ⟨fun cells => off + ls.length <= cells.length /\ k.f (B1 id (.box (Cv cells off ls)) h), ⟨⟩⟩, ⟨⟩⟩
 | .lpe id i off => Cb (AL id h) ⟨fun o => Ts o ⟨fun r => Cb r.2.2[i]? ⟨fun x => Cb (Hc ls) ⟨fun ds => off + ls.length <= x.length /\ k.f (B1 id (.row r.1 r.2.1 (r.2.2.set i (Cv x off ds))) h), ⟨⟩⟩, ⟨⟩⟩, ⟨⟩⟩, ⟨⟩⟩
 | _ => False
def St.go (st : St) (dst : Option Tmp) (l : LV) (h : Ag) (c : Nat) : St := ({ st with heap := h, ctr := c } : St).put dst l
def Tv (st : St) (dst : Option Tmp) (e : Nat) (te : TI) (s : LV) (new : List (List DV)) (K : BD St) : Prop :=
  match s with
  | .p .nils => (new.length * te.bytes <= 140737488355328 /\ new.length <= maxLen) /\ K.f (st.go dst (.lsl st.ctr te.size 0 new.length) ((st.ctr, .row e te.size new) :: st.heap) (st.ctr + 1))
  | .lsl id sz off len => sz = te.size /\ Cb (AL id st.heap) ⟨fun o => Ts o ⟨fun r => (r.1 = e /\ r.2.1 = te.size /\ off + len <= r.2.2.length /\
        (len + new.length) * te.bytes <= 140737488355328 /\ len + new.length <= maxLen) /\ K.f (st.go dst (.lsl st.ctr te.size 0 (len + new.length)) ((st.ctr, .row e te.size ((r.2.2.drop off).take len ++ new)) :: JC id st.heap) (st.ctr + 1)), ⟨⟩⟩, ⟨⟩⟩
  | _ => False
def Qe (x : LV) (k : BD Nat) : Prop :=
 match x with
 | .lmap id => k.f id
 | _ => False
def N5 (x : LV) (k : BD (FuncId × List LV)) : Prop :=
 match x with
 | .fn f caps => k.f (f, caps)
 | _ => False
def J8 (P : Program) (A : BZ) (h : Ag) (ctr k : Nat) (args : List LV) (K : BD (LV × Ag × Nat)) : Prop := D5 P A h ctr k args fun l h c => K.f (l, h, c)
def Qf (P : Program) (A : BZ) (AE : BH) (st : St) (dst : Option Tmp) (c : Call) (K : BD St) : Prop :=
 match c.callee, c.args.toList, c.argTypes.toList with
 | .value f, args, _ => N5 (st.eval f) ⟨fun g => J8 P A st.heap st.ctr g.1 (args.map st.eval ++ g.2) ⟨fun r => K.f (st.go dst r.1 r.2.1 r.2.2), ⟨⟩⟩, ⟨⟩⟩
 | .builtin .append, [s, x], [t, t'] => t' = t /\ C3 AE t ⟨fun ti => MP ti.sh ⟨fun e => C3 AE e ⟨fun te => 0 < te.size /\ Cb (K0 st.heap (st.eval x)) ⟨fun new =>
   (∀ y ∈ new, y.length = te.size /\ y.all DV.cell = true) /\ Tv st dst e te (st.eval s) new K, ⟨⟩⟩, ⟨⟩⟩, ⟨⟩⟩, ⟨⟩⟩
 | .builtin .len, [x], [t] => C3 AE t ⟨fun ti => YF ti.sh (st.eval x) ⟨fun l => K.f (st.put dst l), ⟨⟩⟩, ⟨⟩⟩
 | .builtin .max, args, _ => Cb (B7 (fun x y => if y > x then y else x) (args.map st.eval)) ⟨fun r => K.f (st.put dst (.p (.int r.1 r.2))), ⟨⟩⟩
 | .builtin .min, args, _ => Cb (B7 (fun x y => if y < x then y else x) (args.map st.eval)) ⟨fun r => K.f (st.put dst (.p (.int r.1 r.2))), ⟨⟩⟩
 | _, _, _ => False
def WN : Sh -> Option IntKind
 | .int k => some k
 | _ => none
def Zq (l : LV) (k : BD (List (DV × DV))) : Prop := match l with
 | .p .nilm => k.f []
 | .p (.map m) => k.f m
 | _ => False
def Zr (h : Ag) (l : LV) (k0 : Unit -> Prop) (k : Nat -> List (DV × DV) -> Nat -> DV × DV -> Prop) : Prop := match l with
 | .lpb id 0 => match AL id h with
  | some (.iter _ left) => (left = [] -> k0 ()) /\ ∀ j p, left[j]? = some p -> k id left j p
  | _ => False
 | _ => False
def Zs (h : Ag) (l : LV) (k : Nat -> DV × DV -> List (DV × DV) -> Prop) : Prop := match l with
 | .lpb id 0 => match AL id h with
  | some (.iter (some p) left) => k id p left
  | _ => False
 | _ => False
def BR (P : Program) (A : BZ) (AE : BH) (st : St) (dst : Option Tmp) (op : Op) (K : BD St) : Prop :=
 match op with
 | .move x | .assign x => K.f (st.put dst (st.eval x))
 | .pick c a b => TV (st.eval c) ⟨fun t => K.f (st.put dst (if t then st.eval a else st.eval b)), ⟨⟩⟩
 | .nilCheck x => YC (st.eval x) ⟨fun l => K.f (st.put dst l), ⟨⟩⟩
 | .binOp op t x y _ => OX AE op t (st.eval x) (st.eval y) ⟨fun l => K.f (st.put dst l), ⟨⟩⟩
 | .unOp .neg _ x => NL (st.eval x) ⟨fun n => K.f (st.put dst (.p (.int n.1 (n.1.wrap (0 - n.2))))), ⟨⟩⟩
 | .unOp .not _ x => TV (st.eval x) ⟨fun b => K.f (st.put dst (.p (.bool !b))), ⟨⟩⟩
 | .convert s d x => NL (st.eval x) ⟨fun n => C3 AE s ⟨fun _ => C3 AE d ⟨fun ti => Cb (WN ti.sh) ⟨fun kd => K.f (st.put dst (.p (.int kd (kd.wrap n.2)))), ⟨⟩⟩, ⟨⟩⟩, ⟨⟩⟩, ⟨⟩⟩
 | .extract t i => YD (st.eval t) i ⟨fun l => K.f (st.put dst l), ⟨⟩⟩
 | .field t x i => C3 AE t ⟨fun ti => PT ti.sh ⟨fun fs => Cb fs[i]? ⟨fun f => C3 AE f.2 ⟨fun tf => YE (st.eval x) ⟨fun ls => Cb (DI tf f.1 ls) ⟨fun l => K.f (st.put dst l), ⟨⟩⟩, ⟨⟩⟩, ⟨⟩⟩, ⟨⟩⟩, ⟨⟩⟩, ⟨⟩⟩
 | .build t ps => C3 AE t ⟨fun ti => OY AE ti.sh (ti.zero.map .p) (ps.toList.map fun p => (p.1, st.eval p.2)) ⟨fun cells => K.f (st.put dst (Fh cells)), ⟨⟩⟩, ⟨⟩⟩
 | .fieldAddr t x i => C3 AE t ⟨fun ti => PT ti.sh ⟨fun fs => Cb fs[i]? ⟨fun f => C3 AE f.2 ⟨fun tf => tf.size ≠ 0 /\ WL f.1 (st.eval x) ⟨fun l => K.f (st.put dst l), ⟨⟩⟩, ⟨⟩⟩, ⟨⟩⟩, ⟨⟩⟩, ⟨⟩⟩
 | .indexAddr t x i => NL (st.eval i) ⟨fun n => C3 AE t ⟨fun ti => Zo AE ti.sh (st.eval x) n.2 ⟨fun l => K.f (st.put dst l), ⟨⟩⟩, ⟨⟩⟩, ⟨⟩⟩
 | .index t x i => NL (st.eval i) ⟨fun n => C3 AE t ⟨fun ti => 0 <= n.2 /\ Zp AE ti.sh (st.eval x) n.2 ⟨fun l => K.f (st.put dst l), ⟨⟩⟩, ⟨⟩⟩, ⟨⟩⟩
 | .makeFunc (.func f) first caps => first.toList = [] /\ K.f (st.put dst (.fn f (caps.toList.map st.eval)))
 | .slice t x lo hi none => LO AE t (st.eval x) (lo.map st.eval) (hi.map st.eval) ⟨fun l => K.f (st.put dst l), ⟨⟩⟩
 | .load t x => C3 AE t ⟨fun ti => Qd st.heap ti (st.eval x) ⟨fun l => K.f (st.put dst l), ⟨⟩⟩, ⟨⟩⟩
 | .store t x v => C3 AE t ⟨fun ti => Cb (st.eval v).cells ⟨fun ls => (ls.length = ti.size /\ ls.all LV.one = true) /\ Tu st.heap ti (st.eval x) ls ⟨fun h => K.f (st.go dst .any h st.ctr), ⟨⟩⟩, ⟨⟩⟩, ⟨⟩⟩
 | .alloc t => C3 AE t ⟨fun ti => K.f (st.go dst (.lpb st.ctr 0) ((st.ctr, .box (ti.zero.map .p)) :: st.heap) (st.ctr + 1)), ⟨⟩⟩
 | .box _ x => Cb (st.eval x).cells ⟨fun ls => K.f (st.go dst (.lpb st.ctr 0) ((st.ctr, .box ls) :: st.heap) (st.ctr + 1)), ⟨⟩⟩
 | .buildSlice t n ps => C3 AE t ⟨fun ti => MP ti.sh ⟨fun e => C3 AE e ⟨fun te => (0 < te.size /\ n * te.size <= 16777216) /\ Cb (HW te.size 0 (ps.toList.map fun p => (p.1, st.eval p.2))) ⟨fun l =>
   l.length = n /\ (K.f (st.go dst (.lsl st.ctr te.size 0 n) ((st.ctr, .row e te.size l) :: st.heap) (st.ctr + 1)) \/ K.f (st.put dst (.p (.slice te.size l)))), ⟨⟩⟩, ⟨⟩⟩, ⟨⟩⟩, ⟨⟩⟩
 | .makeSlice t l c => C3 AE t ⟨fun ti => MP ti.sh ⟨fun e => C3 AE e ⟨fun te => NL (st.eval l) ⟨fun n => NL (st.eval c) ⟨fun n' => (n'.2 = n.2 /\ 0 <= n.2 /\ te.bytes * n.2.toNat <= 281474976710656 /\ n.2.toNat <= maxLen) /\
   (K.f (st.go dst (.lsl st.ctr te.size 0 n.2.toNat) ((st.ctr, .row e te.size (List.replicate n.2.toNat te.zero)) :: st.heap) (st.ctr + 1)) \/ K.f (st.put dst (.p (.slice te.size (List.replicate n.2.toNat te.zero))))), ⟨⟩⟩, ⟨⟩⟩, ⟨⟩⟩, ⟨⟩⟩, ⟨⟩⟩
 | .makeMap _ none => K.f (st.go dst (.lmap st.ctr) ((st.ctr, .map []) :: st.heap) (st.ctr + 1))
 | .lookup t x i ok => C3 AE t ⟨fun ti => Vf ti.sh ⟨fun m => C3 AE m.2 ⟨fun te => Cb (K1 st.heap (st.eval x)) ⟨fun l => Tr (st.eval i) ⟨fun kd => (CB AE m.1 kd = true /\ (l.all fun p => CB AE m.1 p.1) = true) /\
   K.f (st.put dst (if ok then .tup [.p ((Fs kd l).getD te.zeroDV), .p (.bool (Fs kd l).isSome)] else .p ((Fs kd l).getD te.zeroDV))), ⟨⟩⟩, ⟨⟩⟩, ⟨⟩⟩, ⟨⟩⟩, ⟨⟩⟩
 | .mapUpdate t x i v => C3 AE t ⟨fun ti => Vf ti.sh ⟨fun m => Qe (st.eval x) ⟨fun id => Cb (AL id st.heap) ⟨fun o => Tt o ⟨fun l => Tr (st.eval i) ⟨fun kd => Tr (st.eval v) ⟨fun vd =>
   (CB AE m.1 kd = true /\ (l.all fun p => CB AE m.1 p.1) = true) /\ K.f (st.go dst .any (B1 id (.map (MO kd vd l)) st.heap) st.ctr), ⟨⟩⟩, ⟨⟩⟩, ⟨⟩⟩, ⟨⟩⟩, ⟨⟩⟩, ⟨⟩⟩, ⟨⟩⟩
 | .mapEntry t x i => C3 AE t ⟨fun ti => Vf ti.sh ⟨fun m => C3 AE m.2 ⟨fun te => Qe (st.eval x) ⟨fun id => Cb (AL id st.heap) ⟨fun o => Tt o ⟨fun l => Tr (st.eval i) ⟨fun kd =>
   (CB AE m.1 kd = true /\ (l.all fun p => CB AE m.1 p.1) = true) /\
   K.f (st.go dst (.tup [.p ((Fs kd l).getD te.zeroDV), .p (.int .i64 (((Da kd l).map (·.1)).getD l.length))]) (match Da kd l with
    | some _ => st.heap
    | none => B1 id (.map (l ++ [(kd, te.zeroDV)])) st.heap) st.ctr), ⟨⟩⟩, ⟨⟩⟩, ⟨⟩⟩, ⟨⟩⟩, ⟨⟩⟩, ⟨⟩⟩, ⟨⟩⟩
 | .entryStore _ x s v => Qe (st.eval x) ⟨fun id => Cb (AL id st.heap) ⟨fun o => Tt o ⟨fun m => NL (st.eval s) ⟨fun n => Tr (st.eval v) ⟨fun vd => 0 <= n.2 /\ Cb m[n.2.toNat]? ⟨fun p =>
   K.f (st.go dst .any (B1 id (.map (m.set n.2.toNat (p.1, vd))) st.heap) st.ctr), ⟨⟩⟩, ⟨⟩⟩, ⟨⟩⟩, ⟨⟩⟩, ⟨⟩⟩, ⟨⟩⟩
 | .range t x => C3 AE t ⟨fun ti => Vf ti.sh ⟨fun _ => Zq (st.eval x) ⟨fun m => K.f (st.go dst (.lpb st.ctr 0) ((st.ctr, .iter none m) :: st.heap) (st.ctr + 1)), ⟨⟩⟩, ⟨⟩⟩, ⟨⟩⟩
 | .next x false => Zr st.heap (st.eval x) (fun _ => K.f (st.go dst (.tup [.p (.bool false)]) st.heap st.ctr)) fun id left j p => ∃ cur', (cur' = none \/ cur' = some p) /\ K.f (st.go dst (.tup [.p (.bool true), .p p.1, .p p.2]) (B1 id (.iter cur' (left.eraseIdx j)) st.heap) st.ctr)
 | .entry x => Zs st.heap (st.eval x) fun id p left => K.f (st.go dst (.tup [.p p.1, .p p.2]) (B1 id (.iter none left) st.heap) st.ctr)
 | .call c => Qf P A AE st dst c K
 | _ => False
def gW (b want : Bool) (X Y : BD Unit) : Prop := (b = want -> X.f ()) /\ (b = !want -> Y.f ())
def gM (v : LV) (want : Bool) (X Y : BD Unit) : Prop :=
 match v with
 | .p (.bool b) => gW b want X Y
 | .und => Y.f ()
 | _ => False
def Gt (st : St) (d : Option Tmp) : LV :=
 match d with
 | some t => st.eval (.tmp t)
 | none => .any
structure Zt (K : BD St) (st : St) : Prop where
 h : K.f st
def Fq (P : Program) (A : BZ) (AE : BH) (K : BD St) : List IT -> St -> Prop
 | [], st => Zt K st
 | ⟨dst, op, none⟩ :: rest, st => BR P A AE st dst op ⟨Fq P A AE K rest, ⟨⟩⟩
 | ⟨dst, op, some (d, want)⟩ :: rest, st => gM (Gt st d) want ⟨fun _ => BR P A AE st dst op ⟨Fq P A AE K rest, ⟨⟩⟩, ⟨⟩⟩ ⟨fun _ => Fq P A AE K rest (st.put dst .und), ⟨⟩⟩
section
variable {P : Program} {A : BZ} {AE : BH}
theorem Ac {α : Type} {o : Option α} {k : BD α} : Cb o k ↔ ∃ a, o = some a /\ k.f a := by cases o <;> simp [Cb]
theorem Ad {t : Nat} {k : BD TI} : C3 AE t k ↔ ∃ a, AE.tt t = some a /\ k.f a := Ac
theorem L0 {x : LV} {k : BD Bool} : TV x k ↔ ∃ b, x = .p (.bool b) /\ k.f b := by
 unfold TV; split <;> simp_all
theorem CY {x : LV} {k : BD (IntKind × Int)} : NL x k ↔ ∃ kk n, x = .p (.int kk n) /\ k.f (kk, n) := by
 unfold NL; split
 .exact ⟨fun h => ⟨_, _, rfl, h⟩, fun ⟨_, _, e, h⟩ => by cases e; exact h⟩
 simp_all
theorem DN {x : LV} {k : BD DV} : Tr x k ↔ ∃ d, x = .p d /\ k.f d := by
 unfold Tr; split <;> simp_all
theorem Cd {x : Sh} {k : BD Nat} : MP x k ↔ ∃ e, x = .slc e /\ k.f e := by
 unfold MP; split <;> simp_all
theorem Fa {x : Sh} {k : BD (List (Nat × Nat))} : PT x k ↔ ∃ e, x = .struct e /\ k.f e := by
 unfold PT; split <;> simp_all
theorem Ft {x : Sh} {k : BD (Nat × Nat)} : Vf x k ↔ ∃ a b, x = .mp a b /\ k.f (a, b) := by
 unfold Vf; split
 .exact ⟨fun h => ⟨_, _, rfl, h⟩, fun ⟨_, _, e, h⟩ => by cases e; exact h⟩
 simp_all
theorem FD {x : LV} {k : BD Nat} : Qe x k ↔ ∃ id, x = .lmap id /\ k.f id := by
 unfold Qe; split <;> simp_all
theorem Vh {x : LV} {k : BD (FuncId × List LV)} : N5 x k ↔ ∃ f c, x = .fn f c /\ k.f (f, c) := by
 unfold N5; split
 .exact ⟨fun h => ⟨_, _, rfl, h⟩, fun ⟨_, _, e, h⟩ => by cases e; exact h⟩
 simp_all
theorem GX {x : BM} {k : BD (List (DV × DV))} : Tt x k ↔ ∃ m, x = .map m /\ k.f m := by
 unfold Tt; split <;> simp_all
theorem Iw {x : BM} {k : BD (List LV)} : WM x k ↔ ∃ m, x = .box m /\ k.f m := by
 unfold WM; split <;> simp_all
theorem GY {x : BM} {k : BD (Nat × Nat × List (List DV))} : Ts x k ↔ ∃ a b c, x = .row a b c /\ k.f (a, b, c) := by
 unfold Ts; split
 .exact ⟨fun h => ⟨_, _, _, rfl, h⟩, fun ⟨_, _, _, e, h⟩ => by cases e; exact h⟩
 simp_all
theorem Jo {d : Int} {x : Option LV} {k : BD Int} {k' : Int -> Prop} (hk : ∀ n, k.f n -> k' n) (h : LN d x k) : Gu d x k' := by
 unfold LN at h; unfold Gu
 split at h <;> first | exact hk _ h | exact h.elim
theorem Vi {neg : Bool} {t : Nat} {x y : LV} {k : BD LV} (h : Vg AE neg t x y k) : SQ AE neg t x y k.f := by
 unfold Vg at h
 unfold SQ
 split at h
 .exact h
 .obtain ⟨ti, h1, h2, h3⟩ := Ad.1 h; exact ⟨⟨ti, h1, h2⟩, h3⟩
 .obtain ⟨ks, h1, h2⟩ := Ac.1 h; exact ⟨ks, h1, h2⟩
 .obtain ⟨ti, h1, h2⟩ := Ad.1 h
  obtain ⟨e, h3, h4⟩ := Cd.1 h2
  exact ⟨⟨ti, e, h1, h3⟩, h4⟩
 .obtain ⟨ti, h1, h2⟩ := Ad.1 h
  obtain ⟨e, h3, h4⟩ := Cd.1 h2
  exact ⟨⟨ti, e, h1, h3⟩, h4⟩
 .obtain ⟨ti, h1, h2⟩ := Ad.1 h
  obtain ⟨e, h3, h4⟩ := Cd.1 h2
  exact ⟨⟨ti, e, h1, h3⟩, h4⟩
 .exact h
 .exact h
 .exact h
 exact h.elim
theorem Pn {op : BinOp} {kk : IntKind} {a b : Int} {k : BD LV} (h : Mq op kk a b k) : ∃ v, Hb op kk a b = some v /\ k.f (.p v) := by
 unfold Mq at h
 split at h
 .exact Ac.1 h.2
 .exact Ac.1 h.2
 exact Ac.1 h
theorem YG {op : BinOp} {t : Nat} {x y : LV} {k : BD LV} (h : OX AE op t x y k) : Rn AE op t x y k.f := by
 unfold OX at h
 unfold Rn
 split at h
 .exact ⟨h.1, Pn h.2⟩
 rename_i hne
 split
 .exact absurd rfl (hne _ _ _ _ rfl)
 split at h
 .exact Vi h
 .exact Vi h
 exact h.elim
theorem NM {place : Nat -> Option (Nat × Nat)} {k : BD (List LV)} : ∀ {ps : List (Nat × LV)} {cells : List LV}, LM AE place cells ps k -> JG AE place cells ps k.f
 | [], _, h => h
 | (i, v) :: rest, cells, h => by
  obtain ⟨p, h1, h⟩ := Ac.1 h
  obtain ⟨ti, h2, h⟩ := Ad.1 h
  obtain ⟨ls, h3, ⟨h4, h5⟩, h⟩ := Ac.1 h
  exact ⟨p.1, p.2, ti, ls, h1, h2, h3, h4, h5, NM h⟩
theorem XQ {h : Ag} {ti : TI} {p : LV} {k : BD LV} (hl : Qd h ti p k) : HM h ti p k.f := by
 unfold Qd at hl
 unfold HM
 split at hl
 .exact Ac.1 hl
 .obtain ⟨o, h1, hl⟩ := Ac.1 hl
  obtain ⟨cells, rfl, hl⟩ := Iw.1 hl
  obtain ⟨r, h2, h3⟩ := Ac.1 hl
  exact ⟨cells, r, h1, h2, h3⟩
 .obtain ⟨o, h1, hl⟩ := Ac.1 hl
  obtain ⟨e, sz, elems, rfl, hl⟩ := GY.1 hl
  obtain ⟨x, h2, hl⟩ := Ac.1 hl
  obtain ⟨r, h3, h4⟩ := Ac.1 hl
  exact ⟨e, sz, elems, x, r, h1, h2, h3, h4⟩
 exact hl.elim
theorem YH {a b c d : Prop} (h : (a /\ b /\ c) /\ d) : a /\ b /\ c /\ d := ⟨h.1.1, h.1.2.1, h.1.2.2, h.2⟩
theorem WO {t : Nat} {x : LV} {lo hi : Option LV} {k : BD LV} (h : LO AE t x lo hi k) : LQ AE t x lo hi k.f := by
 unfold LO at h
 unfold LQ
 split at h
 .obtain ⟨ti, h1, h⟩ := Ad.1 h
  obtain ⟨e, h2, h⟩ := Cd.1 h
  obtain ⟨te, h3, h4, h⟩ := Ad.1 h
  exact ⟨⟨ti, e, h1, h2, te, h3, h4⟩, Jo (fun n hn => Jo (fun m hm => YH hm) hn) h⟩
 .obtain ⟨ti, h1, h⟩ := Ad.1 h
  obtain ⟨e, h2, h⟩ := Cd.1 h
  obtain ⟨te, h3, h4, h5, h⟩ := Ad.1 h
  exact ⟨⟨ti, e, h1, h2, te, h3, h4⟩, h5, Jo (fun n hn => Jo (fun m hm => YH hm) hn) h⟩
 .obtain ⟨ti, h1, h2, h⟩ := Ad.1 h
  exact ⟨⟨ti, h1, h2⟩, Jo (fun n hn => Jo (fun m hm => YH hm) hn) h⟩
 exact h.elim
end
end Go.E
/- The walk of a function: the short form holds what the long one says (Ro); rules for the parts of a body, states made weaker (A0). No condition. -/
namespace Go.E
open Go Go.RowKit
section
variable {P : Program} {A : BZ} {AE : BH} {K : St -> Prop}
theorem Ro {st : St} {o : Oper} {K : BD St} (h : BR P A AE st o.dst o.op K) : Y2 P A AE st o K.f := by
 obtain ⟨dst, op, type, pos, after, guard⟩ := o
 simp only at h
 cases op <;> simp only [BR] at h <;> simp only [Y2]
 case move x => exact h
 case assign x => exact h
 case pick c a b => obtain ⟨t, h1, h2⟩ := L0.1 h; exact ⟨t, h1, h2⟩
 case nilCheck x =>
  try dsimp only at h
  unfold YC at h
  simp only [nW]
  split at h <;> first | (rename_i e; simp only [e]; exact ⟨trivial, h⟩) | exact h.elim
 case binOp op t x y z => exact YG h
 case unOp op t x =>
  cases op <;> simp only [BR] at h
  case neg => obtain ⟨kk, n, h1, h2⟩ := CY.1 h; simp only [nW, Vj, h1]; exact h2
  case not => obtain ⟨b, h1, h2⟩ := L0.1 h; simp only [nW, Vj, h1]; exact h2
 case convert s d x =>
  obtain ⟨kk, n, h1, h⟩ := CY.1 h
  obtain ⟨tj, h2, h⟩ := Ad.1 h
  obtain ⟨ti, h3, h⟩ := Ad.1 h
  obtain ⟨kd, h4, h⟩ := Ac.1 h
  refine ⟨kk, n, ti, tj, h1, h2, h3, kd, ?_, h⟩
  generalize ti.sh = q at h4
  cases q <;> simp [WN] at h4
  rw [h4]
 case extract t i =>
  try dsimp only at h
  unfold YD at h
  simp only [nW]
  split at h
  .rename_i l hl; simp only [hl]; exact Ac.1 h
  .rename_i l hl; simp only [hl]; exact Ac.1 h
  exact h.elim
 case field t x i =>
  obtain ⟨ti, h1, h⟩ := Ad.1 h
  obtain ⟨fs, h2, h⟩ := Fa.1 h
  obtain ⟨f, h3, h⟩ := Ac.1 h
  obtain ⟨tf, h4, h⟩ := Ad.1 h
  try dsimp only at h
  unfold YE at h
  split at h
  .rename_i l hl
   obtain ⟨v, h5, h6⟩ := Ac.1 h
   exact ⟨ti, fs, f.1, f.2, tf, l, v, h1, h2, h3, h4, by rw [hl]; rfl, by rw [hl]; trivial, h5, h6⟩
  .rename_i l hl
   obtain ⟨v, h5, h6⟩ := Ac.1 h
   exact ⟨ti, fs, f.1, f.2, tf, l.map .p, v, h1, h2, h3, h4, by rw [hl]; rfl, by rw [hl]; trivial, h5, h6⟩
  exact h.elim
 case build t ps =>
  obtain ⟨ti, h1, h⟩ := Ad.1 h
  refine ⟨ti, h1, ?_⟩
  try dsimp only at h
  unfold OY at h
  split at h
  .rename_i fs hsh; simp only [hsh]; exact ⟨h.1, NM h.2⟩
  .rename_i n e hsh
   obtain ⟨te, h2, h⟩ := Ad.1 h
   simp only [hsh]
   exact ⟨te, h2, NM h⟩
  exact h.elim
 case fieldAddr t x i =>
  obtain ⟨ti, h1, h⟩ := Ad.1 h
  obtain ⟨fs, h2, h⟩ := Fa.1 h
  obtain ⟨f, h3, h⟩ := Ac.1 h
  obtain ⟨tf, h4, h5, h⟩ := Ad.1 h
  refine ⟨ti, fs, f.1, f.2, tf, h1, h2, h3, h4, h5, ?_⟩
  try dsimp only at h
  unfold WL at h
  split at h <;> first | (rename_i e; simp only [e]; exact h) | exact h.elim
 case indexAddr t x i =>
  obtain ⟨kk, n, h1, h⟩ := CY.1 h
  obtain ⟨ti, h2, h⟩ := Ad.1 h
  refine ⟨kk, n, ti, h1, h2, ?_⟩
  try dsimp only at h
  unfold Zo at h
  split at h
  .rename_i e1 e2
   obtain ⟨te, g1, g2, g3, h⟩ := Ad.1 h
   simp only [e1, e2]
   exact ⟨⟨te, g1, g2⟩, g3, Ac.1 h⟩
  .rename_i e1 e2
   obtain ⟨te, g1, g2, ⟨g3, g4⟩, h⟩ := Ad.1 h
   simp only [e1, e2]
   exact ⟨⟨te, g1, g2⟩, g3, g4, h⟩
  .rename_i e1 e2
   obtain ⟨te, g1, ⟨g2, g3⟩, h⟩ := Ad.1 h
   simp only [e1, e2]
   exact ⟨te, g1, g2, g3, h⟩
  .rename_i e1 e2
   obtain ⟨te, g1, ⟨g2, g3⟩, h⟩ := Ad.1 h
   simp only [e1, e2]
   exact ⟨te, g1, g2, g3, h⟩
  exact h.elim
 case index t x i =>
  obtain ⟨kk, n, h1, h⟩ := CY.1 h
  obtain ⟨ti, h2, h0, h⟩ := Ad.1 h
  refine ⟨kk, n, ti, h1, h2, h0, ?_⟩
  try dsimp only at h
  unfold Zp at h
  split at h
  .rename_i e1 e2
   obtain ⟨te, g1, g2, h⟩ := Ad.1 h
   obtain ⟨v, g3, g4⟩ := Ac.1 h
   simp only [e1, e2]
   exact ⟨te, v, g1, g2, g3, g4⟩
  .rename_i e1 e2
   obtain ⟨te, g1, g2, h⟩ := Ad.1 h
   obtain ⟨v, g3, g4⟩ := Ac.1 h
   simp only [e1, e2]
   exact ⟨te, v, g1, g2, g3, g4⟩
  .rename_i e1 e2
   simp only [e1, e2]
   exact Ac.1 h
  exact h.elim
 case makeFunc fn first caps =>
  cases fn <;> simp only [BR] at h
  rename_i f
  exact ⟨by simpa using h.1, f, rfl, h.2⟩
 case slice t x lo hi mx =>
  cases mx with
  | some m => exact h.elim
  | none => exact ⟨rfl, WO h⟩
 case load t x => obtain ⟨ti, h1, h2⟩ := Ad.1 h; exact ⟨ti, h1, XQ h2⟩
 case store t x v =>
  obtain ⟨ti, h1, h⟩ := Ad.1 h
  obtain ⟨ls, h2, ⟨h3, h4⟩, h⟩ := Ac.1 h
  refine ⟨ti, h1, ls, h2, h3, h4, ?_⟩
  try dsimp only at h
  unfold Tu at h
  split at h
  .rename_i id off e
   obtain ⟨o, g1, h⟩ := Ac.1 h
   obtain ⟨cells, rfl, g2, h⟩ := Iw.1 h
   try simp only [e]
   exact ⟨cells, g1, g2, h⟩
  .rename_i id i off e
   obtain ⟨o, g1, h⟩ := Ac.1 h
   obtain ⟨e', sz, elems, rfl, h⟩ := GY.1 h
   obtain ⟨x, g2, h⟩ := Ac.1 h
   obtain ⟨ds, g3, g4, h⟩ := Ac.1 h
   try simp only [e]
   exact ⟨e', sz, elems, x, ds, g1, g2, g4, g3, h⟩
  exact h.elim
 case alloc t => obtain ⟨ti, h1, h2⟩ := Ad.1 h; exact ⟨ti, h1, h2⟩
 case box t x => obtain ⟨ls, h1, h2⟩ := Ac.1 h; exact ⟨ls, h1, h2⟩
 case buildSlice t n ps =>
  obtain ⟨ti, h1, h⟩ := Ad.1 h
  obtain ⟨e, h2, h⟩ := Cd.1 h
  obtain ⟨te, h3, ⟨h4, h5⟩, h⟩ := Ad.1 h
  obtain ⟨l, h6, h7, h⟩ := Ac.1 h
  exact ⟨ti, e, te, l, h1, h2, h3, h4, h5, h6, h7, h⟩
 case makeSlice t l c =>
  obtain ⟨ti, h1, h⟩ := Ad.1 h
  obtain ⟨e, h2, h⟩ := Cd.1 h
  obtain ⟨te, h3, h⟩ := Ad.1 h
  obtain ⟨k1, n, h4, h⟩ := CY.1 h
  obtain ⟨k2, n', h5, ⟨h9, h6, h7, h8⟩, h⟩ := CY.1 h
  simp only at h9
  subst h9
  exact ⟨ti, e, te, n', k1, k2, h1, h2, h3, h4, h5, h6, h7, h8, h⟩
 case makeMap t r =>
  cases r with
  | some r => exact h.elim
  | none => exact ⟨rfl, h⟩
 case lookup t x i ok =>
  obtain ⟨ti, h1, h⟩ := Ad.1 h
  obtain ⟨kt, et, h2, h⟩ := Ft.1 h
  obtain ⟨te, h3, h⟩ := Ad.1 h
  obtain ⟨m, h4, h⟩ := Ac.1 h
  obtain ⟨kd, h5, ⟨h6, h7⟩, h⟩ := DN.1 h
  exact ⟨ti, kt, et, te, m, kd, h1, h2, h3, h4, h5, h6, h7, h⟩
 case mapUpdate t x i v =>
  obtain ⟨ti, h1, h⟩ := Ad.1 h
  obtain ⟨kt, et, h2, h⟩ := Ft.1 h
  obtain ⟨id, h3, h⟩ := FD.1 h
  obtain ⟨o, h4, h⟩ := Ac.1 h
  obtain ⟨m, rfl, h⟩ := GX.1 h
  obtain ⟨kd, h5, h⟩ := DN.1 h
  obtain ⟨vd, h6, ⟨h7, h8⟩, h⟩ := DN.1 h
  exact ⟨ti, kt, et, id, m, kd, vd, h1, h2, h3, h4, h5, h6, h7, h8, h⟩
 case mapEntry t x i =>
  obtain ⟨ti, h1, h⟩ := Ad.1 h
  obtain ⟨kt, et, h2, h⟩ := Ft.1 h
  obtain ⟨te, h3, h⟩ := Ad.1 h
  obtain ⟨id, h4, h⟩ := FD.1 h
  obtain ⟨o, h5, h⟩ := Ac.1 h
  obtain ⟨m, rfl, h⟩ := GX.1 h
  obtain ⟨kd, h6, ⟨h7, h8⟩, h⟩ := DN.1 h
  exact ⟨ti, kt, et, te, id, m, kd, h1, h2, h3, h4, h5, h6, h7, h8, h⟩
 case entryStore t x s v =>
  obtain ⟨id, h1, h⟩ := FD.1 h
  obtain ⟨o, h2, h⟩ := Ac.1 h
  obtain ⟨m, rfl, h⟩ := GX.1 h
  obtain ⟨kk, n, h3, h⟩ := CY.1 h
  obtain ⟨vd, h4, h0, h⟩ := DN.1 h
  obtain ⟨p, h5, h⟩ := Ac.1 h
  exact ⟨id, m, kk, n, vd, p, h1, h2, h3, h0, h5, h4, h⟩
 case range t x =>
  obtain ⟨ti, h1, h⟩ := Ad.1 h
  obtain ⟨kt, et, h2, h⟩ := Ft.1 h
  try dsimp only at h
  unfold Zq at h
  split at h
  .rename_i e; exact ⟨ti, kt, et, [], h1, h2, .inl ⟨e, rfl⟩, h⟩
  .rename_i m e; exact ⟨ti, kt, et, m, h1, h2, .inr e, h⟩
  exact h.elim
 case next x s =>
  cases s with
  | true => exact h.elim
  | false =>
   simp only [BR] at h
   unfold Zr at h
   split at h
   .rename_i id e
    split at h
    .rename_i cur left hl
     exact ⟨rfl, id, cur, left, e, hl, h.1, h.2⟩
    exact h.elim
   exact h.elim
 case entry x =>
  unfold Zs at h
  split at h
  .rename_i id e
   split at h
   .rename_i p left hl
    exact ⟨id, p, left, e, hl, h⟩
   exact h.elim
  exact h.elim
 case call c =>
  obtain ⟨callee, args, ats⟩ := c
  try dsimp only at h
  unfold Qf at h
  simp only at h
  split at h
  .rename_i f
   obtain ⟨k, caps, g1, g2⟩ := Vh.1 h
   simp only [g1]
   exact g2
  .rename_i s x t t' e2 e3
   obtain ⟨rfl, h⟩ := h
   obtain ⟨ti, h1, h⟩ := Ad.1 h
   obtain ⟨e, h2, h⟩ := Cd.1 h
   obtain ⟨te, h3, h4, h⟩ := Ad.1 h
   obtain ⟨new, h5, h6, h⟩ := Ac.1 h
   have ha : args = #[s, x] := by rw [<- Array.toList_inj, e2]
   have hb : ats = #[t', t'] := by rw [<- Array.toList_inj, e3]
   simp only [mW]
   refine ⟨trivial, s, x, t', ha, hb, ti, e, te, h1, h2, h3, h4, new, h5, h6, ?_⟩
   try dsimp only at h
   unfold Tv at h
   split at h
   .rename_i e; simp only [e]; exact ⟨h.1.1, h.1.2, h.2⟩
   .rename_i id sz off len e
    obtain ⟨hsz, h⟩ := h
    obtain ⟨o, g1, h⟩ := Ac.1 h
    obtain ⟨e', sz', elems, rfl, ⟨k1, k2, g2, g3, g4⟩, h9⟩ := GY.1 h
    subst k1; subst k2
    try simp only [e]
    exact ⟨elems, hsz, g1, g2, g3, g4, h9⟩
   exact h.elim
  .rename_i x t e2 e3
   obtain ⟨ti, h1, h⟩ := Ad.1 h
   have ha : args = #[x] := by rw [<- Array.toList_inj, e2]
   have hb : ats = #[t] := by rw [<- Array.toList_inj, e3]
   simp only [nW]
   refine ⟨x, t, ti, ha, hb, h1, ?_⟩
   try dsimp only at h
   unfold YF at h
   split at h
   .rename_i g; simp only [g]; exact h
   .rename_i g1 g2; simp only [g1, g2, LR]; exact h
   .rename_i g1 g2; simp only [g1, g2, LR]; exact h
   .rename_i g1 g2; simp only [g1, g2, LR]; exact h
   .rename_i g1 g2; simp only [g1, g2, LR]; exact h
   exact h.elim
  .obtain ⟨r, h1, h⟩ := Ac.1 h
   simp only [nW]
   exact ⟨r, h1, h⟩
  .obtain ⟨r, h1, h⟩ := Ac.1 h
   simp only [nW]
   exact ⟨r, h1, h⟩
  exact h.elim
 all_goals exact h.elim
theorem SR (st : St) (ops : List Oper) (j : Nat) : Gt st (WK ops j) = Dc st ops.toArray j := by
 unfold Gt Dc WK
 simp only [List.getElem?_toArray]
 cases ops[j]? with
 | none => rfl
 | some o => cases hd : o.dst <;> simp [hd]
theorem L1 (hE : BP P AE) {ops : List Oper} {K : BD St} {Q : Exit -> Act -> World -> Prop} (hQ : ∀ st a w, K.f st -> R A st a w -> Q .normal a w) :
  ∀ (l : List Oper) (st : St) (a : Act) (w : World), Fq P A AE K (l.map (OW ops)) st -> R A st a w -> wpList P ops.toArray Q l a w
 | [], st, a, w, h, hR => hQ st a w h.h hR
 | o :: rest, st, a, w, h, hR => by
  have run : BR P A AE st o.dst o.op ⟨Fq P A AE K (rest.map (OW ops)), ⟨⟩⟩ -> o.wp P a w (wpList P ops.toArray Q rest) Q := fun h =>
   SN hE (Ro h) hR fun st' a' w' hk hR' => L1 hE hQ rest st' a' w' hk hR'
  have skip : Fq P A AE K (rest.map (OW ops)) (st.put o.dst .und) -> wpList P ops.toArray Q rest (a.put o.dst undef) w := fun h => by
   obtain ⟨μ, hh, hs⟩ := hR.ex
   exact L1 hE hQ rest _ _ _ h (hR.put hs hh .und)
  unfold wpList
  simp only [List.map_cons, OW] at h
  cases hg : o.guard with
  | none =>
   rw [hg] at h
   rw [if_pos (by simp [Region.wanted, hg])]
   exact .inl (run h)
  | some g =>
   obtain ⟨j, want⟩ := g
   rw [hg] at h
   simp only [Fq, SR] at h
   obtain ⟨μ, hh, hs⟩ := hR.ex
   obtain ⟨g1, g2⟩ := OL (ops := ops.toArray) (j := j) (fun x => HY hs x)
   unfold gM at h
   split at h
   .rename_i b hb
    have hy := g1 b hb
    by_cases e : b = want
    .rw [if_pos (by simp [Region.wanted, hg, hy, e])]
     exact .inl (run (h.1 e))
    rw [if_neg (by simp [Region.wanted, hg, hy, e])]
    exact skip (h.2 (by cases b <;> cases want <;> simp_all))
   .rename_i hb
    have hy := g2 hb
    rw [if_neg (by simp [Region.wanted, hg, hy])]
    exact skip h
   exact h.elim
theorem ZJ (hE : BP P AE) {id : Nat} {ops : List Oper} {ms : List IT} {y : Code} {Q : Exit -> St -> Prop} {st : St} (hm : ops.map (OW ops) = ms) (h : Fq P A AE ⟨fun st' => CJ P A y Q st', ⟨⟩⟩ ms st) :
  CJ P A (.seq (.region id ops.toArray false) y) Q st :=
 AB fun a w hR => wp_region_lit (L1 hE (fun st' _ _ hk hR' => ⟨st', hR', hk⟩) ops st a w (by rw [hm]; exact h) hR)
theorem YI (hE : BP P AE) {id : Nat} {ops : List Oper} {ms : List IT} {Q : Exit -> St -> Prop} {st : St} (hm : ops.map (OW ops) = ms) (h : Fq P A AE ⟨fun st' => Q .normal st', ⟨⟩⟩ ms st) :
  CJ P A (.region id ops.toArray false) Q st :=
 fun a w hR => wp_region_lit (L1 hE (fun st' _ _ hk hR' => ⟨st', hR', hk⟩) ops st a w (by rw [hm]; exact h) hR)
def A0 (A : BZ) (st st' : St) : Prop := ∀ a w, R A st a w -> R A st' a w
theorem A0.refl (st : St) : A0 A st st := fun _ _ h => h
theorem A0.trans {a b c : St} (h : A0 A a b) (h' : A0 A b c) : A0 A a c := fun x w hR => h' x w (h x w hR)
theorem Jp {c : Code} {Q : Exit -> St -> Prop} {st st' : St} (hw : A0 A st st') (h : CJ P A c Q st') : CJ P A c Q st := fun a w hR => h a w (hw a w hR)
def Fb (gl : List (Nat × Nat)) : LV -> LV
 | .lsl id sz off len => .lsl ((AL id gl).getD 0) sz off len
 | .lpb id off => .lpb ((AL id gl).getD 0) off
 | .lpe id i off => .lpe ((AL id gl).getD 0) i off
 | .lmap id => .lmap ((AL id gl).getD 0)
 | .agg l => .agg (renLs gl l)
 | .tup l => .tup (renLs gl l)
 | .fn f l => .fn f (renLs gl l)
 | l => l
where renLs (gl : List (Nat × Nat)) : List LV -> List LV
 | [] => []
 | x :: l => Fb gl x :: renLs gl l
def Dy (gl : List (Nat × Nat)) : LV -> Bool
 | .lsl id _ _ _ | .lpb id _ | .lpe id _ _ | .lmap id => (AL id gl).isSome
 | .agg l | .tup l | .fn _ l => namesLs gl l
 | _ => true
where namesLs (gl : List (Nat × Nat)) : List LV -> Bool
 | [] => true
 | x :: l => Dy gl x && namesLs gl l
theorem KU {gl : List (Nat × Nat)} : ∀ {ls : List LV} {i : Nat}, (Fb.renLs gl ls)[i]? = (ls[i]?).map (Fb gl)
 | [], i => by simp [Fb.renLs]
 | x :: l, 0 => by simp [Fb.renLs]
 | x :: l, i + 1 => by simpa [Fb.renLs] using KU (ls := l)
theorem KV {gl : List (Nat × Nat)} : ∀ {ls : List LV}, (Fb.renLs gl ls).length = ls.length
 | [] => rfl
 | x :: l => by simp [Fb.renLs, KV (ls := l)]
theorem IU {gl : List (Nat × Nat)} : ∀ {ls : List LV} {i : Nat} {x : LV}, Dy.namesLs gl ls = true -> ls[i]? = some x -> Dy gl x = true
 | [], i, x, _, h => by simp at h
 | y :: l, 0, x, hn, h => by simp at h; subst h; simp only [Dy.namesLs, Bool.and_eq_true] at hn; exact hn.1
 | y :: l, i + 1, x, hn, h => by simp only [Dy.namesLs, Bool.and_eq_true] at hn; exact IU hn.2 (by simpa using h)
def GZ (gl : List (Nat × Nat)) (μ : Nat -> Option Bs) (id : Nat) : Option Bs :=
 match AL id gl with
 | some old => μ old
 | none => none
theorem LS {O O' : Nat -> Prop} {μ : Nat -> Option Bs} {w : World} {gl : List (Nat × Nat)} (hO : ∀ b, b < w.heap.size -> O' b -> O b) :
  ∀ (l : LV) (v : Value), Dy gl l = true -> Aq O μ w v (Fb gl l) -> Aq O' (GZ gl μ) w v l
 | .p d, v, _, h => .p _ _ (h.p_inv.mono (Bg.refl _ _) hO)
 | .und, v, _, h => by cases h; exact .und
 | .any, v, _, h => .any _
 | .lsl id sz off len, v, hn, h => by
  simp only [Dy] at hn
  cases hl : AL id gl with
  | none => rw [hl] at hn; cases hn
  | some old =>
   simp only [Fb, hl, Option.getD_some] at h
   have hm : ∀ loc, μ old = some loc -> GZ gl μ id = some loc := fun loc h => by simp [GZ, hl, h]
   cases h with
   | lsln _ loc h1 h2 => exact .lsln id loc (hm _ h1) h2
   | lsl _ _ _ cap a loc h1 h2 h3 h4 h5 h6 h7 => exact .lsl id _ _ cap a loc (hm _ h1) h2 h3 h4 h5 h6 h7
 | .lpb id off, v, hn, h => by
  simp only [Dy] at hn
  cases hl : AL id gl with
  | none => rw [hl] at hn; cases hn
  | some old =>
   simp only [Fb, hl, Option.getD_some] at h
   have hm : ∀ loc, μ old = some loc -> GZ gl μ id = some loc := fun loc h => by simp [GZ, hl, h]
   cases h with
   | lpb _ _ loc h1 h2 => exact .lpb id _ loc (hm _ h1) h2
 | .lpe id i off, v, hn, h => by
  simp only [Dy] at hn
  cases hl : AL id gl with
  | none => rw [hl] at hn; cases hn
  | some old =>
   simp only [Fb, hl, Option.getD_some] at h
   have hm : ∀ loc, μ old = some loc -> GZ gl μ id = some loc := fun loc h => by simp [GZ, hl, h]
   cases h with
   | lpe _ _ _ loc h1 h2 => exact .lpe id _ _ loc (hm _ h1) h2
 | .lmap id, v, hn, h => by
  simp only [Dy] at hn
  cases hl : AL id gl with
  | none => rw [hl] at hn; cases hn
  | some old =>
   simp only [Fb, hl, Option.getD_some] at h
   have hm : ∀ loc, μ old = some loc -> GZ gl μ id = some loc := fun loc h => by simp [GZ, hl, h]
   cases h with
   | lmap _ loc h1 h2 => exact .lmap id loc (hm _ h1) h2
 | .agg ls, v, hn, h => by
  simp only [Fb] at h
  simp only [Dy] at hn
  cases h with
  | agg vs _ hsz hr =>
   rw [KV] at hsz
   refine .agg vs ls hsz fun i u x h1 h2 => ?_
   have : SizeOf.sizeOf x < SizeOf.sizeOf ls := List.sizeOf_lt_of_mem (List.mem_of_getElem? h2)
   exact LS hO x u (IU hn h2) (hr i u _ h1 (by rw [KU, h2]; rfl))
 | .tup ls, v, hn, h => by
  simp only [Fb] at h
  simp only [Dy] at hn
  cases h with
  | tup vs _ hsz hr =>
   rw [KV] at hsz
   refine .tup vs ls hsz fun i u x h1 h2 => ?_
   have : SizeOf.sizeOf x < SizeOf.sizeOf ls := List.sizeOf_lt_of_mem (List.mem_of_getElem? h2)
   exact LS hO x u (IU hn h2) (hr i u _ h1 (by rw [KU, h2]; rfl))
 | .fn f ls, v, hn, h => by
  simp only [Fb] at h
  simp only [Dy] at hn
  cases h with
  | fn _ vs _ hsz hr =>
   rw [KV] at hsz
   refine .fn f vs ls hsz fun i u x h1 h2 => ?_
   have : SizeOf.sizeOf x < SizeOf.sizeOf ls := List.sizeOf_lt_of_mem (List.mem_of_getElem? h2)
   exact LS hO x u (IU hn h2) (hr i u _ h1 (by rw [KU, h2]; rfl))
def WP (gl : List (Nat × Nat)) : BM -> BM
 | .box cells => .box (Fb.renLs gl cells)
 | o => o
def Tw (gl : List (Nat × Nat)) : BM -> Bool
 | .box cells => Dy.namesLs gl cells
 | _ => true
def TW (gl : List (Nat × Nat)) (sl : List (Nat × LV)) : List (Nat × LV) -> Prop
 | [] => True
 | (t, l) :: rest => (Dy gl l = true /\ Bo sl t = Fb gl l) /\ TW gl sl rest
def TX (gl : List (Nat × Nat)) (h : Ag) : Ag -> Prop
 | [] => True
 | (id, o) :: rest => (Tw gl o = true /\ ∃ old, AL id gl = some old /\ AL old h = some (WP gl o)) /\ TX gl h rest
theorem Qg {gl : List (Nat × Nat)} {sl : List (Nat × LV)} : ∀ {sl' : List (Nat × LV)}, TW gl sl sl' -> ∀ t l, AL t sl' = some l -> Dy gl l = true /\ Bo sl t = Fb gl l
 | [], _, t, l, h => by simp [AL] at h
 | (u, x) :: rest, ⟨h1, h2⟩, t, l, h => by
  simp only [AL] at h
  split at h
  .cases h; subst_vars; exact h1
  exact Qg h2 t l h
theorem H8 {gl : List (Nat × Nat)} {hp : Ag} : ∀ {h' : Ag}, TX gl hp h' -> ∀ id o, AL id h' = some o -> Tw gl o = true /\ ∃ old, AL id gl = some old /\ AL old hp = some (WP gl o)
 | [], _, id, o, h => by simp [AL] at h
 | (u, x) :: rest, ⟨h1, h2⟩, id, o, h => by
  simp only [AL] at h
  split at h
  .cases h; subst_vars; exact h1
  exact H8 h2 id o h
theorem NN {α : Type} {t : Nat} {v : α} : ∀ {l : List (Nat × α)}, AL t l = some v -> (t, v) ∈ l
 | [], h => by simp [AL] at h
 | (k, u) :: l, h => by
  simp only [AL] at h
  split at h
  .cases h; subst_vars; simp
  exact List.mem_cons_of_mem _ (NN h)
def Qh (gl : List (Nat × Nat)) (h : Ag) (c : Nat) : Bool := decide (h.map fun p => (AL p.1 gl).getD 0).Nodup && gl.all fun p => decide (p.1 < c)
theorem YJ {gl : List (Nat × Nat)} {h : Ag} (hn : (h.map fun p => (AL p.1 gl).getD 0).Nodup) {a b : Nat × BM} (ha : a ∈ h) (hb : b ∈ h) (e : (AL a.1 gl).getD 0 = (AL b.1 gl).getD 0) : a = b := by
 induction h with
 | nil => simp at ha
 | cons x l ih =>
  simp only [List.map_cons, List.nodup_cons, List.mem_map, not_exists, not_and] at hn
  rcases List.mem_cons.1 ha with e1 | ha' <;> rcases List.mem_cons.1 hb with e2 | hb'
  .rw [e1, e2]
  .subst e1; exact absurd e.symm (hn.1 b hb')
  .subst e2; exact absurd e (hn.1 a ha')
  exact ih hn.2 ha' hb'
theorem YK (gl : List (Nat × Nat)) {nt : Nat} {sl sl' : List (Nat × LV)} {h h' : Ag} {c c' : Nat} (hext : ∀ id, A.μ0 id ≠ none -> AL id gl = some id) (ho : Qh gl h' c' = true)
  (hs : TW gl sl sl') (hh' : TX gl h h') : A0 A ⟨nt, sl, h, c⟩ ⟨nt, sl', h', c'⟩ := fun a w ⟨⟨μ, hh, hr⟩, hnt, hdef⟩ => by
 simp only [Qh, Bool.and_eq_true, decide_eq_true_eq, List.all_eq_true] at ho
 have hmine : ∀ b, CK (GZ gl μ) h' b -> CK μ h b := by
  rintro b ⟨id, o, loc, h1, h2, h3, h4⟩
  obtain ⟨_, old, g1, g2⟩ := H8 hh' id o h1
  simp only [GZ, g1] at h2
  exact ⟨old, _, loc, g2, h2, h3, h4⟩
 have hown : ∀ b, b < w.heap.size -> Ar A (GZ gl μ) h' b -> Ar A μ h b := fun b _ hb => hb.imp id (hmine b)
 refine ⟨⟨GZ gl μ, ⟨?_, ?_, ?_, ?_, hh.size, hh.block, hh.os, hh.tape, hh.output, ?_⟩, fun t ht => ?_⟩, hnt, hdef⟩
 .intro id o hid
  obtain ⟨hn, old, g1, g2⟩ := H8 hh' id o hid
  obtain ⟨loc, k1, k2⟩ := hh.obj old _ g2
  refine ⟨loc, by simp only [GZ, g1]; exact k1, ?_⟩
  cases o with
  | box cells =>
   obtain ⟨a1, cs, ty, a2, a3, a4⟩ := k2
   rw [KV] at a3
   refine ⟨a1, cs, ty, a2, a3, fun i v l hv hl => LS hown l v (IU hn hl) (a4 i v _ hv (by rw [KU, hl]; rfl))⟩
  | row e sz elems =>
   obtain ⟨a1, a2, a3⟩ := k2
   refine ⟨a1, a2, ?_⟩
   rcases a3 with a3 | ⟨b1, cs, b2, b3, b4, b5, b6⟩
   .exact .inl a3
   exact .inr ⟨b1, cs, b2, b3, b4, b5, fun i j x d v hx hd hv => (b6 i j x d v hx hd hv).mono (Bg.refl _ _) hown⟩
  | map m =>
   obtain ⟨a1, es, a2, a3, a4, a5⟩ := k2
   exact ⟨a1, es, a2, a3, a4, fun i e p he hp => ⟨(a5 i e p he hp).1.mono (Bg.refl _ _) hown, (a5 i e p he hp).2.mono (Bg.refl _ _) hown⟩⟩
  | iter cur left => exact ⟨k2.1, k2.2.mono (Bg.refl _ _) hown rfl⟩
 .intro id id' o o' loc loc' h1 h2 m1 m2 n1 n2 hb
  obtain ⟨_, old, g1, g2⟩ := H8 hh' id o h1
  obtain ⟨_, old', g1', g2'⟩ := H8 hh' id' o' h2
  simp only [GZ, g1] at m1
  simp only [GZ, g1'] at m2
  have := hh.inj _ _ _ _ _ _ g2 g2' m1 m2 n1 n2 hb
  have := YJ ho.1 (NN h1) (NN h2) (by simp only [g1, g1', Option.getD_some]; exact this)
  exact congrArg (·.1) this
 .intro id hid
  simp only [GZ]
  cases hl : AL id gl with
  | none => rfl
  | some old =>
   have := ho.2 _ (NN hl)
   simp only [Fr] at hid
   omega
 .intro id o loc h1 m1 n1
  obtain ⟨_, old, g1, g2⟩ := H8 hh' id o h1
  simp only [GZ, g1] at m1
  exact hh.base _ _ _ g2 m1 n1
 .intro id loc hm
  have := hext id (by rw [hm]; simp)
  simp only [GZ, this]
  exact hh.ext _ _ hm
 show Aq _ _ _ _ (match AL t sl' with | some v => v | none => .any)
 cases hl : AL t sl' with
 | none => exact .any _
 | some l =>
  obtain ⟨g1, g2⟩ := Qg hs t l hl
  have := hr t ht
  simp only at this
  rw [g2] at this
  exact LS hown l _ g1 this
theorem Bm {nt : Nat} {sl : List (Nat × LV)} {h : Ag} {c : Nat} (t e sz : Nat) (ht : Bo sl t = .p .nils) : A0 A ⟨nt, sl, h, c⟩ ⟨nt, (t, .lsl c sz 0 0) :: sl, (c, .row e sz []) :: h, c + 1⟩ := fun a w ⟨⟨μ, hh, hr⟩, hnt, hdef⟩ => by
 have hno := hh.fresh c (Nat.le_refl _)
 let loc : Bs := ⟨true, 0, 0, sz, 0⟩
 have hsub : ∀ id x, AL id ((c, BM.row e sz []) :: h) = some x -> (id = c /\ x = .row e sz []) \/ AL id h = some x := by
  intro id x hx
  simp only [AL] at hx
  split at hx
  .cases hx; exact .inl ⟨‹_›, rfl⟩
  exact .inr hx
 have hadd := hh.add hno loc (.row e sz []) ((c, .row e sz []) :: h) (fun hn => by cases hn) (fun hn => by cases hn) hsub (Bg.refl _ _) (fun _ _ _ _ _ _ _ => rfl) rfl rfl rfl ⟨rfl, by simp, .inl ⟨rfl, rfl⟩⟩
 have hown := hh.sub_add loc (.row e sz []) ((c, .row e sz []) :: h) (fun hn => by cases hn) hsub
 refine ⟨⟨_, hadd.less (F' := Fr (c + 1)) fun id hid => ?_, fun u hu => ?_⟩, hnt, hdef⟩
 .simp only [Fr] at hid ⊢; omega
 show Aq _ _ _ _ (match AL u ((t, LV.lsl c sz 0 0) :: sl) with | some v => v | none => .any)
 simp only [AL]
 by_cases hut : u = t
 .subst hut
  rw [if_pos rfl]
  have := hr u hu
  simp only at this
  rw [ht] at this
  rw [this.nils_inv]
  exact .lsln c loc (by simp [Bd]) rfl
 rw [if_neg hut]
 exact (hr u hu).mono (Bg.refl _ _) hown (Kz hno loc)
end
end Go.E
/- Loops whose states are told outright; parts of a body. No condition. -/
namespace Go.E
open Go Go.RowKit
section
variable {P : Program} {A : BZ} {AE : BH} {Q : Exit -> St -> Prop} {st : St}
theorem AC {next : St -> Prop} (h : next st) : QW next Q .normal st := h
theorem AI {next : St -> Prop} (h : Q .ret st) : QW next Q .ret st := h
theorem Aa {next : St -> Prop} {id : Nat} (h : Q (.exit id) st) : QW next Q (.exit id) st := h
theorem Af {id : Nat} (h : Q .normal st) : HZ id Q .normal st := h
theorem AV {id : Nat} (h : Q .ret st) : HZ id Q .ret st := h
theorem Ao {id : Nat} (h : Q .normal st) : HZ id Q (.exit id) st := by simp only [HZ, if_true]; exact h
theorem NO {id id' : Nat} (hne : (id' == id) = false) (h : Q (.exit id') st) : HZ id Q (.exit id') st := by
 simp only [HZ]
 rw [if_neg (by simpa using hne)]; exact h
theorem Zu {P : Program} {AE : BH} (hE : BP P AE) {k : Nat} {fn : Func} {c : Code} (hf : P.funcs[k]? = some fn) (hb : fn.body = some c) (hn : (fn.name == "runtime.NumGoroutine") = false) (nt : Nat) (hnt : fn.ntmps = nt)
  (rs : List ResultVar) (hrs : fn.results.toList = rs) {ds : List DV} (hlen : ds.length <= nt) {Q : DV -> Prop}
  (h : ∀ A : BZ, (∀ id, A.μ0 id = none) -> CJ P A c (NE fun st => ∃ r, GU AE.tt rs st = some r /\ Q r) ⟨nt, DT 0 ds, [], 0⟩) : A5 P k ds Q := by
 subst hnt hrs
 exact QX hE hf hb hn hlen h
theorem AAc {h : Ag} {c k : Nat} {args : List LV} {ds : List DV} {r : DV} {f : LV × Ag × Nat -> Prop} {hf : JE f} (hds : By h args = some ds) (hF : A5 P k ds (· = r))
  (hs : r.scalar = true \/ args.flatMap (D6 h) = []) (hK : f (.p r, h, c)) : J8 P A h c k args ⟨f, hf⟩ :=
 D5.pure hds hF fun q hq => by
  subst hq
  split
  .exact hK
  rcases hs with hs | hs
  .exact absurd hs ‹_›
  rw [hs]; exact hK
theorem AAd {h h' : Ag} {c k : Nat} {args : List LV} {ds : List DV} {r : DV} {f : LV × Ag × Nat -> Prop} {hf : JE f} (hds : By h args = some ds) (hF : A5 P k ds (· = r))
  (hs : r.scalar = false) (hd : Ce (args.flatMap (D6 h)) h = h') (hK : f (.p r, h', c)) : J8 P A h c k args ⟨f, hf⟩ :=
 D5.pure hds hF fun q hq => by
  subst hq
  rw [if_neg (by simp [hs]), hd]; exact hK
def Le (r d : DV) : Prop := ∀ (O : Nat -> Prop) (w : World) (v : Value), A6 O w v r -> A6 O w v d
theorem Le.of_eq {r d : DV} (h : r = d) : Le r d := fun _ _ _ hv => h ▸ hv
theorem Le.nil (sz : Nat) : Le .nils (.slice sz []) := fun _ _ _ hv => by cases hv; exact .snil sz
theorem Le.tup {l m : List DV} (hl : l.length = m.length) (h : ∀ (i : Nat) (a b : DV), l[i]? = some a -> m[i]? = some b -> Le a b) : Le (.tup l) (.tup m) := fun O w v hv => by
 cases hv with
 | tup vs _ hsz hr =>
  refine .tup vs m (by omega) fun i u d h1 h2 => ?_
  have hi := (List.getElem?_eq_some_iff.1 h2).1
  have hx : l[i]? = some (l[i]'(by omega)) := List.getElem?_eq_getElem _
  exact h i _ d hx h2 O w u (hr i u _ h1 hx)
theorem Le.agg {l m : List DV} (hl : l.length = m.length) (h : ∀ (i : Nat) (a b : DV), l[i]? = some a -> m[i]? = some b -> Le a b) : Le (.agg l) (.agg m) := fun O w v hv => by
 cases hv with
 | agg vs _ hsz hr =>
  refine .agg vs m (by omega) fun i u d h1 h2 => ?_
  have hi := (List.getElem?_eq_some_iff.1 h2).1
  have hx : l[i]? = some (l[i]'(by omega)) := List.getElem?_eq_getElem _
  exact h i _ d hx h2 O w u (hr i u _ h1 hx)
theorem Le.cons {a b : DV} {l m : List DV} (h : Le a b) (hr : ∀ (i : Nat) (a b : DV), l[i]? = some a -> m[i]? = some b -> Le a b) : ∀ (i : Nat) (x y : DV), (a :: l)[i]? = some x -> (b :: m)[i]? = some y -> Le x y := fun i x y h1 h2 => by
 cases i with
 | zero => simp at h1 h2; subst h1 h2; exact h
 | succ i => exact hr i x y (by simpa using h1) (by simpa using h2)
theorem Zv {P : Program} {AE : BH} (hE : BP P AE) {k : Nat} {fn : Func} {c : Code} (hf : P.funcs[k]? = some fn) (hb : fn.body = some c) (hn : (fn.name == "runtime.NumGoroutine") = false) (nt : Nat) (hnt : fn.ntmps = nt)
  (rs : List ResultVar) (hrs : fn.results.toList = rs) {ds : List DV} (hlen : ds.length <= nt) {d : DV}
  (h : ∀ A : BZ, (∀ id, A.μ0 id = none) -> CJ P A c (NE fun st => ∃ r, GU AE.tt rs st = some r /\ Le r d) ⟨nt, DT 0 ds, [], 0⟩) : A5 P k ds (· = d) := by
 have := Zu hE hf hb hn nt hnt rs hrs hlen h
 exact ⟨this.enters, fun O w vs h1 h2 h3 => (this.run O w vs h1 h2 h3).mono fun _ _ ⟨v, r, e, hr, q, hb⟩ => ⟨v, d, e, q _ _ _ hr, rfl, hb⟩⟩
end
end Go.E
/- The equations by which a walk is reckoned. Written by a program (mkev.py). No condition. -/
namespace Go.E
open Go Go.RowKit
theorem Tx : ∀ l : List DV, Hc (l.map .p) = some l
 | [] => rfl
 | x :: l => by simp [Hc, Tx l]
end Go.E
/- Drawn regions in short form. Conditions: IS and mixedOrders, by kernel. -/
namespace Go.E
open Go Go.RowKit
def YL (P : Program) (h : Ag) (k : Nat) (args : List LV) (K : BD DV) : Prop :=
 ∃ ds r, By h args = some ds /\ A5 P k ds (· = r) /\ (r.scalar = true \/ args.flatMap (D6 h) = []) /\ K.f r
def AA3 (P : Program) (AE : BH) (h : Ag) (k : Nat) (args : List LV) (K : BD (Nat × Nat × List (List DV))) : Prop :=
 AE.own = true /\ ∃ ds t sz elems, By h args = some ds /\ GV P k ds t sz elems /\ WF (args.flatMap (D6 h)) elems /\ K.f (t, sz, elems)
def Y3 (AE : BH) (neg : Bool) (t : Nat) (x y : LV) (k : BD LV) : Prop :=
 match y with
 | .p .nils => False
 | y => Vg AE neg t x y k
def P8 (AE : BH) (op : BinOp) (t : Nat) (x y : LV) (k : BD LV) : Prop :=
 match x, y with
 | .p (.int k1 a), .p (.int k2 b) => k1 = k2 /\ Mq op k1 a b k
 | x, y => match op with
  | .eql => Y3 AE false t x y k
  | .neq => Y3 AE true t x y k
  | _ => False
def WQ (sh : Sh) (x : LV) (k : BD LV) : Prop :=
 match sh, x with
 | .arr n _, _ => k.f (.p (.int .i64 n))
 | .slc _, .p (.slice _ l) => k.f (.p (.int .i64 l.length))
 | .slc _, .p .nils => k.f (.p (.int .i64 0))
 | .slc _, .lsl _ _ _ len => k.f (.p (.int .i64 len))
 | .str, .p (.str s) => k.f (.p (.int .i64 s.size))
 | _, _ => False
def JH (P : Program) (A : BZ) (AE : BH) (st : St) (dst : Option Tmp) (op : Op) (K : BD St) : Prop :=
 match op with
 | .binOp op t x y _ => P8 AE op t (st.eval x) (st.eval y) ⟨fun l => K.f (st.put dst l), ⟨⟩⟩
 | .call c => match c.callee, c.args.toList, c.argTypes.toList with
  | .builtin .len, [x], [t] => C3 AE t ⟨fun ti => WQ ti.sh (st.eval x) ⟨fun l => K.f (st.put dst l), ⟨⟩⟩, ⟨⟩⟩
  | .builtin .len, _, _ => False
  | .value f, args, _ => N5 (st.eval f) ⟨fun g => YL P st.heap g.1 (args.map st.eval ++ g.2) ⟨fun r => K.f (st.put dst (.p r)), ⟨⟩⟩ \/
    AA3 P AE st.heap g.1 (args.map st.eval ++ g.2) ⟨fun r => K.f (({ st with heap := (st.ctr, .row r.1 r.2.1 r.2.2) :: st.heap, ctr := st.ctr + 1 } : St).put dst (.lsl st.ctr r.2.1 0 r.2.2.length)), ⟨⟩⟩, ⟨⟩⟩
  | _, _, _ => BR P A AE st dst (.call c) K
 | .range _ _ => False
 | .next _ _ => False
 | .entry _ => False
 | .load t x => Ml AE.calm (st.eval x) = true /\ BR P A AE st dst (.load t x) K
 | .store t x v => LK AE.calm (st.eval x) = true /\ BR P A AE st dst (.store t x v) K
 | op => BR P A AE st dst op K
def DU (P : Program) (A : BZ) (AE : BH) (base n : Nat) (K : BD St) : List (Nat × IT) -> St -> Prop
 | [], st => Zt K (st.at (base + n))
 | (i, ⟨dst, op, none⟩) :: rest, st => JH P A AE (st.at (base + i)) dst op ⟨DU P A AE base n K rest, ⟨⟩⟩
 | (i, ⟨dst, op, some (d, want)⟩) :: rest, st => gM (Gt st d) want ⟨fun _ => JH P A AE (st.at (base + i)) dst op ⟨DU P A AE base n K rest, ⟨⟩⟩, ⟨⟩⟩ ⟨fun _ => DU P A AE base n K rest (st.put dst .und), ⟨⟩⟩
section
variable {P : Program} {A : BZ} {AE : BH}
theorem St.at_at (st : St) (c d : Nat) : (st.at c).at d = st.at d := rfl
theorem ZK {v : LV} {want : Bool} {f f' g g' : Unit -> Prop} (h1 : f () = f' ()) (h2 : g () = g' ()) : gM v want ⟨f, ⟨⟩⟩ ⟨g, ⟨⟩⟩ = gM v want ⟨f', ⟨⟩⟩ ⟨g', ⟨⟩⟩ := by
 unfold gM
 split
 .simp only [gW, h1, h2]
 .exact h2
 rfl
theorem Qi (base n : Nat) (K : BD St) (l : List (Nat × IT)) : ∀ (st : St) (c : Nat), DU P A AE base n K l (st.at c) = DU P A AE base n K l st := by
 induction l with
 | nil => intro st c; rfl
 | cons p l ih =>
  intro st c
  obtain ⟨i, dst, op, g⟩ := p
  cases g with
  | none => rfl
  | some g =>
   obtain ⟨d, want⟩ := g
   have e1 : Gt (st.at c) d = Gt st d := by cases d <;> rfl
   have e2 : DU P A AE base n K l ((st.at c).put dst .und) = DU P A AE base n K l (st.put dst .und) := by
    have : (st.at c).put dst .und = (st.put dst .und).at c := by cases dst <;> rfl
    rw [this, ih]
   simp only [DU, e1, St.at_at]
   exact ZK rfl e2
theorem Vk {neg : Bool} {t : Nat} {x y : LV} {k : BD LV} (h : Y3 AE neg t x y k) : ∃ l, SQ AE neg t x y (· = l) /\ k.f l := by
 unfold Y3 at h
 split at h
 .exact h.elim
 rename_i hne
 unfold Vg at h
 unfold SQ
 split at h
 .exact ⟨_, rfl, h⟩
 .obtain ⟨ti, h1, h2, h3⟩ := Ad.1 h; exact ⟨_, ⟨⟨ti, h1, h2⟩, rfl⟩, h3⟩
 .obtain ⟨ks, h1, h2, h3, h4⟩ := Ac.1 h; exact ⟨_, ⟨ks, h1, h2, h3, rfl⟩, h4⟩
 .exact absurd rfl hne
 .exact absurd rfl hne
 .exact absurd rfl hne
 .exact ⟨_, ⟨h.1, rfl⟩, h.2⟩
 .exact ⟨_, ⟨h.1, rfl⟩, h.2⟩
 .exact ⟨_, ⟨h.1, rfl⟩, h.2⟩
 exact h.elim
theorem YM {op : BinOp} {t : Nat} {x y : LV} {k : BD LV} (h : P8 AE op t x y k) : ∃ l, Rn AE op t x y (· = l) /\ k.f l := by
 unfold P8 at h
 unfold Rn
 split at h
 .obtain ⟨v, h1, h2⟩ := Pn h.2
  exact ⟨_, ⟨h.1, v, h1, rfl⟩, h2⟩
 rename_i hne
 split
 .exact absurd rfl (hne _ _ _ _ rfl)
 split at h
 .exact Vk h
 .exact Vk h
 exact h.elim
theorem NQ {place : Nat -> Option (Nat × Nat)} {k : BD (List LV)} : ∀ {ps : List (Nat × LV)} {cells : List LV}, LM AE place cells ps k -> ∃ l, JG AE place cells ps (· = l) /\ k.f l
 | [], _, h => ⟨_, rfl, h⟩
 | (i, v) :: rest, cells, h => by
  obtain ⟨p, h1, h⟩ := Ac.1 h
  obtain ⟨ti, h2, h⟩ := Ad.1 h
  obtain ⟨ls, h3, ⟨h4, h5⟩, h⟩ := Ac.1 h
  obtain ⟨l, h6, h7⟩ := NQ h
  exact ⟨l, ⟨p.1, p.2, ti, ls, h1, h2, h3, h4, h5, h6⟩, h7⟩
theorem NR {place : Nat -> Option (Nat × Nat)} {f : List LV -> LV} {l : List LV} : ∀ {ps : List (Nat × LV)} {cells : List LV}, JG AE place cells ps (· = l) -> JG AE place cells ps fun c => f c = f l
 | [], _, h => congrArg f h
 | (i, v) :: rest, cells, ⟨off, t, ti, ls, h1, h2, h3, h4, h5, h6⟩ => ⟨off, t, ti, ls, h1, h2, h3, h4, h5, NR h6⟩
theorem Jq {d : Int} {x : Option LV} {k : BD Int} (h : LN d x k) : ∃ n, (∀ k' : Int -> Prop, k' n -> Gu d x k') /\ k.f n := by
 unfold LN at h; unfold Gu
 split at h
 .exact ⟨_, fun _ h => h, h⟩
 .exact ⟨_, fun _ h => h, h⟩
 exact h.elim
theorem XR {h : Ag} {ti : TI} {p : LV} {k : BD LV} (hl : Qd h ti p k) : ∃ l, HM h ti p (· = l) /\ k.f l := by
 unfold Qd at hl
 unfold HM
 split at hl
 .obtain ⟨r, h1, h2⟩ := Ac.1 hl
  exact ⟨r, ⟨r, h1, rfl⟩, h2⟩
 .obtain ⟨o, h1, hl⟩ := Ac.1 hl
  obtain ⟨cells, rfl, hl⟩ := Iw.1 hl
  obtain ⟨r, h2, h3⟩ := Ac.1 hl
  exact ⟨r, ⟨cells, r, h1, h2, rfl⟩, h3⟩
 .obtain ⟨o, h1, hl⟩ := Ac.1 hl
  obtain ⟨e, sz, elems, rfl, hl⟩ := GY.1 hl
  obtain ⟨x, h2, hl⟩ := Ac.1 hl
  obtain ⟨r, h3, h4⟩ := Ac.1 hl
  exact ⟨r, ⟨e, sz, elems, x, r, h1, h2, h3, rfl⟩, h4⟩
 exact hl.elim
theorem WR {t : Nat} {x : LV} {lo hi : Option LV} {k : BD LV} (h : LO AE t x lo hi k) : ∃ l, LQ AE t x lo hi (· = l) /\ k.f l := by
 unfold LO at h
 unfold LQ
 split at h
 .obtain ⟨ti, h1, h⟩ := Ad.1 h
  obtain ⟨e, h2, h⟩ := Cd.1 h
  obtain ⟨te, h3, h4, h⟩ := Ad.1 h
  obtain ⟨a, ka, h⟩ := Jq h
  obtain ⟨b, kb, h5, h⟩ := Jq h
  exact ⟨_, ⟨⟨ti, e, h1, h2, te, h3, h4⟩, ka _ (kb _ ⟨h5.1, h5.2.1, h5.2.2, rfl⟩)⟩, h⟩
 .obtain ⟨ti, h1, h⟩ := Ad.1 h
  obtain ⟨e, h2, h⟩ := Cd.1 h
  obtain ⟨te, h3, h4, h6, h⟩ := Ad.1 h
  obtain ⟨a, ka, h⟩ := Jq h
  obtain ⟨b, kb, h5, h⟩ := Jq h
  exact ⟨_, ⟨⟨ti, e, h1, h2, te, h3, h4⟩, h6, ka _ (kb _ ⟨h5.1, h5.2.1, h5.2.2, rfl⟩)⟩, h⟩
 .obtain ⟨ti, h1, h2, h⟩ := Ad.1 h
  obtain ⟨a, ka, h⟩ := Jq h
  obtain ⟨b, kb, h5, h⟩ := Jq h
  exact ⟨_, ⟨⟨ti, h1, h2⟩, ka _ (kb _ ⟨h5.1, h5.2.1, h5.2.2, rfl⟩)⟩, h⟩
 exact h.elim
theorem ZL {st : St} {dst : Option Tmp} {op : Op} {K : BD St} (hK : ∀ (s : St) (c : Nat), K.f (s.at c) -> K.f s) (h : JH P A AE st dst op K) {o : Oper} (ho : o.dst = dst) :
  ∃ l e, CT P AE st op l e /\ K.f (apS st st.ctr o l e) := by
 subst ho
 have keep : ∀ l, K.f (st.put o.dst l) -> K.f (apS st st.ctr o l .keep) := fun l h => by
  have : apS st st.ctr o l .keep = st.put o.dst l := rfl
  rw [this]; exact h
 have goes : ∀ l e h' c, e.ap st.ctr st.heap = h' -> K.f (st.go o.dst l h' c) -> K.f (apS st st.ctr o l e) := fun l e h' c he hk => by
  refine hK _ c ?_
  have : (apS st st.ctr o l e).at c = st.go o.dst l h' c := by
   unfold apS St.go St.at St.put
   rw [he]
   cases o.dst <;> rfl
  rw [this]; exact hk
 have nC : ∀ l, nW AE st op (· = l) -> (CT P AE st op l .keep ↔ (EY.keep = EY.keep /\ nW AE st op (· = l))) -> K.f (st.put o.dst l) -> ∃ l e, CT P AE st op l e /\ K.f (apS st st.ctr o l e) :=
  fun l h1 h2 h3 => ⟨l, .keep, h2.2 ⟨rfl, h1⟩, keep l h3⟩
 cases op <;> simp only [JH, BR] at h
 case move x => exact nC _ rfl Iff.rfl h
 case assign x => exact nC _ rfl Iff.rfl h
 case pick c a b => obtain ⟨t, h1, h2⟩ := L0.1 h; exact nC _ ⟨t, h1, rfl⟩ Iff.rfl h2
 case nilCheck x =>
  unfold YC at h
  split at h <;> first | exact h.elim | (rename_i e; refine nC _ ?_ Iff.rfl h; simp only [nW, e]; exact ⟨trivial, trivial⟩)
 case binOp op t x y z => obtain ⟨l, h1, h2⟩ := YM h; exact nC l h1 Iff.rfl h2
 case unOp op t x =>
  cases op <;> simp only at h
  case neg => obtain ⟨kk, n, h1, h2⟩ := CY.1 h; exact nC _ (by simp only [nW, Vj, h1]) Iff.rfl h2
  case not => obtain ⟨b, h1, h2⟩ := L0.1 h; exact nC _ (by simp only [nW, Vj, h1]) Iff.rfl h2
 case convert s d x =>
  obtain ⟨kk, n, h1, h⟩ := CY.1 h
  obtain ⟨tj, h2, h⟩ := Ad.1 h
  obtain ⟨ti, h3, h⟩ := Ad.1 h
  obtain ⟨kd, h4, h⟩ := Ac.1 h
  refine nC _ ⟨kk, n, ti, tj, h1, h2, h3, kd, ?_, rfl⟩ Iff.rfl h
  generalize ti.sh = q at h4
  cases q <;> simp [WN] at h4
  rw [h4]
 case extract t i =>
  unfold YD at h
  split at h
  .rename_i l hl; obtain ⟨v, h1, h2⟩ := Ac.1 h; exact nC v (by simp only [nW, hl]; exact ⟨v, h1, rfl⟩) Iff.rfl h2
  .rename_i l hl; obtain ⟨v, h1, h2⟩ := Ac.1 h; exact nC _ (by simp only [nW, hl]; exact ⟨v, h1, rfl⟩) Iff.rfl h2
  exact h.elim
 case field t x i =>
  obtain ⟨ti, h1, h⟩ := Ad.1 h
  obtain ⟨fs, h2, h⟩ := Fa.1 h
  obtain ⟨f, h3, h⟩ := Ac.1 h
  obtain ⟨tf, h4, h⟩ := Ad.1 h
  try dsimp only at h
  unfold YE at h
  split at h
  .rename_i l hl
   obtain ⟨v, h5, h6⟩ := Ac.1 h
   exact nC v ⟨ti, fs, f.1, f.2, tf, l, v, h1, h2, h3, h4, by rw [hl]; rfl, by rw [hl]; trivial, h5, rfl⟩ Iff.rfl h6
  .rename_i l hl
   obtain ⟨v, h5, h6⟩ := Ac.1 h
   exact nC v ⟨ti, fs, f.1, f.2, tf, l.map .p, v, h1, h2, h3, h4, by rw [hl]; rfl, by rw [hl]; trivial, h5, rfl⟩ Iff.rfl h6
  exact h.elim
 case build t ps =>
  obtain ⟨ti, h1, h⟩ := Ad.1 h
  try dsimp only at h
  unfold OY at h
  split at h
  .rename_i fs hsh
   obtain ⟨l, h2, h3⟩ := NQ h.2
   exact nC _ ⟨ti, h1, by simp only [hsh]; exact ⟨h.1, NR h2⟩⟩ Iff.rfl h3
  .rename_i n e hsh
   obtain ⟨te, h2, h⟩ := Ad.1 h
   obtain ⟨l, h3, h4⟩ := NQ h
   exact nC _ ⟨ti, h1, by simp only [hsh]; exact ⟨te, h2, NR h3⟩⟩ Iff.rfl h4
  exact h.elim
 case fieldAddr t x i =>
  obtain ⟨ti, h1, h⟩ := Ad.1 h
  obtain ⟨fs, h2, h⟩ := Fa.1 h
  obtain ⟨f, h3, h⟩ := Ac.1 h
  obtain ⟨tf, h4, h5, h⟩ := Ad.1 h
  try dsimp only at h
  unfold WL at h
  split at h <;> first | exact h.elim | (rename_i e; exact nC _ ⟨ti, fs, f.1, f.2, tf, h1, h2, h3, h4, h5, by simp only [e]⟩ Iff.rfl h)
 case indexAddr t x i =>
  obtain ⟨kk, n, h1, h⟩ := CY.1 h
  obtain ⟨ti, h2, h⟩ := Ad.1 h
  try dsimp only at h
  unfold Zo at h
  split at h
  .rename_i e1 e2
   obtain ⟨te, g1, g2, g3, h⟩ := Ad.1 h
   obtain ⟨c, g4, g5⟩ := Ac.1 h
   exact nC _ ⟨kk, n, ti, h1, h2, by simp only [e1, e2]; exact ⟨⟨te, g1, g2⟩, g3, c, g4, rfl⟩⟩ Iff.rfl g5
  .rename_i e1 e2
   obtain ⟨te, g1, g2, ⟨g3, g4⟩, h⟩ := Ad.1 h
   exact nC _ ⟨kk, n, ti, h1, h2, by simp only [e1, e2]; exact ⟨⟨te, g1, g2⟩, g3, g4, trivial⟩⟩ Iff.rfl h
  .rename_i e1 e2
   obtain ⟨te, g1, ⟨g2, g3⟩, h⟩ := Ad.1 h
   exact nC _ ⟨kk, n, ti, h1, h2, by simp only [e1, e2]; exact ⟨te, g1, g2, g3, rfl⟩⟩ Iff.rfl h
  .rename_i e1 e2
   obtain ⟨te, g1, ⟨g2, g3⟩, h⟩ := Ad.1 h
   exact nC _ ⟨kk, n, ti, h1, h2, by simp only [e1, e2]; exact ⟨te, g1, g2, g3, rfl⟩⟩ Iff.rfl h
  exact h.elim
 case index t x i =>
  obtain ⟨kk, n, h1, h⟩ := CY.1 h
  obtain ⟨ti, h2, h0, h⟩ := Ad.1 h
  try dsimp only at h
  unfold Zp at h
  split at h
  .rename_i e1 e2
   obtain ⟨te, g1, g2, h⟩ := Ad.1 h
   obtain ⟨v, g3, g4⟩ := Ac.1 h
   exact nC v ⟨kk, n, ti, h1, h2, h0, by simp only [e1, e2]; exact ⟨te, v, g1, g2, g3, rfl⟩⟩ Iff.rfl g4
  .rename_i e1 e2
   obtain ⟨te, g1, g2, h⟩ := Ad.1 h
   obtain ⟨v, g3, g4⟩ := Ac.1 h
   exact nC v ⟨kk, n, ti, h1, h2, h0, by simp only [e1, e2]; exact ⟨te, v, g1, g2, g3, rfl⟩⟩ Iff.rfl g4
  .rename_i e1 e2
   obtain ⟨c, g1, g2⟩ := Ac.1 h
   exact nC _ ⟨kk, n, ti, h1, h2, h0, by simp only [e1, e2]; exact ⟨c, g1, rfl⟩⟩ Iff.rfl g2
  exact h.elim
 case makeFunc fn first caps =>
  cases fn <;> simp only at h
  rename_i f
  exact nC _ ⟨by simpa using h.1, f, rfl, rfl⟩ Iff.rfl h.2
 case slice t x lo hi mx =>
  cases mx with
  | some m => exact h.elim
  | none => obtain ⟨l, h1, h2⟩ := WR h; exact nC l ⟨rfl, h1⟩ Iff.rfl h2
 case load t x =>
  obtain ⟨hc', h⟩ := h
  obtain ⟨ti, h1, h2⟩ := Ad.1 h
  obtain ⟨l, h3, h4⟩ := XR h2
  exact ⟨l, .keep, ⟨rfl, hc', ti, h1, h3⟩, keep l h4⟩
 case store t x v =>
  obtain ⟨hc', h⟩ := h
  obtain ⟨ti, h1, h⟩ := Ad.1 h
  obtain ⟨ls, h2, ⟨h3, h4⟩, h⟩ := Ac.1 h
  try dsimp only at h
  unfold Tu at h
  split at h
  .rename_i id off e
   obtain ⟨o', g1, h⟩ := Ac.1 h
   obtain ⟨cells, rfl, g2, h⟩ := Iw.1 h
   refine ⟨.any, .set _, ⟨hc', _, rfl, ?_⟩, goes _ _ _ _ rfl h⟩
   simp only [mW, KT]
   exact ⟨ti, h1, ls, h2, h3, h4, by simp only [e]; exact ⟨cells, g1, g2, trivial, rfl⟩⟩
  .rename_i id i off e
   obtain ⟨o', g1, h⟩ := Ac.1 h
   obtain ⟨e', sz, elems, rfl, h⟩ := GY.1 h
   obtain ⟨x, g2, h⟩ := Ac.1 h
   obtain ⟨ds, g3, g4, h⟩ := Ac.1 h
   refine ⟨.any, .set _, ⟨hc', _, rfl, ?_⟩, goes _ _ _ _ rfl h⟩
   simp only [mW, KT]
   exact ⟨ti, h1, ls, h2, h3, h4, by simp only [e]; exact ⟨e', sz, elems, x, ds, g1, g2, g4, g3, trivial, rfl⟩⟩
  exact h.elim
 case alloc t => obtain ⟨ti, h1, h2⟩ := Ad.1 h; exact ⟨_, .new _, ⟨ti, h1, rfl, rfl⟩, goes _ _ _ _ rfl h2⟩
 case box t x => obtain ⟨ls, h1, h2⟩ := Ac.1 h; exact ⟨_, .new _, ⟨ls, h1, rfl, rfl⟩, goes _ _ _ _ rfl h2⟩
 case buildSlice t n ps =>
  obtain ⟨ti, h1, h⟩ := Ad.1 h
  obtain ⟨e, h2, h⟩ := Cd.1 h
  obtain ⟨te, h3, ⟨h4, h5⟩, h⟩ := Ad.1 h
  obtain ⟨l, h6, h7, h⟩ := Ac.1 h
  rcases h with h | h
  .exact ⟨_, .new _, ⟨ti, e, te, l, h1, h2, h3, h4, h5, h6, h7, .inl ⟨rfl, rfl⟩⟩, goes _ _ _ _ rfl h⟩
  exact ⟨_, .keep, ⟨ti, e, te, l, h1, h2, h3, h4, h5, h6, h7, .inr ⟨rfl, rfl⟩⟩, keep _ h⟩
 case makeSlice t l c =>
  obtain ⟨ti, h1, h⟩ := Ad.1 h
  obtain ⟨e, h2, h⟩ := Cd.1 h
  obtain ⟨te, h3, h⟩ := Ad.1 h
  obtain ⟨k1, n, h4, h⟩ := CY.1 h
  obtain ⟨k2, n', h5, ⟨h9, h6, h7, h8⟩, h⟩ := CY.1 h
  simp only at h9
  subst h9
  rcases h with h | h
  .exact ⟨_, .new _, ⟨ti, e, te, n', k1, k2, h1, h2, h3, h4, h5, h6, h7, h8, .inl ⟨rfl, rfl⟩⟩, goes _ _ _ _ rfl h⟩
  exact ⟨_, .keep, ⟨ti, e, te, n', k1, k2, h1, h2, h3, h4, h5, h6, h7, h8, .inr ⟨rfl, rfl⟩⟩, keep _ h⟩
 case makeMap t r =>
  cases r with
  | some r => exact h.elim
  | none => exact ⟨_, .new _, ⟨rfl, rfl, rfl⟩, goes _ _ _ _ rfl h⟩
 case lookup t x i ok =>
  obtain ⟨ti, h1, h⟩ := Ad.1 h
  obtain ⟨kt, et, h2, h⟩ := Ft.1 h
  obtain ⟨te, h3, h⟩ := Ad.1 h
  obtain ⟨m, h4, h⟩ := Ac.1 h
  obtain ⟨kd, h5, ⟨h6, h7⟩, h⟩ := DN.1 h
  exact ⟨_, .keep, ⟨rfl, ti, kt, et, te, m, kd, h1, h2, h3, h4, h5, h6, h7, rfl⟩, keep _ h⟩
 case mapUpdate t x i v =>
  obtain ⟨ti, h1, h⟩ := Ad.1 h
  obtain ⟨kt, et, h2, h⟩ := Ft.1 h
  obtain ⟨id, h3, h⟩ := FD.1 h
  obtain ⟨o', h4, h⟩ := Ac.1 h
  obtain ⟨m, rfl, h⟩ := GX.1 h
  obtain ⟨kd, h5, h⟩ := DN.1 h
  obtain ⟨vd, h6, ⟨h7, h8⟩, h⟩ := DN.1 h
  refine ⟨.any, .set _, ⟨_, rfl, ?_⟩, goes _ _ _ _ rfl h⟩
  simp only [mW, Mn]
  exact ⟨ti, kt, et, id, m, kd, vd, h1, h2, h3, h4, h5, h6, h7, h8, trivial, rfl⟩
 case mapEntry t x i =>
  obtain ⟨ti, h1, h⟩ := Ad.1 h
  obtain ⟨kt, et, h2, h⟩ := Ft.1 h
  obtain ⟨te, h3, h⟩ := Ad.1 h
  obtain ⟨id, h4, h⟩ := FD.1 h
  obtain ⟨o', h5, h⟩ := Ac.1 h
  obtain ⟨m, rfl, h⟩ := GX.1 h
  obtain ⟨kd, h6, ⟨h7, h8⟩, h⟩ := DN.1 h
  refine ⟨_, .set _, ⟨_, rfl, ?_⟩, goes _ _ _ _ rfl h⟩
  simp only [mW, Mo]
  exact ⟨ti, kt, et, te, id, m, kd, h1, h2, h3, h4, h5, h6, h7, h8, rfl, rfl⟩
 case entryStore t x s v =>
  obtain ⟨id, h1, h⟩ := FD.1 h
  obtain ⟨o', h2, h⟩ := Ac.1 h
  obtain ⟨m, rfl, h⟩ := GX.1 h
  obtain ⟨kk, n, h3, h⟩ := CY.1 h
  obtain ⟨vd, h4, h0, h⟩ := DN.1 h
  obtain ⟨p, h5, h⟩ := Ac.1 h
  refine ⟨.any, .set _, ⟨_, rfl, ?_⟩, goes _ _ _ _ rfl h⟩
  simp only [mW, OR]
  exact ⟨id, m, kk, n, vd, p, h1, h2, h3, h0, h5, h4, trivial, rfl⟩
 case call c =>
  obtain ⟨callee, args, ats⟩ := c
  simp only at h
  split at h
  .rename_i x t e2 e3
   obtain ⟨ti, h1, h⟩ := Ad.1 h
   have ha : args = #[x] := by rw [<- Array.toList_inj, e2]
   have hb : ats = #[t] := by rw [<- Array.toList_inj, e3]
   try dsimp only at h
   unfold WQ at h
   split at h
   .rename_i g; exact nC _ (by simp only [nW]; exact ⟨x, t, ti, ha, hb, h1, by simp only [g]⟩) Iff.rfl h
   .rename_i g1 g2; exact nC _ (by simp only [nW]; exact ⟨x, t, ti, ha, hb, h1, by simp only [g1, g2, LR]; try (intros; trivial)⟩) Iff.rfl h
   .rename_i g1 g2; exact nC _ (by simp only [nW]; exact ⟨x, t, ti, ha, hb, h1, by simp only [g1, g2, LR]; try (intros; trivial)⟩) Iff.rfl h
   .rename_i g1 g2; exact nC _ (by simp only [nW]; exact ⟨x, t, ti, ha, hb, h1, by simp only [g1, g2, LR]; try (intros; trivial)⟩) Iff.rfl h
   .rename_i g1 g2; exact nC _ (by simp only [nW]; exact ⟨x, t, ti, ha, hb, h1, by simp only [g1, g2, LR]; try (intros; trivial)⟩) Iff.rfl h
   exact h.elim
  .exact h.elim
  .rename_i f
   obtain ⟨k, caps, g1, g2⟩ := Vh.1 h
   rcases g2 with ⟨ds, r, g3, g4, g5, g6⟩ | ⟨g0, ds, t, sz, elems, g3, g4, g5, g6⟩
   .exact ⟨_, .keep, .inl ⟨rfl, k, caps, ds, r, g1, g3, g4, g5, rfl⟩, keep _ g6⟩
   exact ⟨_, .new _, .inr ⟨g0, k, caps, ds, t, sz, elems, g1, g3, g4, g5, rfl, rfl⟩, goes _ _ _ _ rfl g6⟩
  rename_i hne
  unfold Qf at h
  simp only at h
  split at h
  .rename_i g; exact (g _ rfl).elim
  .rename_i s x t t' e2 e3 _ _
   obtain ⟨rfl, h⟩ := h
   obtain ⟨ti, h1, h⟩ := Ad.1 h
   obtain ⟨e, h2, h⟩ := Cd.1 h
   obtain ⟨te, h3, h4, h⟩ := Ad.1 h
   obtain ⟨new, h5, h6, h⟩ := Ac.1 h
   have ha : args = #[s, x] := by rw [<- Array.toList_inj, e2]
   have hb : ats = #[t', t'] := by rw [<- Array.toList_inj, e3]
   try dsimp only at h
   unfold Tv at h
   split at h
   .rename_i e9
    refine ⟨_, .set _, ⟨_, rfl, ?_⟩, goes _ _ _ _ rfl h.2⟩
    simp only [mW]
    exact ⟨trivial, s, x, t', ha, hb, ti, e, te, h1, h2, h3, h4, new, h5, h6, by simp only [e9]; exact ⟨h.1.1, h.1.2, trivial, trivial⟩⟩
   .rename_i id sz off len e9
    obtain ⟨hsz, h⟩ := h
    obtain ⟨o', g1, h⟩ := Ac.1 h
    obtain ⟨e', sz', elems, rfl, ⟨k1, k2, g2, g3, g4⟩, h9⟩ := GY.1 h
    subst k1; subst k2
    refine ⟨_, .set _, ⟨_, rfl, ?_⟩, goes _ _ _ _ rfl h9⟩
    simp only [mW]
    exact ⟨trivial, s, x, t', ha, hb, ti, e', te, h1, h2, h3, h4, new, h5, h6, by simp only [e9]; exact ⟨elems, hsz, g1, g2, g3, g4, trivial, rfl⟩⟩
   exact h.elim
  .rename_i x t e2 e3
   simp_all
  .obtain ⟨r, h1, h⟩ := Ac.1 h
   exact nC _ (by simp only [nW]; exact ⟨r, h1, rfl⟩) Iff.rfl h
  .obtain ⟨r, h1, h⟩ := Ac.1 h
   exact nC _ (by simp only [nW]; exact ⟨r, h1, rfl⟩) Iff.rfl h
  exact h.elim
 all_goals exact h.elim
def Ga (ops : List Oper) (order : List Nat) : List (Nat × IT) :=
 match order with
 | [] => []
 | i :: rest => match ops[i]? with
  | some o => (i, OW ops o) :: Ga ops rest
  | none => []
theorem I1 {ops : List Oper} {base : Nat} {K : BD St} : ∀ (order : List Nat) (st : St), (order.all fun i => decide (i < ops.length)) = true -> DU P A AE base ops.length K (Ga ops order) st ->
  HN P AE ops.toArray base (fun st' => K.f { st' with ctr := base + ops.length }) order st
 | [], st, _, h => h.h
 | i :: rest, st, hb, h => by
  simp only [List.all_cons, Bool.and_eq_true, decide_eq_true_eq] at hb
  obtain ⟨o, ho⟩ : ∃ o, ops[i]? = some o := ⟨_, List.getElem?_eq_getElem hb.1⟩
  have ih := I1 (ops := ops) (base := base) (K := K) rest
  have hp : Ga ops (i :: rest) = (i, OW ops o) :: Ga ops rest := by simp [Ga, ho]
  rw [hp] at h
  have ho' : ops.toArray[i]? = some o := by simpa using ho
  have step : JH P A AE (st.at (base + i)) o.dst o.op ⟨DU P A AE base ops.length K (Ga ops rest), ⟨⟩⟩ ->
    ∃ l e, CT P AE (st.at (base + i)) o.op l e /\ HN P AE ops.toArray base (fun st' => K.f { st' with ctr := base + ops.length }) rest (apS st (base + i) o l e) := fun h => by
   obtain ⟨l, e, h1, h2⟩ := ZL (fun s c hk => by
    have := Qi (P := P) (A := A) (AE := AE) base ops.length K (Ga ops rest) s c
    simp only at hk ⊢
    rw [<- this]; exact hk) h (o := o) rfl
   refine ⟨l, e, h1, ih _ hb.2 ?_⟩
   have e1 : apS (st.at (base + i)) (st.at (base + i)).ctr o l e = (apS st (base + i) o l e).at (base + i) := by
    unfold apS St.at St.put
    cases o.dst <;> rfl
   simp only at h2
   rw [e1, Qi] at h2
   exact h2
  simp only [HN, ho']
  simp only [OW] at h
  cases hg : o.guard with
  | none =>
   rw [hg] at h
   exact step h
  | some g =>
   obtain ⟨j, want⟩ := g
   rw [hg] at h
   simp only [DU, SR] at h
   unfold gM at h
   have sk : DU P A AE base ops.length K (Ga ops rest) (st.put o.dst .und) -> HN P AE ops.toArray base (fun st' => K.f { st' with ctr := base + ops.length }) rest (apS st (base + i) o .und .keep) := fun h => by
    have e1 : apS st (base + i) o .und .keep = st.put o.dst .und := rfl
    rw [e1]; exact ih _ hb.2 h
   simp only
   split at h
   .rename_i b e
    try simp only [e]
    exact ⟨fun hb => step (h.1 hb), fun hb => sk (h.2 hb)⟩
   .rename_i e
    try simp only [e]
    exact sk h
   exact h.elim
end
end Go.E
/- The equations by which a drawn region is reckoned. Written by a program (mkev.py). No condition. -/
namespace Go.E
open Go Go.RowKit
section
variable {P : Program}
theorem AA4 {h : Ag} {k : Nat} {args : List LV} {ds : List DV} {r : DV} {f : DV -> Prop} {hf : JE f} (hds : By h args = some ds) (hF : A5 P k ds (· = r))
  (hs : r.scalar = true \/ args.flatMap (D6 h) = []) (hK : f r) : YL P h k args ⟨f, hf⟩ := ⟨ds, r, hds, hF, hs, hK⟩
end
end Go.E
/- Functions that hand back a slice of their own: the caller may write into it. No condition. -/
namespace Go.E
open Go Go.RowKit
section
variable {P : Program} {A : BZ} {AE : BH}
theorem D5.own {h : Ag} {ctr k : Nat} {args : List LV} {ds : List DV} {e sz : Nat} {elems : List (List DV)} {K : LV -> Ag -> Nat -> Prop} (hds : By h args = some ds) (hf : GV P k ds e sz elems)
  (hl : args.flatMap (D6 h) = []) (hK : K (.lsl ctr sz 0 elems.length) ((ctr, .row e sz elems) :: h) (ctr + 1)) : D5 P A h ctr k args K := by
 refine ⟨hf.enters, fun μ w vs hh hsz hr => ?_⟩
 obtain ⟨g1, g2⟩ := FZ hh (l := args.flatMap (D6 h)) hds (fun id hid => hid)
 rw [hl] at g2
 have hO : ∀ b, Ar A μ h b -> b < w.heap.size := by
  rintro b (hb | ⟨id, x, lc, h1, h2, h3, rfl⟩)
  .exact Nat.lt_of_lt_of_le (A.hO b hb).1 hh.size
  exact (hh.base id x lc h1 h2 h3).1
 refine (hf.run (Ar A μ h) w vs hO (by omega) fun i v d hv hd => ?_).mono fun en w' ⟨v, he, hn, hb⟩ => ?_
 .have hi := (List.getElem?_eq_some_iff.1 hd).1
  have hx : args[i]? = some (args[i]'(by omega)) := List.getElem?_eq_getElem _
  exact g2 i v _ d hx hd (hr i v _ hv hx)
 have hno : μ ctr = none := hh.fresh ctr (Nat.le_refl _)
 obtain ⟨hlen, hn⟩ := hn
 have hkm : Bg (CK μ h) w w' := ⟨hb.size, fun b hb' _ => hb.block b hb'⟩
 have hsub : ∀ id x, AL id ((ctr, BM.row e sz elems) :: h) = some x -> (id = ctr /\ x = .row e sz elems) \/ AL id h = some x := by
  intro id x hx
  simp only [AL] at hx
  split at hx
  .cases hx; exact .inl ⟨‹_›, rfl⟩
  exact .inr hx
 have hold : ∀ id x lc, AL id ((ctr, BM.row e sz elems) :: h) = some x -> id ≠ ctr -> μ id = some lc -> lc.nil = false -> w'.heap[lc.b]? = w.heap[lc.b]? := by
  intro id x lc hx hne hm hnl
  rcases hsub id x hx with ⟨rfl, _⟩ | hx
  .exact absurd rfl hne
  exact hb.block _ (hh.base id x lc hx hm hnl).1
 have fin : ∀ (loc : Bs), (loc.nil = false -> loc.b < w'.heap.size /\ w.heap.size <= loc.b) ->
   (∀ O' : Nat -> Prop, (∀ b, O' b -> Ar A μ h b \/ (loc.nil = false /\ b = loc.b)) -> Db O' (Bd μ ctr loc) w' loc (.row e sz elems)) ->
   (∀ O', Aq O' (Bd μ ctr loc) w' v (.lsl ctr sz 0 elems.length)) ->
   ∃ u l h' c' μ', en = .returned u /\ K l h' c' /\ HRel A μ' h' (Fr c') w' /\ Aq (Ar A μ' h') μ' w' u l /\ ∀ v x, Aq (Ar A μ h) μ w v x -> Aq (Ar A μ' h') μ' w' v x := by
  intro loc hloc ho hu
  have hfr : PP μ h ((ctr, BM.row e sz elems) :: h) w loc := fun hn => .inl (hloc hn).2
  have hown := hh.sub_add loc (.row e sz elems) ((ctr, .row e sz elems) :: h) hfr hsub
  have hcov : ∀ b, Ar A (Bd μ ctr loc) ((ctr, .row e sz elems) :: h) b -> Ar A μ h b \/ (loc.nil = false /\ b = loc.b) := by
   rintro b (hb' | ⟨id, x, lc, h1, h2, h3, h4⟩)
   .exact .inl (.inl hb')
   by_cases e' : id = ctr
   .subst e'
    simp only [Bd, if_true, Option.some.injEq] at h2
    subst h2; exact .inr ⟨h3, h4.symm⟩
   rcases hsub id x h1 with ⟨e'', _⟩ | h1
   .exact absurd e'' e'
   simp only [Bd, e', if_false] at h2
   exact .inl (.inr ⟨id, x, lc, h1, h2, h3, h4⟩)
  have hadd := hh.add (w' := w') hno loc (.row e sz elems) ((ctr, .row e sz elems) :: h) (fun hn => (hloc hn).1) hfr hsub hkm hold hb.os hb.tape hb.output (ho _ hcov)
  exact ⟨v, _, _, _, _, he, hK, hadd.less (fun id hid => by simp only [Fr] at hid ⊢; omega), hu _, fun v x hv => hv.mono hkm.own hown (Kz hno loc)⟩
 rcases hn with ⟨rfl, rfl⟩ | ⟨a, b, o, cap, c, rfl, h1, h2, h3, h4, h5, h6, h7, h8, h9, h10⟩
 .exact fin ⟨true, 0, 0, sz, 0⟩ (fun hn => by cases hn) (fun O' _ => ⟨rfl, hlen, .inl ⟨rfl, rfl⟩⟩) (fun O' => .lsln ctr ⟨true, 0, 0, sz, 0⟩ (by simp [Bd]) rfl)
 refine fin ⟨false, b, o, sz, cap⟩ (fun _ => ⟨h2, h1⟩) (fun O' hO' => ⟨rfl, hlen, .inr ⟨rfl, c, h6, h7, h8, h9, fun i j x d u hx hd hu => ?_⟩⟩) (fun O' => ?_)
 .refine (h10 i j x d u hx hd hu).mono (Bg.refl _ _) fun q _ hq => ?_
  rcases hO' q hq with hq | ⟨_, hq⟩
  .exact .inl hq
  exact .inr hq
 exact .lsl ctr 0 elems.length cap a ⟨false, b, o, sz, cap⟩ (by simp [Bd]) rfl (by simp) h8 (fun hc => by rw [h3 hc]; simp) h4 h5
def WS (t e sz : Nat) (elems : List (List DV)) : Exit -> St -> Prop := NE fun st =>
 (∃ id, st.eval (.tmp t) = .lsl id sz 0 elems.length /\ AL id st.heap = some (.row e sz elems)) \/ (st.eval (.tmp t) = .p .nils /\ elems = [])
theorem ZM {k : Nat} {fn : Func} {c : Code} (hf : P.funcs[k]? = some fn) (hb : fn.body = some c) (hn : (fn.name == "runtime.NumGoroutine") = false) (nt : Nat) (hnt : fn.ntmps = nt) (t : Nat) (hrs : fn.results.toList = [.tmp t]) {ds : List DV} (hlen : ds.length <= nt)
  {e sz : Nat} {elems : List (List DV)} (hel : ∀ x ∈ elems, x.length = sz)
  (h : ∀ A : BZ, (∀ id, A.μ0 id = none) -> CJ P A c (WS t e sz elems) ⟨nt, DT 0 ds, [], 0⟩) : GV P k ds e sz elems := by
 subst hnt
 refine ⟨OK hf hb hn, fun O w vs hO hsz hrel => ?_⟩
 let A : BZ := ⟨w, O, fun _ => False, fun _ => none, fun b hb => ⟨hO b hb, id⟩⟩
 have hR : R A ⟨fn.ntmps, DT 0 ds, [], 0⟩ { tmps := vs ++ Array.replicate (fn.ntmps - vs.size) undef, defers := [] } w := by
  refine ⟨⟨fun _ => none, ⟨by simp [AL], by simp [AL], fun _ _ => rfl, by simp [AL], Nat.le_refl _, fun _ _ _ => rfl, rfl, rfl, rfl, by simp [A]⟩, fun t ht => ?_⟩, by simp; omega, rfl⟩
  have hown : ∀ b, Ar A (fun _ => none) [] b -> O b := by
   rintro b (hb | ⟨id, x, lc, h1, _⟩)
   .exact hb
   simp [AL] at h1
  simp only [Bo, OM, Nat.zero_le, if_true, Nat.sub_zero]
  by_cases hlt : t < ds.length
  .have hv : t < vs.size := by omega
   have e : ds[t]? = some ds[t] := by simp [hlt]
   rw [e]
   simp only [Option.map_some]
   have e2 : (vs ++ Array.replicate (fn.ntmps - vs.size) undef).getD t undef = vs[t] := by
    rw [Array.getD_eq_getD_getElem?, Array.getElem?_append_left hv]; simp [hv]
   rw [e2]
   exact .p _ _ ((hrel t _ _ (by simp [hv]) e).mono (Bg.refl _ _) (fun b _ hb => hown b hb))
  have e : ds[t]? = none := by simp; omega
  rw [e]; exact .any _
 refine calls_of_wp hf hb (wp_mono (h A (fun _ => rfl) _ _ hR) ?_)
 rintro en a' w' ⟨st', ⟨⟨μ, hh, hs⟩, hnt, hdef⟩, hq⟩
 have hres : (results fn a'.tmps).run P w' = .ok (a'.eval (.tmp t)) w' := by
  have : (fn.results.toList.mapM (MK P a'.tmps)).run P w' = .ok [a'.eval (.tmp t)] w' := by
   rw [hrs]; simp [List.mapM_cons, MK, Act.eval]
  exact MM this
 have hbel : Below w.heap.size w w' := ⟨hh.os, hh.tape, hh.output, hh.size, fun b hb => hh.block b hb id⟩
 have fin : ((∃ id, st'.eval (.tmp t) = .lsl id sz 0 elems.length /\ AL id st'.heap = some (.row e sz elems)) \/ (st'.eval (.tmp t) = .p .nils /\ elems = [])) ->
   a'.defers = [] /\ ∃ v, (results fn a'.tmps).run P w' = .ok v w' /\ ∃ u, Ending.returned v = .returned u /\ LJ w w' O u e sz elems /\ Below w.heap.size w w' := by
  intro hc
  refine ⟨hdef, _, hres, _, rfl, ?_, hbel⟩
  have hv := HY hs (.tmp t)
  rcases hc with ⟨id, h1, h2⟩ | ⟨h1, rfl⟩
  .rw [h1] at hv
   generalize a'.eval (.tmp t) = v at hv
   obtain ⟨loc, m1, ⟨_, m2, m3⟩⟩ := hh.obj id _ h2
   refine ⟨hel, ?_⟩
   generalize hq0 : (0 : Nat) = off at hv
   generalize hq1 : elems.length = n at hv
   cases hv with
   | lsln _ loc' k1 k2 => exact .inl ⟨rfl, by cases elems <;> simp_all⟩
   | lsl _ _ _ cap ad loc' k1 k2 k3 k4 k5 k6 k7 =>
    subst hq0; subst hq1
    rw [m1] at k1; cases k1
    rcases m3 with ⟨m4, _⟩ | ⟨m4, c, m5, m6, m7, m8, m9⟩
    .rw [k2] at m4; cases m4
    have hbase := hh.base id _ loc h2 m1 k2
    refine .inr ⟨ad, loc.b, loc.o, cap, c, rfl, ?_, hbase.1, fun hc => by simpa using k5 hc, k6, k7, m5, by rw [show cap = loc.cap by omega]; exact m6, k4, by omega, fun i j x d u hx hd hu => ?_⟩
    .rcases hbase.2.2 with hb | hb
     .exact hb
     exact hb.elim
    refine (m9 i j x d u hx hd hu).mono (Bg.refl _ _) fun q _ hq => ?_
    rcases hq with hq | rfl
    .exact .inl hq
    exact .inr ⟨id, _, loc, h2, m1, k2, rfl⟩
  rw [h1] at hv
  exact ⟨by simp, .inl ⟨hv.nils_inv, rfl⟩⟩
 cases en with
 | normal => exact fin hq
 | ret => exact fin hq
 | _ => exact hq.elim
theorem AAe {h : Ag} {c k : Nat} {args : List LV} {ds : List DV} {e sz : Nat} {elems : List (List DV)} {f : LV × Ag × Nat -> Prop} {hf : JE f} (hds : By h args = some ds) (hF : GV P k ds e sz elems)
  (hs : args.flatMap (D6 h) = []) (hK : f (.lsl c sz 0 elems.length, (c, .row e sz elems) :: h, c + 1)) : J8 P A h c k args ⟨f, hf⟩ :=
 D5.own hds hF hs hK
end
end Go.E
/- Operations reckoned by unfolding alone (Gb, Gc, Gd): a run of operations of which each gives its value at once. No condition. -/
namespace Go.E
open Go Go.RowKit
def Bt {α : Type} (t : Nat) : List (Nat × α) -> Option α
 | [] => none
 | p :: l => match Nat.beq t p.1 with
  | true => some p.2
  | false => Bt t l
theorem Bn {α : Type} {t : Nat} : ∀ {l : List (Nat × α)}, Bt t l = AL t l
 | [] => rfl
 | (k, v) :: l => by
  simp only [Bt, AL]
  by_cases h : t = k
  .subst h; simp
  rw [if_neg h]
  have : Nat.beq t k = false := by
   cases hb : Nat.beq t k with
   | false => rfl
   | true => exact absurd (Nat.eq_of_beq_eq_true hb) h
  rw [this]
  exact Bn
def BK (nt : Nat) (sl : List (Nat × LV)) (x : Operand) : LV :=
 match x with
 | .tmp t => match Nat.blt t nt with
  | true => match Bt t sl with
   | some v => v
   | none => .any
  | false => .any
 | .const v => PS v
 | .func f => .fn f []
 | .global _ => .any
theorem BO {nt : Nat} {sl : List (Nat × LV)} {h : Ag} {c : Nat} {x : Operand} : BK nt sl x = (⟨nt, sl, h, c⟩ : St).eval x := by
 cases x with
 | tmp t =>
  simp only [BK, St.eval, Bo, Bn]
  by_cases hb : t < nt
  .rw [if_pos hb]
   have : Nat.blt t nt = true := Nat.ble_eq_true_of_le hb
   rw [this]; rfl
  rw [if_neg hb]
  have : Nat.blt t nt = false := by
   cases hq : Nat.blt t nt with
   | false => rfl
   | true => exact absurd (Nat.le_of_ble_eq_true hq) hb
  rw [this]
 | const v => rfl
 | func f => rfl
 | global g => rfl
section
variable {α β γ : Type}
def Ex : List α -> Nat -> List α
 | l, 0 => l
 | [], _ + 1 => []
 | _ :: l, n + 1 => Ex l n
theorem Js : ∀ {l : List α} {n : Nat}, Ex l n = l.drop n
 | l, 0 => by simp [Ex]
 | [], _ + 1 => by simp [Ex]
 | _ :: l, n + 1 => by simp only [Ex, List.drop_succ_cons]; exact Js
def K2 : List α -> Nat -> (List α -> Option β) -> Option β
 | _, 0, k => k []
 | x :: l, n + 1, k => K2 l n (fun r => k (x :: r))
 | [], _ + 1, _ => none
theorem P9 : ∀ {l : List α} {n : Nat} {k : List α -> Option β}, K2 l n k = (Dp l n).bind k
 | _, 0, k => by simp [K2, Dp]
 | x :: l, n + 1, k => by
  simp only [K2, Dp]
  rw [P9]
  cases Dp l n <;> rfl
 | [], _ + 1, _ => by simp [K2, Dp]
def Rp : List LV -> (List DV -> Option β) -> Option β -> Option β
 | [], k, _ => k []
 | .p d :: l, k, e => Rp l (fun ds => k (d :: ds)) e
 | _ :: _, _, e => e
theorem Rq : ∀ {l : List LV} {k : List DV -> Option β} {e : Option β}, Rp l k e = match Hc l with | some ds => k ds | none => e
 | [], k, e => by simp [Rp, Hc]
 | x :: l, k, e => by
  cases x with
  | p d =>
   simp only [Rp, Hc]
   rw [Rq]
   cases Hc l <;> rfl
  | _ => rfl
def Rr (l : List LV) (k : LV -> Option β) : Option β := Rp l (fun ds => k (.p (.agg ds))) (k (.agg l))
theorem Rs {l : List LV} {k : LV -> Option β} : Rr l k = k (Fh l) := by
 unfold Rr Fh
 rw [Rq]
 cases Hc l <;> rfl
def TY (ti : TI) (off : Nat) (l : List LV) (k : LV -> Option β) : Option β :=
 match ti.sh with
 | .struct _ | .arr _ _ => K2 (Ex l off) ti.size (fun r => Rr r k)
 | _ => match Ex l off with
  | v :: _ => k v
  | [] => none
theorem T1 {ti : TI} {off : Nat} {l : List LV} {k : LV -> Option β} : TY ti off l k = (DI ti off l).bind k := by
 have hd : (match Ex l off with
  | v :: _ => k v
  | [] => none) = l[off]?.bind k := by
  rw [Js]
  cases hq : l.drop off with
  | nil => simp at hq; simp [List.getElem?_eq_none hq]
  | cons v r =>
   have : l[off]? = some v := by
    have := congrArg (·[0]?) hq
    simpa [List.getElem?_drop] using this
   simp [this]
 have ha : K2 (Ex l off) ti.size (fun r => Rr r k) = ((Dp (l.drop off) ti.size).map Fh).bind k := by
  rw [P9, Js]
  cases Dp (l.drop off) ti.size with
  | none => rfl
  | some r => simp [Rs]
 unfold TY DI
 cases hsh : ti.sh <;> simp only [Sh.isAgg] <;> first | exact ha | exact hd
def Qj (ti : TI) (off : Nat) (l : List DV) (k : LV -> Option β) : Option β :=
 match ti.sh with
 | .struct _ | .arr _ _ => K2 (Ex l off) ti.size (fun r => k (.p (.agg r)))
 | _ => match Ex l off with
  | v :: _ => k (.p v)
  | [] => none
theorem SS {f : α -> γ} : ∀ {l : List α} {n : Nat}, Dp (l.map f) n = (Dp l n).map (List.map f)
 | _, 0 => by simp [Dp]
 | x :: l, n + 1 => by
  simp only [List.map_cons, Dp]
  rw [SS]
  cases Dp l n <;> rfl
 | [], _ + 1 => by simp [Dp]
theorem XS {l : List DV} : Fh (l.map .p) = .p (.agg l) := by simp [Fh, Tx]
theorem QA {ti : TI} {off : Nat} {l : List DV} {k : LV -> Option β} : Qj ti off l k = (DI ti off (l.map .p)).bind k := by
 have hd : (match Ex l off with
  | v :: _ => k (.p v)
  | [] => none) = (l.map LV.p)[off]?.bind k := by
  rw [Js, List.getElem?_map]
  cases hq : l.drop off with
  | nil => simp at hq; simp [List.getElem?_eq_none hq]
  | cons v r =>
   have : l[off]? = some v := by
    have := congrArg (·[0]?) hq
    simpa [List.getElem?_drop] using this
   simp [this]
 have ha : K2 (Ex l off) ti.size (fun r => k (.p (.agg r))) = ((Dp ((l.map LV.p).drop off) ti.size).map Fh).bind k := by
  rw [P9, Js, <- List.map_drop, SS]
  cases Dp (l.drop off) ti.size with
  | none => rfl
  | some r => simp [XS]
 unfold Qj DI
 cases hsh : ti.sh <;> simp only [Sh.isAgg] <;> first | exact ha | exact hd
def NT : List DV -> (List LV -> Option β) -> Option β
 | [], k => k []
 | d :: l, k => NT l (fun r => k (.p d :: r))
theorem LU : ∀ {l : List DV} {k : List LV -> Option β}, NT l k = k (l.map .p)
 | [], k => rfl
 | d :: l, k => by simp only [NT, List.map_cons]; rw [LU]
def LW (v : LV) (k : List LV -> Option β) : Option β :=
 match v with
 | .p (.agg l) => NT l k
 | .agg l => k l
 | .p (.tup _) | .tup _ | .any | .und => none
 | v => k [v]
theorem KX {v : LV} {k : List LV -> Option β} : LW v k = v.cells.bind k := by
 cases v with
 | p d => cases d <;> first | rfl | (simp only [LW, LV.cells]; rw [LU]; rfl)
 | _ => rfl
def PU : List LV -> List LV -> (List LV -> Option β) -> Option β
 | l, [], k => k l
 | [], _ :: _, _ => none
 | _ :: l, v :: vs, k => PU l vs (fun r => k (v :: r))
def QB : List LV -> Nat -> List LV -> (List LV -> Option β) -> Option β
 | l, 0, vs, k => PU l vs k
 | [], _ + 1, _, _ => none
 | x :: l, n + 1, vs, k => QB l n vs (fun r => k (x :: r))
theorem T2 : ∀ {l vs : List LV} {k : List LV -> Option β} {y : β}, PU l vs k = some y -> vs.length <= l.length /\ k (Cv.over l vs) = some y
 | l, [], k, y, h => by simp only [PU] at h; exact ⟨by simp, by simpa [Cv.over] using h⟩
 | [], _ :: _, _, _, h => by simp [PU] at h
 | _ :: l, v :: vs, k, y, h => by
  simp only [PU] at h
  obtain ⟨h1, h2⟩ := T2 h
  exact ⟨by simpa using h1, h2⟩
theorem Rt : ∀ {l : List LV} {n : Nat} {vs : List LV} {k : List LV -> Option β} {y : β}, QB l n vs k = some y -> n + vs.length <= l.length /\ k (Cv l n vs) = some y
 | l, 0, vs, k, y, h => by
  obtain ⟨h1, h2⟩ := T2 (by simpa only [QB] using h)
  cases l <;> exact ⟨by simpa using h1, h2⟩
 | [], _ + 1, _, _, _, h => by simp [QB] at h
 | x :: l, n + 1, vs, k, y, h => by
  simp only [QB] at h
  obtain ⟨h1, h2⟩ := Rt h
  exact ⟨by simp only [List.length_cons]; omega, h2⟩
def MQ (t : Nat) (v : BM) : Ag -> (Ag -> Option β) -> Option β
 | [], k => k []
 | (q, u) :: l, k => match Nat.beq t q with
  | true => k ((q, v) :: l)
  | false => MQ t v l (fun r => k ((q, u) :: r))
theorem I2 {t : Nat} {v : BM} : ∀ {l : Ag} {k : Ag -> Option β}, MQ t v l k = k (B1 t v l)
 | [], k => rfl
 | (q, u) :: l, k => by
  simp only [MQ, B1]
  by_cases h : t = q
  .subst h; simp
  have : Nat.beq t q = false := by
   cases hb : Nat.beq t q with
   | false => rfl
   | true => exact absurd (Nat.eq_of_beq_eq_true hb) h
  rw [this, if_neg h]
  exact I2
def Oa : List LV -> Bool
 | [] => true
 | v :: l => match v.one with
  | true => Oa l
  | false => false
theorem Ob : ∀ {l : List LV}, Oa l = l.all LV.one
 | [] => rfl
 | v :: l => by
  simp only [Oa, List.all_cons]
  cases v.one with
  | true => rw [Ob]; rfl
  | false => rfl
def Qk (sz : Nat) : Nat -> List (Nat × LV) -> (List (List DV) -> Option β) -> Option β
 | _, [], k => k []
 | n, p :: rest, k => match Nat.beq p.1 n with
  | true => LW p.2 fun ls => Rp ls (fun ds => match Nat.beq ds.length sz with
   | true => Qk sz (n + 1) rest (fun r => k (ds :: r))
   | false => none) none
  | false => none
theorem SU {sz : Nat} : ∀ {ps : List (Nat × LV)} {n : Nat} {k : List (List DV) -> Option β} {y : β}, Qk sz n ps k = some y -> ∃ l, HW sz n ps = some l /\ k l = some y
 | [], n, k, y, h => ⟨[], by simp [HW], h⟩
 | (i, v) :: rest, n, k, y, h => by
  simp only [Qk] at h
  split at h
  .rename_i hb
   have hi : i = n := Nat.eq_of_beq_eq_true hb
   subst hi
   rw [KX] at h
   cases hc : v.cells with
   | none => rw [hc] at h; simp at h
   | some ls =>
    rw [hc] at h
    simp only [Option.bind_some] at h
    rw [Rq] at h
    cases ha : Hc ls with
    | none => rw [ha] at h; simp at h
    | some ds =>
     rw [ha] at h
     simp only at h
     split at h
     .rename_i hl
      obtain ⟨r, h1, h2⟩ := SU h
      refine ⟨ds :: r, ?_, h2⟩
      simp only [HW, if_true, hc, ha, h1]
      rw [if_pos (Nat.eq_of_beq_eq_true hl)]
     cases h
  cases h
def Ru (v : LV) (k : LV -> Option β) : Option β :=
 match v with
 | .p d => k (.p d)
 | .lsl a b c d => k (.lsl a b c d)
 | .lpb a b => k (.lpb a b)
 | .lpe a b c => k (.lpe a b c)
 | .lmap a => k (.lmap a)
 | .agg l => k (.agg l)
 | .tup l => k (.tup l)
 | .fn g l => k (.fn g l)
 | .und => k .und
 | .any => k .any
theorem Mr {v : LV} {k : LV -> Option β} : Ru v k = k v := by cases v <;> rfl
def PV (nt : Nat) (sl : List (Nat × LV)) : List (Nat × Operand) -> (List (Nat × LV) -> Option β) -> Option β
 | [], k => k []
 | (i, x) :: l, k => Ru (BK nt sl x) fun v => PV nt sl l (fun r => k ((i, v) :: r))
theorem NU {nt : Nat} {sl : List (Nat × LV)} : ∀ {l : List (Nat × Operand)} {k : List (Nat × LV) -> Option β}, PV nt sl l k = k (l.map fun p => (p.1, BK nt sl p.2))
 | [], k => rfl
 | (i, x) :: l, k => by simp only [PV, List.map_cons]; rw [Mr, NU]
def Eh (nt : Nat) (sl : List (Nat × LV)) : List Operand -> (List LV -> Option β) -> Option β
 | [], k => k []
 | p :: l, k => Ru (BK nt sl p) fun v => Eh nt sl l (fun r => k (v :: r))
theorem KY {nt : Nat} {sl : List (Nat × LV)} : ∀ {l : List Operand} {k : List LV -> Option β}, Eh nt sl l k = k (l.map fun p => BK nt sl p)
 | [], k => rfl
 | p :: l, k => by simp only [Eh, List.map_cons]; rw [Mr, KY]
def Oc (AE : BH) (pl : Nat -> Option (Nat × Nat)) : List LV -> List (Nat × LV) -> (List LV -> Option β) -> Option β
 | cells, [], k => k cells
 | cells, (i, v) :: rest, k => match pl i with
  | some (o, ft) => match AE.tt ft with
   | some ti => LW v fun ls => match Nat.beq ls.length ti.size with
    | true => QB cells o ls fun cells' => Oc AE pl cells' rest k
    | false => none
   | none => none
  | none => none
theorem Od {AE : BH} {pl : Nat -> Option (Nat × Nat)} : ∀ {ps : List (Nat × LV)} {cells : List LV} {k : List LV -> Option β} {y : β}, Oc AE pl cells ps k = some y ->
  ∃ l, k l = some y /\ ∀ K : BD (List LV), K.f l -> LM AE pl cells ps K
 | [], cells, k, y, h => ⟨cells, h, fun _ => id⟩
 | (i, v) :: rest, cells, k, y, h => by
  simp only [Oc] at h
  split at h
  .rename_i o ft hq
   split at h
   .rename_i ti hti
    rw [KX] at h
    cases hc : v.cells with
    | none => rw [hc] at h; simp at h
    | some ls =>
     rw [hc] at h
     simp only [Option.bind_some] at h
     split at h
     .rename_i hl
      obtain ⟨h1, h2⟩ := Rt h
      obtain ⟨l, h3, h4⟩ := Od h2
      refine ⟨l, h3, fun K hk => ?_⟩
      simp only [LM]
      exact Ac.2 ⟨(o, ft), hq, Ad.2 ⟨ti, hti, Ac.2 ⟨ls, hc, ⟨Nat.eq_of_beq_eq_true hl, h1⟩, h4 K hk⟩⟩⟩
     cases h
   cases h
  cases h
def TZ (AE : BH) : List (Nat × Nat) -> Bool
 | [] => true
 | p :: l => match AE.tt p.2 with
  | some _ => TZ AE l
  | none => false
theorem T3 {AE : BH} : ∀ {l : List (Nat × Nat)}, TZ AE l = l.all fun p => (AE.tt p.2).isSome
 | [] => rfl
 | p :: l => by
  simp only [TZ, List.all_cons]
  cases AE.tt p.2 with
  | some _ => simp [T3]
  | none => simp
def YN (op : BinOp) (kk : IntKind) (a b : Int) (k : LV -> Option β) : Option β :=
 match op with
 | .add => k (.p (.int kk (kk.wrap (a + b))))
 | .sub => k (.p (.int kk (kk.wrap (a - b))))
 | .mul => k (.p (.int kk (kk.wrap (a * b))))
 | .eql => k (.p (.bool (a == b)))
 | .neq => k (.p (.bool (a != b)))
 | .lss => k (.p (.bool (decide (a < b))))
 | .leq => k (.p (.bool (decide (a <= b))))
 | .gtr => k (.p (.bool (decide (b < a))))
 | .geq => k (.p (.bool (decide (b <= a))))
 | .xor => k (.p (.int kk (kk.wrap (BitVec.ofInt kk.bits a ^^^ BitVec.ofInt kk.bits b).toNat)))
 | .or => k (.p (.int kk (kk.wrap (BitVec.ofInt kk.bits a ||| BitVec.ofInt kk.bits b).toNat)))
 | _ => none
def Rv (AE : BH) (t : Nat) : Bool :=
 match AE.tt t with
 | some ti => match ti.sh with
  | .bool => true
  | _ => false
 | none => false
def Oe : IntKind -> IntKind -> Bool
 | .i8, .i8 | .i16, .i16 | .i32, .i32 | .i64, .i64 | .u8, .u8 | .u16, .u16 | .u32, .u32 | .u64, .u64 => true
 | _, _ => false
theorem Of {a b : IntKind} (h : Oe a b = true) : a = b := by cases a <;> cases b <;> first | rfl | simp [Oe] at h
def YO (AE : BH) (op : BinOp) (t : Nat) (x y : LV) (k : LV -> Option β) : Option β :=
 match x, y with
 | .p (.int k1 a), .p (.int k2 b) => match Oe k1 k2 with
  | true => YN op k1 a b k
  | false => none
 | .p (.str a), .p (.str b) => match op with
  | .eql => k (.p (.bool (a.toList == b.toList)))
  | .neq => k (.p (.bool (!(a.toList == b.toList))))
  | _ => none
 | .p (.bool a), .p (.bool b) => match Rv AE t with
  | true => match op with
   | .eql => k (.p (.bool (a == b)))
   | .neq => k (.p (.bool (!(a == b))))
   | _ => none
  | false => none
 | .p (.place _ _), .p .nilp => match AE.ptr t with
  | true => match op with
   | .eql => k (.p (.bool false))
   | .neq => k (.p (.bool true))
   | _ => none
  | false => none
 | .lpb _ _, .p .nilp => match AE.ptr t with
  | true => match op with
   | .eql => k (.p (.bool false))
   | .neq => k (.p (.bool true))
   | _ => none
  | false => none
 | .p .nilp, .p .nilp => match AE.ptr t with
  | true => match op with
   | .eql => k (.p (.bool true))
   | .neq => k (.p (.bool false))
   | _ => none
  | false => none
 | _, _ => none
def YP (off : Nat) (x : LV) (k : LV -> Option β) : Option β :=
 match x with
 | .lpb id o => k (.lpb id (o + off))
 | .lpe id j o => k (.lpe id j (o + off))
 | .p (.place l o) => k (.p (.place l (o + off)))
 | _ => none
def T4 : IntKind -> Int -> List LV -> (Int -> Option β) -> Option β
 | _, n, [], k => k n
 | kk, n, .p (.int j m) :: rest, k => match Oe j kk with
  | true => T4 kk (if m > n then m else n) rest k
  | false => none
 | _, _, _ :: _, _ => none
def T5 : IntKind -> Int -> List LV -> (Int -> Option β) -> Option β
 | _, n, [], k => k n
 | kk, n, .p (.int j m) :: rest, k => match Oe j kk with
  | true => T5 kk (if m < n then m else n) rest k
  | false => none
 | _, _, _ :: _, _ => none
def Gb (AE : BH) (nt : Nat) (sl : List (Nat × LV)) (h : Ag) (c : Nat) (op : Op) (k : LV -> Ag -> Nat -> Option β) : Option β :=
  match op with
  | .move x | .assign x => Ru (BK nt sl x) fun v => k v h c
  | .pick b x y => match BK nt sl b with
    | .p (.bool b) => match b with
      | true => Ru (BK nt sl x) fun v => k v h c
      | false => Ru (BK nt sl y) fun v => k v h c
    | _ => none
  | .nilCheck x => match BK nt sl x with
    | .lpb i o => k (.lpb i o) h c
    | .lpe i j o => k (.lpe i j o) h c
    | .p (.place l o) => k (.p (.place l o)) h c
    | _ => none
  | .binOp op t x y _ => YO AE op t (BK nt sl x) (BK nt sl y) fun l => k l h c
  | .unOp op _ x => match op with
    | .not => match BK nt sl x with
      | .p (.bool b) => k (.p (.bool !b)) h c
      | _ => none
    | .neg => match BK nt sl x with
      | .p (.int kk n) => k (.p (.int kk (kk.wrap (0 - n)))) h c
      | _ => none
    | _ => none
  | .convert s d x => match BK nt sl x with
    | .p (.int _ n) => match AE.tt s with
      | some _ => match AE.tt d with
        | some ti => match ti.sh with
          | .int kd => k (.p (.int kd (kd.wrap n))) h c
          | _ => none
        | none => none
      | none => none
    | _ => none
  | .extract t i => match BK nt sl t with
    | .tup l => match Ex l i with
      | v :: _ => k v h c
      | [] => none
    | .p (.tup l) => match Ex l i with
      | v :: _ => k (.p v) h c
      | [] => none
    | _ => none
  | .field t x i => match AE.tt t with
    | some ti => match ti.sh with
      | .struct fs => match Ex fs i with
        | (o, ft) :: _ => match AE.tt ft with
          | some tf => match BK nt sl x with
            | .agg ls => TY tf o ls fun l => k l h c
            | .p (.agg ds) => Qj tf o ds fun l => k l h c
            | _ => none
          | none => none
        | [] => none
      | _ => none
    | none => none
  | .build t ps => match AE.tt t with
    | some ti => match ti.sh with
      | .struct fs => match TZ AE fs with
        | true => NT ti.zero fun z => PV nt sl ps.toList fun ps' => Oc AE (fun i => fs[i]?) z ps' fun cells => Rr cells fun l => k l h c
        | false => none
      | .arr _ e => match AE.tt e with
        | some te => NT ti.zero fun z => PV nt sl ps.toList fun ps' => Oc AE (fun i => some (i * te.size, e)) z ps' fun cells => Rr cells fun l => k l h c
        | none => none
      | _ => none
    | none => none
  | .fieldAddr t x i => match AE.tt t with
    | some ti => match ti.sh with
      | .struct fs => match Ex fs i with
        | (o, ft) :: _ => match AE.tt ft with
          | some tf => match Nat.blt 0 tf.size with
            | true => YP o (BK nt sl x) fun l => k l h c
            | false => none
          | none => none
        | [] => none
      | _ => none
    | none => none
  | .makeFunc (.func f) first caps => match first.toList with
    | [] => Eh nt sl caps.toList fun l => k (.fn f l) h c
    | _ => none
  | .load t x => match Ml AE.calm (BK nt sl x) with
   | false => none
   | true => match AE.tt t with
    | some ti => match BK nt sl x with
      | .p (.place l off) => Qj ti off l fun v => k v h c
      | .lpb id off => match Bt id h with
        | some (.box cells) => TY ti off cells fun v => k v h c
        | _ => none
      | _ => none
    | none => none
  | .store t x v => match LK AE.calm (BK nt sl x) with
   | false => none
   | true => match AE.tt t with
    | some ti => match BK nt sl x with
      | .lpb id off => LW (BK nt sl v) fun ls => match Nat.beq ls.length ti.size with
        | true => match Oa ls with
          | true => match Bt id h with
            | some (.box cells) => QB cells off ls fun cells' => MQ id (.box cells') h fun h' => k .any h' c
            | _ => none
          | false => none
        | false => none
      | _ => none
    | none => none
  | .alloc t => match AE.tt t with
    | some ti => NT ti.zero fun z => k (.lpb c 0) ((c, .box z) :: h) (c + 1)
    | none => none
  | .box _ x => LW (BK nt sl x) fun ls => k (.lpb c 0) ((c, .box ls) :: h) (c + 1)
  | .buildSlice t n ps => match AE.tt t with
    | some ti => match ti.sh with
      | .slc e => match AE.tt e with
        | some te => match Nat.blt 0 te.size && Nat.ble (n * te.size) 16777216 with
          | true => PV nt sl ps.toList fun ps' => Qk te.size 0 ps' fun l => match Nat.beq l.length n with
            | true => k (.lsl c te.size 0 n) ((c, .row e te.size l) :: h) (c + 1)
            | false => none
          | false => none
        | none => none
      | _ => none
    | none => none
  | .makeMap _ none => k (.lmap c) ((c, .map []) :: h) (c + 1)
  | .call ⟨.builtin .len, args, ts⟩ => match args.toList, ts.toList with
    | [x], [t] => match AE.tt t with
      | some ti => match ti.sh, BK nt sl x with
        | .arr n _, _ => k (.p (.int .i64 n)) h c
        | .slc _, .p .nils => k (.p (.int .i64 0)) h c
        | .slc _, .lsl _ _ _ len => k (.p (.int .i64 len)) h c
        | .str, .p (.str s) => k (.p (.int .i64 s.size)) h c
        | _, _ => none
      | none => none
    | _, _ => none
  | .call ⟨.builtin .max, args, _⟩ => Eh nt sl args.toList fun l => match l with
    | .p (.int kk n) :: rest => T4 kk n rest fun m => k (.p (.int kk m)) h c
    | _ => none
  | .call ⟨.builtin .min, args, _⟩ => Eh nt sl args.toList fun l => match l with
    | .p (.int kk n) :: rest => T5 kk n rest fun m => k (.p (.int kk m)) h c
    | _ => none
  | _ => none
end
end Go.E
/- Operations reckoned by unfolding alone: they are sound (IV); runs of operations (Gc, Gd). No condition. -/
namespace Go.E
open Go Go.RowKit
section
variable {β : Type} {AE : BH} {nt : Nat} {sl : List (Nat × LV)} {hp : Ag} {c : Nat}
theorem ZO {op : BinOp} {kk : IntKind} {a b : Int} {k : LV -> Option β} {y : β} (h : YN op kk a b k = some y) : ∃ l, k l = some y /\ ∀ K : BD LV, K.f l -> Mq op kk a b K := by
 cases op <;> simp only [YN] at h <;> first | cases h | exact ⟨_, h, fun K hk => hk⟩
theorem WU {t : Nat} (h : Rv AE t = true) : ∃ ti, AE.tt t = some ti /\ ti.sh = .bool := by
 unfold Rv at h
 split at h
 .rename_i ti hti
  split at h
  .exact ⟨ti, hti, ‹_›⟩
  cases h
 cases h
theorem ZP {op : BinOp} {t : Nat} {x y : LV} {k : LV -> Option β} {z : β} (h : YO AE op t x y k = some z) : ∃ l, k l = some z /\ ∀ K : BD LV, K.f l -> OX AE op t x y K /\ P8 AE op t x y K := by
 unfold YO at h
 split at h
 .rename_i k1 a k2 b
  split at h
  .rename_i hk
   have := Of hk
   subst this
   obtain ⟨l, h1, h2⟩ := ZO h
   exact ⟨l, h1, fun K hk => ⟨⟨rfl, h2 K hk⟩, ⟨rfl, h2 K hk⟩⟩⟩
  cases h
 .rename_i a b
  split at h
  .exact ⟨_, h, fun K hk => ⟨hk, hk⟩⟩
  .exact ⟨_, h, fun K hk => ⟨hk, hk⟩⟩
  cases h
 .rename_i a b
  split at h
  .rename_i hb
   obtain ⟨ti, hti, hsh⟩ := WU hb
   split at h
   .exact ⟨_, h, fun K hk => ⟨Ad.2 ⟨ti, hti, hsh, hk⟩, Ad.2 ⟨ti, hti, hsh, hk⟩⟩⟩
   .exact ⟨_, h, fun K hk => ⟨Ad.2 ⟨ti, hti, hsh, hk⟩, Ad.2 ⟨ti, hti, hsh, hk⟩⟩⟩
   cases h
  cases h
 .split at h
  .rename_i hb
   split at h
   .exact ⟨_, h, fun K hk => ⟨⟨hb, hk⟩, ⟨hb, hk⟩⟩⟩
   .exact ⟨_, h, fun K hk => ⟨⟨hb, hk⟩, ⟨hb, hk⟩⟩⟩
   cases h
  cases h
 .split at h
  .rename_i hb
   split at h
   .exact ⟨_, h, fun K hk => ⟨⟨hb, hk⟩, ⟨hb, hk⟩⟩⟩
   .exact ⟨_, h, fun K hk => ⟨⟨hb, hk⟩, ⟨hb, hk⟩⟩⟩
   cases h
  cases h
 .split at h
  .rename_i hb
   split at h
   .exact ⟨_, h, fun K hk => ⟨⟨hb, hk⟩, ⟨hb, hk⟩⟩⟩
   .exact ⟨_, h, fun K hk => ⟨⟨hb, hk⟩, ⟨hb, hk⟩⟩⟩
   cases h
  cases h
 cases h
theorem ZQ {off : Nat} {x : LV} {k : LV -> Option β} {y : β} (h : YP off x k = some y) : ∃ l, k l = some y /\ ∀ K : BD LV, K.f l -> WL off x K := by
 unfold YP at h
 split at h
 .exact ⟨_, h, fun K hk => hk⟩
 .exact ⟨_, h, fun K hk => hk⟩
 .exact ⟨_, h, fun K hk => hk⟩
 cases h
theorem JI {α : Type} {l r : List α} {n : Nat} {x : α} (h : Ex l n = x :: r) : l[n]? = some x := by
 rw [Js] at h
 have := congrArg (·[0]?) h
 simpa [List.getElem?_drop] using this
theorem Vl {kk : IntKind} : ∀ {l : List LV} {n : Int} {k : Int -> Option β} {y : β}, T4 kk n l k = some y -> ∃ m, k m = some y /\ B7.go (fun x y => if y > x then y else x) kk n l = some m
 | [], n, k, y, h => ⟨n, h, rfl⟩
 | .p (.int j m) :: rest, n, k, y, h => by
  simp only [T4] at h
  split at h
  .rename_i hj
   have := Of hj
   subst this
   obtain ⟨r, h1, h2⟩ := Vl h
   exact ⟨r, h1, by simp only [B7.go, if_true]; exact h2⟩
  cases h
 | .p .nils :: _, _, _, _, h | .p .nilp :: _, _, _, _, h | .p .nilm :: _, _, _, _, h | .p (.bool _) :: _, _, _, _, h | .p (.str _) :: _, _, _, _, h | .p (.agg _) :: _, _, _, _, h | .p (.tup _) :: _, _, _, _, h
 | .p (.slice _ _) :: _, _, _, _, h | .p (.place _ _) :: _, _, _, _, h | .p (.map _) :: _, _, _, _, h | .lsl .. :: _, _, _, _, h | .lpb .. :: _, _, _, _, h | .lpe .. :: _, _, _, _, h | .lmap _ :: _, _, _, _, h | .p (.fn _ _) :: _, _, _, _, h
 | .agg _ :: _, _, _, _, h | .tup _ :: _, _, _, _, h | .fn .. :: _, _, _, _, h | .und :: _, _, _, _, h | .any :: _, _, _, _, h => by simp [T4] at h
theorem Vm {kk : IntKind} : ∀ {l : List LV} {n : Int} {k : Int -> Option β} {y : β}, T5 kk n l k = some y -> ∃ m, k m = some y /\ B7.go (fun x y => if y < x then y else x) kk n l = some m
 | [], n, k, y, h => ⟨n, h, rfl⟩
 | .p (.int j m) :: rest, n, k, y, h => by
  simp only [T5] at h
  split at h
  .rename_i hj
   have := Of hj
   subst this
   obtain ⟨r, h1, h2⟩ := Vm h
   exact ⟨r, h1, by simp only [B7.go, if_true]; exact h2⟩
  cases h
 | .p .nils :: _, _, _, _, h | .p .nilp :: _, _, _, _, h | .p .nilm :: _, _, _, _, h | .p (.bool _) :: _, _, _, _, h | .p (.str _) :: _, _, _, _, h | .p (.agg _) :: _, _, _, _, h | .p (.tup _) :: _, _, _, _, h
 | .p (.slice _ _) :: _, _, _, _, h | .p (.place _ _) :: _, _, _, _, h | .p (.map _) :: _, _, _, _, h | .lsl .. :: _, _, _, _, h | .lpb .. :: _, _, _, _, h | .lpe .. :: _, _, _, _, h | .lmap _ :: _, _, _, _, h | .p (.fn _ _) :: _, _, _, _, h
 | .agg _ :: _, _, _, _, h | .tup _ :: _, _, _, _, h | .fn .. :: _, _, _, _, h | .und :: _, _, _, _, h | .any :: _, _, _, _, h => by simp [T5] at h
def XT (AE : BH) (st : St) (op : Op) (l : LV) (h' : Ag) (c' : Nat) : Prop :=
 ∀ (P : Program) (A : BZ) (dst : Option Tmp) (K : BD St), K.f (st.go dst l h' c') -> BR P A AE st dst op K /\ JH P A AE st dst op K
theorem IV {op : Op} {k : LV -> Ag -> Nat -> Option β} {y : β} (h : Gb AE nt sl hp c op k = some y) : ∃ l h' c', k l h' c' = some y /\ XT AE ⟨nt, sl, hp, c⟩ op l h' c' := by
 have hev : ∀ x, BK nt sl x = (⟨nt, sl, hp, c⟩ : St).eval x := fun x => BO
 cases op <;> simp only [Gb] at h <;> try (cases h; done)
 case move x => rw [Mr] at h; exact ⟨_, _, _, h, fun P A dst K hk => by rw [hev] at hk; exact ⟨hk, hk⟩⟩
 case assign x => rw [Mr] at h; exact ⟨_, _, _, h, fun P A dst K hk => by rw [hev] at hk; exact ⟨hk, hk⟩⟩
 case pick b x z =>
  split at h
  .rename_i b' hb
   rw [hev] at hb
   simp only [Mr] at h
   split at h
   .exact ⟨_, _, _, h, fun P A dst K hk => by
     rw [hev] at hk
     have : BR P A AE ⟨nt, sl, hp, c⟩ dst (.pick b x z) K := by simp only [BR]; rw [hb]; exact hk
     exact ⟨this, this⟩⟩
   exact ⟨_, _, _, h, fun P A dst K hk => by
    rw [hev] at hk
    have : BR P A AE ⟨nt, sl, hp, c⟩ dst (.pick b x z) K := by simp only [BR]; rw [hb]; exact hk
    exact ⟨this, this⟩⟩
  cases h
 case nilCheck x =>
  split at h
  .rename_i hx; rw [hev] at hx
   exact ⟨_, _, _, h, fun P A dst K hk => by
    have : BR P A AE ⟨nt, sl, hp, c⟩ dst (.nilCheck x) K := by simp only [BR]; rw [hx]; exact hk
    exact ⟨this, this⟩⟩
  .rename_i hx; rw [hev] at hx
   exact ⟨_, _, _, h, fun P A dst K hk => by
    have : BR P A AE ⟨nt, sl, hp, c⟩ dst (.nilCheck x) K := by simp only [BR]; rw [hx]; exact hk
    exact ⟨this, this⟩⟩
  .rename_i hx; rw [hev] at hx
   exact ⟨_, _, _, h, fun P A dst K hk => by
    have : BR P A AE ⟨nt, sl, hp, c⟩ dst (.nilCheck x) K := by simp only [BR]; rw [hx]; exact hk
    exact ⟨this, this⟩⟩
  cases h
 case binOp op t x z w =>
  obtain ⟨l, h1, h2⟩ := ZP h
  refine ⟨l, _, _, h1, fun P A dst K hk => ?_⟩
  rw [hev, hev] at h2
  exact ⟨(h2 ⟨fun l => K.f (St.put ⟨nt, sl, hp, c⟩ dst l), ⟨⟩⟩ hk).1, (h2 ⟨fun l => K.f (St.put ⟨nt, sl, hp, c⟩ dst l), ⟨⟩⟩ hk).2⟩
 case unOp op t x =>
  split at h
  .split at h
   .rename_i hx; rw [hev] at hx
    exact ⟨_, _, _, h, fun P A dst K hk => by
     have : BR P A AE ⟨nt, sl, hp, c⟩ dst (.unOp .not t x) K := by simp only [BR]; rw [hx]; exact hk
     exact ⟨this, this⟩⟩
   cases h
  .split at h
   .rename_i hx; rw [hev] at hx
    exact ⟨_, _, _, h, fun P A dst K hk => by
     have : BR P A AE ⟨nt, sl, hp, c⟩ dst (.unOp .neg t x) K := by simp only [BR]; rw [hx]; exact hk
     exact ⟨this, this⟩⟩
   cases h
  cases h
 case convert s d x =>
  split at h
  .rename_i kk n hx; rw [hev] at hx
   split at h
   .rename_i ts hs
    split at h
    .rename_i ti ht
     split at h
     .rename_i kd hsh
      exact ⟨_, _, _, h, fun P A dst K hk => by
       have : BR P A AE ⟨nt, sl, hp, c⟩ dst (.convert s d x) K := by
        simp only [BR]; rw [hx]
        exact Ad.2 ⟨ts, hs, Ad.2 ⟨ti, ht, Ac.2 ⟨kd, by rw [hsh]; rfl, hk⟩⟩⟩
       exact ⟨this, this⟩⟩
     cases h
    cases h
   cases h
  cases h
 case extract t i =>
  split at h
  .rename_i l hx; rw [hev] at hx
   split at h
   .rename_i v r hd
    exact ⟨_, _, _, h, fun P A dst K hk => by
     have : BR P A AE ⟨nt, sl, hp, c⟩ dst (.extract t i) K := by
      simp only [BR]; rw [hx]
      exact Ac.2 ⟨v, JI hd, hk⟩
     exact ⟨this, this⟩⟩
   cases h
  .rename_i l hx; rw [hev] at hx
   split at h
   .rename_i v r hd
    exact ⟨_, _, _, h, fun P A dst K hk => by
     have : BR P A AE ⟨nt, sl, hp, c⟩ dst (.extract t i) K := by
      simp only [BR]; rw [hx]
      exact Ac.2 ⟨v, JI hd, hk⟩
     exact ⟨this, this⟩⟩
   cases h
  cases h
 case field t x i =>
  split at h
  .rename_i ti ht
   split at h
   .rename_i fs hsh
    split at h
    .rename_i o ft r hd
     split at h
     .rename_i tf htf
      split at h
      .rename_i ls hx; rw [hev] at hx
       rw [T1, Option.bind_eq_some_iff] at h
       obtain ⟨v, hv, h⟩ := h
       exact ⟨_, _, _, h, fun P A dst K hk => by
        have : BR P A AE ⟨nt, sl, hp, c⟩ dst (.field t x i) K := by
         simp only [BR]; rw [hx]
         exact Ad.2 ⟨ti, ht, Fa.2 ⟨fs, hsh, Ac.2 ⟨(o, ft), JI hd, Ad.2 ⟨tf, htf, Ac.2 ⟨v, hv, hk⟩⟩⟩⟩⟩
        exact ⟨this, this⟩⟩
      .rename_i ds hx; rw [hev] at hx
       rw [QA, Option.bind_eq_some_iff] at h
       obtain ⟨v, hv, h⟩ := h
       exact ⟨_, _, _, h, fun P A dst K hk => by
        have : BR P A AE ⟨nt, sl, hp, c⟩ dst (.field t x i) K := by
         simp only [BR]; rw [hx]
         exact Ad.2 ⟨ti, ht, Fa.2 ⟨fs, hsh, Ac.2 ⟨(o, ft), JI hd, Ad.2 ⟨tf, htf, Ac.2 ⟨v, hv, hk⟩⟩⟩⟩⟩
        exact ⟨this, this⟩⟩
      cases h
     cases h
    cases h
   cases h
  cases h
 case build t ps =>
  split at h
  .rename_i ti ht
   split at h
   .rename_i fs hsh
    split at h
    .rename_i hall
     rw [LU, NU] at h
     obtain ⟨l, h1, h2⟩ := Od h
     rw [Rs] at h1
     exact ⟨_, _, _, h1, fun P A dst K hk => by
      have : BR P A AE ⟨nt, sl, hp, c⟩ dst (.build t ps) K := by
       simp only [BR]
       refine Ad.2 ⟨ti, ht, ?_⟩
       simp only [OY, hsh]
       rw [T3] at hall
       refine ⟨hall, ?_⟩
       have := h2 ⟨fun cells => K.f (St.put ⟨nt, sl, hp, c⟩ dst (Fh cells)), ⟨⟩⟩ hk
       simpa only [hev] using this
      exact ⟨this, this⟩⟩
    cases h
   .rename_i n e hsh
    split at h
    .rename_i te hte
     rw [LU, NU] at h
     obtain ⟨l, h1, h2⟩ := Od h
     rw [Rs] at h1
     exact ⟨_, _, _, h1, fun P A dst K hk => by
      have : BR P A AE ⟨nt, sl, hp, c⟩ dst (.build t ps) K := by
       simp only [BR]
       refine Ad.2 ⟨ti, ht, ?_⟩
       simp only [OY, hsh]
       refine Ad.2 ⟨te, hte, ?_⟩
       have := h2 ⟨fun cells => K.f (St.put ⟨nt, sl, hp, c⟩ dst (Fh cells)), ⟨⟩⟩ hk
       simpa only [hev] using this
      exact ⟨this, this⟩⟩
    cases h
   cases h
  cases h
 case fieldAddr t x i =>
  split at h
  .rename_i ti ht
   split at h
   .rename_i fs hsh
    split at h
    .rename_i o ft r hd
     split at h
     .rename_i tf htf
      split at h
      .rename_i hsz
       obtain ⟨l, h1, h2⟩ := ZQ h
       rw [hev] at h2
       exact ⟨_, _, _, h1, fun P A dst K hk => by
        have : BR P A AE ⟨nt, sl, hp, c⟩ dst (.fieldAddr t x i) K := by
         simp only [BR]
         refine Ad.2 ⟨ti, ht, Fa.2 ⟨fs, hsh, Ac.2 ⟨(o, ft), JI hd, Ad.2 ⟨tf, htf, ?_, h2 ⟨fun l => K.f (St.put ⟨nt, sl, hp, c⟩ dst l), ⟨⟩⟩ hk⟩⟩⟩⟩
         have := Nat.le_of_ble_eq_true hsz
         omega
        exact ⟨this, this⟩⟩
      cases h
     cases h
    cases h
   cases h
  cases h
 case makeFunc fn first caps =>
  cases fn <;> simp only at h <;> try (cases h; done)
  rename_i f
  split at h
  .rename_i hf
   rw [KY] at h
   exact ⟨_, _, _, h, fun P A dst K hk => by
    have : BR P A AE ⟨nt, sl, hp, c⟩ dst (.makeFunc (.func f) first caps) K := by
     simp only [BR]
     refine ⟨hf, ?_⟩
     have e : (caps.toList.map fun p => BK nt sl p) = caps.toList.map (St.eval ⟨nt, sl, hp, c⟩) := List.map_congr_left fun x _ => hev x
     rw [e] at hk
     exact hk
    exact ⟨this, this⟩⟩
  cases h
 case load t x =>
  split at h
  .cases h
  rename_i hc'
  rw [hev] at hc'
  split at h
  .rename_i ti ht
   split at h
   .rename_i l off hx; rw [hev] at hx
    rw [QA, Option.bind_eq_some_iff] at h
    obtain ⟨v, hv, h⟩ := h
    exact ⟨_, _, _, h, fun P A dst K hk => by
     have : BR P A AE ⟨nt, sl, hp, c⟩ dst (.load t x) K := by
      simp only [BR]; rw [hx]
      exact Ad.2 ⟨ti, ht, Ac.2 ⟨v, hv, hk⟩⟩
     exact ⟨this, hc', this⟩⟩
   .rename_i id off hx; rw [hev] at hx
    split at h
    .rename_i cells hl
     rw [Bn] at hl
     rw [T1, Option.bind_eq_some_iff] at h
     obtain ⟨v, hv, h⟩ := h
     exact ⟨_, _, _, h, fun P A dst K hk => by
      have : BR P A AE ⟨nt, sl, hp, c⟩ dst (.load t x) K := by
       simp only [BR]; rw [hx]
       exact Ad.2 ⟨ti, ht, Ac.2 ⟨_, hl, by dsimp only; refine Iw.2 ⟨cells, rfl, ?_⟩; exact Ac.2 ⟨v, hv, hk⟩⟩⟩
      exact ⟨this, hc', this⟩⟩
    cases h
   cases h
  cases h
 case store t x v =>
  split at h
  .cases h
  rename_i hc'
  rw [hev] at hc'
  split at h
  .rename_i ti ht
   split at h
   .rename_i id off hx; rw [hev] at hx
    rw [KX, Option.bind_eq_some_iff] at h
    obtain ⟨ls, hls, h⟩ := h
    rw [hev] at hls
    split at h
    .rename_i hlen
     split at h
     .rename_i hone
      rw [Ob] at hone
      split at h
      .rename_i cells hl
       rw [Bn] at hl
       obtain ⟨h1, h2⟩ := Rt h
       rw [I2] at h2
       exact ⟨_, _, _, h2, fun P A dst K hk => by
        have : BR P A AE ⟨nt, sl, hp, c⟩ dst (.store t x v) K := by
         simp only [BR]; rw [hx]
         exact Ad.2 ⟨ti, ht, Ac.2 ⟨ls, hls, ⟨Nat.eq_of_beq_eq_true hlen, hone⟩, Ac.2 ⟨_, hl, by dsimp only; refine Iw.2 ⟨cells, rfl, ?_⟩; exact ⟨h1, hk⟩⟩⟩⟩
        exact ⟨this, hc', this⟩⟩
      cases h
     cases h
    cases h
   cases h
  cases h
 case alloc t =>
  split at h
  .rename_i ti ht
   rw [LU] at h
   exact ⟨_, _, _, h, fun P A dst K hk => by
    have : BR P A AE ⟨nt, sl, hp, c⟩ dst (.alloc t) K := by
     simp only [BR]
     exact Ad.2 ⟨ti, ht, hk⟩
    exact ⟨this, this⟩⟩
  cases h
 case box t x =>
  rw [KX, Option.bind_eq_some_iff] at h
  obtain ⟨ls, hls, h⟩ := h
  rw [hev] at hls
  exact ⟨_, _, _, h, fun P A dst K hk => by
   have : BR P A AE ⟨nt, sl, hp, c⟩ dst (.box t x) K := by
    simp only [BR]
    exact Ac.2 ⟨ls, hls, hk⟩
   exact ⟨this, this⟩⟩
 case buildSlice t n ps =>
  split at h
  .rename_i ti ht
   split at h
   .rename_i e hsh
    split at h
    .rename_i te hte
     split at h
     .rename_i hb
      rw [NU] at h
      obtain ⟨l, h1, h2⟩ := SU h
      split at h2
      .rename_i hlen
       simp only [Bool.and_eq_true] at hb
       exact ⟨_, _, _, h2, fun P A dst K hk => by
        have : BR P A AE ⟨nt, sl, hp, c⟩ dst (.buildSlice t n ps) K := by
         simp only [BR]
         simp only [hev] at h1
         exact Ad.2 ⟨ti, ht, Cd.2 ⟨e, hsh, Ad.2 ⟨te, hte, ⟨Nat.le_of_ble_eq_true hb.1, Nat.le_of_ble_eq_true hb.2⟩, Ac.2 ⟨l, h1, Nat.eq_of_beq_eq_true hlen, .inl hk⟩⟩⟩⟩
        exact ⟨this, this⟩⟩
      cases h2
     cases h
    cases h
   cases h
  cases h
 case makeMap t r =>
  cases r with
  | some r => cases h
  | none => exact ⟨_, _, _, h, fun P A dst K hk => ⟨hk, hk⟩⟩
 case call cl =>
  obtain ⟨callee, args, ts⟩ := cl
  cases callee with
  | value f => cases h
  | invoke r m => cases h
  | builtin b =>
   cases b <;> simp only at h <;> try (cases h; done)
   case len =>
    split at h
    .rename_i x t hargs hts
     split at h
     .rename_i ti ht
      have ha : args = #[x] := by cases args; simpa using hargs
      have ht' : ts = #[t] := by cases ts; simpa using hts
      subst ha ht'
      have fin : ∀ l, k l hp c = some y -> (∀ K : BD LV, K.f l -> YF ti.sh ((⟨nt, sl, hp, c⟩ : St).eval x) K /\ WQ ti.sh ((⟨nt, sl, hp, c⟩ : St).eval x) K) ->
        ∃ l h' c', k l h' c' = some y /\ XT AE ⟨nt, sl, hp, c⟩ (.call ⟨.builtin .len, #[x], #[t]⟩) l h' c' := fun l h1 h2 => ⟨l, hp, c, h1, fun P A dst K hk => by
       have := h2 ⟨fun l => K.f (St.put ⟨nt, sl, hp, c⟩ dst l), ⟨⟩⟩ hk
       exact ⟨Ad.2 ⟨ti, ht, this.1⟩, Ad.2 ⟨ti, ht, this.2⟩⟩⟩
      split at h
      .rename_i hsh
       exact fin _ h fun K hk => by rw [hsh]; exact ⟨hk, hk⟩
      .rename_i hsh hx; rw [hev] at hx
       exact fin _ h fun K hk => by rw [hsh, hx]; exact ⟨hk, hk⟩
      .rename_i hsh hx; rw [hev] at hx
       exact fin _ h fun K hk => by rw [hsh, hx]; exact ⟨hk, hk⟩
      .rename_i hsh hx; rw [hev] at hx
       exact fin _ h fun K hk => by rw [hsh, hx]; exact ⟨hk, hk⟩
      cases h
     cases h
    cases h
   case max =>
    rw [KY] at h
    split at h
    .rename_i kk n rest hl
     obtain ⟨m, h1, h2⟩ := Vl h
     exact ⟨_, _, _, h1, fun P A dst K hk => by
      have : BR P A AE ⟨nt, sl, hp, c⟩ dst (.call ⟨.builtin .max, args, ts⟩) K := by
       simp only [BR, Qf]
       simp only [hev] at hl
       refine Ac.2 ⟨(kk, m), ?_, hk⟩
       show B7 _ (args.toList.map fun x => St.eval _ x) = _
       rw [hl]
       simp only [B7, h2]; rfl
      exact ⟨this, this⟩⟩
    cases h
   case min =>
    rw [KY] at h
    split at h
    .rename_i kk n rest hl
     obtain ⟨m, h1, h2⟩ := Vm h
     exact ⟨_, _, _, h1, fun P A dst K hk => by
      have : BR P A AE ⟨nt, sl, hp, c⟩ dst (.call ⟨.builtin .min, args, ts⟩) K := by
       simp only [BR, Qf]
       simp only [hev] at hl
       refine Ac.2 ⟨(kk, m), ?_, hk⟩
       show B7 _ (args.toList.map fun x => St.eval _ x) = _
       rw [hl]
       simp only [B7, h2]; rfl
      exact ⟨this, this⟩⟩
    cases h
end
end Go.E
/- Runs of operations (Gc, Gd), loops and joins told by plain Lean (AQ, JJ), rules for a walk in step with a plain function. No condition. -/
namespace Go.E
open Go Go.RowKit
section
variable {β : Type}
def LX : Bool -> Bool -> Bool
 | true, true | false, false => true
 | _, _ => false
theorem LY {a b : Bool} (h : LX a b = true) : a = b := by cases a <;> cases b <;> first | rfl | cases h
theorem NV {a b : Bool} (h : LX a b = false) : a = !b := by cases a <;> cases b <;> first | rfl | cases h
def Gc (AE : BH) : Nat -> List IT -> Nat -> List (Nat × LV) -> Ag -> Nat -> Option (List IT × St)
 | 0, ms, nt, sl, h, c => some (ms, ⟨nt, sl, h, c⟩)
 | _ + 1, [], _, _, _, _ => none
 | n + 1, m :: ms, nt, sl, h, c => match m with
  | ⟨dst, op, g⟩ => match g with
   | none => Gb AE nt sl h c op fun l h' c' => match dst with
    | some t => Gc AE n ms nt ((t, l) :: sl) h' c'
    | none => Gc AE n ms nt sl h' c'
   | some (some d, want) => match BK nt sl (.tmp d) with
    | .p (.bool b) => match LX b want with
     | true => Gb AE nt sl h c op fun l h' c' => match dst with
      | some t => Gc AE n ms nt ((t, l) :: sl) h' c'
      | none => Gc AE n ms nt sl h' c'
     | false => match dst with
      | some t => Gc AE n ms nt ((t, .und) :: sl) h c
      | none => Gc AE n ms nt sl h c
    | .und => match dst with
     | some t => Gc AE n ms nt ((t, .und) :: sl) h c
     | none => Gc AE n ms nt sl h c
    | _ => none
   | some (none, _) => none
def Ix (AE : BH) : List IT -> Nat -> List (Nat × LV) -> Ag -> Nat -> Option St
 | [], nt, sl, h, c => some ⟨nt, sl, h, c⟩
 | m :: ms, nt, sl, h, c => match m with
  | ⟨dst, op, g⟩ => match g with
   | none => Gb AE nt sl h c op fun l h' c' => match dst with
    | some t => Ix AE ms nt ((t, l) :: sl) h' c'
    | none => Ix AE ms nt sl h' c'
   | some (some d, want) => match BK nt sl (.tmp d) with
    | .p (.bool b) => match LX b want with
     | true => Gb AE nt sl h c op fun l h' c' => match dst with
      | some t => Ix AE ms nt ((t, l) :: sl) h' c'
      | none => Ix AE ms nt sl h' c'
     | false => match dst with
      | some t => Ix AE ms nt ((t, .und) :: sl) h c
      | none => Ix AE ms nt sl h c
    | .und => match dst with
     | some t => Ix AE ms nt ((t, .und) :: sl) h c
     | none => Ix AE ms nt sl h c
    | _ => none
   | some (none, _) => none
def Gd (AE : BH) (base : Nat) : Nat -> List (Nat × IT) -> Nat -> List (Nat × LV) -> Ag -> Option (List (Nat × IT) × List (Nat × LV) × Ag)
 | 0, ms, _, sl, h => some (ms, sl, h)
 | _ + 1, [], _, _, _ => none
 | n + 1, m :: ms, nt, sl, h => match m with
  | (i, ⟨dst, op, g⟩) => match g with
   | none => Gb AE nt sl h (base + i) op fun l h' _ => match dst with
    | some t => Gd AE base n ms nt ((t, l) :: sl) h'
    | none => Gd AE base n ms nt sl h'
   | some (some d, want) => match BK nt sl (.tmp d) with
    | .p (.bool b) => match LX b want with
     | true => Gb AE nt sl h (base + i) op fun l h' _ => match dst with
      | some t => Gd AE base n ms nt ((t, l) :: sl) h'
      | none => Gd AE base n ms nt sl h'
     | false => match dst with
      | some t => Gd AE base n ms nt ((t, .und) :: sl) h
      | none => Gd AE base n ms nt sl h
    | .und => match dst with
     | some t => Gd AE base n ms nt ((t, .und) :: sl) h
     | none => Gd AE base n ms nt sl h
    | _ => none
   | some (none, _) => none
def Ge (AE : BH) (base : Nat) : List (Nat × IT) -> Nat -> List (Nat × LV) -> Ag -> Option (List (Nat × LV) × Ag)
 | [], _, sl, h => some (sl, h)
 | m :: ms, nt, sl, h => match m with
  | (i, ⟨dst, op, g⟩) => match g with
   | none => Gb AE nt sl h (base + i) op fun l h' _ => match dst with
    | some t => Ge AE base ms nt ((t, l) :: sl) h'
    | none => Ge AE base ms nt sl h'
   | some (some d, want) => match BK nt sl (.tmp d) with
    | .p (.bool b) => match LX b want with
     | true => Gb AE nt sl h (base + i) op fun l h' _ => match dst with
      | some t => Ge AE base ms nt ((t, l) :: sl) h'
      | none => Ge AE base ms nt sl h'
     | false => match dst with
      | some t => Ge AE base ms nt ((t, .und) :: sl) h
      | none => Ge AE base ms nt sl h
    | .und => match dst with
     | some t => Ge AE base ms nt ((t, .und) :: sl) h
     | none => Ge AE base ms nt sl h
    | _ => none
   | some (none, _) => none
end
section
variable {P : Program} {A : BZ} {AE : BH} {f : St -> Prop} {hf : JE f} {nt : Nat} {sl : List (Nat × LV)} {h : Ag} {c : Nat}
theorem PW {dst : Option Tmp} {l : LV} {h' : Ag} {c' : Nat} : (⟨nt, sl, h, c⟩ : St).go dst l h' c' = match dst with | some t => ⟨nt, (t, l) :: sl, h', c'⟩ | none => ⟨nt, sl, h', c'⟩ := by
 cases dst <;> rfl
theorem rn (n : Nat) {ms ms' : List IT} {st' : St} (hr : Gc AE n ms nt sl h c = some (ms', st')) (k : Fq P A AE ⟨f, hf⟩ ms' st') : Fq P A AE ⟨f, hf⟩ ms ⟨nt, sl, h, c⟩ := by
  induction n generalizing ms nt sl h c with
  | zero =>
    have : (ms, (⟨nt, sl, h, c⟩ : St)) = (ms', st') := by simpa [Gc] using hr
    cases this; exact k
  | succ n ih =>
    cases ms with
    | nil => simp [Gc] at hr
    | cons m ms =>
      obtain ⟨dst, op, g⟩ := m
      have run : (Gb AE nt sl h c op fun l h' c' => match (generalizing := false) dst with
            | some t => Gc AE n ms nt ((t, l) :: sl) h' c'
            | none => Gc AE n ms nt sl h' c') = some (ms', st') -> BR P A AE ⟨nt, sl, h, c⟩ dst op ⟨Fq P A AE ⟨f, hf⟩ ms, ⟨⟩⟩ := fun hs => by
        obtain ⟨l, h', c', h1, h2⟩ := IV hs
        refine (h2 P A dst _ ?_).1
        rw [PW]
        cases dst with
        | some t => exact ih h1
        | none => exact ih h1
      have skip : (match (generalizing := false) dst with
          | some t => Gc AE n ms nt ((t, .und) :: sl) h c
          | none => Gc AE n ms nt sl h c) = some (ms', st') -> Fq P A AE ⟨f, hf⟩ ms ((⟨nt, sl, h, c⟩ : St).put dst .und) := fun hs => by
        cases dst with
        | some t => exact ih hs
        | none => exact ih hs
      simp only [Gc] at hr
      cases g with
      | none => exact run hr
      | some g =>
        obtain ⟨d, want⟩ := g
        cases d with
        | none => simp at hr
        | some d =>
          simp only at hr
          simp only [Fq, Gt, <- BO (h := h) (c := c)]
          generalize BK nt sl (.tmp d) = v at hr ⊢
          split at hr
          . rename_i b
            split at hr
            . rename_i hb
              refine ⟨fun _ => run hr, fun e => ?_⟩
              rw [LY hb] at e; cases want <;> cases e
            rename_i hb
            refine ⟨fun e => ?_, fun _ => skip hr⟩
            rw [NV hb] at e; cases want <;> cases e
          . exact skip hr
          cases hr
theorem rl {ms : List IT} {st' : St} (hr : Ix AE ms nt sl h c = some st') (k : f st') : Fq P A AE ⟨f, hf⟩ ms ⟨nt, sl, h, c⟩ := by
  induction ms generalizing nt sl h c with
  | nil =>
    have : (⟨nt, sl, h, c⟩ : St) = st' := by simpa [Ix] using hr
    subst this; exact ⟨k⟩
  | cons m ms ih =>
      obtain ⟨dst, op, g⟩ := m
      have run : (Gb AE nt sl h c op fun l h' c' => match (generalizing := false) dst with
            | some t => Ix AE ms nt ((t, l) :: sl) h' c'
            | none => Ix AE ms nt sl h' c') = some st' -> BR P A AE ⟨nt, sl, h, c⟩ dst op ⟨Fq P A AE ⟨f, hf⟩ ms, ⟨⟩⟩ := fun hs => by
        obtain ⟨l, h', c', h1, h2⟩ := IV hs
        refine (h2 P A dst _ ?_).1
        rw [PW]
        cases dst with
        | some t => exact ih h1
        | none => exact ih h1
      have skip : (match (generalizing := false) dst with
          | some t => Ix AE ms nt ((t, .und) :: sl) h c
          | none => Ix AE ms nt sl h c) = some st' -> Fq P A AE ⟨f, hf⟩ ms ((⟨nt, sl, h, c⟩ : St).put dst .und) := fun hs => by
        cases dst with
        | some t => exact ih hs
        | none => exact ih hs
      simp only [Ix] at hr
      cases g with
      | none => exact run hr
      | some g =>
        obtain ⟨d, want⟩ := g
        cases d with
        | none => simp at hr
        | some d =>
          simp only at hr
          simp only [Fq, Gt, <- BO (h := h) (c := c)]
          generalize BK nt sl (.tmp d) = v at hr ⊢
          split at hr
          . rename_i b
            split at hr
            . rename_i hb
              refine ⟨fun _ => run hr, fun e => ?_⟩
              rw [LY hb] at e; cases want <;> cases e
            rename_i hb
            refine ⟨fun e => ?_, fun _ => skip hr⟩
            rw [NV hb] at e; cases want <;> cases e
          . exact skip hr
          cases hr
theorem Am (n : Nat) {base m : Nat} {ms ms' : List (Nat × IT)} {sl' : List (Nat × LV)} {h' : Ag} (hr : Gd AE base n ms nt sl h = some (ms', sl', h')) (k : DU P A AE base m ⟨f, hf⟩ ms' ⟨nt, sl', h', c⟩) : DU P A AE base m ⟨f, hf⟩ ms ⟨nt, sl, h, c⟩ := by
  induction n generalizing ms sl h with
  | zero =>
    have : (ms, sl, h) = (ms', sl', h') := by simpa [Gd] using hr
    cases this; exact k
  | succ n ih =>
    cases ms with
    | nil => simp [Gd] at hr
    | cons p ms =>
      obtain ⟨i, dst, op, g⟩ := p
      have at_ : ∀ {sl h c'} , DU P A AE base m ⟨f, hf⟩ ms ⟨nt, sl, h, c⟩ -> DU P A AE base m ⟨f, hf⟩ ms ⟨nt, sl, h, c'⟩ := fun {sl h c'} hd => by
        have := Qi (P := P) (A := A) (AE := AE) base m ⟨f, hf⟩ ms ⟨nt, sl, h, c⟩ c'
        rw [<- this] at hd; exact hd
      have run : (Gb AE nt sl h (base + i) op fun l h' c' => match (generalizing := false) dst with
            | some t => Gd AE base n ms nt ((t, l) :: sl) h'
            | none => Gd AE base n ms nt sl h') = some (ms', sl', h') -> JH P A AE ((⟨nt, sl, h, c⟩ : St).at (base + i)) dst op ⟨DU P A AE base m ⟨f, hf⟩ ms, ⟨⟩⟩ := fun hs => by
        obtain ⟨l, h', c', h1, h2⟩ := IV hs
        refine (h2 P A dst _ ?_).2
        rw [PW]
        cases dst with
        | some t => exact at_ (ih h1)
        | none => exact at_ (ih h1)
      have skip : (match (generalizing := false) dst with
          | some t => Gd AE base n ms nt ((t, .und) :: sl) h
          | none => Gd AE base n ms nt sl h) = some (ms', sl', h') -> DU P A AE base m ⟨f, hf⟩ ms ((⟨nt, sl, h, c⟩ : St).put dst .und) := fun hs => by
        cases dst with
        | some t => exact ih hs
        | none => exact ih hs
      simp only [Gd] at hr
      cases g with
      | none => exact run hr
      | some g =>
        obtain ⟨d, want⟩ := g
        cases d with
        | none => simp at hr
        | some d =>
          simp only at hr
          simp only [DU, Gt, <- BO (h := h) (c := c)]
          generalize BK nt sl (.tmp d) = v at hr ⊢
          split at hr
          . rename_i b
            split at hr
            . rename_i hb
              refine ⟨fun _ => run hr, fun e => ?_⟩
              rw [LY hb] at e; cases want <;> cases e
            rename_i hb
            refine ⟨fun e => ?_, fun _ => skip hr⟩
            rw [NV hb] at e; cases want <;> cases e
          . exact skip hr
          cases hr
theorem A1 {base m : Nat} {ms : List (Nat × IT)} {sl' : List (Nat × LV)} {h' : Ag} (hr : Ge AE base ms nt sl h = some (sl', h')) (k : f ⟨nt, sl', h', base + m⟩) : DU P A AE base m ⟨f, hf⟩ ms ⟨nt, sl, h, c⟩ := by
  induction ms generalizing sl h with
  | nil =>
    have : (sl, h) = (sl', h') := by simpa [Ge] using hr
    cases this; exact ⟨k⟩
  | cons p ms ih =>
      obtain ⟨i, dst, op, g⟩ := p
      have at_ : ∀ {sl h c'} , DU P A AE base m ⟨f, hf⟩ ms ⟨nt, sl, h, c⟩ -> DU P A AE base m ⟨f, hf⟩ ms ⟨nt, sl, h, c'⟩ := fun {sl h c'} hd => by
        have := Qi (P := P) (A := A) (AE := AE) base m ⟨f, hf⟩ ms ⟨nt, sl, h, c⟩ c'
        rw [<- this] at hd; exact hd
      have run : (Gb AE nt sl h (base + i) op fun l h' c' => match (generalizing := false) dst with
            | some t => Ge AE base ms nt ((t, l) :: sl) h'
            | none => Ge AE base ms nt sl h') = some (sl', h') -> JH P A AE ((⟨nt, sl, h, c⟩ : St).at (base + i)) dst op ⟨DU P A AE base m ⟨f, hf⟩ ms, ⟨⟩⟩ := fun hs => by
        obtain ⟨l, h', c', h1, h2⟩ := IV hs
        refine (h2 P A dst _ ?_).2
        rw [PW]
        cases dst with
        | some t => exact at_ (ih h1)
        | none => exact at_ (ih h1)
      have skip : (match (generalizing := false) dst with
          | some t => Ge AE base ms nt ((t, .und) :: sl) h
          | none => Ge AE base ms nt sl h) = some (sl', h') -> DU P A AE base m ⟨f, hf⟩ ms ((⟨nt, sl, h, c⟩ : St).put dst .und) := fun hs => by
        cases dst with
        | some t => exact ih hs
        | none => exact ih hs
      simp only [Ge] at hr
      cases g with
      | none => exact run hr
      | some g =>
        obtain ⟨d, want⟩ := g
        cases d with
        | none => simp at hr
        | some d =>
          simp only at hr
          simp only [DU, Gt, <- BO (h := h) (c := c)]
          generalize BK nt sl (.tmp d) = v at hr ⊢
          split at hr
          . rename_i b
            split at hr
            . rename_i hb
              refine ⟨fun _ => run hr, fun e => ?_⟩
              rw [LY hb] at e; cases want <;> cases e
            rename_i hb
            refine ⟨fun e => ?_, fun _ => skip hr⟩
            rw [NV hb] at e; cases want <;> cases e
          . exact skip hr
          cases hr
end
end Go.E
/- Rules for a walk in step with a plain function. No condition. -/
namespace Go.E
open Go Go.RowKit
def Og : List Nat -> Nat -> Bool
 | [], _ => false
 | x :: l, t => match Nat.beq t x with
  | true => true
  | false => Og l t
theorem Vn : ∀ {l : List Nat} {t : Nat}, Og l t = true ↔ t ∈ l
 | [], t => by simp [Og]
 | x :: l, t => by
  simp only [Og, List.mem_cons]
  split
  .rename_i h; have := Nat.eq_of_beq_eq_true h; subst this; simp
  rename_i h
  have hne : t ≠ x := by rintro rfl; simp at h
  rw [Vn]; simp [hne]
theorem YQ {P : Program} {l : List (Nat × TI)} (h : (l.map fun p => WT P p.1) = l.map fun p => some p.2) : OZ P (fun t => Bt t l) := by
 have := T0 h
 intro t ti ht
 exact this t ti (by simpa only [Bn] using ht)
section
variable {α β γ : Type}
theorem bd {o : Option α} {f : α -> Option β} {b : β} (h : o.bind f = some b) : ∃ a, o = some a /\ f a = some b := Option.bind_eq_some_iff.1 h
def Ak (l : List α) (n : Int) : Option α := match n with
 | .ofNat k => l[k]?
 | .negSucc _ => none
theorem Gf {l : List α} {n : Int} {y : α} (h : Ak l n = some y) : 0 <= n /\ n.toNat < l.length /\ l[n.toNat]? = some y := by
 cases n with
 | ofNat k => exact ⟨Int.natCast_nonneg k, (List.getElem?_eq_some_iff.1 h).1, h⟩
 | negSucc k => cases h
def NW (s : ByteArray) (n : Int) : Option UInt8 := match n with
 | .ofNat k => s[k]?
 | .negSucc _ => none
def I3 (l : List α) (lo hi : Int) : Option (List α) := if 0 <= lo /\ lo <= hi /\ hi <= l.length then some ((l.take hi.toNat).drop lo.toNat) else none
def A8 (l m : List α) : Option (List α) := if l.length + m.length <= 4294967296 then some (l ++ m) else none
def A9 (l : List α) (n : Int) (z : α) : List α := l.set n.toNat z
def Oh (a b : Int) : Option Int := if b = 0 then none else some (IntKind.wrap .u8 (a.tdiv b))
def HK (a b : Int) : Option Int := if b = 0 then none else some (a.tmod b)
def Fi (step : α -> Option (α ⊕ β)) : Nat -> α -> Option β
 | 0, _ => none
 | n + 1, s => match step s with
  | none => none
  | some (.inl s') => Fi step n s'
  | some (.inr b) => some b
theorem Oi {step : α -> Option (α ⊕ β)} : ∀ {n m : Nat} {s : α} {b : β}, Fi step n s = some b -> Fi step (n + m) s = some b
 | 0, _, _, _, h => by cases h
 | n + 1, m, s, b, h => by
  rw [show n + 1 + m = (n + m) + 1 by omega]
  simp only [Fi] at h ⊢
  split at h
  .cases h
  .exact Oi h
  exact h
open Classical in
noncomputable def Ql (step : α -> Option (α ⊕ β)) (s : α) : Option β := if h : ∃ b n, Fi step n s = some b then some h.choose else none
noncomputable def AQ (step : α -> Option (α ⊕ β)) (s : α) : Option β := match Fi step 18446744073709551616 s with
 | some b => some b
 | none => Ql step s
theorem T6 {step : α -> Option (α ⊕ β)} {n : Nat} {s : α} {b : β} (h : Fi step n s = some b) : Ql step s = some b := by
 have hex : ∃ b n, Fi step n s = some b := ⟨b, n, h⟩
 unfold Ql
 rw [dif_pos hex]
 obtain ⟨m, hm⟩ := hex.choose_spec
 have h1 := Oi (m := m) h
 have h2 := Oi (m := n) hm
 rw [show m + n = n + m by omega, h1] at h2
 exact h2.symm
theorem Vo (step : α -> Option (α ⊕ β)) (s : α) : AQ step s = Ql step s := by
 unfold AQ
 split
 .rename_i h; exact (T6 h).symm
 rfl
theorem QC {step : α -> Option (α ⊕ β)} {n : Nat} {s : α} {b : β} (h : Fi step n s = some b) : AQ step s = some b := by
 rw [Vo]; exact T6 h
theorem K3 {step : α -> Option (α ⊕ β)} {s : α} {b : β} (h : AQ step s = some b) : ∃ n, Fi step n s = some b := by
 rw [Vo] at h
 unfold Ql at h
 split at h
 .rename_i hex
  obtain ⟨m, hm⟩ := hex.choose_spec
  simp only [Option.some.injEq] at h
  rw [h] at hm
  exact ⟨m, hm⟩
 cases h
theorem Gg (step : α -> Option (α ⊕ β)) (s : α) : AQ step s = match step s with
  | none => none
  | some (.inl s') => AQ step s'
  | some (.inr b) => some b := by
 cases hs : step s with
 | none =>
  cases hl : AQ step s with
  | none => rfl
  | some b =>
   obtain ⟨n, hn⟩ := K3 hl
   cases n with
   | zero => cases hn
   | succ n => simp [Fi, hs] at hn
 | some r =>
  cases r with
  | inl s' =>
   simp only
   cases hl : AQ step s' with
   | some b => obtain ⟨n, hn⟩ := K3 hl; exact QC (n := n + 1) (by simp only [Fi, hs]; exact hn)
   | none =>
    cases hl' : AQ step s with
    | none => rfl
    | some b =>
     obtain ⟨n, hn⟩ := K3 hl'
     cases n with
     | zero => cases hn
     | succ n =>
      simp only [Fi, hs] at hn
      rw [QC hn] at hl; cases hl
  | inr b => exact QC (n := 1) (by simp [Fi, hs])
def JJ (sp : Option (α ⊕ β)) (rest : α -> Option β) : Option β := match sp with
 | none => none
 | some (.inl t) => rest t
 | some (.inr b) => some b
def T7 (o : Option α) (a : Option β) (b : α -> Option β) : Option β := match o with
 | none => a
 | some x => b x
theorem omN {a : Option β} {b : α -> Option β} {r : Option β} (h : T7 none a b = r) : a = r := h
theorem omS {x : α} {a : Option β} {b : α -> Option β} {r : Option β} (h : T7 (some x) a b = r) : b x = r := h
end
section
variable {P : Program} {A : BZ} {AE : BH} {st : St} {σ Ans : Type}
def LP (A : BZ) (S : σ -> St) (Q : Ans -> Exit -> St -> Prop) : σ ⊕ Ans -> Exit -> St -> Prop
 | .inl s, e, st => e = .normal /\ A0 A st (S s)
 | .inr a, e, st => e ≠ .normal /\ Q a e st
theorem lp {c : Code} {Q : Ans -> Exit -> St -> Prop} {a : Ans} (I : σ -> St) {step : σ -> Option (σ ⊕ Ans)} {s0 : σ} (h : AQ step s0 = some a) (hw : A0 A st (I s0))
  (hb : ∀ s b, step s = some b -> CJ P A c (LP A I Q b) (I s)) : CJ P A (.loop c) (Q a) st := by
 obtain ⟨n, hn⟩ := K3 h
 refine X5 (ι := Nat × σ) (fun i s => Fi step i.1 i.2 = some a /\ A0 A s (I i.2)) (fun i => i.1) (n, s0) ⟨hn, hw⟩ ?_
 rintro ⟨n, s⟩ st' ⟨hi, hws⟩
 refine Jp hws ?_
 cases n with
 | zero => cases hi
 | succ n =>
  simp only [Fi] at hi
  cases hs : step s with
  | none => rw [hs] at hi; cases hi
  | some r =>
   rw [hs] at hi
   refine LI (hb s r hs) fun e st'' q => ?_
   cases r with
   | inl s' =>
    obtain ⟨he, hw'⟩ := q
    subst he
    exact ⟨(n, s'), ⟨hi, hw'⟩, Nat.lt_succ_self n⟩
   | inr a' =>
    obtain ⟨he, hq⟩ := q
    simp only [Option.some.injEq] at hi
    subst hi
    cases e <;> first | exact absurd rfl he | exact hq
theorem jn {x y : Code} {Q : Ans -> Exit -> St -> Prop} {a : Ans} (S : σ -> St) {sp : Option (σ ⊕ Ans)} {rest : σ -> Option Ans} (h : JJ sp rest = some a)
  (hx : ∀ b, sp = some b -> CJ P A x (LP A S Q b) st) (hy : ∀ t, rest t = some a -> CJ P A y (Q a) (S t)) : CJ P A (.seq x y) (Q a) st := by
 refine AB ?_
 cases hs : sp with
 | none => rw [hs] at h; cases h
 | some r =>
  rw [hs] at h
  refine LI (hx r hs) fun e st' q => ?_
  cases r with
  | inl t =>
   obtain ⟨he, hw⟩ := q
   subst he
   exact Jp hw (hy t h)
  | inr a' =>
   obtain ⟨he, hq⟩ := q
   simp only [JJ, Option.some.injEq] at h
   subst h
   cases e <;> first | exact absurd rfl he | exact hq
def NP (A : BZ) (S : σ -> St) (s : σ) (e : Exit) (st : St) : Prop := e = .normal /\ A0 A st (S s)
theorem jb {x y : Code} {Q : Exit -> St -> Prop} {a : Ans} (S : σ -> St) {sp : Option σ} {rest : σ -> Option Ans} (h : sp.bind rest = some a)
  (hx : ∀ t, sp = some t -> CJ P A x (NP A S t) st) (hy : ∀ t, rest t = some a -> CJ P A y Q (S t)) : CJ P A (.seq x y) Q st := by
 obtain ⟨t, h1, h2⟩ := bd h
 refine AB (LI (hx t h1) fun e st' q => ?_)
 obtain ⟨he, hw⟩ := q
 subst he
 exact Jp hw (hy t h2)
theorem rg (hE : BP P AE) {id : Nat} {ops : List Oper} {Q : Exit -> St -> Prop} (k : Fq P A AE ⟨Q .normal, ⟨⟩⟩ (ops.map (OW ops)) st) : CJ P A (.region id ops.toArray false) Q st := YI hE rfl k
theorem rs (hE : BP P AE) {id : Nat} {ops : List Oper} {y : Code} {Q : Exit -> St -> Prop} (k : Fq P A AE ⟨CJ P A y Q, ⟨⟩⟩ (ops.map (OW ops)) st) : CJ P A (.seq (.region id ops.toArray false) y) Q st := ZJ hE rfl k
theorem Bb (hE : BP P AE) (hm : P.follows .mixedOrders = true) {id : Nat} {ops : List Oper} {Q : Exit -> St -> Prop} {nt : Nat} {sl : List (Nat × LV)} {h : Ag} {c : Nat} (order : List Nat) (n : Nat)
  (hok : IS false AE.own .any ops.toArray order (Array.replicate ops.length false) = true) (hl : Nat.beq order.length ops.length = true) (hb : (order.all fun i => Nat.blt i ops.length) = true) (hn : Nat.beq ops.length n = true)
  (k : DU P A AE c n ⟨Q .normal, ⟨⟩⟩ (Ga ops order) ⟨nt, sl, h, c⟩) : CJ P A (.region id ops.toArray true) Q ⟨nt, sl, h, c⟩ := by
 have hb' : (order.all fun i => decide (i < ops.length)) = true := by
  rw [List.all_eq_true] at hb ⊢
  intro i hi
  have := Nat.le_of_ble_eq_true (hb i hi)
  simp only [decide_eq_true_eq]; omega
 have hn' := Nat.eq_of_beq_eq_true hn
 subst hn'
 exact H7 false (fun h => by cases h) hE hm hok (Nat.eq_of_beq_eq_true hl) (I1 order _ hb' k)
theorem Zx (hE : BP P AE) (hm : P.follows .mixedOrders = true) {id : Nat} {ops : List Oper} {Q : Exit -> St -> Prop} {nt : Nat} {sl : List (Nat × LV)} {h : Ag} {c : Nat} (order : List Nat) (n : Nat)
  (hq : AE.calm.isSome = true) (hok : IS true AE.own .any ops.toArray order (Array.replicate ops.length false) = true) (hl : Nat.beq order.length ops.length = true) (hb : (order.all fun i => Nat.blt i ops.length) = true) (hn : Nat.beq ops.length n = true)
  (k : DU P A AE c n ⟨Q .normal, ⟨⟩⟩ (Ga ops order) ⟨nt, sl, h, c⟩) : CJ P A (.region id ops.toArray true) Q ⟨nt, sl, h, c⟩ := by
 have hb' : (order.all fun i => decide (i < ops.length)) = true := by
  rw [List.all_eq_true] at hb ⊢
  intro i hi
  have := Nat.le_of_ble_eq_true (hb i hi)
  simp only [decide_eq_true_eq]; omega
 have hn' := Nat.eq_of_beq_eq_true hn
 subst hn'
 exact H7 true (fun _ => Option.isSome_iff_exists.1 hq) hE hm hok (Nat.eq_of_beq_eq_true hl) (I1 order _ hb' k)
theorem cd {x : Operand} {cx cy : Code} {Q : Exit -> St -> Prop} {nt : Nat} {sl : List (Nat × LV)} {h : Ag} {c : Nat} {b : Bool} {p q : Option Ans} {a : Ans} (hb : BK nt sl x = .p (.bool b)) (hh : cond b p q = some a)
  (hx : p = some a -> CJ P A cx Q ⟨nt, sl, h, c⟩) (hy : q = some a -> CJ P A cy Q ⟨nt, sl, h, c⟩) : CJ P A (.cond x cx cy) Q ⟨nt, sl, h, c⟩ := by
 refine P3 (b := b) (by rw [<- BO]; exact hb) (fun e => ?_) (fun e => ?_)
 .subst e; exact hx hh
 subst e; exact hy hh
theorem Qm {x : Operand} {cx cy : Code} {Q : Exit -> St -> Prop} {nt : Nat} {sl : List (Nat × LV)} {h : Ag} {c : Nat} (hb : BK nt sl x = .p (.bool true)) (hx : CJ P A cx Q ⟨nt, sl, h, c⟩) : CJ P A (.cond x cx cy) Q ⟨nt, sl, h, c⟩ :=
 P3 (b := true) (by rw [<- BO]; exact hb) (fun _ => hx) (fun e => by cases e)
theorem Qn {x : Operand} {cx cy : Code} {Q : Exit -> St -> Prop} {nt : Nat} {sl : List (Nat × LV)} {h : Ag} {c : Nat} (hb : BK nt sl x = .p (.bool false)) (hx : CJ P A cy Q ⟨nt, sl, h, c⟩) : CJ P A (.cond x cx cy) Q ⟨nt, sl, h, c⟩ :=
 P3 (b := false) (by rw [<- BO]; exact hb) (fun e => by cases e) (fun _ => hx)
end
end Go.E
/- Rules for single operations of a walk in step with a plain function. No condition. -/
namespace Go.E
open Go Go.RowKit
section
variable {β : Type}
def WV (t : Nat) (v : LV) : List (Nat × LV) -> (List (Nat × LV) -> Option β) -> Option β
 | [], _ => none
 | (q, u) :: l, k => match Nat.beq t q with
  | true => k ((q, v) :: l)
  | false => WV t v l (fun r => k ((q, u) :: r))
theorem Vp {t : Nat} {v : LV} : ∀ {l : List (Nat × LV)} {k : List (Nat × LV) -> Option β} {y : β}, Bt t l = some v -> WV t v l k = some y -> k l = some y
 | [], _, _, h, _ => by simp [Bt] at h
 | (q, u) :: l, k, y, h, hr => by
  simp only [Bt] at h
  simp only [WV] at hr
  split at h
  .rename_i hb
   rw [hb] at hr
   simp only [Option.some.injEq] at h
   subst h; exact hr
  rename_i hb
  rw [hb] at hr
  exact Vp (k := fun r => k ((q, u) :: r)) h hr
def XU (t : Nat) (v : LV) (l : List (Nat × LV)) : Option (List (Nat × LV)) := WV t v l some
theorem Qo {t : Nat} {v : LV} {l l' : List (Nat × LV)} (h : Bt t l = some v) (hr : XU t v l = some l') : l = l' := by
 have := Vp h hr
 simpa using this
theorem NX {nt t : Nat} {sl : List (Nat × LV)} {d : DV} (h : BK nt sl (.tmp t) = .p d) : Bt t sl = some (.p d) := by
 simp only [BK] at h
 split at h
 .split at h
  .subst h; assumption
  cases h
 cases h
def Y4 (nt : Nat) (sl : List (Nat × LV)) : Option (Option Tmp × Bool) -> Bool
 | none => true
 | some (some d, want) => match BK nt sl (.tmp d) with
  | .p (.bool b) => LX b want
  | _ => false
 | some (none, _) => false
theorem T8 {nt : Nat} {sl : List (Nat × LV)} {d : Tmp} {want : Bool} (h : Y4 nt sl (some (some d, want)) = true) : BK nt sl (.tmp d) = .p (.bool want) := by
 simp only [Y4] at h
 split at h
 .rename_i b hb; rw [hb, LY h]
 cases h
end
section
variable {P : Program} {A : BZ} {AE : BH} {f : St -> Prop} {hf : JE f} {nt : Nat} {sl : List (Nat × LV)} {h : Ag} {c : Nat} {Ans : Type}
theorem gs (t : Nat) {ms : List IT} {b : Bool} {p q : Option Ans} {a : Ans} {slT slF : List (Nat × LV)} (hh : cond b p q = some a) (hv : BK nt sl (.tmp t) = .p (.bool b))
  (hT : XU t (.p (.bool true)) sl = some slT) (hF : XU t (.p (.bool false)) sl = some slF)
  (hx : p = some a -> Fq P A AE ⟨f, hf⟩ ms ⟨nt, slT, h, c⟩) (hy : q = some a -> Fq P A AE ⟨f, hf⟩ ms ⟨nt, slF, h, c⟩) : Fq P A AE ⟨f, hf⟩ ms ⟨nt, sl, h, c⟩ := by
 cases b with
 | true => rw [Qo (NX hv) hT]; exact hx hh
 | false => rw [Qo (NX hv) hF]; exact hy hh
theorem DJ (t : Nat) {base m : Nat} {ms : List (Nat × IT)} {b : Bool} {p q : Option Ans} {a : Ans} {slT slF : List (Nat × LV)} (hh : cond b p q = some a) (hv : BK nt sl (.tmp t) = .p (.bool b))
  (hT : XU t (.p (.bool true)) sl = some slT) (hF : XU t (.p (.bool false)) sl = some slF)
  (hx : p = some a -> DU P A AE base m ⟨f, hf⟩ ms ⟨nt, slT, h, c⟩) (hy : q = some a -> DU P A AE base m ⟨f, hf⟩ ms ⟨nt, slF, h, c⟩) : DU P A AE base m ⟨f, hf⟩ ms ⟨nt, sl, h, c⟩ := by
 cases b with
 | true => rw [Qo (NX hv) hT]; exact hx hh
 | false => rw [Qo (NX hv) hF]; exact hy hh
theorem sx {dst : Option Tmp} {op : Op} {g : Option (Option Tmp × Bool)} {rest : List IT} (hg : Y4 nt sl g = true) (k : BR P A AE ⟨nt, sl, h, c⟩ dst op ⟨Fq P A AE ⟨f, hf⟩ rest, ⟨⟩⟩) :
  Fq P A AE ⟨f, hf⟩ (⟨dst, op, g⟩ :: rest) ⟨nt, sl, h, c⟩ := by
 cases g with
 | none => exact k
 | some g =>
  obtain ⟨d, want⟩ := g
  cases d with
  | none => cases hg
  | some d =>
   have := T8 hg
   simp only [Fq, Gt, <- BO (h := h) (c := c), this, gM, gW]
   exact ⟨fun _ => k, fun e => by cases want <;> cases e⟩
theorem Al {base m i : Nat} {dst : Option Tmp} {op : Op} {g : Option (Option Tmp × Bool)} {rest : List (Nat × IT)} (hg : Y4 nt sl g = true) (k : JH P A AE ⟨nt, sl, h, base + i⟩ dst op ⟨DU P A AE base m ⟨f, hf⟩ rest, ⟨⟩⟩) :
  DU P A AE base m ⟨f, hf⟩ ((i, ⟨dst, op, g⟩) :: rest) ⟨nt, sl, h, c⟩ := by
 cases g with
 | none => exact k
 | some g =>
  obtain ⟨d, want⟩ := g
  cases d with
  | none => cases hg
  | some d =>
   have := T8 hg
   simp only [DU, Gt, <- BO (h := h) (c := c), this, gM, gW]
   exact ⟨fun _ => k, fun e => by cases want <;> cases e⟩
def ZR : Op -> Bool
 | .binOp .. | .call _ | .range .. | .next .. | .entry .. | .load .. | .store .. => false
 | _ => true
theorem AX {st : St} {dst : Option Tmp} {op : Op} {K : BD St} (hp : ZR op = true) (k : BR P A AE st dst op K) : JH P A AE st dst op K := by
 cases op <;> first | exact k | cases hp
theorem FE {nt : Nat} {sl : List (Nat × LV)} {h : Ag} {c : Nat} {dst : Option Tmp} {t : TypeId} {x : Operand} {K : BD St} (hc : Ml AE.calm (BK nt sl x) = true) (k : BR P A AE ⟨nt, sl, h, c⟩ dst (.load t x) K) : JH P A AE ⟨nt, sl, h, c⟩ dst (.load t x) K := ⟨by rw [<- BO (h := h) (c := c)]; exact hc, k⟩
theorem JK {nt : Nat} {sl : List (Nat × LV)} {h : Ag} {c : Nat} {dst : Option Tmp} {t : TypeId} {x v : Operand} {K : BD St} (hc : LK AE.calm (BK nt sl x) = true) (k : BR P A AE ⟨nt, sl, h, c⟩ dst (.store t x v) K) : JH P A AE ⟨nt, sl, h, c⟩ dst (.store t x v) K := ⟨by rw [<- BO (h := h) (c := c)]; exact hc, k⟩
theorem BY {st : St} {dst : Option Tmp} {args : Array Operand} {ts : Array TypeId} {K : BD St} (k : BR P A AE st dst (.call ⟨.builtin .append, args, ts⟩) K) : JH P A AE st dst (.call ⟨.builtin .append, args, ts⟩) K := k
def Qp (AE : BH) (t : Nat) : Bool := match AE.tt t with
 | some ti => match ti.sh with
  | .slc _ => true
  | _ => false
 | none => false
def WW (AE : BH) (t : Nat) : Bool := match AE.tt t with
 | some ti => match ti.sh with
  | .str => true
  | _ => false
 | none => false
theorem YR {t : Nat} (h : WW AE t = true) : ∃ ti, AE.tt t = some ti /\ ti.sh = .str := by
 unfold WW at h
 split at h
 .rename_i ti hti
  split at h
  .rename_i he; exact ⟨ti, hti, he⟩
  cases h
 cases h
theorem QD {t : Nat} (h : Qp AE t = true) : ∃ ti e, AE.tt t = some ti /\ ti.sh = .slc e := by
 unfold Qp at h
 split at h
 .rename_i ti hti
  split at h
  .rename_i e he; exact ⟨ti, e, hti, he⟩
  cases h
 cases h
def NY (AE : BH) (t sz : Nat) : Bool := match AE.tt t with
 | some ti => match ti.sh with
  | .slc e => match AE.tt e with
   | some te => Nat.beq te.size sz
   | none => false
  | _ => false
 | none => false
theorem NZ {t sz : Nat} (h : NY AE t sz = true) : ∃ ti e te, AE.tt t = some ti /\ ti.sh = .slc e /\ AE.tt e = some te /\ te.size = sz := by
 unfold NY at h
 split at h
 .rename_i ti hti
  split at h
  .rename_i e he
   split at h
   .rename_i te hte; exact ⟨ti, e, te, hti, he, hte, Nat.eq_of_beq_eq_true h⟩
   cases h
  cases h
 cases h
variable {α : Type} {enc : α -> List DV} {l : List α} {d : Tmp} {t sz : Nat} {x : Operand}
theorem An (ht : Qp AE t = true) (hx : BK nt sl x = .p (.slice sz (l.map enc))) (k : f ⟨nt, (d, .p (.int .i64 l.length)) :: sl, h, c⟩) : BR P A AE ⟨nt, sl, h, c⟩ (some d) (.call ⟨.builtin .len, #[x], #[t]⟩) ⟨f, hf⟩ := by
 obtain ⟨ti, e, h1, h2⟩ := QD ht
 refine Ad.2 ⟨ti, h1, ?_⟩
 rw [BO (h := h) (c := c)] at hx
 dsimp only
 rw [h2, hx]
 intro _
 simp only [List.length_map]
 exact k
theorem Oj (ht : Qp AE t = true) (hx : BK nt sl x = .p (.slice sz (l.map enc))) (k : f ⟨nt, (d, .p (.int .i64 l.length)) :: sl, h, c⟩) : JH P A AE ⟨nt, sl, h, c⟩ (some d) (.call ⟨.builtin .len, #[x], #[t]⟩) ⟨f, hf⟩ := by
 obtain ⟨ti, e, h1, h2⟩ := QD ht
 refine Ad.2 ⟨ti, h1, ?_⟩
 rw [BO (h := h) (c := c)] at hx
 dsimp only
 rw [h2, hx]
 simp only [WQ, List.length_map]
 exact k
theorem Aj {i : Operand} {kk : IntKind} {n : Int} {y : α} (hy : Ak l n = some y) (ht : NY AE t sz = true) (hx : BK nt sl x = .p (.slice sz (l.map enc))) (hi : BK nt sl i = .p (.int kk n))
  (k : f ⟨nt, (d, .p (.place (enc y) 0)) :: sl, h, c⟩) : BR P A AE ⟨nt, sl, h, c⟩ (some d) (.indexAddr t x i) ⟨f, hf⟩ := by
 obtain ⟨ti, e, te, h1, h2, h3, h4⟩ := NZ ht
 obtain ⟨g1, g2, g3⟩ := Gf hy
 rw [BO (h := h) (c := c)] at hx hi
 refine CY.2 ⟨kk, n, hi, Ad.2 ⟨ti, h1, ?_⟩⟩
 dsimp only
 rw [h2, hx]
 exact Ad.2 ⟨te, h3, h4, g1, Ac.2 ⟨enc y, by rw [List.getElem?_map, g3]; rfl, k⟩⟩
theorem Ok {s : ByteArray} {i : Operand} {kk : IntKind} {n : Int} {y : UInt8} (hy : NW s n = some y) (ht : WW AE t = true) (hx : BK nt sl x = .p (.str s)) (hi : BK nt sl i = .p (.int kk n))
  (k : f ⟨nt, (d, .p (.int .u8 y.toNat)) :: sl, h, c⟩) : BR P A AE ⟨nt, sl, h, c⟩ (some d) (.index t x i) ⟨f, hf⟩ := by
 obtain ⟨ti, hti, hsh⟩ := YR ht
 rw [BO (h := h) (c := c)] at hx hi
 cases n with
 | negSucc n => cases hy
 | ofNat n =>
  refine CY.2 ⟨kk, _, hi, Ad.2 ⟨ti, hti, Int.natCast_nonneg n, ?_⟩⟩
  dsimp only
  rw [hsh, hx]
  exact Ac.2 ⟨y, hy, k⟩
def Ol (nt : Nat) (sl : List (Nat × LV)) (d : Int) : Option Operand -> Option Int
 | none => some d
 | some o => match BK nt sl o with
  | .p (.int _ n) => some n
  | _ => none
theorem PX {d n : Int} {x : Option Operand} {k : BD Int} (hb : Ol nt sl d x = some n) (hk : k.f n) : LN d (x.map (St.eval ⟨nt, sl, h, c⟩)) k := by
 cases x with
 | none => simp only [Ol, Option.some.injEq] at hb; subst hb; exact hk
 | some o =>
  simp only [Ol, BO (h := h) (c := c)] at hb
  simp only [Option.map_some]
  split at hb
  .rename_i kk m he
   simp only [Option.some.injEq] at hb
   subst hb
   rw [he]; exact hk
  cases hb
theorem Qq {lo hi : Option Operand} {n m : Int} {r : List α} (hr : I3 l n m = some r) (ht : NY AE t sz = true) (hx : BK nt sl x = .p (.slice sz (l.map enc)))
  (hlo : Ol nt sl 0 lo = some n) (hhi : Ol nt sl l.length hi = some m)
  (k : f ⟨nt, (d, .p (.slice sz (r.map enc))) :: sl, h, c⟩) : BR P A AE ⟨nt, sl, h, c⟩ (some d) (.slice t x lo hi none) ⟨f, hf⟩ := by
 obtain ⟨ti, e, te, h1, h2, h3, h4⟩ := NZ ht
 rw [BO (h := h) (c := c)] at hx
 simp only [I3] at hr
 split at hr
 .rename_i hb
  simp only [Option.some.injEq] at hr
  subst hr
  show LO AE t _ _ _ _
  rw [hx]
  refine Ad.2 ⟨ti, h1, Cd.2 ⟨e, h2, Ad.2 ⟨te, h3, h4, ?_⟩⟩⟩
  rw [List.length_map]
  refine PX hhi (PX hlo ⟨hb, ?_⟩)
  rw [<- List.map_take, <- List.map_drop]; exact k
 cases hr
end
end Go.E
/- Rules for single operations: calls, what is appended, made, looked up, set against another. No condition. -/
namespace Go.E
open Go Go.RowKit
inductive L2 : List DV -> List DV -> Prop where
 | nil : L2 [] []
 | cons {a b : DV} {l m : List DV} (h : Le a b) (t : L2 l m) : L2 (a :: l) (b :: m)
theorem Le.rfl {d : DV} : Le d d := fun _ _ _ h => h
theorem L2.rfl : ∀ {l : List DV}, L2 l l
 | [] => .nil
 | _ :: _ => .cons Le.rfl L2.rfl
theorem L2.len {l m : List DV} (h : L2 l m) : l.length = m.length := by induction h with
 | nil => exact Eq.refl _
 | cons _ _ ih => simp [ih]
theorem L2.get {l m : List DV} (h : L2 l m) : ∀ (i : Nat) (a b : DV), l[i]? = some a -> m[i]? = some b -> Le a b := by
 induction h with
 | nil => intro i a b h1; simp at h1
 | cons h _ ih =>
  intro i x y h1 h2
  cases i with
  | zero => simp at h1 h2; subst h1 h2; exact h
  | succ i => exact ih i x y (by simpa using h1) (by simpa using h2)
theorem Le.tup' {l m : List DV} (h : L2 l m) : Le (.tup l) (.tup m) := Le.tup h.len h.get
theorem Le.agg' {l m : List DV} (h : L2 l m) : Le (.agg l) (.agg m) := Le.agg h.len h.get
theorem Le.nilm : Le .nilm (.map []) := fun _ _ _ hv => by cases hv; exact .mnil
theorem Le.own {α : Type} {enc : α -> List DV} {l : List α} {sz : Nat} : Le (.slice sz (((l.map enc).drop 0).take l.length)) (.slice sz (l.map enc)) := Le.of_eq (by rw [List.drop_zero, List.take_of_length_le (by simp)])
theorem A5.le {P : Program} {k : Nat} {ds ds' : List DV} {Q : DV -> Prop} (h : A5 P k ds Q) (hl : L2 ds' ds) : A5 P k ds' Q :=
 ⟨h.enters, fun O w vs h1 h2 h3 => h.run O w vs h1 (by rw [h2, hl.len]) fun i v d hv hd => by
  have hi := (List.getElem?_eq_some_iff.1 hd).1
  have hlen := hl.len
  have hx : ds'[i]? = some (ds'[i]'(by omega)) := List.getElem?_eq_getElem _
  exact hl.get i _ d hx hd _ _ _ (h3 i v _ hv hx)⟩
theorem GV.le {P : Program} {k : Nat} {ds ds' : List DV} {e sz : Nat} {el : List (List DV)} (h : GV P k ds e sz el) (hl : L2 ds' ds) : GV P k ds' e sz el :=
 ⟨h.enters, fun O w vs h1 h2 h3 => h.run O w vs h1 (by rw [h2, hl.len]) fun i v d hv hd => by
  have hi := (List.getElem?_eq_some_iff.1 hd).1
  have hlen := hl.len
  have hx : ds'[i]? = some (ds'[i]'(by omega)) := List.getElem?_eq_getElem _
  exact hl.get i _ d hx hd _ _ _ (h3 i v _ hv hx)⟩
section
variable {κ υ : Type} [BEq κ]
def As (m : List (κ × υ)) (x : κ) : Option υ := match m with
 | [] => none
 | p :: m => if x == p.1 then some p.2 else As m x
def BE (x : κ) (v : υ) : List (κ × υ) -> List (κ × υ)
 | [] => [(x, v)]
 | p :: m => if x == p.1 then (p.1, v) :: m else p :: BE x v m
structure LZ (AE : BH) (kt : Nat) (ke : κ -> DV) : Prop where
 eq : ∀ a b, ES (ke a) (ke b) = (a == b)
 fits : ∀ a, CB AE kt (ke a) = true
def Ax (ke : κ -> DV) (ve : υ -> DV) (m : List (κ × υ)) : List (DV × DV) := m.map fun p => (ke p.1, ve p.2)
variable {AE : BH} {kt : Nat} {ke : κ -> DV} {ve : υ -> DV}
theorem L3 (hk : LZ AE kt ke) (x : κ) : ∀ m : List (κ × υ), Fs (ke x) (Ax ke ve m) = (As m x).map ve
 | [] => by simp [Ax, Fs, Da, As]
 | p :: m => by
  have ih := L3 hk x m
  simp only [Ax, Fs] at ih
  simp only [Ax, List.map_cons, Fs, Da, hk.eq, As]
  by_cases h : (x == p.1) = true
  .simp [h]
  simp only [h]
  simp only [Bool.false_eq_true, if_false, Option.map_map]
  rw [<- ih]
  cases Da (ke x) (m.map fun p => (ke p.1, ve p.2)) <;> simp
theorem SV (hk : LZ AE kt ke) (x : κ) (v : υ) : ∀ m : List (κ × υ), MO (ke x) (ve v) (Ax ke ve m) = Ax ke ve (BE x v m)
 | [] => by simp [Ax, MO, BE]
 | p :: m => by
  have ih := SV hk x v m
  simp only [Ax] at ih
  simp only [Ax, List.map_cons, MO, hk.eq, BE]
  by_cases h : (x == p.1) = true
  .simp [h]
  simp only [h]
  simp only [Bool.false_eq_true, if_false, List.map_cons, ih]
theorem L4 (hk : LZ AE kt ke) (m : List (κ × υ)) : ((Ax ke ve m).all fun p => CB AE kt p.1) = true := by
 simp only [Ax, List.all_map, List.all_eq_true, Function.comp]
 intro p _; exact hk.fits _
end
section
variable {β : Type}
def T9 (t : Nat) : Ag -> (Ag -> Option β) -> Option β
 | [], k => k []
 | (q, u) :: l, k => match Nat.beq t q with
  | true => T9 t l k
  | false => T9 t l (fun r => k ((q, u) :: r))
theorem Rw {t : Nat} : ∀ {l : Ag} {k : Ag -> Option β}, T9 t l k = k (JC t l)
 | [], k => rfl
 | (q, u) :: l, k => by
  simp only [T9, JC]
  by_cases h : t = q
  .subst h; simp only [Nat.beq_refl, if_true]; exact Rw
  have : Nat.beq t q = false := by
   cases hb : Nat.beq t q with
   | false => rfl
   | true => exact absurd (Nat.eq_of_beq_eq_true hb) h
  rw [this, if_neg h]
  exact Rw
end
section
variable {P : Program} {A : BZ} {AE : BH} {f : St -> Prop} {hf : JE f} {nt : Nat} {sl : List (Nat × LV)} {h : Ag} {c : Nat} {d : Tmp}
theorem H9 {args : List Operand} {ls : List LV} (hl : Eh nt sl args some = some ls) : args.map (St.eval ⟨nt, sl, h, c⟩) = ls := by
 rw [KY, Option.some.injEq] at hl
 rw [<- hl]
 exact List.map_congr_left fun x _ => (BO (h := h) (c := c)).symm
theorem AS {fo : Operand} {args : Array Operand} {ts : Array TypeId} {k : Nat} {caps ls : List LV} {ds : List DV} {r : DV} (hF : A5 P k ds (· = r)) (hs : r.scalar = true \/ (ls ++ caps).flatMap (D6 h) = [])
  (hfn : BK nt sl fo = .fn k caps) (hl : Eh nt sl args.toList some = some ls) (hds : By h (ls ++ caps) = some ds) (kk : f ⟨nt, (d, .p r) :: sl, h, c⟩) : BR P A AE ⟨nt, sl, h, c⟩ (some d) (.call ⟨.value fo, args, ts⟩) ⟨f, hf⟩ := by
 rw [BO (h := h) (c := c)] at hfn
 show N5 _ _
 rw [hfn]
 show J8 P A h c k (args.toList.map _ ++ caps) _
 rw [H9 hl]
 exact AAc hds hF hs kk
theorem ZS {fo : Operand} {args : Array Operand} {ts : Array TypeId} {k : Nat} {caps ls : List LV} {ds : List DV} {r : DV} {h' : Ag} (hF : A5 P k ds (· = r)) (hs : r.scalar = false)
  (hfn : BK nt sl fo = .fn k caps) (hl : Eh nt sl args.toList some = some ls) (hds : By h (ls ++ caps) = some ds) (hd : Ce ((ls ++ caps).flatMap (D6 h)) h = h') (kk : f ⟨nt, (d, .p r) :: sl, h', c⟩) : BR P A AE ⟨nt, sl, h, c⟩ (some d) (.call ⟨.value fo, args, ts⟩) ⟨f, hf⟩ := by
 rw [BO (h := h) (c := c)] at hfn
 show N5 _ _
 rw [hfn]
 show J8 P A h c k (args.toList.map _ ++ caps) _
 rw [H9 hl]
 exact AAd hds hF hs hd kk
theorem BA {fo : Operand} {args : Array Operand} {ts : Array TypeId} {k : Nat} {caps ls : List LV} {ds : List DV} {r : DV} (hF : A5 P k ds (· = r)) (hs : r.scalar = true \/ (ls ++ caps).flatMap (D6 h) = [])
  (hfn : BK nt sl fo = .fn k caps) (hl : Eh nt sl args.toList some = some ls) (hds : By h (ls ++ caps) = some ds) (kk : f ⟨nt, (d, .p r) :: sl, h, c⟩) : JH P A AE ⟨nt, sl, h, c⟩ (some d) (.call ⟨.value fo, args, ts⟩) ⟨f, hf⟩ := by
 rw [BO (h := h) (c := c)] at hfn
 show N5 _ _
 rw [hfn]
 refine .inl ?_
 show YL P h k (args.toList.map _ ++ caps) _
 rw [H9 hl]
 exact AA4 hds hF hs kk
def WX (AE : BH) (t e sz : Nat) : Bool := match AE.tt t with
 | some ti => match ti.sh with
  | .slc e' => match AE.tt e with
   | some te => Nat.beq e' e && (Nat.beq te.size sz && (Nat.blt 0 sz && Nat.ble te.bytes 32768))
   | none => false
  | _ => false
 | none => false
theorem Vq {t e sz : Nat} (h : WX AE t e sz = true) : ∃ ti te, AE.tt t = some ti /\ ti.sh = .slc e /\ AE.tt e = some te /\ te.size = sz /\ 0 < sz /\ te.bytes <= 32768 := by
 unfold WX at h
 split at h
 .rename_i ti hti
  split at h
  .rename_i e' he
   split at h
   .rename_i te hte
    simp only [Bool.and_eq_true] at h
    obtain ⟨h1, h2, h3, h4⟩ := h
    have := Nat.eq_of_beq_eq_true h1
    subst this
    exact ⟨ti, te, hti, he, hte, Nat.eq_of_beq_eq_true h2, Nat.le_of_ble_eq_true h3, Nat.le_of_ble_eq_true h4⟩
   cases h
  cases h
 cases h
variable {α : Type} {enc : α -> List DV} {l m r : List α} {t e sz : Nat} {s x : Operand}
def WY (enc : α -> List DV) (sz : Nat) : Prop := ∀ a, (enc a).length = sz /\ (enc a).all DV.cell = true
theorem SW (hr : A8 l m = some r) : r = l ++ m /\ l.length + m.length <= 4294967296 := by
 simp only [A8] at hr
 split at hr
 .simp only [Option.some.injEq] at hr; exact ⟨hr.symm, ‹_›⟩
 cases hr
theorem SX {n b : Nat} (hb : b <= 32768) (hn : n <= 4294967296) : n * b <= 140737488355328 :=
 Nat.le_trans (Nat.mul_le_mul hn hb) (by decide)
theorem Vr {n : Nat} (hn : n <= 4294967296) : n <= maxLen := by unfold maxLen; omega
theorem XV (hr : A8 [] m = some r) (hen : WY enc sz) (hs : BK nt sl s = .p .nils) (hx : K0 h (BK nt sl x) = some (m.map enc)) (ht : WX AE t e sz = true)
  (k : f ⟨nt, (d, .lsl c sz 0 r.length) :: sl, (c, .row e sz (r.map enc)) :: h, c + 1⟩) : BR P A AE ⟨nt, sl, h, c⟩ (some d) (.call ⟨.builtin .append, #[s, x], #[t, t]⟩) ⟨f, hf⟩ := by
 obtain ⟨ti, te, h1, h2, h3, h4, h5, h6⟩ := Vq ht
 obtain ⟨rfl, hn⟩ := SW hr
 simp only [List.length_nil, Nat.zero_add] at hn
 rw [BO (h := h) (c := c)] at hs hx
 subst h4
 refine ⟨rfl, Ad.2 ⟨ti, h1, Cd.2 ⟨e, h2, Ad.2 ⟨te, h3, h5, Ac.2 ⟨_, hx, ?_, ?_⟩⟩⟩⟩⟩
 .intro y hy
  obtain ⟨a, _, rfl⟩ := List.mem_map.1 hy
  exact hen a
 rw [hs]
 simp only [Tv, List.length_map]
 exact ⟨⟨SX h6 hn, Vr hn⟩, k⟩
theorem Au {id n : Nat} {h' : Ag} (hr : A8 l m = some r) (hen : WY enc sz) (hs : BK nt sl s = .lsl id sz 0 n) (hl : Bt id h = some (.row e sz (l.map enc))) (hn : n = l.length) (hd : T9 id h some = some h')
  (hx : K0 h (BK nt sl x) = some (m.map enc)) (ht : WX AE t e sz = true)
  (k : f ⟨nt, (d, .lsl c sz 0 r.length) :: sl, (c, .row e sz (r.map enc)) :: h', c + 1⟩) : BR P A AE ⟨nt, sl, h, c⟩ (some d) (.call ⟨.builtin .append, #[s, x], #[t, t]⟩) ⟨f, hf⟩ := by
 obtain ⟨ti, te, h1, h2, h3, h4, h5, h6⟩ := Vq ht
 obtain ⟨rfl, hb⟩ := SW hr
 rw [BO (h := h) (c := c)] at hs hx
 rw [Rw, Option.some.injEq] at hd
 rw [Bn] at hl
 subst h4 hn hd
 refine ⟨rfl, Ad.2 ⟨ti, h1, Cd.2 ⟨e, h2, Ad.2 ⟨te, h3, h5, Ac.2 ⟨_, hx, ?_, ?_⟩⟩⟩⟩⟩
 .intro y hy
  obtain ⟨a, _, rfl⟩ := List.mem_map.1 hy
  exact hen a
 rw [hs]
 simp only [Tv]
 refine ⟨trivial, Ac.2 ⟨_, hl, ?_⟩⟩
 dsimp only
 refine GY.2 ⟨e, te.size, l.map enc, rfl, ?_⟩
 refine ⟨⟨rfl, rfl, by simp, by rw [List.length_map]; exact SX h6 hb, by rw [List.length_map]; exact Vr hb⟩, ?_⟩
 have e1 : ((l.map enc).drop 0).take l.length ++ m.map enc = (l ++ m).map enc := by rw [List.drop_zero, List.take_of_length_le (by simp), List.map_append]
 rw [List.length_append] at k
 simp only [e1, List.length_map]
 exact k
theorem Bf {i : Operand} {kk : IntKind} {n : Int} {id len : Nat} {y : α} (hy : Ak l n = some y) (ht : NY AE t sz = true) (hx : BK nt sl x = .lsl id sz 0 len) (hi : BK nt sl i = .p (.int kk n)) (hn : len = l.length)
  (k : f ⟨nt, (d, .lpe id n.toNat 0) :: sl, h, c⟩) : BR P A AE ⟨nt, sl, h, c⟩ (some d) (.indexAddr t x i) ⟨f, hf⟩ := by
 obtain ⟨ti, e, te, h1, h2, h3, h4⟩ := NZ ht
 obtain ⟨g1, g2, g3⟩ := Gf hy
 rw [BO (h := h) (c := c)] at hx hi
 refine CY.2 ⟨kk, n, hi, Ad.2 ⟨ti, h1, ?_⟩⟩
 dsimp only
 rw [h2, hx]
 refine Ad.2 ⟨te, h3, h4, ⟨g1, by omega⟩, ?_⟩
 simp only [Nat.zero_add]
 exact k
theorem Cl {n : Int} {id o : Nat} {y : α} {v : LV} (hy : Ak l n = some y) (hx : BK nt sl x = .lpe id n.toNat o) (hl : Bt id h = some (.row e sz (l.map enc)))
  (hv : (match AE.tt t with | some ti => Qj ti o (enc y) some | none => none) = some v) (k : f ⟨nt, (d, v) :: sl, h, c⟩) : BR P A AE ⟨nt, sl, h, c⟩ (some d) (.load t x) ⟨f, hf⟩ := by
 obtain ⟨g1, g2, g3⟩ := Gf hy
 rw [BO (h := h) (c := c)] at hx
 rw [Bn] at hl
 split at hv
 .rename_i ti hti
  rw [QA] at hv
  obtain ⟨u, h1, h2⟩ := Option.bind_eq_some_iff.1 hv
  simp only [Option.some.injEq] at h2
  subst h2
  refine Ad.2 ⟨ti, hti, ?_⟩
  rw [hx]
  refine Ac.2 ⟨_, hl, ?_⟩
  dsimp only
  refine GY.2 ⟨e, sz, l.map enc, rfl, ?_⟩
  exact Ac.2 ⟨enc y, by rw [List.getElem?_map, g3]; rfl, Ac.2 ⟨u, h1, k⟩⟩
 cases hv
theorem HO {n : Int} {id o : Nat} {y z : α} {v : Operand} {ls : List LV} {ds : List DV} {h' : Ag} (hy : Ak l n = some y) (hx : BK nt sl x = .lpe id n.toNat o) (hl : Bt id h = some (.row e sz (l.map enc)))
  (hc : LW (BK nt sl v) some = some ls) (hds : Hc ls = some ds) (hsz : (match AE.tt t with | some ti => Nat.beq ls.length ti.size && Oa ls | none => false) = true) (hz : Cv (enc y) o ds = enc z) (hlen : Nat.ble (o + ls.length) (enc y).length = true)
  (hu : MQ id (.row e sz ((A9 l n z).map enc)) h some = some h') (k : f ⟨nt, sl, h', c⟩) : BR P A AE ⟨nt, sl, h, c⟩ none (.store t x v) ⟨f, hf⟩ := by
 obtain ⟨g1, g2, g3⟩ := Gf hy
 rw [BO (h := h) (c := c)] at hx hc
 rw [Bn] at hl
 rw [I2, Option.some.injEq] at hu
 subst hu
 split at hsz
 .rename_i ti hti
  simp only [Bool.and_eq_true] at hsz
  rw [KX, Option.bind_eq_some_iff] at hc
  obtain ⟨ls', h1, h2⟩ := hc
  simp only [Option.some.injEq] at h2
  subst h2
  refine Ad.2 ⟨ti, hti, Ac.2 ⟨ls', h1, ⟨Nat.eq_of_beq_eq_true hsz.1, by rw [<- Ob]; exact hsz.2⟩, ?_⟩⟩
  rw [hx]
  refine Ac.2 ⟨_, hl, ?_⟩
  dsimp only
  refine GY.2 ⟨e, sz, l.map enc, rfl, ?_⟩
  refine Ac.2 ⟨enc y, by rw [List.getElem?_map, g3]; rfl, Ac.2 ⟨ds, hds, Nat.le_of_ble_eq_true hlen, ?_⟩⟩
  dsimp only
  rw [hz]
  simp only [A9, List.map_set] at k
  exact k
 cases hsz
def Vs (AE : BH) (t kt et : Nat) : Bool := match AE.tt t with
 | some ti => match ti.sh with
  | .mp k e => Nat.beq k kt && Nat.beq e et
  | _ => false
 | none => false
theorem Qr {kt et : Nat} (h : Vs AE t kt et = true) : ∃ ti, AE.tt t = some ti /\ ti.sh = .mp kt et := by
 unfold Vs at h
 split at h
 .rename_i ti hti
  split at h
  .rename_i k e he
   simp only [Bool.and_eq_true] at h
   have h1 := Nat.eq_of_beq_eq_true h.1; have h2 := Nat.eq_of_beq_eq_true h.2
   subst h1 h2
   exact ⟨ti, hti, he⟩
  cases h
 cases h
variable {κ υ : Type} [BEq κ] {ke : κ -> DV} {ve : υ -> DV} {mp : List (κ × υ)} {kt et : Nat} {i : Operand}
theorem QE {o : Option υ} {z : υ} : (o.map ve).getD (ve z) = ve (o.getD z) := by cases o <;> rfl
theorem JL {y : κ} (z : υ) (hk : LZ AE kt ke) (hm : K1 h (BK nt sl x) = some (Ax ke ve mp)) (hi : BK nt sl i = .p (ke y)) (ht : Vs AE t kt et = true) (hz : (AE.tt et).map TI.zeroDV = some (ve z))
  (k : f ⟨nt, (d, .tup [.p (ve ((As mp y).getD z)), .p (.bool (As mp y).isSome)]) :: sl, h, c⟩) : BR P A AE ⟨nt, sl, h, c⟩ (some d) (.lookup t x i true) ⟨f, hf⟩ := by
 obtain ⟨ti, h1, h2⟩ := Qr ht
 rw [BO (h := h) (c := c)] at hm hi
 obtain ⟨te, h3, h4⟩ := Option.map_eq_some_iff.1 hz
 refine Ad.2 ⟨ti, h1, Ft.2 ⟨kt, et, h2, Ad.2 ⟨te, h3, Ac.2 ⟨_, hm, DN.2 ⟨_, hi, ⟨hk.fits y, L4 hk mp⟩, ?_⟩⟩⟩⟩⟩
 simp only [if_true, L3 hk, h4, QE, Option.isSome_map]
 exact k
theorem K4 {y : κ} (z : υ) (hk : LZ AE kt ke) (hm : K1 h (BK nt sl x) = some (Ax ke ve mp)) (hi : BK nt sl i = .p (ke y)) (ht : Vs AE t kt et = true) (hz : (AE.tt et).map TI.zeroDV = some (ve z))
  (k : f ⟨nt, (d, .p (ve ((As mp y).getD z))) :: sl, h, c⟩) : BR P A AE ⟨nt, sl, h, c⟩ (some d) (.lookup t x i false) ⟨f, hf⟩ := by
 obtain ⟨ti, h1, h2⟩ := Qr ht
 rw [BO (h := h) (c := c)] at hm hi
 obtain ⟨te, h3, h4⟩ := Option.map_eq_some_iff.1 hz
 refine Ad.2 ⟨ti, h1, Ft.2 ⟨kt, et, h2, Ad.2 ⟨te, h3, Ac.2 ⟨_, hm, DN.2 ⟨_, hi, ⟨hk.fits y, L4 hk mp⟩, ?_⟩⟩⟩⟩⟩
 simp only [Bool.false_eq_true, if_false, L3 hk, h4, QE]
 exact k
theorem JM {y : κ} {z : υ} {id : Nat} {v : Operand} {h' : Ag} (hk : LZ AE kt ke) (hx : BK nt sl x = .lmap id) (hm : Bt id h = some (.map (Ax ke ve mp))) (hi : BK nt sl i = .p (ke y)) (hv : BK nt sl v = .p (ve z)) (ht : Vs AE t kt et = true)
  (hu : MQ id (.map (Ax ke ve (BE y z mp))) h some = some h') (k : f ⟨nt, sl, h', c⟩) : BR P A AE ⟨nt, sl, h, c⟩ none (.mapUpdate t x i v) ⟨f, hf⟩ := by
 obtain ⟨ti, h1, h2⟩ := Qr ht
 rw [BO (h := h) (c := c)] at hx hi hv
 rw [Bn] at hm
 rw [I2, Option.some.injEq] at hu
 subst hu
 refine Ad.2 ⟨ti, h1, Ft.2 ⟨kt, et, h2, FD.2 ⟨id, hx, Ac.2 ⟨_, hm, ?_⟩⟩⟩⟩
 dsimp only
 refine GX.2 ⟨Ax ke ve mp, rfl, ?_⟩
 refine DN.2 ⟨_, hi, DN.2 ⟨_, hv, ⟨hk.fits y, L4 hk mp⟩, ?_⟩⟩
 rw [SV hk]
 exact k
theorem AAf {ks : List Sh} {xs ys : List DV} {b : Bool} {y : Operand} {t' : Nat} (hb : CX xs ys = b) (hx : BK nt sl x = .p (.agg xs)) (hy : BK nt sl y = .p (.agg ys)) (hk : AE.eqk t = some ks) (f1 : fits ks xs = true) (f2 : fits ks ys = true)
  (k : f ⟨nt, (d, .p (.bool b)) :: sl, h, c⟩) : BR P A AE ⟨nt, sl, h, c⟩ (some d) (.binOp .eql t x y t') ⟨f, hf⟩ := by
 rw [BO (h := h) (c := c)] at hx hy
 show OX AE .eql t _ _ _
 rw [hx, hy]
 exact Ac.2 ⟨ks, hk, f1, f2, by rw [hb]; exact k⟩
theorem La {ks : List Sh} {xs ys : List DV} {b : Bool} {y : Operand} {t' : Nat} (hb : CX xs ys = b) (hx : BK nt sl x = .p (.agg xs)) (hy : BK nt sl y = .p (.agg ys)) (hk : AE.eqk t = some ks) (f1 : fits ks xs = true) (f2 : fits ks ys = true)
  (k : f ⟨nt, (d, .p (.bool b)) :: sl, h, c⟩) : JH P A AE ⟨nt, sl, h, c⟩ (some d) (.binOp .eql t x y t') ⟨f, hf⟩ := by
 rw [BO (h := h) (c := c)] at hx hy
 show P8 AE .eql t _ _ _
 rw [hx, hy]
 exact Ac.2 ⟨ks, hk, f1, f2, by rw [hb]; exact k⟩
theorem Qs {ks : List Sh} {xs ys : List DV} {b : Bool} {y : Operand} {t' : Nat} (hb : CX xs ys = b) (hx : BK nt sl x = .p (.agg xs)) (hy : BK nt sl y = .p (.agg ys)) (hk : AE.eqk t = some ks) (f1 : fits ks xs = true) (f2 : fits ks ys = true)
  (k : f ⟨nt, (d, .p (.bool !b)) :: sl, h, c⟩) : JH P A AE ⟨nt, sl, h, c⟩ (some d) (.binOp .neq t x y t') ⟨f, hf⟩ := by
 rw [BO (h := h) (c := c)] at hx hy
 show P8 AE .neq t _ _ _
 rw [hx, hy]
 exact Ac.2 ⟨ks, hk, f1, f2, by rw [hb]; exact k⟩
end
end Go.E
/- Rules for a function's beginning and end, and for states that are made weaker, by unfolding alone. No condition. -/
namespace Go.E
open Go Go.RowKit
abbrev li (n : Int) : LV := .p (.int .i64 n)
abbrev lb (b : Bool) : LV := .p (.bool b)
abbrev lq (l : List DV) : LV := .p (.place l 0)
abbrev ls {α : Type} (sz : Nat) (enc : α -> List DV) (l : List α) : LV := .p (.slice sz (l.map enc))
section
variable {P : Program} {A : BZ} {AE : BH}
theorem fn (hE : BP P AE) {k : Nat} {fn : Func} {c : Code} {ds : List DV} {d : DV} (hf : P.funcs[k]? = some fn) (hb : fn.body = some c) (hn : (fn.name == "runtime.NumGoroutine") = false) (nt : Nat) (hnt : Nat.beq fn.ntmps nt = true)
  (rs : List ResultVar) (hrs : fn.results.toList = rs) (sl : List (Nat × LV)) (hsl : DT 0 ds = sl) (hlen : Nat.ble ds.length nt = true)
  (h : ∀ A : BZ, (∀ id, A.μ0 id = none) -> CJ P A c (NE fun st => ∃ r, GU AE.tt rs st = some r /\ Le r d) ⟨nt, sl, [], 0⟩) : A5 P k ds (· = d) := by
 subst hsl
 exact Zv hE hf hb hn nt (Nat.eq_of_beq_eq_true hnt) rs hrs (Nat.le_of_ble_eq_true hlen) h
theorem er {rs : List ResultVar} {st : St} {r d : DV} (h : GU AE.tt rs st = some r) (hle : Le r d) : NE (fun st => ∃ r, GU AE.tt rs st = some r /\ Le r d) .ret st := ⟨r, h, hle⟩
theorem en {rs : List ResultVar} {st : St} {r d : DV} (h : GU AE.tt rs st = some r) (hle : Le r d) : NE (fun st => ∃ r, GU AE.tt rs st = some r /\ Le r d) .normal st := ⟨r, h, hle⟩
inductive L5 (h : Ag) : LV -> DV -> Prop where
 | p (d : DV) : L5 h (.p d) d
 | own {α : Type} {enc : α -> List DV} (l : List α) {id e sz n : Nat} (hl : Bt id h = some (.row e sz (l.map enc))) (hn : n = l.length) : L5 h (.lsl id sz 0 n) (.slice sz (l.map enc))
 | map {id : Nat} {m : List (DV × DV)} (hl : Bt id h = some (.map m)) : L5 h (.lmap id) (.map m)
 | sub {α : Type} {enc : α -> List DV} (l r : List α) {id e sz off n : Nat} (hl : Bt id h = some (.row e sz (l.map enc))) (hr : off + n <= l.length /\ (l.drop off).take n = r) : L5 h (.lsl id sz off n) (.slice sz (r.map enc))
inductive Qt (h : Ag) : List LV -> List DV -> Prop where
 | nil : Qt h [] []
 | cons {v : LV} {d : DV} {vs : List LV} {ds : List DV} (k : L5 h v d) (r : Qt h vs ds) : Qt h (v :: vs) (d :: ds)
inductive SY (h : Ag) : List LV -> List DV -> Prop where
 | nil : SY h [] []
 | box {us : List LV} {es : List DV} {id off : Nat} {vs : List LV} {ds : List DV} (hl : Bt id h = some (.box us)) (k : Qt h us es) (r : SY h vs ds) : SY h (.lpb id off :: vs) (.place es off :: ds)
 | cons {v : LV} {d : DV} {vs : List LV} {ds : List DV} (k : L5 h v d) (r : SY h vs ds) : SY h (v :: vs) (d :: ds)
inductive Ld (h : Ag) : LV -> DV -> Prop where
 | one {v : LV} {d : DV} (k : L5 h v d) : Ld h v d
 | agg {vs : List LV} {ds : List DV} (k : Qt h vs ds) : Ld h (.agg vs) (.agg ds)
 | tup {vs : List LV} {ds : List DV} (k : Qt h vs ds) : Ld h (.tup vs) (.tup ds)
 | box {vs : List LV} {ds : List DV} {id off : Nat} (hl : Bt id h = some (.box vs)) (k : Qt h vs ds) : Ld h (.lpb id off) (.place ds off)
 | fn {f : Nat} {vs : List LV} {ds : List DV} (k : SY h vs ds) : Ld h (.fn f vs) (.fn f ds)
inductive Co (h : Ag) : List LV -> List DV -> Prop where
 | nil : Co h [] []
 | cons {v : LV} {d : DV} {vs : List LV} {ds : List DV} (k : Ld h v d) (r : Co h vs ds) : Co h (v :: vs) (d :: ds)
theorem L5.eq {h : Ag} {v : LV} {d : DV} (k : L5 h v d) : GS h v = some d := by
 cases k with
 | p => rfl
 | own l hl hn =>
  rw [Bn] at hl
  subst hn
  simp only [GS, hl, Nat.zero_add, List.length_map, Nat.le_refl, and_self, if_true, List.drop_zero]
  rw [List.take_of_length_le (by simp)]
 | map hl => rw [Bn] at hl; simp only [GS, hl]
 | sub l r hl hr =>
  rw [Bn] at hl
  simp only [GS, hl, List.length_map]
  rw [if_pos ⟨trivial, hr.1⟩, <- List.map_drop, <- List.map_take, hr.2]
theorem Qt.eq {h : Ag} {vs : List LV} {ds : List DV} (k : Qt h vs ds) : HL h vs = some ds := by
 induction k with
 | nil => rfl
 | cons k _ ih => simp only [HL, k.eq, ih]
theorem L5.eqb {h : Ag} {v : LV} {d : DV} (k : L5 h v d) : J5 h v = some d := by
 have := k.eq
 cases k <;> exact this
theorem SY.eq {h : Ag} {vs : List LV} {ds : List DV} (k : SY h vs ds) : Gq h vs = some ds := by
 induction k with
 | nil => rfl
 | box hl k _ ih => rw [Bn] at hl; simp only [Gq, J5, hl, k.eq, ih, Option.map_some]
 | cons k _ ih => simp only [Gq, k.eqb, ih]
theorem Ld.eq {h : Ag} {v : LV} {d : DV} (k : Ld h v d) : Fm h v = some d := by
 cases k with
 | one k => cases k with
  | p => rfl
  | own l hl hn => exact L5.eq (.own l hl hn)
  | map hl => exact L5.eq (.map hl)
  | sub l r hl hr => exact L5.eq (.sub l r hl hr)
 | agg k => simp only [Fm, k.eq, Option.map_some]
 | tup k => simp only [Fm, k.eq, Option.map_some]
 | box hl k => rw [Bn] at hl; simp only [Fm, hl, k.eq, Option.map_some]
 | fn k => simp only [Fm, k.eq, Option.map_some]
theorem Co.eq {h : Ag} {vs : List LV} {ds : List DV} (k : Co h vs ds) : By h vs = some ds := by
 induction k with
 | nil => rfl
 | cons k _ ih => simp only [By, k.eq, ih]
theorem GM {rs : List ResultVar} {st : St} {v : LV} {d : DV} (hr : J6 AE.tt st rs = some [v]) (k : Ld st.heap v d) : GU AE.tt rs st = some d := by
 simp only [GU, hr, k.eq]
theorem SZ {rs : List ResultVar} {st : St} {v u : LV} {vs : List LV} {ds : List DV} (hr : J6 AE.tt st rs = some (v :: u :: vs)) (k : Co st.heap (v :: u :: vs) ds) : GU AE.tt rs st = some (.tup ds) := by
 simp only [GU, hr, k.eq, Option.map_some]
def WZ (sl : List (Nat × LV)) (t : Nat) : LV := match Bt t sl with
 | some v => v
 | none => .any
theorem ZT {sl : List (Nat × LV)} {t : Nat} : WZ sl t = Bo sl t := by simp only [WZ, Bo, Bn]; rfl
inductive Vt (gl : List (Nat × Nat)) (sl : List (Nat × LV)) : List (Nat × LV) -> Prop where
 | nil : Vt gl sl []
 | cons {t : Nat} {l : LV} {r : List (Nat × LV)} (h : WZ sl t = Fb gl l) (k : Vt gl sl r) : Vt gl sl ((t, l) :: r)
inductive Vu (gl : List (Nat × Nat)) (h : Ag) : Ag -> Prop where
 | nil : Vu gl h []
 | cons {id old : Nat} {o : BM} {r : Ag} (h1 : Bt id gl = some old) (h2 : Bt old h = some (WP gl o)) (k : Vu gl h r) : Vu gl h ((id, o) :: r)
def Ms (gl : List (Nat × Nat)) : List (Nat × LV) -> Bool
 | [] => true
 | (_, l) :: r => match Dy gl l with
  | true => Ms gl r
  | false => false
def Mt (gl : List (Nat × Nat)) : Ag -> Bool
 | [] => true
 | (_, o) :: r => match Tw gl o with
  | true => Mt gl r
  | false => false
theorem YS {gl : List (Nat × Nat)} {sl sl' : List (Nat × LV)} (h : Vt gl sl sl') : Ms gl sl' = true -> TW gl sl sl' := by
 induction h with
 | nil => intro _; trivial
 | cons h _ ih =>
  intro hn
  simp only [Ms] at hn
  split at hn
  .rename_i hq; exact ⟨⟨hq, by rw [<- ZT]; exact h⟩, ih hn⟩
  cases hn
theorem YT {gl : List (Nat × Nat)} {h h' : Ag} (k : Vu gl h h') : Mt gl h' = true -> TX gl h h' := by
 induction k with
 | nil => intro _; trivial
 | cons h1 h2 _ ih =>
  intro hn
  simp only [Mt] at hn
  split at hn
  .rename_i hq; exact ⟨⟨hq, _, by rw [<- Bn]; exact h1, by rw [<- Bn]; exact h2⟩, ih hn⟩
  cases hn
theorem wk (gl : List (Nat × Nat)) {nt : Nat} {sl sl' : List (Nat × LV)} {h h' : Ag} {c c' : Nat} (hext : ∀ id, A.μ0 id ≠ none -> AL id gl = some id) (ho : Qh gl h' c' = true) (hn : Ms gl sl' = true) (hm : Mt gl h' = true)
  (hs : Vt gl sl sl') (hh : Vu gl h h') : A0 A ⟨nt, sl, h, c⟩ ⟨nt, sl', h', c'⟩ := YK gl hext ho (YS hs hn) (YT hh hm)
def Ta (sl : List (Nat × LV)) : List (Nat × LV) -> List LV
 | [] => []
 | (t, _) :: r => WZ sl t :: Ta sl r
def Tb (gl : List (Nat × Nat)) : List (Nat × LV) -> List LV
 | [] => []
 | (_, l) :: r => Fb gl l :: Tb gl r
def Zy (gl : List (Nat × Nat)) (h : Ag) (id : Nat) : Option BM := match Bt id gl with
 | some old => Bt old h
 | none => none
def Tc (gl : List (Nat × Nat)) (h : Ag) : Ag -> List (Option BM)
 | [] => []
 | (id, _) :: r => Zy gl h id :: Tc gl h r
def Td (gl : List (Nat × Nat)) : Ag -> List (Option BM)
 | [] => []
 | (_, o) :: r => some (WP gl o) :: Td gl r
theorem UA {gl : List (Nat × Nat)} {sl : List (Nat × LV)} : ∀ {sl' : List (Nat × LV)}, Ta sl sl' = Tb gl sl' -> Vt gl sl sl'
 | [], _ => .nil
 | (_, _) :: _, h => .cons (List.cons.inj h).1 (UA (List.cons.inj h).2)
theorem UB {gl : List (Nat × Nat)} {h : Ag} : ∀ {h' : Ag}, Tc gl h h' = Td gl h' -> Vu gl h h'
 | [], _ => .nil
 | (id, o) :: _, e => by
  have e1 := (List.cons.inj e).1
  unfold Zy at e1
  split at e1
  .rename_i old hl; exact .cons hl e1 (UB (List.cons.inj e).2)
  cases e1
def Wa (gl : List (Nat × Nat)) (sl' : List (Nat × LV)) (h' : Ag) (c' : Nat) : Bool := match Qh gl h' c' with
 | true => match Ms gl sl' with
  | true => Mt gl h'
  | false => false
 | false => false
theorem LD {gl : List (Nat × Nat)} {sl' : List (Nat × LV)} {h' : Ag} {c' : Nat} (h : Wa gl sl' h' c' = true) : Qh gl h' c' = true /\ Ms gl sl' = true /\ Mt gl h' = true := by
 unfold Wa at h
 split at h
 .split at h
  .exact ⟨‹_›, ‹_›, h⟩
  cases h
 cases h
def gi : Nat -> List (Nat × Nat) -> List (Nat × Nat)
 | 0, l => l
 | n + 1, l => gi n ((n, n) :: l)
theorem wf {nt : Nat} {sl sl' : List (Nat × LV)} {h h' : Ag} {c c' : Nat} (hA : ∀ id, A.μ0 id = none) (gl : List (Nat × Nat)) (ha : Wa gl sl' h' c' = true) (hs : Ta sl sl' = Tb gl sl') (hh : Tc gl h h' = Td gl h') : A0 A ⟨nt, sl, h, c⟩ ⟨nt, sl', h', c'⟩ :=
 wk gl (fun id h => absurd (hA id) h) (LD ha).1 (LD ha).2.1 (LD ha).2.2 (UA hs) (UB hh)
theorem Ks (hA : ∀ id, A.μ0 id = none) (gl : List (Nat × Nat)) : ∀ id, A.μ0 id ≠ none -> AL id gl = some id := fun id h => absurd (hA id) h
section
variable {σ Ans : Type} {S : σ -> St} {Q : Ans -> Exit -> St -> Prop} {st : St}
theorem lpn {s : σ} (hw : A0 A st (S s)) : LP A S Q (.inl s) .normal st := ⟨rfl, hw⟩
theorem lpx {a : Ans} {id : Nat} (k : Q a (.exit id) st) : LP A S Q (.inr a) (.exit id) st := ⟨nofun, k⟩
theorem lpt {a : Ans} (k : Q a .ret st) : LP A S Q (.inr a) .ret st := ⟨nofun, k⟩
theorem npn {s : σ} (hw : A0 A st (S s)) : NP A S s .normal st := ⟨rfl, hw⟩
end
theorem mp {σ Ans : Type} {o : Option Ans} {b : σ ⊕ Ans} (h : o.map .inr = some b) : ∃ a, o = some a /\ b = .inr a := by
 cases o with
 | none => cases h
 | some a => exact ⟨a, rfl, (Option.some.inj h).symm⟩
theorem mps {σ Ans : Type} {x : Ans} {b : σ ⊕ Ans} (h : some (.inr x) = some b) : ∃ a, some x = some a /\ b = .inr a := ⟨x, rfl, (Option.some.inj h).symm⟩
end
end Go.E
/- Scopes, slices set against nil, functions walked where they are called (Cn), slices handed back (GV). No condition. -/
namespace Go.E
open Go Go.RowKit
section
variable {α : Type} [DecidableEq α]
def Te (a b : Option α) : Option α := if a = b then a else none
theorem Wb {a b : Option α} {x : α} (h : Te a b = some x) : a = some x /\ b = some x := by
 unfold Te at h
 split at h
 .rename_i e; exact ⟨h, e ▸ h⟩
 cases h
def MR {β : Type} (l : List β) (a b : Option α) : Option α := match l with
 | [] => Te a b
 | _ :: _ => b
end
section
variable {P : Program} {A : BZ} {AE : BH} {st : St}
def Zz (Q : Exit -> St -> Prop) : Exit -> St -> Prop
 | .goto _, _ => False
 | e, st => Q e st
theorem sc {c : Code} {Q : Exit -> St -> Prop} (h : CJ P A c (Zz Q) st) : CJ P A (.scope c) Q st := fun a w hR =>
 wp_scope_straight (wp_mono (h a w hR) fun e a' w' ⟨st', hR', q⟩ => by
  cases e <;> first | exact q.elim | exact ⟨st', hR', q⟩)
theorem EF {Q : Exit -> St -> Prop} (h : Q .ret st) : Zz Q .ret st := h
theorem Z0 {Q : Exit -> St -> Prop} {id : Nat} (h : Q (.exit id) st) : Zz Q (.exit id) st := h
section
variable {f : St -> Prop} {hf : JE f} {nt : Nat} {sl : List (Nat × LV)} {h : Ag} {c : Nat} {α Ans : Type} [DecidableEq Ans] {enc : α -> List DV} {l : List α} {d : Tmp} {t t' sz : Nat} {x y : Operand} {p q : Option Ans} {a : Ans}
theorem JN (hh : MR l p q = some a) (ht : Qp AE t = true) (hx : BK nt sl x = .p (.slice sz (l.map enc))) (hy : BK nt sl y = .p .nils)
  (k1 : p = some a -> f ⟨nt, (d, .p (.bool true)) :: sl, h, c⟩) (k2 : q = some a -> f ⟨nt, (d, .p (.bool false)) :: sl, h, c⟩) : BR P A AE ⟨nt, sl, h, c⟩ (some d) (.binOp .eql t x y t') ⟨f, hf⟩ := by
 obtain ⟨ti, e, h1, h2⟩ := QD ht
 rw [BO (h := h) (c := c)] at hx hy
 show OX AE .eql t _ _ _
 rw [hx, hy]
 refine Ad.2 ⟨ti, h1, Cd.2 ⟨e, h2, ?_⟩⟩
 intro r hr
 cases l with
 | nil =>
  obtain ⟨g1, g2⟩ := Wb hh
  cases r with
  | true => exact k1 g1
  | false => exact k2 g2
 | cons z l => rw [hr (by simp)]; exact k2 hh
end
def JO (tt : Nat -> Option TI) (rs : List ResultVar) (st : St) : Option LV :=
 match J6 tt st rs with
 | some [l] => some l
 | some ls => some (.tup ls)
 | none => none
def L6 : Nat -> List LV -> List (Nat × LV)
 | _, [] => []
 | n, d :: ds => (n, d) :: L6 (n + 1) ds
theorem Qu : ∀ (ds : List LV) (n t : Nat), AL t (L6 n ds) = if n <= t then ds[t - n]? else none
 | [], n, t => by simp [L6, AL]
 | d :: ds, n, t => by
  simp only [L6, AL]
  by_cases e : t = n
  .subst e; simp
  rw [if_neg e, Qu ds (n + 1) t]
  by_cases h : n + 1 <= t
  .rw [if_pos h, if_pos (by omega), show t - n = t - (n + 1) + 1 by omega, List.getElem?_cons_succ]
  rw [if_neg h, if_neg (by omega)]
theorem VE (hE : BP P AE) {A : BZ} {μ : Nat -> Option Bs} {F : Nat -> Prop} {st : St} {a : Act} {w : World} (hs : ∀ x, Aq (Ar A μ st.heap) μ w (a.eval x) (st.eval x)) (hh : HRel A μ st.heap F w) {fn : Func} {r : LV} (h : JO AE.tt fn.results.toList st = some r) :
  ∃ v, (results fn a.tmps).run P w = .ok v w /\ Aq (Ar A μ st.heap) μ w v r := by
 unfold JO at h
 cases hr : J6 AE.tt st fn.results.toList with
 | none => rw [hr] at h; cases h
 | some ls =>
  rw [hr] at h
  obtain ⟨vs, g1, g2, g3⟩ := ML (P := P) hE hs hh hr
  have hrun := MM g1
  match ls, vs, g2 with
  | [], [], _ => cases h; exact ⟨_, hrun, .tup _ _ rfl (by simp)⟩
  | [l], [v], _ => simp only [Option.some.injEq] at h; subst h; exact ⟨_, hrun, g3 0 v l rfl rfl⟩
  | l :: m :: ls, u :: v :: vs, g2 => simp only [Option.some.injEq] at h; subst h; exact ⟨_, hrun, .tup _ _ (by simpa using g2) fun i x d hx hd => g3 i x d (by simpa using hx) hd⟩
theorem Vv {c : Code} {Q : Exit -> St -> Prop} (h : CJ P A c (fun e s => ∃ s', A0 A s s' /\ Q e s') st) : CJ P A c Q st := fun a w hR =>
 wp_mono (h a w hR) fun _ a' w' ⟨_, hR', s', hw, q⟩ => ⟨s', hw a' w' hR', q⟩
theorem UC (hE : BP P AE) {k : Nat} {fn : Func} {cd : Code} (hf : P.funcs[k]? = some fn) (hb : fn.body = some cd) (hn : (fn.name == "runtime.NumGoroutine") = false) (nt : Nat) (hnt : fn.ntmps = nt) (rs : List ResultVar) (hrs : fn.results.toList = rs)
  {h : Ag} {ctr : Nat} {args : List LV} (hlen : args.length <= nt) {K : LV -> Ag -> Nat -> Prop}
  (body : ∀ A' : BZ, (∀ id, A'.μ0 id ≠ none -> id < ctr) -> CJ P A' cd (NE fun st => ∃ l, JO AE.tt rs st = some l /\ K l st.heap st.ctr) ⟨nt, L6 0 args, h, ctr⟩) : D5 P A h ctr k args K := by
 subst hnt hrs
 refine ⟨OK hf hb hn, fun μ w vs hh hsz hr => ?_⟩
 have hlt : ∀ id loc, μ id = some loc -> id < ctr := by
  intro id loc hm
  by_cases hi : id < ctr
  .exact hi
  rw [hh.fresh id (by simp only [Fr]; omega)] at hm; cases hm
 let A' : BZ := ⟨w, A.O, CK μ h, fun id => if id < ctr then μ id else none, fun b hb' => ⟨Nat.lt_of_lt_of_le (A.hO b hb').1 hh.size, by
  rintro ⟨id, o, loc, h1, h2, h3, rfl⟩
  exact (hh.base id o loc h1 h2 h3).2.1 hb'⟩⟩
 have hA' : ∀ id, A'.μ0 id ≠ none -> id < ctr := by
  intro id hid
  by_cases hi : id < ctr
  .exact hi
  simp [A', hi] at hid
 have hown : ∀ b, Ar A' μ h b ↔ Ar A μ h b := fun b => Iff.rfl
 have hh' : HRel A' μ h (Fr ctr) w := ⟨hh.obj, hh.inj, hh.fresh, fun id o loc h1 h2 h3 => ⟨(hh.base id o loc h1 h2 h3).1, (hh.base id o loc h1 h2 h3).2.1, .inr ⟨id, o, loc, h1, h2, h3, rfl⟩⟩, Nat.le_refl _, fun _ _ _ => rfl, rfl, rfl, rfl, fun id loc hm => by
  simp only [A'] at hm
  split at hm
  .exact hm
  cases hm⟩
 have hR : R A' ⟨fn.ntmps, L6 0 args, h, ctr⟩ { tmps := vs ++ Array.replicate (fn.ntmps - vs.size) undef, defers := [] } w := by
  refine ⟨⟨μ, hh', fun t ht => ?_⟩, by simp; omega, rfl⟩
  simp only [Bo, Qu, Nat.zero_le, if_true, Nat.sub_zero]
  by_cases hlt' : t < args.length
  .have hv : t < vs.size := by omega
   have e : args[t]? = some args[t] := by simp [hlt']
   rw [e]
   have e2 : (vs ++ Array.replicate (fn.ntmps - vs.size) undef).getD t undef = vs[t] := by
    rw [Array.getD_eq_getD_getElem?, Array.getElem?_append_left hv]; simp [hv]
   rw [e2]
   exact hr t _ _ (by simp [hv]) e
  have e : args[t]? = none := by simp; omega
  rw [e]; exact .any _
 refine calls_of_wp hf hb (wp_mono (body A' hA' _ _ hR) ?_)
 rintro e a' w' ⟨st', ⟨⟨μ', hh2, hs⟩, hnt, hdef⟩, hq⟩
 have fin : (∃ l, JO AE.tt fn.results.toList st' = some l /\ K l st'.heap st'.ctr) -> a'.defers = [] /\ ∃ v, (results fn a'.tmps).run P w' = .ok v w' /\
   ∃ u l h' c' μ', Ending.returned v = .returned u /\ K l h' c' /\ HRel A μ' h' (Fr c') w' /\ Aq (Ar A μ' h') μ' w' u l /\ ∀ v x, Aq (Ar A μ h) μ w v x -> Aq (Ar A μ' h') μ' w' v x := by
  rintro ⟨l, h1, h2⟩
  obtain ⟨v, g1, g2⟩ := VE (P := P) hE (fun x => HY hs x) hh2 h1
  have mineof : ∀ b, b < w.heap.size -> CK μ' st'.heap b -> CK μ h b := by
   rintro b hb' ⟨id, o, loc, k1, k2, k3, rfl⟩
   rcases (hh2.base id o loc k1 k2 k3).2.2 with hb2 | hb2
   .exact absurd hb2 (by show ¬ w.heap.size <= _; omega)
   exact hb2
  have keepμ' : ∀ id loc, μ id = some loc -> μ' id = some loc := fun id loc hm => hh2.ext id loc (by simp only [A']; rw [if_pos (hlt id loc hm)]; exact hm)
  refine ⟨hdef, v, g1, v, l, st'.heap, st'.ctr, μ', rfl, h2, ⟨hh2.obj, hh2.inj, hh2.fresh, fun id o loc k1 k2 k3 => ⟨(hh2.base id o loc k1 k2 k3).1, (hh2.base id o loc k1 k2 k3).2.1, ?_⟩, Nat.le_trans hh.size hh2.size, fun b hb' hnf => ?_, hh2.os.trans hh.os, hh2.tape.trans hh.tape, hh2.output.trans hh.output, fun id loc hm => keepμ' id loc (hh.ext id loc hm)⟩, g2, fun v x hv => hv.mono ⟨hh2.size, fun b hb' hno => hh2.block b hb' fun hm => hno (.inr hm)⟩ (fun b hb' ho => ?_) keepμ'⟩
  .rcases (hh2.base id o loc k1 k2 k3).2.2 with hb2 | ⟨id2, o2, loc2, m1, m2, m3, m4⟩
   .exact .inl (Nat.le_trans hh.size hb2)
   rw [<- m4]; exact (hh.base id2 o2 loc2 m1 m2 m3).2.2
  .have hnm : ¬ CK μ h b := by
    rintro ⟨id2, o2, loc2, m1, m2, m3, rfl⟩
    rcases (hh.base id2 o2 loc2 m1 m2 m3).2.2 with hb2 | hb2
    .omega
    exact hnf hb2
   rw [hh2.block b (Nat.lt_of_lt_of_le hb' hh.size) hnm]
   exact hh.block b hb' hnf
  rcases ho with ho | ho
  .exact .inl ho
  exact .inr (mineof b hb' ho)
 cases e with
 | normal => exact fin hq
 | ret => exact fin hq
 | _ => exact hq.elim
def IP (tt : Nat -> Option TI) (rs : List ResultVar) (A : BZ) (L : LV) (H : Ag) (C : Nat) (e : Exit) (st : St) : Prop :=
 ∃ s', A0 A st s' /\ NE (fun s => JO tt rs s = some L /\ s.heap = H /\ s.ctr = C) e s'
theorem CS {rs : List ResultVar} {L : LV} {nt C : Nat} {sl : List (Nat × LV)} {H : Ag} (hw : A0 A st ⟨nt, sl, H, C⟩) (hr : JO AE.tt rs ⟨nt, sl, H, C⟩ = some L) : IP AE.tt rs A L H C .ret st := ⟨_, hw, hr, rfl, rfl⟩
theorem GN {rs : List ResultVar} {L : LV} {nt C : Nat} {sl : List (Nat × LV)} {H : Ag} (hw : A0 A st ⟨nt, sl, H, C⟩) (hr : JO AE.tt rs ⟨nt, sl, H, C⟩ = some L) : IP AE.tt rs A L H C .normal st := ⟨_, hw, hr, rfl, rfl⟩
section
variable {f : St -> Prop} {hf : JE f} {nt : Nat} {sl : List (Nat × LV)} {h : Ag} {c : Nat} {σ Ans : Type}
theorem Cn (hE : BP P AE) (L : σ -> LV) (H : σ -> Ag) (C : Nat) {sp : Option σ} {rest : σ -> Option Ans} {a : Ans} {dst : Option Tmp} {fo : Operand} {args : Array Operand} {ts : Array TypeId} {k : Nat} {fn : Func} {cd : Code} {caps ls : List LV}
  (hh : sp.bind rest = some a) (hfun : P.funcs[k]? = some fn) (nt' : Nat) (rs : List ResultVar) (sl' : List (Nat × LV)) (hb : fn.body = some cd) (hn : (fn.name == "runtime.NumGoroutine") = false) (hnt : Nat.beq fn.ntmps nt' = true) (hrs : fn.results.toList = rs)
  (hfn : BK nt sl fo = .fn k caps) (hl : Eh nt sl args.toList some = some ls) (hlen : Nat.ble (ls ++ caps).length nt' = true) (hsl : L6 0 (ls ++ caps) = sl')
  (body : ∀ A : BZ, (∀ id, A.μ0 id ≠ none -> id < c) -> ∀ t, sp = some t -> CJ P A cd (IP AE.tt rs A (L t) (H t) C) ⟨nt', sl', h, c⟩)
  (kk : ∀ t, rest t = some a -> f (match dst with | some d => ⟨nt, (d, L t) :: sl, H t, C⟩ | none => ⟨nt, sl, H t, C⟩)) : BR P A AE ⟨nt, sl, h, c⟩ dst (.call ⟨.value fo, args, ts⟩) ⟨f, hf⟩ := by
 obtain ⟨t, h1, h2⟩ := bd hh
 rw [BO (h := h) (c := c)] at hfn
 show N5 _ _
 rw [hfn]
 show J8 P A h c k (args.toList.map _ ++ caps) _
 rw [H9 hl]
 subst hsl
 refine UC hE hfun hb hn nt' (Nat.eq_of_beq_eq_true hnt) rs hrs (Nat.le_of_ble_eq_true hlen) fun A' hA' => ?_
 have := Vv (body A' hA' t h1)
 refine LI this fun e s q => ?_
 have fin : (JO AE.tt rs s = some (L t) /\ s.heap = H t /\ s.ctr = C) -> ∃ l, JO AE.tt rs s = some l /\ f (St.go ⟨nt, sl, h, c⟩ dst l s.heap s.ctr) := by
  rintro ⟨q1, q2, q3⟩
  refine ⟨_, q1, ?_⟩
  rw [q2, q3, PW]
  have := kk t h2
  cases dst <;> exact this
 cases e <;> first | exact fin q | exact q.elim
end
def Qv : Nat -> List (Nat × Nat) -> Bool
 | 0, _ => true
 | n + 1, gl => match Bt n gl with
  | some m => match Nat.beq n m with
   | true => Qv n gl
   | false => false
  | none => false
theorem UD : ∀ {n : Nat} {gl : List (Nat × Nat)}, Qv n gl = true -> ∀ i, i < n -> AL i gl = some i
 | 0, _, _, i, h => by omega
 | n + 1, gl, hk, i, hi => by
  simp only [Qv] at hk
  split at hk
  .rename_i m hm
   split at hk
   .rename_i hb
    have := Nat.eq_of_beq_eq_true hb
    subst this
    by_cases e : i = n
    .subst e; rw [<- Bn]; exact hm
    exact UD hk i (by omega)
   cases hk
  cases hk
theorem kept {n : Nat} (hA : ∀ id, A.μ0 id ≠ none -> id < n) (gl : List (Nat × Nat)) (hk : Qv n gl = true) : ∀ id, A.μ0 id ≠ none -> AL id gl = some id := fun id h => UD hk id (hA id h)
theorem wj {n nt : Nat} {sl sl' : List (Nat × LV)} {h h' : Ag} {c c' : Nat} (hA : ∀ id, A.μ0 id ≠ none -> id < n) (gl : List (Nat × Nat)) (hk : Qv n gl = true) (ha : Wa gl sl' h' c' = true) (hs : Ta sl sl' = Tb gl sl') (hh : Tc gl h h' = Td gl h') : A0 A ⟨nt, sl, h, c⟩ ⟨nt, sl', h', c'⟩ :=
 wk gl (kept hA gl hk) (LD ha).1 (LD ha).2.1 (LD ha).2.2 (UA hs) (UB hh)
section
variable {f : St -> Prop} {hf : JE f} {nt : Nat} {sl : List (Nat × LV)} {h : Ag} {c : Nat} {d : Tmp} {α : Type} {enc : α -> List DV}
theorem Rx {fo : Operand} {args : Array Operand} {ts : Array TypeId} {k e sz : Nat} {caps ls : List LV} {ds : List DV} {r : List α} (hF : GV P k ds e sz (r.map enc))
  (hs : (ls ++ caps).flatMap (D6 h) = []) (hfn : BK nt sl fo = .fn k caps) (hl : Eh nt sl args.toList some = some ls) (hds : By h (ls ++ caps) = some ds)
  (kk : f ⟨nt, (d, .lsl c sz 0 r.length) :: sl, (c, .row e sz (r.map enc)) :: h, c + 1⟩) : BR P A AE ⟨nt, sl, h, c⟩ (some d) (.call ⟨.value fo, args, ts⟩) ⟨f, hf⟩ := by
 rw [BO (h := h) (c := c)] at hfn
 show N5 _ _
 rw [hfn]
 show J8 P A h c k (args.toList.map _ ++ caps) _
 rw [H9 hl]
 refine AAe hds hF hs ?_
 rw [List.length_map]
 exact kk
theorem YU {fo : Operand} {args : Array Operand} {ts : Array TypeId} {k e sz : Nat} {caps ls : List LV} {ds : List DV} {r : List α} (hF : GV P k ds e sz (r.map enc)) (hw : AE.own = true)
  (hs : (ls ++ caps).flatMap (D6 h) = []) (hfn : BK nt sl fo = .fn k caps) (hl : Eh nt sl args.toList some = some ls) (hds : By h (ls ++ caps) = some ds)
  (kk : f ⟨nt, (d, .lsl c sz 0 r.length) :: sl, (c, .row e sz (r.map enc)) :: h, c + 1⟩) : JH P A AE ⟨nt, sl, h, c⟩ (some d) (.call ⟨.value fo, args, ts⟩) ⟨f, hf⟩ := by
 rw [BO (h := h) (c := c)] at hfn
 show N5 _ _
 rw [hfn]
 refine .inr ⟨hw, ds, e, sz, r.map enc, ?_, hF, ?_, ?_⟩
 .show By h (args.toList.map _ ++ caps) = _
  rw [H9 hl]; exact hds
 .show WF (List.flatMap _ (args.toList.map _ ++ caps)) _
  rw [H9 hl]; exact .inl hs
 show f ⟨nt, (d, .lsl c sz 0 (r.map enc).length) :: sl, _, _⟩
 rw [List.length_map]
 exact kk
theorem XW {k : Nat} {fn : Func} {cd : Code} {ds : List DV} {e sz : Nat} {r : List α} (hen : WY enc sz) (hf : P.funcs[k]? = some fn) (hb : fn.body = some cd) (hn : (fn.name == "runtime.NumGoroutine") = false) (nt : Nat) (hnt : Nat.beq fn.ntmps nt = true)
  (t : Nat) (hrs : fn.results.toList = [.tmp t]) (sl : List (Nat × LV)) (hsl : DT 0 ds = sl) (hlen : Nat.ble ds.length nt = true)
  (h : ∀ A : BZ, (∀ id, A.μ0 id = none) -> CJ P A cd (WS t e sz (r.map enc)) ⟨nt, sl, [], 0⟩) : GV P k ds e sz (r.map enc) := by
 subst hsl
 refine ZM hf hb hn nt (Nat.eq_of_beq_eq_true hnt) t hrs (Nat.le_of_ble_eq_true hlen) (fun x hx => ?_) h
 obtain ⟨a, _, rfl⟩ := List.mem_map.1 hx
 exact (hen a).1
theorem XX {t e sz id n : Nat} {r : List α} (hv : BK nt sl (.tmp t) = .lsl id sz 0 n) (hl : Bt id h = some (.row e sz (r.map enc))) (hn : n = r.length) : WS t e sz (r.map enc) .ret ⟨nt, sl, h, c⟩ := by
 rw [BO (h := h) (c := c)] at hv
 rw [Bn] at hl
 refine .inl ⟨id, ?_, hl⟩
 rw [hv, hn, List.length_map]
theorem YV {t e sz : Nat} (hv : BK nt sl (.tmp t) = .p .nils) : WS t e sz (([] : List α).map enc) .ret ⟨nt, sl, h, c⟩ := by
 rw [BO (h := h) (c := c)] at hv
 exact .inr ⟨hv, rfl⟩
end
end
end Go.E
/- Rules for single operations: arrays, division, a nil slice as an empty one. No condition. -/
namespace Go.E
open Go Go.RowKit
section
variable {P : Program} {A : BZ} {AE : BH} {f : St -> Prop} {hf : JE f} {nt : Nat} {sl : List (Nat × LV)} {h : Ag} {c : Nat} {d : Tmp} {α : Type} {l : List α} {t : Nat} {x i : Operand}
theorem BC {α : Type} (l : List α) (n : Int) (z : α) : (A9 l n z).length = l.length := by simp [A9]
def Wc (AE : BH) (t m : Nat) : Bool := match AE.tt t with
 | some ti => match ti.sh with
  | .arr n e => match AE.tt e with
   | some te => match te.sh with
    | .struct _ | .arr _ _ => false
    | _ => Nat.beq n m && Nat.beq te.size 1
   | none => false
  | _ => false
 | none => false
theorem Vw {t m : Nat} (h : Wc AE t m = true) : ∃ ti e te, AE.tt t = some ti /\ ti.sh = .arr m e /\ AE.tt e = some te /\ te.size = 1 /\ te.sh.isAgg = false := by
 unfold Wc at h
 split at h
 .rename_i ti hti
  split at h
  .rename_i n e he
   split at h
   .rename_i te hte
    split at h
    .cases h
    .cases h
    rename_i k1 k2
    simp only [Bool.and_eq_true] at h
    have h1 := Nat.eq_of_beq_eq_true h.1
    subst h1
    refine ⟨ti, e, te, hti, he, hte, Nat.eq_of_beq_eq_true h.2, ?_⟩
    cases hq : te.sh <;> first | rfl | exact absurd hq (k1 _) | exact absurd hq (k2 _ _)
   cases h
  cases h
 cases h
theorem AAg {n : Int} {kk : IntKind} {id : Nat} {y : α} (hy : Ak l n = some y) (ht : Wc AE t l.length = true) (hx : BK nt sl x = .lpb id 0) (hi : BK nt sl i = .p (.int kk n)) (_ : True = True)
  (k : f ⟨nt, (d, .lpb id n.toNat) :: sl, h, c⟩) : BR P A AE ⟨nt, sl, h, c⟩ (some d) (.indexAddr t x i) ⟨f, hf⟩ := by
 obtain ⟨ti, e, te, h1, h2, h3, h4, _⟩ := Vw ht
 obtain ⟨g1, g2, g3⟩ := Gf hy
 rw [BO (h := h) (c := c)] at hx hi
 refine CY.2 ⟨kk, n, hi, Ad.2 ⟨ti, h1, ?_⟩⟩
 dsimp only
 rw [h2, hx]
 refine Ad.2 ⟨te, h3, ⟨g1, by omega⟩, ?_⟩
 simp only [Nat.zero_add, h4, Nat.mul_one]
 exact k
def Wd (AE : BH) (t : Nat) : Bool := match AE.tt t with
 | some ti => match ti.sh with
  | .struct _ | .arr _ _ => false
  | _ => true
 | none => false
theorem YW {t : Nat} (h : Wd AE t = true) : ∃ ti, AE.tt t = some ti /\ ti.sh.isAgg = false := by
 unfold Wd at h
 split at h
 .rename_i ti hti
  refine ⟨ti, hti, ?_⟩
  split at h
  .cases h
  .cases h
  rename_i k1 k2
  cases hq : ti.sh <;> first | rfl | exact absurd hq (k1 _) | exact absurd hq (k2 _ _)
 cases h
theorem AAh {n : Int} {id : Nat} {y : α} {g : α -> LV} (hy : Ak l n = some y) (hx : BK nt sl x = .lpb id n.toNat) (hl : Bt id h = some (.box (l.map g))) (ht : Wd AE t = true) (_ : True = True)
  (k : f ⟨nt, (d, g y) :: sl, h, c⟩) : BR P A AE ⟨nt, sl, h, c⟩ (some d) (.load t x) ⟨f, hf⟩ := by
 obtain ⟨ti, h1, h2⟩ := YW ht
 obtain ⟨g1, g2, g3⟩ := Gf hy
 rw [BO (h := h) (c := c)] at hx
 rw [Bn] at hl
 refine Ad.2 ⟨ti, h1, ?_⟩
 rw [hx]
 refine Ac.2 ⟨_, hl, ?_⟩
 dsimp only
 refine Iw.2 ⟨_, rfl, ?_⟩
 refine Ac.2 ⟨g y, ?_, k⟩
 simp only [DI, h2, Bool.false_eq_true, if_false, List.getElem?_map, g3, Option.map_some]
theorem AAi {n : Int} {kk : IntKind} {y : α} {g : α -> DV} (hy : Ak l n = some y) (ht : Wc AE t l.length = true) (hx : BK nt sl x = .p (.agg (l.map g))) (hi : BK nt sl i = .p (.int kk n)) (_ : True = True)
  (k : f ⟨nt, (d, .p (g y)) :: sl, h, c⟩) : BR P A AE ⟨nt, sl, h, c⟩ (some d) (.index t x i) ⟨f, hf⟩ := by
 obtain ⟨ti, e, te, h1, h2, h3, h4, h5⟩ := Vw ht
 obtain ⟨g1, g2, g3⟩ := Gf hy
 rw [BO (h := h) (c := c)] at hx hi
 refine CY.2 ⟨kk, n, hi, Ad.2 ⟨ti, h1, g1, ?_⟩⟩
 dsimp only
 rw [h2, hx]
 refine Ad.2 ⟨te, h3, by show n < (l.length : Int); omega, Ac.2 ⟨.p (g y), ?_, k⟩⟩
 simp only [DI, h5, Bool.false_eq_true, if_false, h4, Nat.mul_one, List.map_map, List.getElem?_map, g3, Option.map_some, Function.comp]
theorem XY {a b r : Int} {y : Operand} {t' : Nat} (hr : Oh a b = some r) (hx : BK nt sl x = .p (.int .u8 a)) (hy : BK nt sl y = .p (.int .u8 b)) (k : f ⟨nt, (d, .p (.int .u8 r)) :: sl, h, c⟩) :
  BR P A AE ⟨nt, sl, h, c⟩ (some d) (.binOp .quo t x y t') ⟨f, hf⟩ := by
 rw [BO (h := h) (c := c)] at hx hy
 simp only [Oh] at hr
 split at hr
 .cases hr
 rename_i hb
 simp only [Option.some.injEq] at hr
 subst hr
 show OX AE .quo t _ _ _
 rw [hx, hy]
 exact ⟨rfl, hb, by rw [Hb, if_neg hb]; exact k⟩
theorem Qw {kk : IntKind} {a b r : Int} {y : Operand} {t' : Nat} (hr : HK a b = some r) (hx : BK nt sl x = .p (.int kk a)) (hy : BK nt sl y = .p (.int kk b)) (k : f ⟨nt, (d, .p (.int kk r)) :: sl, h, c⟩) :
  BR P A AE ⟨nt, sl, h, c⟩ (some d) (.binOp .rem t x y t') ⟨f, hf⟩ := by
 rw [BO (h := h) (c := c)] at hx hy
 simp only [HK] at hr
 split at hr
 .cases hr
 rename_i hb
 simp only [Option.some.injEq] at hr
 subst hr
 show OX AE .rem t _ _ _
 rw [hx, hy]
 exact ⟨rfl, hb, by rw [Hb, if_neg hb]; exact k⟩
theorem Z1 {kk : IntKind} {a b r : Int} {y : Operand} {t' : Nat} (hr : HK a b = some r) (hx : BK nt sl x = .p (.int kk a)) (hy : BK nt sl y = .p (.int kk b)) (k : f ⟨nt, (d, .p (.int kk r)) :: sl, h, c⟩) :
  JH P A AE ⟨nt, sl, h, c⟩ (some d) (.binOp .rem t x y t') ⟨f, hf⟩ := by
 rw [BO (h := h) (c := c)] at hx hy
 simp only [HK] at hr
 split at hr
 .cases hr
 rename_i hb
 simp only [Option.some.injEq] at hr
 subst hr
 show P8 AE .rem t _ _ _
 rw [hx, hy]
 exact ⟨rfl, hb, by rw [Hb, if_neg hb]; exact k⟩
section
variable {κ υ : Type} [BEq κ] {ke : κ -> DV} {ve : υ -> DV} {mp : List (κ × υ)} {kt et : Nat}
def Lb (m : List (κ × υ)) (x : κ) : Nat := match m with
 | [] => 0
 | p :: m => if x == p.1 then 0 else Lb m x + 1
def JP (m : List (κ × υ)) (x : κ) (z : υ) : List (κ × υ) := match m with
 | [] => [(x, z)]
 | p :: m => if x == p.1 then p :: m else p :: JP m x z
theorem Qx (hk : LZ AE kt ke) (x : κ) : ∀ m : List (κ × υ), (Da (ke x) (Ax ke ve m)).map (·.1) = if (As m x).isSome then some (Lb m x) else none
 | [] => by simp [Ax, Da, As]
 | p :: m => by
  have ih := Qx hk x m
  simp only [Ax] at ih
  simp only [Ax, List.map_cons, Da, hk.eq, As, Lb]
  by_cases h : (x == p.1) = true
  .simp [h]
  simp only [h, Bool.false_eq_true, if_false, Option.map_map]
  cases ha : (As m x).isSome with
  | true =>
   rw [ha, if_pos rfl] at ih
   obtain ⟨r, hr, h1⟩ := Option.map_eq_some_iff.1 ih
   rw [hr]; simp [h1]
  | false =>
   rw [ha] at ih
   simp only [Bool.false_eq_true, if_false, Option.map_eq_none_iff] at ih
   rw [ih]; simp
theorem Sa {x : κ} {z : υ} : ∀ {m : List (κ × υ)}, (As m x).isSome = true -> JP m x z = m
 | [], h => by simp [As] at h
 | p :: m, h => by
  simp only [As] at h
  simp only [JP]
  by_cases hx : (x == p.1) = true
  .rw [if_pos hx]
  rw [if_neg hx] at h ⊢; rw [Sa h]
theorem Sb {x : κ} {z : υ} : ∀ {m : List (κ × υ)}, (As m x).isSome = false -> JP m x z = m ++ [(x, z)] /\ Lb m x = m.length
 | [], _ => ⟨rfl, rfl⟩
 | p :: m, h => by
  simp only [As] at h
  simp only [JP, Lb]
  by_cases hx : (x == p.1) = true
  .rw [if_pos hx] at h; cases h
  rw [if_neg hx] at h ⊢
  obtain ⟨h1, h2⟩ := Sb (z := z) h
  rw [h1, if_neg hx, h2]; simp
theorem Sc {x : κ} {z w : υ} : ∀ (m : List (κ × υ)), ∃ p, (JP m x z)[Lb m x]? = some p /\ (JP m x z).set (Lb m x) (p.1, w) = BE x w m
 | [] => ⟨(x, z), rfl, rfl⟩
 | p :: m => by
  simp only [JP, Lb, BE]
  by_cases hx : (x == p.1) = true
  .simp only [hx, if_true]; exact ⟨p, rfl, rfl⟩
  simp only [hx, Bool.false_eq_true, if_false]
  obtain ⟨q, h1, h2⟩ := Sc (x := x) (z := z) (w := w) m
  exact ⟨q, by simpa using h1, by simp [h2]⟩
theorem UE {id : Nat} {v : BM} : ∀ {h : Ag}, AL id h = some v -> B1 id v h = h
 | [], hl => by simp [AL] at hl
 | (q, u) :: r, hl => by
  simp only [AL] at hl
  simp only [B1]
  split
  .rw [if_pos ‹_›] at hl; cases hl; rfl
  rw [if_neg ‹_›] at hl; rw [UE hl]
theorem Qy {y : κ} {id : Nat} {h' : Ag} (z : υ) (hk : LZ AE kt ke) (hx : BK nt sl x = .lmap id) (hm : Bt id h = some (.map (Ax ke ve mp))) (hi : BK nt sl i = .p (ke y)) (ht : Vs AE t kt et = true) (hz : (AE.tt et).map TI.zeroDV = some (ve z))
  (hu : MQ id (.map (Ax ke ve (JP mp y z))) h some = some h') (k : f ⟨nt, (d, .tup [.p (ve ((As mp y).getD z)), .p (.int .i64 (Lb mp y))]) :: sl, h', c⟩) : BR P A AE ⟨nt, sl, h, c⟩ (some d) (.mapEntry t x i) ⟨f, hf⟩ := by
 obtain ⟨ti, h1, h2⟩ := Qr ht
 rw [BO (h := h) (c := c)] at hx hi
 rw [Bn] at hm
 rw [I2, Option.some.injEq] at hu
 subst hu
 obtain ⟨te, h3, h4⟩ := Option.map_eq_some_iff.1 hz
 refine Ad.2 ⟨ti, h1, Ft.2 ⟨kt, et, h2, Ad.2 ⟨te, h3, FD.2 ⟨id, hx, Ac.2 ⟨_, hm, ?_⟩⟩⟩⟩⟩
 dsimp only
 refine GX.2 ⟨Ax ke ve mp, rfl, ?_⟩
 refine DN.2 ⟨_, hi, ⟨hk.fits y, L4 hk mp⟩, ?_⟩
 have hf1 := Qx (ve := ve) hk y mp
 rw [L3 hk, h4, QE]
 cases ha : (As mp y).isSome with
 | true =>
  rw [ha, if_pos rfl] at hf1
  obtain ⟨r, hr, h5⟩ := Option.map_eq_some_iff.1 hf1
  rw [Sa ha, UE hm] at k
  rw [hr]
  simp only [Option.map_some, Option.getD_some, h5]
  exact k
 | false =>
  rw [ha] at hf1
  simp only [Bool.false_eq_true, if_false, Option.map_eq_none_iff] at hf1
  obtain ⟨g1, g2⟩ := Sb (z := z) ha
  rw [g1, g2] at k
  rw [hf1]
  have e1 : Ax ke ve (mp ++ [(y, z)]) = Ax ke ve mp ++ [(ke y, ve z)] := by simp [Ax]
  have e2 : (Ax ke ve mp).length = mp.length := by simp [Ax]
  rw [e1] at k
  simp only [Option.map_none, Option.getD_none, e2]
  exact k
theorem Qz {y : κ} {z w : υ} {id : Nat} {h' : Ag} {s v : Operand} (hx : BK nt sl x = .lmap id) (hm : Bt id h = some (.map (Ax ke ve (JP mp y z)))) (hs : BK nt sl s = .p (.int .i64 (Lb mp y))) (hv : BK nt sl v = .p (ve w))
  (hu : MQ id (.map (Ax ke ve (BE y w mp))) h some = some h') (k : f ⟨nt, sl, h', c⟩) : BR P A AE ⟨nt, sl, h, c⟩ none (.entryStore t x s v) ⟨f, hf⟩ := by
 rw [BO (h := h) (c := c)] at hx hs hv
 rw [Bn] at hm
 rw [I2, Option.some.injEq] at hu
 subst hu
 refine FD.2 ⟨id, hx, Ac.2 ⟨_, hm, ?_⟩⟩
 dsimp only
 refine GX.2 ⟨_, rfl, ?_⟩
 refine CY.2 ⟨.i64, _, hs, DN.2 ⟨_, hv, Int.natCast_nonneg _, ?_⟩⟩
 obtain ⟨p, h1, h2⟩ := Sc (x := y) (z := z) (w := w) mp
 refine Ac.2 ⟨(ke p.1, ve p.2), by simp only [Int.toNat_natCast, Ax, List.getElem?_map, h1, Option.map_some], ?_⟩
 have e : (Ax ke ve (JP mp y z)).set (Int.toNat (Lb mp y : Int)) (ke p.1, ve w) = Ax ke ve (BE y w mp) := by
  rw [<- h2]; simp [Ax, List.map_set]
 dsimp only
 rw [e]
 exact k
end
end
end Go.E
/- The types that the functions of this seat use, as plain data. Written by a program (mkenv.py). No condition. -/
namespace Go.E
open Go Go.RowKit Go.Proofs
def Z2 : List (Nat × TI) := [
 (3, ⟨.int .i64, 1, 8, [.int .i64 0]⟩),
 (4, ⟨.bool, 1, 1, [.bool false]⟩),
 (5, ⟨.int .u8, 1, 1, [.int .u8 0]⟩),
 (9, ⟨.str, 1, 16, [.str .empty]⟩),
 (22, ⟨.slc 152, 1, 24, [.nils]⟩),
 (23, ⟨.slc 154, 1, 24, [.nils]⟩),
 (24, ⟨.slc 157, 1, 24, [.nils]⟩),
 (25, ⟨.slc 163, 1, 24, [.nils]⟩),
 (27, ⟨.struct [(0, 22), (1, 23), (2, 24), (3, 25), (4, 3), (5, 3), (6, 3), (7, 3), (8, 4)], 9, 136, [.nils, .nils, .nils, .nils, .int .i64 0, .int .i64 0, .int .i64 0, .int .i64 0, .bool false]⟩),
 (28, ⟨.slc 3, 1, 24, [.nils]⟩),
 (31, ⟨.other, 1, 8, [.nilp]⟩),
 (33, ⟨.slc 65, 1, 24, [.nils]⟩),
 (34, ⟨.slc 91, 1, 24, [.nils]⟩),
 (36, ⟨.struct [(0, 3), (1, 3), (2, 3), (3, 33), (4, 34), (5, 34), (6, 28), (7, 28), (8, 4)], 9, 152, [.int .i64 0, .int .i64 0, .int .i64 0, .nils, .nils, .nils, .nils, .nils, .bool false]⟩),
 (41, ⟨.slc 4, 1, 24, [.nils]⟩),
 (46, ⟨.slc 55, 1, 24, [.nils]⟩),
 (48, ⟨.other, 1, 8, [.nilp]⟩),
 (50, ⟨.other, 1, 8, [.nilp]⟩),
 (55, ⟨.struct [(0, 3), (1, 3), (2, 3), (3, 36)], 12, 176, [.int .i64 0, .int .i64 0, .int .i64 0, .int .i64 0, .int .i64 0, .int .i64 0, .nils, .nils, .nils, .nils, .nils, .bool false]⟩),
 (60, ⟨.slc 5, 1, 24, [.nils]⟩),
 (61, ⟨.slc 36, 1, 24, [.nils]⟩),
 (65, ⟨.struct [(0, 3), (1, 3), (2, 3)], 3, 24, [.int .i64 0, .int .i64 0, .int .i64 0]⟩),
 (68, ⟨.struct [(0, 27), (9, 61)], 10, 160, [.nils, .nils, .nils, .nils, .int .i64 0, .int .i64 0, .int .i64 0, .int .i64 0, .bool false, .nils]⟩),
 (72, ⟨.int .i64, 1, 8, [.int .i64 0]⟩),
 (91, ⟨.struct [(0, 3), (1, 3)], 2, 16, [.int .i64 0, .int .i64 0]⟩),
 (92, ⟨.mp 96 4, 1, 8, [.nilm]⟩),
 (93, ⟨.slc 96, 1, 24, [.nils]⟩),
 (96, ⟨.struct [(0, 3), (1, 3)], 2, 16, [.int .i64 0, .int .i64 0]⟩),
 (104, ⟨.other, 1, 8, [.nilp]⟩),
 (108, ⟨.mp 3 4, 1, 8, [.nilm]⟩),
 (115, ⟨.mp 3 28, 1, 8, [.nilm]⟩),
 (116, ⟨.mp 3 34, 1, 8, [.nilm]⟩),
 (118, ⟨.struct [(0, 3), (1, 115), (2, 115), (3, 116), (4, 116)], 5, 40, [.int .i64 0, .nilm, .nilm, .nilm, .nilm]⟩),
 (119, ⟨.slc 124, 1, 24, [.nils]⟩),
 (121, ⟨.struct [(0, 3), (1, 119)], 2, 32, [.int .i64 0, .nils]⟩),
 (124, ⟨.struct [(0, 3), (1, 28), (2, 28), (3, 34), (4, 34)], 5, 104, [.int .i64 0, .nils, .nils, .nils, .nils]⟩),
 (131, ⟨.mp 3 3, 1, 8, [.nilm]⟩),
 (145, ⟨.slc 147, 1, 24, [.nils]⟩),
 (147, ⟨.struct [(0, 3), (1, 3)], 2, 16, [.int .i64 0, .int .i64 0]⟩),
 (152, ⟨.struct [(0, 9), (1, 3), (2, 3)], 3, 32, [.str .empty, .int .i64 0, .int .i64 0]⟩),
 (154, ⟨.struct [(0, 96), (2, 96)], 4, 32, [.int .i64 0, .int .i64 0, .int .i64 0, .int .i64 0]⟩),
 (157, ⟨.struct [(0, 9), (1, 96), (3, 4)], 4, 40, [.str .empty, .int .i64 0, .int .i64 0, .bool false]⟩),
 (160, ⟨.slc 34, 1, 24, [.nils]⟩),
 (163, ⟨.struct [(0, 9), (1, 28)], 2, 40, [.str .empty, .nils]⟩),
 (164, ⟨.slc 9, 1, 24, [.nils]⟩),
 (169, ⟨.mp 96 96, 1, 8, [.nilm]⟩),
 (170, ⟨.mp 96 3, 1, 8, [.nilm]⟩),
 (171, ⟨.mp 3 174, 1, 8, [.nilm]⟩),
 (173, ⟨.struct [(0, 27), (9, 169), (10, 170), (11, 171), (12, 131)], 13, 168, [.nils, .nils, .nils, .nils, .int .i64 0, .int .i64 0, .int .i64 0, .int .i64 0, .bool false, .nilm, .nilm, .nilm, .nilm]⟩),
 (174, ⟨.arr 2 3, 2, 16, [.int .i64 0, .int .i64 0]⟩),
 (180, ⟨.int .u64, 1, 8, [.int .u64 0]⟩),
 (193, ⟨.other, 1, 8, [.nilp]⟩),
 (195, ⟨.struct [(0, 27), (9, 36), (18, 93)], 19, 312, [.nils, .nils, .nils, .nils, .int .i64 0, .int .i64 0, .int .i64 0, .int .i64 0, .bool false, .int .i64 0, .int .i64 0, .int .i64 0, .nils, .nils, .nils, .nils, .nils, .bool false, .nils]⟩),
 (201, ⟨.arr 4 3, 4, 32, [.int .i64 0, .int .i64 0, .int .i64 0, .int .i64 0]⟩),
 (202, ⟨.arr 3 3, 3, 24, [.int .i64 0, .int .i64 0, .int .i64 0]⟩),
 (222, ⟨.int .i64, 1, 8, [.int .i64 0]⟩),
 (229, ⟨.int .u32, 1, 4, [.int .u32 0]⟩),
 (231, ⟨.int .u64, 1, 8, [.int .u64 0]⟩),
 (233, ⟨.other, 1, 8, [.nilp]⟩),
 (234, ⟨.slc 145, 1, 24, [.nils]⟩),
 (236, ⟨.struct [(0, 3), (1, 33), (2, 28), (3, 234)], 4, 80, [.int .i64 0, .nils, .nils, .nils]⟩),
 (243, ⟨.mp 9 4, 1, 8, [.nilm]⟩),
 (245, ⟨.int .u64, 1, 8, [.int .u64 0]⟩),
 (249, ⟨.other, 1, 8, [.nilp]⟩)]
def Y5 : List (Nat × List Sh) := [(65, [.int .i64, .int .i64, .int .i64]), (91, [.int .i64, .int .i64]), (96, [.int .i64, .int .i64])]
def Wg : List (Nat × List Sh) := [(96, [.int .i64, .int .i64])]
def Wh : List Nat := [31, 48]
def AE : BH := ⟨fun t => Bt t Z2, fun t => Bt t Y5, fun t => Bt t Wg, Og Wh, none, false⟩
def AA6 (b : Nat) (l : List Nat) : BH := ⟨fun t => Bt t Z2, fun t => Bt t Y5, fun t => Bt t Wg, Og Wh, some fun id => Nat.ble b id || Og l id, false⟩
def AA7 : BH := ⟨fun t => Bt t Z2, fun t => Bt t Y5, fun t => Bt t Wg, Og Wh, none, true⟩
theorem Z3 : ∃ e, Tryz.prog.underlying 31 = some (.pointer e) := ⟨173, by kernel_rfl⟩
theorem Z4 : ∃ e, Tryz.prog.underlying 48 = some (.pointer e) := ⟨118, by kernel_rfl⟩
theorem Mx : OZ Tryz.prog AE.tt := YQ (by kernel_rfl)
theorem AAj : P7 Tryz.prog 65 [.int .i64, .int .i64, .int .i64] := OV (by kernel_rfl) (by kernel_rfl) (by kernel_rfl) (by kernel_rfl)
theorem AAk : P7 Tryz.prog 91 [.int .i64, .int .i64] := OV (by kernel_rfl) (by kernel_rfl) (by kernel_rfl) (by kernel_rfl)
theorem Y6 : P7 Tryz.prog 96 [.int .i64, .int .i64] := OV (by kernel_rfl) (by kernel_rfl) (by kernel_rfl) (by kernel_rfl)
theorem Z5 : Qb Tryz.prog 96 [.int .i64, .int .i64] := WI (by kernel_rfl) Y6 (by kernel_rfl)
theorem AA : BP Tryz.prog AE := by
 refine ⟨Mx, fun t ks h => ?_, fun t ks h => ?_, fun t h => ?_⟩
 .simp only [AE, Bn, Y5, AL] at h
  split at h
  .subst_vars; cases h; exact AAj
  split at h
  .subst_vars; cases h; exact AAk
  split at h
  .subst_vars; cases h; exact Y6
  cases h
 .simp only [AE, Bn, Wg, AL] at h
  split at h
  .subst_vars; cases h; exact Z5
  cases h
 simp only [AE, Wh, Vn, List.mem_cons, List.not_mem_nil, or_false] at h
 rcases h with rfl | rfl
 .exact Z3
 exact Z4
theorem Rz (b : Nat) (l : List Nat) : BP Tryz.prog (AA6 b l) := ⟨AA.tt, AA.eqk, AA.keyk, AA.ptr⟩
theorem ZW : BP Tryz.prog AA7 := ⟨AA.tt, AA.eqk, AA.keyk, AA.ptr⟩
theorem Az : Tryz.prog.follows .mixedOrders = true := by kernel_rfl
end Go.E
/- slices.Delete as a call out of a data state: the row goes on under a new name. For an own slice, i up to j up to its length. -/
namespace Go.E
open Go Go.RowKit Go.Shelf Go.Proofs
variable {P : Program} {ρ : Ren} {AE : BH} {A : BZ}
section
variable {α : Type} {enc : α -> List DV} {l r : List α} {i j : Int} {nt : Nat} {sl : List (Nat × LV)} {h h' : Ag} {c d : Nat} {f : St -> Prop} {hf : JE f}
end
end Go.E
/- slices.Sort and slices.Compact of an own row of whole numbers, as calls out of a data state. For rows of fewer than 2^62 numbers. -/
namespace Go.E
open Go Go.RowKit Go.Shelf Go.Proofs Go.Sort
section
variable {P : Program} {ρ : Ren} {AE : BH} {A : BZ}
end
section
variable {P : Program} {ρ : Ren} {AE : BH} {A : BZ} {l r : List Int} {nt : Nat} {sl : List (Nat × LV)} {h h' : Ag} {c d : Nat} {f : St -> Prop} {hf : JE f}
end
end Go.E
/- A scope in which the run jumps back to one label, and on to another. No condition. -/
namespace Go.E
open Go Go.RowKit
section
variable {P : Program} {A : BZ} {st : St} {σ Ans : Type}
end
def Kx {α : Type} (l : List α) (lo hi : Int) : Option (List α) := match l with
 | [] => none
 | x :: r => I3 (x :: r) lo hi
theorem Xi {α : Type} {l r : List α} {lo hi : Int} (h : Kx l lo hi = some r) : l ≠ [] /\ I3 l lo hi = some r := by
 cases l with
 | nil => cases h
 | cons x l => exact ⟨by simp, h⟩
theorem RC {α : Type} {l r : List α} {lo hi : Int} (h : Kx l lo hi = some r) : lo.toNat + (hi - lo).toNat <= l.length /\ (l.drop lo.toNat).take (hi - lo).toNat = r := by
 obtain ⟨-, h⟩ := Xi h
 unfold I3 at h
 split at h
 .rename_i hb
  cases h
  refine ⟨by omega, ?_⟩
  rw [List.drop_take]
  congr 1
  omega
 cases h
section
variable {P : Program} {A : BZ} {AE : BH} {α : Type} {enc : α -> List DV} {l r : List α} {nt : Nat} {sl : List (Nat × LV)} {h : Ag} {c d : Nat} {f : St -> Prop} {hf : JE f} {x : Operand} {t sz : Nat}
theorem Wl {lo hi : Option Operand} {n m : Int} {id k : Nat} (hr : Kx l n m = some r) (ht : NY AE t sz = true) (hk : k = l.length) (hx : BK nt sl x = .lsl id sz 0 k)
  (hlo : Ol nt sl 0 lo = some n) (hhi : Ol nt sl l.length hi = some m)
  (kk : f ⟨nt, (d, .lsl id sz n.toNat (m - n).toNat) :: sl, h, c⟩) : BR P A AE ⟨nt, sl, h, c⟩ (some d) (.slice t x lo hi none) ⟨f, hf⟩ := by
 obtain ⟨ti, e, te, h1, h2, h3, h4⟩ := NZ ht
 obtain ⟨hne, hs⟩ := Xi hr
 have hpos := List.length_pos_iff.2 hne
 subst hk
 rw [BO (h := h) (c := c)] at hx
 simp only [I3] at hs
 split at hs
 .rename_i hb
  show LO AE t _ _ _ _
  rw [hx]
  refine Ad.2 ⟨ti, h1, Cd.2 ⟨e, h2, Ad.2 ⟨te, h3, h4, by omega, ?_⟩⟩⟩
  refine PX hhi (PX hlo ⟨hb, ?_⟩)
  rw [Nat.zero_add]; exact kk
 cases hs
end
end Go.E
