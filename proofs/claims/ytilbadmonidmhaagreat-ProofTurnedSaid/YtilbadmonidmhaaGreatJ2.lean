/- Drawn regions: whatever order is drawn, the operations give what they give in one order that a check accepts (dwp_region_any). -/
import Derived.Scope
import Derived.Test.YtilbadmonidmhaaGreatJ1
set_option linter.unusedVariables false
set_option linter.unusedSimpArgs false
namespace Go.E
open Go Go.RowKit
structure RF (A : Amb) (F : Nat -> Prop) (st : St) (a : Act) (w : World) : Prop where
 ex : ∃ μ, HRel A μ st.heap F w /\ ∀ t, t < st.nt -> LRel (Own A μ st.heap) μ w (a.tmps.getD t undef) (getS st.slots t)
 nt : a.tmps.size = st.nt
 defers : a.defers = []
theorem R.toRF {A : Amb} {st : St} {a : Act} {w : World} (h : R A st a w) : RF A (Fr st.ctr) st a w := ⟨h.ex, h.nt, h.defers⟩
theorem RF.put' {A : Amb} {F F' : Nat -> Prop} {st : St} {a : Act} {w w' : World} {h' : Heap} {ctr' : Nat} {μ' : Nat -> Option Loc} (hR : RF A F st a w)
  (hs : ∀ t, t < st.nt -> LRel (Own A μ' h') μ' w' (a.tmps.getD t undef) (getS st.slots t))
  (hh : HRel A μ' h' F' w') {dst : Option Tmp} {v : Value} {l : LV} (hv : LRel (Own A μ' h') μ' w' v l) :
  RF A F' (({ st with heap := h', ctr := ctr' } : St).put dst l) (a.put dst v) w' := by
 cases dst with
 | none => exact ⟨⟨μ', hh, hs⟩, hR.nt, hR.defers⟩
 | some d =>
  refine ⟨⟨μ', hh, fun t ht => ?_⟩, by simpa [Act.put, St.put] using hR.nt, hR.defers⟩
  have hn : t < a.tmps.size := by rw [hR.nt]; exact ht
  simp only [Act.put, St.put, getS, look]
  by_cases e : t = d
  .subst e
   simp only [if_true]
   rw [Array.getD_eq_getD_getElem?, Array.getElem?_setIfInBounds_self_of_lt hn]
   exact hv
  .simp only [e, if_false]
   rw [Array.getD_eq_getD_getElem?, Array.getElem?_setIfInBounds_ne (by omega), <- Array.getD_eq_getD_getElem?]
   exact hs t ht
section
variable {P : Program} {A : Amb} {env : Env} {F : Nat -> Prop} {st : St} {a : Act} {w : World}
theorem own_core {μ : Nat -> Option Loc} {h : Heap} {F : Nat -> Prop} {w w' : World} {v : Value} {ctr e sz : Nat} {elems : List (List DV)} (hh : HRel A μ h F w) (hc : F ctr) (hn : NewRow w w' (Own A μ h) v e sz elems) (hb : Below w.heap.size w w') :
  ∃ μ', HRel A μ' ((ctr, .row e sz elems) :: h) (fun id => F id /\ id ≠ ctr) w' /\ LRel (Own A μ' ((ctr, .row e sz elems) :: h)) μ' w' v (.lsl ctr sz 0 elems.length) /\ ∀ v x, LRel (Own A μ h) μ w v x -> LRel (Own A μ' ((ctr, .row e sz elems) :: h)) μ' w' v x := by
 have hno : μ ctr = none := hh.fresh ctr hc
 obtain ⟨hlen, hn⟩ := hn
 have hkm : Kept (Mine μ h) w w' := ⟨hb.size, fun b hb' _ => hb.block b hb'⟩
 have hsub : ∀ id x, look id ((ctr, HObj.row e sz elems) :: h) = some x -> (id = ctr /\ x = .row e sz elems) \/ look id h = some x := by
  intro id x hx
  simp only [look] at hx
  split at hx
  .cases hx; exact .inl ⟨‹_›, rfl⟩
  .exact .inr hx
 have hold : ∀ id x lc, look id ((ctr, HObj.row e sz elems) :: h) = some x -> id ≠ ctr -> μ id = some lc -> lc.nil = false -> w'.heap[lc.b]? = w.heap[lc.b]? := by
  intro id x lc hx hne hm hnl
  rcases hsub id x hx with ⟨rfl, _⟩ | hx
  .exact absurd rfl hne
  .exact hb.block _ (hh.base id x lc hx hm hnl).1
 have fin : ∀ (loc : Loc), (loc.nil = false -> loc.b < w'.heap.size /\ w.heap.size <= loc.b) ->
   (∀ O' : Nat -> Prop, (∀ b, O' b -> Own A μ h b \/ (loc.nil = false /\ b = loc.b)) -> (∀ b, Own A μ h b -> b < w.heap.size -> O' b \/ True) -> (∀ b, Own A (setμ μ ctr loc) ((ctr, HObj.row e sz elems) :: h) b ↔ O' b) -> ORel O' (setμ μ ctr loc) w' loc (.row e sz elems)) ->
   (∀ O', LRel O' (setμ μ ctr loc) w' v (.lsl ctr sz 0 elems.length)) ->
   ∃ μ', HRel A μ' ((ctr, .row e sz elems) :: h) (fun id => F id /\ id ≠ ctr) w' /\ LRel (Own A μ' ((ctr, .row e sz elems) :: h)) μ' w' v (.lsl ctr sz 0 elems.length) /\ ∀ v x, LRel (Own A μ h) μ w v x -> LRel (Own A μ' ((ctr, .row e sz elems) :: h)) μ' w' v x := by
  intro loc hloc ho hu
  have hfr : Fresh μ h ((ctr, HObj.row e sz elems) :: h) w loc := fun hn => .inl (hloc hn).2
  have hown := hh.sub_add loc (.row e sz elems) ((ctr, .row e sz elems) :: h) hfr hsub
  have hcov : ∀ b, Own A (setμ μ ctr loc) ((ctr, .row e sz elems) :: h) b -> Own A μ h b \/ (loc.nil = false /\ b = loc.b) := by
   rintro b (hb' | ⟨id, x, lc, h1, h2, h3, h4⟩)
   .exact .inl (.inl hb')
   .by_cases e' : id = ctr
    .subst e'
     simp only [setμ, if_true, Option.some.injEq] at h2
     subst h2; exact .inr ⟨h3, h4.symm⟩
    .rcases hsub id x h1 with ⟨e'', _⟩ | h1
     .exact absurd e'' e'
     .simp only [setμ, e', if_false] at h2
      exact .inl (.inr ⟨id, x, lc, h1, h2, h3, h4⟩)
  have hadd := hh.add (w' := w') hno loc (.row e sz elems) ((ctr, .row e sz elems) :: h) (fun hn => (hloc hn).1) hfr hsub hkm hold hb.os hb.tape hb.output (ho _ hcov (fun _ _ _ => .inr trivial) (fun _ => Iff.rfl))
  exact ⟨_, hadd, hu _, fun v x hv => hv.mono hkm.own hown (keepμ hno loc)⟩
 rcases hn with ⟨rfl, rfl⟩ | ⟨a, b, o, cap, c, rfl, h1, h2, h3, h4, h5, h6, h7, h8, h9, h10⟩
 .exact fin ⟨true, 0, 0, sz, 0⟩ (fun hn => by cases hn) (fun O' _ _ _ => ⟨rfl, hlen, .inl ⟨rfl, rfl⟩⟩) (fun O' => .lsln ctr ⟨true, 0, 0, sz, 0⟩ (by simp [setμ]) rfl)
 .refine fin ⟨false, b, o, sz, cap⟩ (fun _ => ⟨h2, h1⟩) (fun O' hO' _ _ => ⟨rfl, hlen, .inr ⟨rfl, c, h6, h7, h8, h9, fun i j x d u hx hd hu => ?_⟩⟩) (fun O' => ?_)
  .refine (h10 i j x d u hx hd hu).mono (Kept.refl _ _) fun q _ hq => ?_
   rcases hO' q hq with hq | ⟨_, hq⟩
   .exact .inl hq
   .exact .inr hq
  .exact .lsl ctr 0 elems.length cap a ⟨false, b, o, sz, cap⟩ (by simp [setμ]) rfl (by simp) h8 (fun hc => by rw [h3 hc]; simp) h4 h5
theorem dop_sound (hE : EnvOK P env) {o : Oper} {l : LV} {e : Eff} (hR : RF A F st a w) (hc : F st.ctr) (h : dopW P env st o.op l e) {next : Act -> World -> Prop} {Q : Exit -> Act -> World -> Prop}
  (hK : ∀ a' w', RF A (fun id => F id /\ id ≠ st.ctr) (apS st st.ctr o l e) a' w' -> next a' w') : o.wp P a w next Q := by
 obtain ⟨⟨μ, hh, hs0⟩, hnt, hdef⟩ := id hR
 have hs := fun x => eval_rel hs0 x
 have less : ∀ {μ h w} (c' : Nat), HRel A μ h (fun id => F id /\ (st.ctr < c' -> id ≠ st.ctr)) w -> HRel A μ h (fun id => F id /\ id ≠ st.ctr) w := fun _ h => h.less fun _ h => ⟨h.1, fun _ => h.2⟩
 have nCase : e = .keep -> nW env st o.op (· = l) -> o.wp P a w next Q := by
  rintro rfl h
  obtain ⟨u, v, rfl, hv, hg⟩ := nW_sound hE hs h
  unfold Oper.wp
  rw [hg o rfl w]
  exact hK _ _ (hR.put' (ctr' := st.ctr) hs0 (hh.less fun _ h => h.1) hv)
 have mCase : mW env st o.op (fun r h _ => r = l /\ h = e.ap st.ctr st.heap) -> o.wp P a w next Q := by
  intro h
  obtain ⟨l', h', c', u, w', μ', ⟨rfl, rfl⟩, ⟨_, hh'⟩, hl, hmono, hrun⟩ := mW_sound (a := a) (F := F) hE hs ⟨hh, hc⟩ h
  have := hK _ _ (hR.put' (ctr' := st.ctr) (fun t ht => hmono _ _ (hs0 t ht)) (less c' hh') hl)
  unfold Oper.wp
  rcases hrun o rfl with hr | ⟨hr, rfl⟩ <;> rw [hr] <;> exact this
 obtain ⟨dst, op, type, pos, after, guard⟩ := o
 simp only at h nCase mCase
 cases op <;> simp only [dopW] at h <;> (try exact nCase h.1 h.2)
 case load t x =>
  obtain ⟨rfl, _, ti, h1, h2⟩ := h
  refine mCase ?_
  simp only [mW, Eff.ap]
  exact ⟨ti, h1, by
   unfold loadW at *
   split at h2
   .obtain ⟨r, g1, g2⟩ := h2; exact ⟨r, g1, g2, trivial⟩
   .obtain ⟨c, r, g1, g2, g3⟩ := h2; exact ⟨c, r, g1, g2, g3, trivial⟩
   .obtain ⟨c1, c2, c3, c4, r, g1, g2, g3, g4⟩ := h2; exact ⟨c1, c2, c3, c4, r, g1, g2, g3, g4, trivial⟩
   .exact h2⟩
 case lookup t x i ok =>
  obtain ⟨rfl, ti, kt, et, te, m, kd, h1, h2, h3, h4, h5, h6, h7, h8⟩ := h
  refine mCase ?_
  simp only [mW, Eff.ap]
  exact ⟨ti, kt, et, te, m, kd, h1, h2, h3, h4, h5, h6, h7, h8, trivial⟩
 case store => obtain ⟨_, h', rfl, h⟩ := h; exact mCase h
 case mapUpdate => obtain ⟨h', rfl, h⟩ := h; exact mCase h
 case mapEntry => obtain ⟨h', rfl, h⟩ := h; exact mCase h
 case entryStore => obtain ⟨h', rfl, h⟩ := h; exact mCase h
 case alloc t => obtain ⟨ti, h1, rfl, rfl⟩ := h; exact mCase (by simp only [mW]; exact ⟨ti, h1, trivial, rfl⟩)
 case box t x => obtain ⟨ls, h1, rfl, rfl⟩ := h; exact mCase (by simp only [mW]; exact ⟨ls, h1, trivial, rfl⟩)
 case buildSlice t n ps =>
  obtain ⟨ti, e', te, l', h1, h2, h3, h4, h5, h6, h7, ⟨rfl, rfl⟩ | ⟨rfl, rfl⟩⟩ := h
  .exact mCase (by simp only [mW]; exact ⟨ti, e', te, l', h1, h2, h3, h4, h5, h6, h7, .inl ⟨rfl, rfl⟩⟩)
  .exact mCase (by simp only [mW]; exact ⟨ti, e', te, l', h1, h2, h3, h4, h5, h6, h7, .inr ⟨rfl, rfl⟩⟩)
 case makeSlice t x y =>
  obtain ⟨ti, e', te, n, k1, k2, h1, h2, h3, h4, h5, h6, h7, h8, ⟨rfl, rfl⟩ | ⟨rfl, rfl⟩⟩ := h
  .exact mCase (by simp only [mW]; exact ⟨ti, e', te, n, k1, k2, h1, h2, h3, h4, h5, h6, h7, h8, .inl ⟨rfl, rfl⟩⟩)
  .exact mCase (by simp only [mW]; exact ⟨ti, e', te, n, k1, k2, h1, h2, h3, h4, h5, h6, h7, h8, .inr ⟨rfl, rfl⟩⟩)
 case makeMap t r => obtain ⟨rfl, rfl, rfl⟩ := h; exact mCase (by simp only [mW]; exact ⟨trivial, trivial, rfl⟩)
 case call c =>
  obtain ⟨callee, args, ats⟩ := c
  cases callee with
  | value f =>
   simp only at h
   rcases h with ⟨rfl, k, caps, ds, r, h1, h2, h3, h4, rfl⟩ | ⟨_, k, caps, ds, tt, sz, elems, h1, h2, h3, h4, rfl, rfl⟩
   .have hfv := hs f
    rw [h1] at hfv
    generalize hv : a.eval f = v at hfv
    cases hfv with
    | fn _ cs _ hsz hr =>
     have hx : (execOp a.eval ⟨dst, .call ⟨.value f, args, ats⟩, type, pos, after, guard⟩).run P w = .ok (.enter k (args.map a.eval ++ cs)) w := by
      simp [execOp, resolve, Deferred.ofValue, hv, invoke]
      exact h3.enters _ _
     unfold Oper.wp
     rw [hx, Oper.upon_enter]
     obtain ⟨g1, g2⟩ := toDVall_rel hh (l := (args.toList.map st.eval ++ caps).flatMap (ids st.heap)) h2 (fun id hid => hid)
     have hO : ∀ b, Own A μ (dels ((args.toList.map st.eval ++ caps).flatMap (ids st.heap)) st.heap) b -> b < w.heap.size := by
      rintro b (hb | ⟨id, x, lc, h1, h2, h3, rfl⟩)
      .exact Nat.lt_of_lt_of_le (A.hO b hb).1 hh.size
      .exact (hh.base id x lc (look_dels h1).2 h2 h3).1
     refine (h3.run _ w _ hO (by rw [<- g1]; simp [hsz]) fun i v d hvi hdi => ?_).mono fun e w' ⟨v, r', he, hp, hq, hb⟩ => ?_
     .have hi := (List.getElem?_eq_some_iff.1 hdi).1
      have hx : (args.toList.map st.eval ++ caps)[i]? = some ((args.toList.map st.eval ++ caps)[i]'(by omega)) := List.getElem?_eq_getElem _
      refine g2 i v _ d hx hdi ?_
      rw [List.getElem?_append] at hx
      rw [Array.getElem?_append] at hvi
      by_cases hi' : i < args.size
      .rw [if_pos (by simpa using hi')] at hvi hx
       exact evals_rel hs args.toList i v _ (by simpa using hvi) hx
      .rw [if_neg (by simpa using hi')] at hvi hx
       exact hr _ v _ (by simpa using hvi) (by simpa using hx)
     .subst he hq
      obtain ⟨hh', hown⟩ := hh.keep (w' := w') (h' := st.heap) (μ' := μ) (fun _ _ h => h) hh.fresh (fun _ _ h => h) hb.block hb.size hb.os hb.tape hb.output
      have hp' : PRel (Own A μ st.heap) w' v r' := by
       rcases h4 with h4 | h4
       .exact hp.scalar h4 _ _
       .rw [h4] at hp; exact hp
      exact hK _ _ (hR.put' (ctr' := st.ctr) (fun t ht => (hs0 t ht).mono ⟨hb.size, fun b hb' _ => hb.block b hb'⟩ (fun b _ hb => hb) (fun _ _ h => h)) (hh'.less fun _ h => h.1) (.p _ _ hp'))
   .have hfv := hs f
    rw [h1] at hfv
    generalize hv : a.eval f = v at hfv
    cases hfv with
    | fn _ cs _ hsz hr =>
     have hx : (execOp a.eval ⟨dst, .call ⟨.value f, args, ats⟩, type, pos, after, guard⟩).run P w = .ok (.enter k (args.map a.eval ++ cs)) w := by
      simp [execOp, resolve, Deferred.ofValue, hv, invoke]
      exact h3.enters _ _
     unfold Oper.wp
     rw [hx, Oper.upon_enter]
     obtain ⟨g1, g2⟩ := toDVall_rel hh (l := (args.toList.map st.eval ++ caps).flatMap (ids st.heap)) h2 (fun id hid => hid)
     have hO : ∀ b, Own A μ (dels ((args.toList.map st.eval ++ caps).flatMap (ids st.heap)) st.heap) b -> b < w.heap.size := by
      rintro b (hb | ⟨id, x, lc, h1, h2, h3, rfl⟩)
      .exact Nat.lt_of_lt_of_le (A.hO b hb).1 hh.size
      .exact (hh.base id x lc (look_dels h1).2 h2 h3).1
     refine (h3.run _ w _ hO (by rw [<- g1]; simp [hsz]) fun i v d hvi hdi => ?_).mono fun e w' ⟨v, he, hn', hb⟩ => ?_
     .have hi := (List.getElem?_eq_some_iff.1 hdi).1
      have hx : (args.toList.map st.eval ++ caps)[i]? = some ((args.toList.map st.eval ++ caps)[i]'(by omega)) := List.getElem?_eq_getElem _
      refine g2 i v _ d hx hdi ?_
      rw [List.getElem?_append] at hx
      rw [Array.getElem?_append] at hvi
      by_cases hi' : i < args.size
      .rw [if_pos (by simpa using hi')] at hvi hx
       exact evals_rel hs args.toList i v _ (by simpa using hvi) hx
      .rw [if_neg (by simpa using hi')] at hvi hx
       exact hr _ v _ (by simpa using hvi) (by simpa using hx)
     .subst he
      have hn2 : NewRow w w' (Own A μ st.heap) v tt sz elems := by
       rcases h4 with h4 | h4
       .rw [h4] at hn'; exact hn'
       .exact hn'.flat h4 _
      obtain ⟨μ', k1, k2, k3⟩ := own_core hh hc hn2 hb
      exact hK _ _ (hR.put' (ctr' := st.ctr) (fun t ht => k3 _ _ (hs0 t ht)) k1 k2)
  | builtin b =>
   cases b with
   | append => obtain ⟨h', rfl, h⟩ := h; exact mCase h
   | _ => exact nCase h.1 h.2
  | invoke r m => exact nCase h.1 h.2
theorem dg_sound (hE : EnvOK P env) {ops : Array Oper} {i : Nat} {o : Oper} (ho : ops[i]? = some o) {l : LV} {e : Eff} (hR : RF A F st a w) (hc : F st.ctr) (h : dgW P env ops st o l e) {next : Act -> World -> Prop} {Q : Exit -> Act -> World -> Prop}
  (hK : ∀ a' w', RF A (fun id => F id /\ id ≠ st.ctr) (apS st st.ctr o l e) a' w' -> next a' w') : wpOp P ops Q i next a w := by
 obtain ⟨⟨μ, hh, hs0⟩, hnt, hdef⟩ := id hR
 have hs := fun x => eval_rel hs0 x
 unfold wpOp
 rw [ho]
 simp only
 unfold dgW at h
 have skip : l = .und /\ e = .keep -> next (a.put o.dst undef) w := by
  rintro ⟨rfl, rfl⟩
  exact hK _ _ (hR.put' (ctr' := st.ctr) hs0 (hh.less fun _ h => h.1) .und)
 split at h
 .rename_i hg
  rw [if_pos (by simp [Region.wanted, hg])]
  exact .inl (dop_sound hE hR hc h hK)
 .rename_i j want hg
  obtain ⟨g1, g2⟩ := guard_wanted (ops := ops) (j := j) hs
  split at h
  .rename_i b hb
   have hy := g1 b hb
   split at h
   .rename_i e
    rw [if_pos (by simp [Region.wanted, hg, hy, e])]
    exact .inl (dop_sound hE hR hc h hK)
   .rename_i e
    rw [if_neg (by simp [Region.wanted, hg, hy, e])]
    exact skip h
  .rename_i hb
   have hy := g2 hb
   rw [if_neg (by simp [Region.wanted, hg, hy])]
   exact skip h
  .exact h.elim
end
section
variable {P : Program} {env : Env} {md : Region.Mode} {ops : Array Oper} {base : Nat} {Q : St -> Prop}
def DAny (P : Program) (env : Env) (md : Region.Mode) (ops : Array Oper) (base : Nat) (Q : St -> Prop) : Nat -> Array Bool -> St -> Prop
 | 0, listed, st => Region.ready md ops listed = [] /\ ∃ st', Eqv st st' /\ Q st'
 | fuel + 1, listed, st => (Region.ready md ops listed = [] -> ∃ st', Eqv st st' /\ Q st') /\
  ∀ i ∈ Region.ready md ops listed, ∃ o l e, ops[i]? = some o /\ dgW P env ops (st.at (base + i)) o l e /\ DAny P env md ops base Q fuel (listed.setIfInBounds i true) (apS st (base + i) o l e)
theorem Eqv.trans {a b c : St} (h : Eqv a b) (h' : Eqv b c) : Eqv a c := ⟨h.nt.trans h'.nt, fun t => (h.slots t).trans (h'.slots t), fun i => (h.heap i).trans (h'.heap i)⟩
theorem Eqv.symm {a b : St} (h : Eqv a b) : Eqv b a := ⟨h.nt.symm, fun t => (h.slots t).symm, fun i => (h.heap i).symm⟩
theorem getS_put {st : St} {dst : Option Tmp} {l : LV} {t : Nat} : getS (st.put dst l).slots t = if dst = some t then l else getS st.slots t := by
 cases dst with
 | none => simp [St.put]
 | some d =>
  simp only [St.put, getS, look, Option.some.injEq]
  by_cases e : t = d
  .subst e; simp
  .rw [if_neg e, if_neg (fun h => e h.symm)]
theorem apS_nt {st : St} {c : Nat} {o : Oper} {l : LV} {e : Eff} : (apS st c o l e).nt = st.nt := by
 unfold apS St.put; split <;> rfl
theorem apS_heap {st : St} {c : Nat} {o : Oper} {l : LV} {e : Eff} : (apS st c o l e).heap = e.ap c st.heap := by
 unfold apS St.put; split <;> rfl
theorem apS_slots {st : St} {c : Nat} {o : Oper} {l : LV} {e : Eff} {t : Nat} : getS (apS st c o l e).slots t = if o.dst = some t then l else getS st.slots t := by
 unfold apS; rw [getS_put]
theorem Eqv.at {st st' : St} (h : Eqv st st') (c : Nat) : Eqv (st.at c) (st'.at c) := ⟨h.nt, h.slots, h.heap⟩
theorem Eqv.apS {st st' : St} (h : Eqv st st') {c : Nat} {o : Oper} {l : LV} {e e' : Eff} (he : ∀ id, look id (e.ap c st.heap) = look id (e'.ap c st'.heap)) : Eqv (apS st c o l e) (apS st' c o l e') :=
 ⟨by rw [apS_nt, apS_nt]; exact h.nt, fun t => by rw [apS_slots, apS_slots, h.slots], fun id => by rw [apS_heap, apS_heap]; exact he id⟩
theorem DAny_eqv : ∀ (fuel : Nat) (listed : Array Bool) (st st' : St), Eqv st st' -> DAny P env md ops base Q fuel listed st -> DAny P env md ops base Q fuel listed st'
 | 0, _, _, _, he, ⟨h1, s, h2, h3⟩ => ⟨h1, s, he.symm.trans h2, h3⟩
 | fuel + 1, _, st, st', he, ⟨h1, h2⟩ => ⟨fun hr => by obtain ⟨s, a, b⟩ := h1 hr; exact ⟨s, he.symm.trans a, b⟩, fun i hi => by
   obtain ⟨o, l, e, g1, g2, g3⟩ := h2 i hi
   obtain ⟨e', k1, k2⟩ := dg_eqv (he.at (base + i)) rfl g2
   exact ⟨o, l, e', g1, k1, DAny_eqv fuel _ _ _ (he.apS k2) g3⟩⟩
def compat : Cls -> Cls -> Bool
 | .n, .w => true
 | .w, _ | _, .w => false
 | .a, .r => false
 | _, _ => true
def isCall : Op -> Bool
 | .call c => match c.callee with
  | .value _ => true
  | _ => false
 | _ => false
def ownPair (a b : Op) : Bool := !(isCall a) || decide (clsOf b ≠ .r)
theorem eff_keep {st : St} {o : Oper} {l : LV} {e : Eff} (h : dgW P env ops st o l e) (hc : clsOf o.op = .n \/ clsOf o.op = .r) (hw : env.own = true -> isCall o.op = false) : e = .keep := by
 have big : dopW P env st o.op l e -> e = .keep := by
  intro h
  generalize o.op = op at *
  cases op <;> simp only [clsOf, reduceCtorEq, or_self] at hc <;> simp only [dopW] at h <;> (try exact h.1)
  case call c =>
   obtain ⟨callee, args, ats⟩ := c
   cases callee with
   | builtin b => cases b <;> simp only [reduceCtorEq, or_self] at hc <;> exact h.1
   | value f =>
    rcases h with h | ⟨h, _⟩
    .exact h.1
    .have := hw h
     simp [isCall] at this
   | _ => exact h.1
 unfold dgW at h
 split at h
 .exact big h
 .split at h
  .split at h
   .exact big h
   .exact h.2
  .exact h.2
  .exact h.elim
theorem eff_new {st : St} {o : Oper} {l : LV} {e : Eff} (h : dgW P env ops st o l e) (hc : clsOf o.op ≠ .w) : e = .keep \/ ∃ x, e = .new x := by
 have big : dopW P env st o.op l e -> e = .keep \/ ∃ x, e = .new x := by
  intro h
  generalize o.op = op at *
  cases op <;> simp only [dopW] at h <;> (try exact .inl h.1)
  case store => exact absurd rfl hc
  case mapUpdate => exact absurd rfl hc
  case mapEntry => exact absurd rfl hc
  case entryStore => exact absurd rfl hc
  case alloc => obtain ⟨_, _, _, h⟩ := h; exact .inr ⟨_, h⟩
  case box => obtain ⟨_, _, _, h⟩ := h; exact .inr ⟨_, h⟩
  case buildSlice => obtain ⟨_, _, _, _, _, _, _, _, _, _, _, ⟨_, h⟩ | ⟨_, h⟩⟩ := h; exact .inr ⟨_, h⟩; exact .inl h
  case makeSlice => obtain ⟨_, _, _, _, _, _, _, _, _, _, _, _, _, _, ⟨_, h⟩ | ⟨_, h⟩⟩ := h; exact .inr ⟨_, h⟩; exact .inl h
  case makeMap => exact .inr ⟨_, h.2.2⟩
  case call c =>
   obtain ⟨callee, args, ats⟩ := c
   cases callee with
   | builtin b =>
    cases b with
    | append => exact absurd rfl hc
    | _ => exact .inl h.1
   | value f =>
    rcases h with h | ⟨_, _, _, _, _, _, _, _, _, _, _, _, h⟩
    .exact .inl h.1
    .exact .inr ⟨_, h⟩
   | _ => exact .inl h.1
 unfold dgW at h
 split at h
 .exact big h
 .split at h
  .split at h
   .exact big h
   .exact .inl h.2
  .exact .inl h.2
  .exact h.elim
theorem eff_fresh {st : St} {o : Oper} {l : LV} {e : Eff} (h : dgW P env ops st o l e) {k : Nat} (hk : k ≠ st.ctr) (hn : look k st.heap = none) : look k (e.ap st.ctr st.heap) = none := by
 by_cases hw : clsOf o.op = .w
 .have big : dopW P env st o.op l e -> look k (e.ap st.ctr st.heap) = none := by
   intro h
   have : ∃ h1, e = .set h1 /\ (mW env st o.op fun r h _ => r = l /\ h = h1) := by
    generalize hq : o.op = op at *
    cases op <;> simp only [clsOf, reduceCtorEq] at hw <;> simp only [dopW] at h ⊢
    case store => exact h.2
    case mapUpdate => exact h
    case mapEntry => exact h
    case entryStore => exact h
    case call c =>
     obtain ⟨callee, args, ats⟩ := c
     cases callee with
     | builtin b =>
      cases b <;> simp only [reduceCtorEq] at hw
      exact h
     | _ => simp only [reduceCtorEq] at hw
   obtain ⟨h1, rfl, g⟩ := this
   obtain ⟨_, _, _, g⟩ := wrote (st' := st) hw (fun _ _ => rfl) rfl (fun _ => rfl) g
   exact g k hk hn
  unfold dgW at h
  split at h
  .exact big h
  .split at h
   .split at h
    .exact big h
    .rw [h.2]; exact hn
   .rw [h.2]; exact hn
   .exact h.elim
 .rcases eff_new h hw with rfl | ⟨x, rfl⟩
  .exact hn
  .simp only [Eff.ap, look, hk, if_false]; exact hn
def loadMup : Op -> Op -> Bool
 | .load .., .mapUpdate .. | .load .., .mapEntry .. | .load .., .entryStore .. => true
 | _, _ => false
def calmPair : Op -> Op -> Bool
 | .load .., .store .. => true
 | .load .., .call c => match c.callee with
  | .builtin .append => true
  | _ => false
 | _, _ => false
def loadWt (q : Bool) (a b : Op) : Bool := loadMup a b || (q && calmPair a b)
def compat2 (q : Bool) (a b : Op) : Bool := compat (clsOf a) (clsOf b) || loadWt q a b
theorem isCall_cls {o : Op} (h : isCall o = true) : clsOf o = .r := by
 unfold isCall at h
 split at h
 .rename_i c
  unfold clsOf
  split at h
  .rename_i e; simp only [e]
  .cases h
 .cases h
theorem calmPair_spec {a b : Op} (h : calmPair a b = true) : clsOf a = .r /\ clsOf b = .w /\ (∃ t x, a = .load t x) /\ ((∃ t x v, b = .store t x v) \/ ∃ c, b = .call c /\ c.callee = .builtin .append) := by
 unfold calmPair at h
 split at h
 .exact ⟨rfl, rfl, ⟨_, _, rfl⟩, .inl ⟨_, _, _, rfl⟩⟩
 .rename_i c
  split at h
  .rename_i e
   exact ⟨rfl, by simp [clsOf, e], ⟨_, _, rfl⟩, .inr ⟨_, rfl, e⟩⟩
  .cases h
 .cases h
theorem loadMup_spec {a b : Op} (h : loadMup a b = true) : clsOf a = .r /\ clsOf b = .w /\ (∃ t x, a = .load t x) /\ ((∃ t x i v, b = .mapUpdate t x i v) \/ (∃ t x i, b = .mapEntry t x i) \/ ∃ t x i v, b = .entryStore t x i v) := by
 unfold loadMup at h
 split at h
 .exact ⟨rfl, rfl, ⟨_, _, rfl⟩, .inl ⟨_, _, _, _, rfl⟩⟩
 .exact ⟨rfl, rfl, ⟨_, _, rfl⟩, .inr (.inl ⟨_, _, _, rfl⟩)⟩
 .exact ⟨rfl, rfl, ⟨_, _, rfl⟩, .inr (.inr ⟨_, _, _, _, rfl⟩)⟩
 .cases h
theorem loadWt_spec {q : Bool} {a b : Op} (h : loadWt q a b = true) : clsOf a = .r /\ clsOf b = .w /\ (∃ t x, a = .load t x) /\
  (((∃ t x i v, b = .mapUpdate t x i v) \/ (∃ t x i, b = .mapEntry t x i) \/ ∃ t x i v, b = .entryStore t x i v) \/ (q = true /\ ((∃ t x v, b = .store t x v) \/ ∃ c, b = .call c /\ c.callee = .builtin .append))) := by
 simp only [loadWt, Bool.or_eq_true, Bool.and_eq_true] at h
 rcases h with h | ⟨hq, h⟩
 .obtain ⟨h1, h2, h3, h4⟩ := loadMup_spec h; exact ⟨h1, h2, h3, .inl h4⟩
 .obtain ⟨h1, h2, h3, h4⟩ := calmPair_spec h; exact ⟨h1, h2, h3, .inr ⟨hq, h4⟩⟩
theorem dg_load {st st' : St} {o : Oper} {l : LV} {e : Eff} (hld : ∃ t x, o.op = .load t x) (hnt : st.nt = st'.nt) (hs : ∀ t ∈ o.looksAt ops, getS st.slots t = getS st'.slots t)
  (hm : ∀ id x, look id st.heap = some x -> (∀ m, x ≠ .map m) -> look id st'.heap = some x) (h : dgW P env ops st o l e) : dgW P env ops st' o l e := by
 have hop := operands_congr hnt hs
 have key : dopW P env st o.op l e -> dopW P env st' o.op l e := by
  obtain ⟨t, x, ho⟩ := hld
  rw [ho] at hop ⊢
  simp only [dopW]
  rintro ⟨h1, hc', ti, h2, h3⟩
  have he : st.eval x = st'.eval x := hop x (by simp [Op.operands])
  rw [<- he]
  refine ⟨h1, hc', ti, h2, ?_⟩
  unfold loadW at h3 ⊢
  split at h3
  .rename_i hx; simp only [hx]; exact h3
  .rename_i id off hx
   obtain ⟨cells, r, g1, g2⟩ := h3
   simp only [hx]
   exact ⟨cells, r, hm _ _ g1 (by simp), g2⟩
  .rename_i id i off hx
   obtain ⟨e', sz, elems, y, r, g1, g2⟩ := h3
   simp only [hx]
   exact ⟨e', sz, elems, y, r, hm _ _ g1 (by simp), g2⟩
  .exact h3.elim
 unfold dgW at *
 split at h
 .exact key h
 .rename_i j want hg
  rw [<- guard_congr hnt hs hg]
  split at h
  .rename_i hb
   split at h
   .rw [if_pos ‹_›]; exact key h
   .rw [if_neg ‹_›]; exact h
  .exact h
  .exact h.elim
theorem dg_mup {st : St} {o : Oper} {l : LV} {e : Eff} {c : Nat} (hmu : (∃ t x i v, o.op = .mapUpdate t x i v) \/ (∃ t x i, o.op = .mapEntry t x i) \/ ∃ t x i v, o.op = .entryStore t x i v) (h : dgW P env ops st o l e) : ∀ id x, look id st.heap = some x -> (∀ m, x ≠ .map m) -> look id (e.ap c st.heap) = some x := by
 have key : dopW P env st o.op l e -> ∀ id x, look id st.heap = some x -> (∀ m, x ≠ .map m) -> look id (e.ap c st.heap) = some x := by
  have fin : ∀ (id' : Nat) (m m' : List (DV × DV)), look id' st.heap = some (.map m) -> ∀ id y, look id st.heap = some y -> (∀ m, y ≠ .map m) -> look id (upd id' (.map m') st.heap) = some y := by
   intro id' m m' h4 id y hy hne
   by_cases hii : id = id'
   .subst hii; rw [h4] at hy; cases hy; exact absurd rfl (hne _)
   .rw [look_upd_other hii]; exact hy
  rcases hmu with ⟨t, x, i, v, ho⟩ | ⟨t, x, i, ho⟩ | ⟨t, x, i, v, ho⟩
  .rw [ho]
   simp only [dopW]
   rintro ⟨h', rfl, hmw⟩ id y hy hne
   obtain ⟨ti, kt, et, id', m, kd, vd, h1, h2, h3, h4, h5, h6, h7, h8, _, rfl⟩ := hmw
   exact fin id' m _ h4 id y hy hne
  .rw [ho]
   simp only [dopW]
   rintro ⟨h', rfl, hmw⟩ id y hy hne
   obtain ⟨ti, kt, et, te, id', m, kd, h1, h2, h3, h4, h5, h6, h7, h8, _, rfl⟩ := hmw
   show look id (match mfind kd m with | some _ => st.heap | none => _) = some y
   split
   .exact hy
   .exact fin id' m _ h5 id y hy hne
  .rw [ho]
   simp only [dopW]
   rintro ⟨h', rfl, hmw⟩ id y hy hne
   obtain ⟨id', m, k1, n, vd, p, h1, h2, h3, h4, h5, h6, _, rfl⟩ := hmw
   exact fin id' m _ h2 id y hy hne
 unfold dgW at h
 split at h
 .exact key h
 .split at h
  .split at h
   .exact key h
   .obtain ⟨_, rfl⟩ := h; exact fun id x hx _ => hx
  .obtain ⟨_, rfl⟩ := h; exact fun id x hx _ => hx
  .exact h.elim
theorem dg_loadC {b : Nat -> Bool} (hb0 : env.calm = some b) {st st' : St} {o : Oper} {l : LV} {e : Eff} (hld : ∃ t x, o.op = .load t x) (hnt : st.nt = st'.nt) (hs : ∀ t ∈ o.looksAt ops, getS st.slots t = getS st'.slots t)
  (hm : ∀ id cells, b id = false -> look id st.heap = some (.box cells) -> look id st'.heap = some (.box cells)) (h : dgW P env ops st o l e) : dgW P env ops st' o l e := by
 have hop := operands_congr hnt hs
 have key : dopW P env st o.op l e -> dopW P env st' o.op l e := by
  obtain ⟨t, x, ho⟩ := hld
  rw [ho] at hop ⊢
  simp only [dopW]
  rintro ⟨h1, hc', ti, h2, h3⟩
  have he : st.eval x = st'.eval x := hop x (by simp [Op.operands])
  rw [<- he]
  refine ⟨h1, hc', ti, h2, ?_⟩
  rw [hb0] at hc'
  unfold loadW at h3 ⊢
  split at h3
  .rename_i hx; simp only [hx]; exact h3
  .rename_i id off hx
   obtain ⟨cells, r, g1, g2⟩ := h3
   simp only [hx]
   simp only [hx, calmLd] at hc'
   exact ⟨cells, r, hm _ _ (by simpa using hc') g1, g2⟩
  .rename_i id i off hx
   simp only [hx, calmLd, Bool.false_eq_true] at hc'
  .exact h3.elim
 unfold dgW at *
 split at h
 .exact key h
 .rename_i j want hg
  rw [<- guard_congr hnt hs hg]
  split at h
  .rename_i hb
   split at h
   .rw [if_pos ‹_›]; exact key h
   .rw [if_neg ‹_›]; exact h
  .exact h
  .exact h.elim
theorem dg_calm {b : Nat -> Bool} (hb0 : env.calm = some b) {st : St} {o : Oper} {l : LV} {e : Eff} (hfr : look st.ctr st.heap = none) (hmu : (∃ t x v, o.op = .store t x v) \/ ∃ c, o.op = .call c /\ c.callee = .builtin .append) (h : dgW P env ops st o l e) :
  ∀ id cells, b id = false -> look id st.heap = some (.box cells) -> look id (e.ap st.ctr st.heap) = some (.box cells) := by
 have key : dopW P env st o.op l e -> ∀ id cells, b id = false -> look id st.heap = some (.box cells) -> look id (e.ap st.ctr st.heap) = some (.box cells) := by
  intro h id cells hid hl
  rcases hmu with ⟨t, x, v, ho⟩ | ⟨c, ho, hcal⟩
  .rw [ho] at h
   simp only [dopW] at h
   obtain ⟨hc', h', rfl, ti, h1, hs⟩ := h
   rw [hb0] at hc'
   unfold storeW at hs
   obtain ⟨ls, g1, g2, g3, hs⟩ := hs
   split at hs
   .rename_i id' off hx
    obtain ⟨cells', q1, q2, _, rfl⟩ := hs
    rw [hx] at hc'
    simp only [calmSt] at hc'
    show look id (upd id' _ st.heap) = _
    rw [look_upd_other (fun e2 => by rw [e2, hc'] at hid; cases hid)]; exact hl
   .rename_i hx
    first
    | exact hs.elim
    | (simp only [hx, calmSt, Bool.false_eq_true] at hc')
   all_goals first
    | exact hs.elim
    | (rename_i hx; simp only [hx, calmSt, Bool.false_eq_true] at hc')
  .obtain ⟨callee, args, ats⟩ := c
   simp only at hcal
   subst hcal
   rw [ho] at h
   simp only [dopW, mW] at h
   obtain ⟨h', rfl, _, s, x, t, g1, g2, ti, e', te, q1, q2, q3, q4, new, q5, q6, hs⟩ := h
   have hne : id ≠ st.ctr := fun e2 => by rw [e2, hfr] at hl; cases hl
   show look id h' = _
   split at hs
   .obtain ⟨_, _, _, rfl⟩ := hs
    simp only [look, if_neg hne]; exact hl
   .rename_i id' sz off len hx
    obtain ⟨elems, _, hrow, _, _, _, _, rfl⟩ := hs
    have hne2 : id ≠ id' := fun e2 => by rw [e2, hrow] at hl; cases hl
    simp only [look, if_neg hne]
    rw [look_del_other hne2]; exact hl
   .exact hs.elim
 unfold dgW at h
 split at h
 .exact key h
 .split at h
  .split at h
   .exact key h
   .obtain ⟨_, rfl⟩ := h; exact fun id x _ hx => hx
  .obtain ⟨_, rfl⟩ := h; exact fun id x _ hx => hx
  .exact h.elim
theorem DAny_first (q : Bool) (hq : q = true -> ∃ b, env.calm = some b) {i : Nat} {oi : Oper} {l : LV} {e : Eff} (hi : ops[i]? = some oi) (B : Nat -> Bool)
  (hB : ∀ j, B j = true -> j ≠ i /\ ∀ oj, ops[j]? = some oj -> ∃ x ∈ oj.after, Region.binds md x = true /\ (x.on = i \/ B x.on = true)) :
  ∀ (fuel : Nat) (listed : Array Bool) (st : St), (∀ j, B j = true -> listed.getD j false = false) ->
   (∀ j oj, ops[j]? = some oj -> j ≠ i -> listed.getD j true = false -> B j = false -> oi.apart ops oj = true /\ compat2 q oi.op oj.op = true /\ (env.own = true -> ownPair oi.op oj.op = true)) ->
   (∀ k, listed.getD k true = false -> look (base + k) st.heap = none) ->
   i ∈ Region.ready md ops listed -> dgW P env ops (st.at (base + i)) oi l e ->
   DAny P env md ops base Q fuel (listed.setIfInBounds i true) (apS st (base + i) oi l e) -> DAny P env md ops base Q (fuel + 1) listed st := by
 intro fuel
 induction fuel with
 | zero =>
  intro listed st _ _ _ hr hy H
  refine ⟨fun h => (by rw [h] at hr; cases hr), fun j hj => ?_⟩
  by_cases hji : j = i
  .subst hji; exact ⟨oi, l, e, hi, hy, H⟩
  .have := ready_mono hj hji
   rw [H.1] at this
   cases this
 | succ fuel ih =>
  intro listed st hBl hfree hfresh hr hy H
  refine ⟨fun h => (by rw [h] at hr; cases hr), fun j hj => ?_⟩
  by_cases hji : j = i
  .subst hji; exact ⟨oi, l, e, hi, hy, H⟩
  .obtain ⟨oj, lj, ej, hoj, h1, h2⟩ := H.2 j (ready_mono hj hji)
   obtain ⟨hjun, oj', hoj', hall⟩ := mem_ready.1 hj
   rw [hoj] at hoj'; cases hoj'
   have hiun : listed.getD i true = false := (mem_ready.1 hr).1
   have hiF : listed.getD i false = false := by
    rcases Nat.lt_or_ge i listed.size with h' | h'
    .simp [h'] at hiun ⊢; exact hiun
    .simp [Array.getElem?_eq_none h']
   have hjB : B j = false := by
    rcases hb : B j with _ | _
    .rfl
    .obtain ⟨_, hb2⟩ := hB j hb
     obtain ⟨x, hx, hxb, hxo⟩ := hb2 oj hoj
     have := hall x hx hxb
     rcases hxo with hxo | hxo
     .rw [hxo, hiF] at this; cases this
     .rw [hBl _ hxo] at this; cases this
   obtain ⟨hap, hcp, hwp⟩ := hfree j oj hoj hji hjun hjB
   obtain ⟨a1, a2, a3⟩ := Oper.apart_spec hap
   simp only [compat2, Bool.or_eq_true] at hcp
   have hwi : clsOf oi.op ≠ .w := by
    rcases hcp with hcp | hcp
    .intro e; rw [e] at hcp; simp [compat] at hcp
    .rw [(loadWt_spec hcp).1]; simp
   have hwj : clsOf oj.op = .w -> clsOf oi.op = .n \/ loadWt q oi.op oj.op = true := by
    intro e
    rcases hcp with hcp | hcp
    .rw [e] at hcp; cases hq : clsOf oi.op <;> rw [hq] at hcp <;> simp [compat] at hcp ⊢
    .exact .inr hcp
   have hnr : clsOf oj.op = .w -> clsOf oi.op = .n \/ clsOf oi.op = .r := fun e => (hwj e).imp id fun h => (loadWt_spec h).1
   have hcp : clsOf oj.op ≠ .w -> compat (clsOf oi.op) (clsOf oj.op) = true := fun e => hcp.resolve_right fun h => e (loadWt_spec h).2.1
   have hkp : clsOf oi.op = .n \/ clsOf oi.op = .r -> clsOf oj.op = .r \/ clsOf oj.op = .w -> e = .keep := fun hc hj => eff_keep hy hc fun ho => by
    rcases hj with hj | hj
    .have := hwp ho
     simp only [ownPair, hj, ne_eq, not_true_eq_false, decide_false, Bool.or_false, Bool.not_eq_true'] at this
     exact this
    .rcases hwj hj with h | h
     .cases hq : isCall oi.op with
      | false => rfl
      | true =>
       rw [isCall_cls hq] at h
       cases h
     .obtain ⟨_, _, ⟨t, x, h⟩, _⟩ := loadWt_spec h
      rw [h]; rfl
   have back : ∃ ej', dgW P env ops (st.at (base + j)) oj lj ej' /\ (∀ id, look id (ej.ap (base + j) (apS st (base + i) oi l e).heap) = look id (ej'.ap (base + j) (apS st (base + i) oi l e).heap)) /\ (clsOf oj.op ≠ .w -> ej' = ej) := by
    have hsl : ∀ t ∈ oj.looksAt ops, getS ((apS st (base + i) oi l e).at (base + j)).slots t = getS (st.at (base + j)).slots t := fun t ht => by
     show getS (apS st (base + i) oi l e).slots t = getS st.slots t
     rw [apS_slots, if_neg]
     intro e'; exact a1 t e' ht
    by_cases hcw : clsOf oj.op = .w
    .have : e = .keep := hkp (hnr hcw) (.inr hcw)
     subst this
     have heq : Eqv ((apS st (base + i) oi l .keep).at (base + j)) { (st.at (base + j)) with slots := (apS st (base + i) oi l .keep).slots } := ⟨by simp [St.at, apS_nt], fun _ => rfl, fun id => by simp [St.at, apS_heap, Eff.ap]⟩
     obtain ⟨ej', k1, k2⟩ := dg_eqv heq rfl h1
     have h3 : ∃ e3, dgW P env ops (st.at (base + j)) oj lj e3 /\ ∀ id, look id (ej'.ap (base + j) st.heap) = look id (e3.ap (base + j) st.heap) :=
      dg_writes (st := { (st.at (base + j)) with slots := (apS st (base + i) oi l .keep).slots }) (st' := st.at (base + j)) hcw rfl hsl rfl (fun _ => rfl) k1
     obtain ⟨e3, g1, g2⟩ := h3
     refine ⟨e3, g1, fun id => ?_, fun hne => absurd hcw hne⟩
     have e1 : (apS st (base + i) oi l .keep).heap = st.heap := by rw [apS_heap]; rfl
     have k : look id (ej.ap (base + j) (apS st (base + i) oi l .keep).heap) = look id (ej'.ap (base + j) st.heap) := k2 id
     rw [k, e1]; exact g2 id
    .refine ⟨ej, ?_, fun _ => rfl, fun _ => rfl⟩
     refine dg_congr (st := (apS st (base + i) oi l e).at (base + j)) (st' := st.at (base + j)) hcw (by simp [St.at, apS_nt]) hsl rfl (fun hcr => ?_) h1
     have : e = .keep := by
      refine hkp ?_ (.inl hcr)
      have hcp := hcp hcw
      rw [hcr] at hcp
      cases hq : clsOf oi.op <;> rw [hq] at hcp <;> simp [compat] at hcp ⊢
     subst this
     intro id o ho
     have ho' : look id (apS st (base + i) oi l .keep).heap = some o := ho
     rw [apS_heap] at ho'; exact ho'
   obtain ⟨ej', back, hej, hsame⟩ := back
   have keep : dgW P env ops ((apS st (base + j) oj lj ej').at (base + i)) oi l e := by
    by_cases hsp : loadWt q oi.op oj.op = true
    .obtain ⟨_, _, hld, hmu⟩ := loadWt_spec hsp
     rcases hmu with hmu | ⟨hqt, hmu⟩
     rotate_left
     .obtain ⟨b, hb0⟩ := hq hqt
      refine dg_loadC hb0 (st := st.at (base + i)) (st' := (apS st (base + j) oj lj ej').at (base + i)) hld (by simp [St.at, apS_nt]) (fun t ht => ?_) (fun id cells hid hx => ?_) hy
      .show getS st.slots t = getS (apS st (base + j) oj lj ej').slots t
       rw [apS_slots, if_neg]
       intro e'; exact a3 t e' ht
      .show look id (apS st (base + j) oj lj ej').heap = some _
       rw [apS_heap]
       exact dg_calm hb0 (hfresh j hjun) hmu back id cells hid hx
     refine dg_load (st := st.at (base + i)) (st' := (apS st (base + j) oj lj ej').at (base + i)) hld (by simp [St.at, apS_nt]) (fun t ht => ?_) (fun id x hx hne => ?_) hy
     .show getS st.slots t = getS (apS st (base + j) oj lj ej').slots t
      rw [apS_slots, if_neg]
      intro e'; exact a3 t e' ht
     .show look id (apS st (base + j) oj lj ej').heap = some x
      rw [apS_heap]
      exact dg_mup hmu back id x hx hne
    refine dg_congr (st := st.at (base + i)) (st' := (apS st (base + j) oj lj ej').at (base + i)) hwi (by simp [St.at, apS_nt]) (fun t ht => ?_) rfl (fun hcr => ?_) hy
    .show getS st.slots t = getS (apS st (base + j) oj lj ej').slots t
     rw [apS_slots, if_neg]
     intro e'; exact a3 t e' ht
    .intro id o ho
     show look id (apS st (base + j) oj lj ej').heap = some o
     rw [apS_heap]
     have hnw : clsOf oj.op ≠ .w := fun hc => by rw [(hwj hc).resolve_right hsp] at hcr; cases hcr
     rcases eff_new back hnw with rfl | ⟨x, rfl⟩
     .exact ho
     .simp only [Eff.ap, look]
      rw [if_neg]
      .exact ho
      .intro e'; subst e'
       have := hfresh j hjun
       have ho' : look (base + j) st.heap = some o := ho
       rw [this] at ho'; cases ho'
   have swap : Eqv (apS (apS st (base + i) oi l e) (base + j) oj lj ej) (apS (apS st (base + j) oj lj ej') (base + i) oi l e) := by
    refine ⟨by simp [apS_nt], fun t => ?_, fun id => ?_⟩
    .rw [apS_slots, apS_slots, apS_slots, apS_slots]
     by_cases c1 : oi.dst = some t
     .have := a2 t c1
      simp [c1, this]
     .rw [if_neg c1]; split <;> simp [c1]
    .by_cases hcw : clsOf oj.op = .w
     .have : e = .keep := hkp (hnr hcw) (.inr hcw)
      subst this
      have := hej id
      rw [apS_heap] at this
      rw [apS_heap, apS_heap, apS_heap, apS_heap]
      exact this
     have hs2 := hsame hcw
     subst hs2
     rw [apS_heap, apS_heap, apS_heap, apS_heap]
     rcases eff_new back hcw with rfl | ⟨x, rfl⟩ <;> rcases eff_new hy hwi with rfl | ⟨y, rfl⟩ <;> simp only [Eff.ap, look]
     by_cases c1 : id = base + j
     .subst c1; simp [hji]
     .simp [c1]
   refine ⟨oj, lj, ej', hoj, back, ?_⟩
   refine ih (listed.setIfInBounds j true) _ (fun k hk => ?_) (fun k ok hk hki hun hkB => ?_) (fun k hk => ?_) (ready_mono hr (Ne.symm hji)) keep ?_
   .rw [getD_set_ne false (fun e' => by subst e'; rw [hjB] at hk; cases hk)]; exact hBl k hk
   .refine hfree k ok hk hki ?_ hkB
    by_cases hjk : j = k
    .subst hjk; exact hjun
    .rw [getD_set_ne true hjk] at hun; exact hun
   .have hjk : j ≠ k := by
     rintro rfl
     rcases Nat.lt_or_ge j listed.size with h' | h'
     .simp [h'] at hk
     .simp [Array.getElem?_eq_none h'] at hk
    rw [apS_heap]
    have hk' : listed.getD k true = false := by rw [getD_set_ne true hjk] at hk; exact hk
    exact eff_fresh back (by simp only [St.at]; omega) (hfresh k hk')
   .rw [Array.setIfInBounds_comm _ _ hji]
    exact DAny_eqv fuel _ _ _ swap h2
end
end Go.E
/- Drawn regions, the rule (dwp_region_any). Condition: the checks drawOK and mixedOrders, by kernel. -/
namespace Go.E
open Go Go.RowKit
def blockedB (md : Region.Mode) (ops : Array Oper) (listed : Array Bool) (i : Nat) : List Nat :=
 (List.range ops.size).foldl (fun acc j => if !(j == i) && !(listed.getD j false) && (match ops[j]? with
  | some oj => oj.after.any fun x => Region.binds md x && (x.on == i || acc.contains x.on)
  | none => false) then j :: acc else acc) []
def firstOK (q w : Bool) (md : Region.Mode) (ops : Array Oper) (listed : Array Bool) (i : Nat) (oi : Oper) (B : List Nat) : Bool :=
  (B.all fun j => !(j == i) && !(listed.getD j false) && match ops[j]? with
    | some oj => oj.after.any fun x => Region.binds md x && (x.on == i || B.contains x.on)
    | none => false) &&
  ((List.range ops.size).all fun j => j == i || listed.getD j true || B.contains j || match ops[j]? with
    | some oj => oi.apart ops oj && (compat2 q oi.op oj.op && (!w || ownPair oi.op oj.op))
    | none => true)
def drawOK (q w : Bool) (md : Region.Mode) (ops : Array Oper) : List Nat -> Array Bool -> Bool
 | [], listed => (Region.ready md ops listed).isEmpty
 | i :: rest, listed => (match ops[i]? with
  | none => false
  | some oi => (Region.ready md ops listed == [i]) || ((Region.ready md ops listed).contains i && firstOK q w md ops listed i oi (blockedB md ops listed i))) &&
  drawOK q w md ops rest (listed.setIfInBounds i true)
def dpops (P : Program) (env : Env) (ops : Array Oper) (base : Nat) (K : St -> Prop) : List Nat -> St -> Prop
 | [], st => K st
 | i :: rest, st => match ops[i]? with
  | none => False
  | some o => match o.guard with
   | none => ∃ l e, dopW P env (st.at (base + i)) o.op l e /\ dpops P env ops base K rest (apS st (base + i) o l e)
   | some (j, want) => match guardLV st ops j with
    | .p (.bool b) => (b = want -> ∃ l e, dopW P env (st.at (base + i)) o.op l e /\ dpops P env ops base K rest (apS st (base + i) o l e)) /\
      (b = !want -> dpops P env ops base K rest (apS st (base + i) o .und .keep))
    | .und => dpops P env ops base K rest (apS st (base + i) o .und .keep)
    | _ => False
section
variable {P : Program} {A : Amb} {env : Env} {md : Region.Mode} {ops : Array Oper} {base : Nat} {K : St -> Prop}
theorem dpops_step {i : Nat} {rest : List Nat} {st : St} (h : dpops P env ops base K (i :: rest) st) :
  ∃ o l e, ops[i]? = some o /\ dgW P env ops (st.at (base + i)) o l e /\ dpops P env ops base K rest (apS st (base + i) o l e) := by
 simp only [dpops] at h
 split at h
 .exact h.elim
 .rename_i o ho
  split at h
  .rename_i hg
   obtain ⟨l, e, h1, h2⟩ := h
   exact ⟨o, l, e, ho, by unfold dgW; rw [hg]; exact h1, h2⟩
  .rename_i j want hg
   have hgl : guardLV (st.at (base + i)) ops j = guardLV st ops j := rfl
   split at h
   .rename_i b hb
    by_cases e : b = want
    .obtain ⟨l, e', h1, h2⟩ := h.1 e
     exact ⟨o, l, e', ho, by unfold dgW; rw [hg]; simp only [hgl, hb]; rw [if_pos e]; exact h1, h2⟩
    .exact ⟨o, .und, .keep, ho, by unfold dgW; rw [hg]; simp only [hgl, hb]; rw [if_neg e]; simp, h.2 (by cases b <;> cases want <;> simp_all)⟩
   .rename_i hb
    exact ⟨o, .und, .keep, ho, by unfold dgW; rw [hg]; simp [hgl, hb], h⟩
   .exact h.elim
theorem DAny_of_dpops (q : Bool) (hq : q = true -> ∃ b, env.calm = some b) : ∀ (order : List Nat) (listed : Array Bool) (st : St), drawOK q env.own md ops order listed = true -> (∀ k, listed.getD k true = false -> look (base + k) st.heap = none) ->
  dpops P env ops base K order st -> DAny P env md ops base K order.length listed st
 | [], listed, st, hok, _, h => ⟨by simpa [drawOK] using hok, st, Eqv.refl st, h⟩
 | i :: rest, listed, st, hok, hfresh, h => by
  obtain ⟨o, l, e, ho, hd, hrest⟩ := dpops_step h
  simp only [drawOK, ho, Bool.and_eq_true, Bool.or_eq_true] at hok
  have hrec : DAny P env md ops base K rest.length (listed.setIfInBounds i true) (apS st (base + i) o l e) := by
   refine DAny_of_dpops q hq rest _ _ hok.2 (fun k hk => ?_) hrest
   have hik : i ≠ k := by
    rintro rfl
    rcases Nat.lt_or_ge i listed.size with h' | h'
    .simp [h'] at hk
    .simp [Array.getElem?_eq_none h'] at hk
   rw [apS_heap]
   exact eff_fresh hd (by simp only [St.at]; omega) (hfresh k (by rw [getD_set_ne true hik] at hk; exact hk))
  rcases hok.1 with h1 | h1
  .have hr : Region.ready md ops listed = [i] := by simpa using h1
   refine ⟨fun h0 => (by rw [hr] at h0; cases h0), fun j hj => ?_⟩
   rw [hr] at hj
   simp at hj
   subst hj
   exact ⟨o, l, e, ho, hd, hrec⟩
  .obtain ⟨h1, h2⟩ := h1
   simp only [firstOK, Bool.and_eq_true, List.all_eq_true, List.mem_range] at h2
   obtain ⟨h2, h3⟩ := h2
   generalize hBe : blockedB md ops listed i = B at h2 h3
   refine DAny_first q hq ho (fun j => B.contains j) (fun j hj => ?_) rest.length listed st (fun j hj => ?_) (fun j oj hoj hji hun hBj => ?_) hfresh (by simpa using h1) hd hrec
   .have := h2 j (by simpa using hj)
    obtain ⟨⟨a1, a2⟩, a3⟩ := this
    refine ⟨by simpa using a1, fun oj hoj => ?_⟩
    rw [hoj] at a3
    obtain ⟨x, hx, hx2⟩ := Array.any_eq_true'.1 a3
    simp only [Bool.and_eq_true, Bool.or_eq_true, beq_iff_eq] at hx2
    exact ⟨x, hx, hx2.1, hx2.2⟩
   .have := (h2 j (by simpa using hj)).1.2
    simpa using this
   .have := h3 j (Array.getElem?_eq_some_iff.1 hoj).1
    simp only [Bool.or_eq_true, beq_iff_eq, hji, false_or, hun, Bool.false_eq_true] at this
    rw [hBj] at this
    simp only [Bool.false_eq_true, false_or, hoj, Bool.and_eq_true] at this
    refine ⟨this.1, this.2.1, fun ho => ?_⟩
    have := this.2.2
    rw [ho] at this; simpa using this
theorem Mine_eqv {μ : Nat -> Option Loc} {h h' : Heap} (he : ∀ id, look id h = look id h') : Mine μ h = Mine μ h' := by
 funext b; simp only [Mine, he]
theorem RF.eqv {F : Nat -> Prop} {st st' : St} {a : Act} {w : World} (h : RF A F st a w) (he : Eqv st st') : RF A F st' a w := by
 obtain ⟨⟨μ, hh, hs⟩, hnt, hdef⟩ := h
 have hm : Mine μ st.heap = Mine μ st'.heap := Mine_eqv he.heap
 have ho : Own A μ st.heap = Own A μ st'.heap := by funext b; simp only [Own, hm]
 refine ⟨⟨μ, ⟨?_, ?_, hh.fresh, ?_, hh.size, hh.block, hh.os, hh.tape, hh.output, hh.ext⟩, fun t ht => ?_⟩, by rw [<- he.nt]; exact hnt, hdef⟩
 .rw [<- ho]; intro id o; rw [<- he.heap]; exact hh.obj id o
 .intro id id' o o' loc loc'; rw [<- he.heap, <- he.heap]; exact hh.inj id id' o o' loc loc'
 .intro id o loc; rw [<- he.heap]; exact hh.base id o loc
 .rw [<- ho, <- he.slots]; exact hs t (by rw [he.nt]; exact ht)
def Fl (base n : Nat) (listed : Array Bool) (id : Nat) : Prop := base + n <= id \/ ∃ i, i < n /\ listed.getD i true = false /\ id = base + i
theorem wpAny_of_DAny (hE : EnvOK P env) {n : Nat} (hn : n = ops.size) {Q' : Exit -> Act -> World -> Prop} (hQ : ∀ st a w listed, K st -> RF A (Fl base n listed) st a w -> Q' .normal a w) :
  ∀ (fuel : Nat) (listed : Array Bool) (st : St) (a : Act) (w : World), listed.size = n -> DAny P env md ops base K fuel listed st -> RF A (Fl base n listed) st a w -> wpAny P md ops Q' fuel listed a w
 | 0, listed, st, a, w, _, ⟨h1, st', he, hk⟩, hR => ⟨h1, hQ st' a w listed hk (hR.eqv he)⟩
 | fuel + 1, listed, st, a, w, hsz, ⟨h1, h2⟩, hR => by
  refine ⟨fun h0 => ?_, fun i hi => ?_⟩
  .obtain ⟨st', he, hk⟩ := h1 h0
   exact hQ st' a w listed hk (hR.eqv he)
  .obtain ⟨o, l, e, ho, hd, hrec⟩ := h2 i hi
   have hun := (mem_ready.1 hi).1
   have hlt : i < n := by rw [hn]; exact (Array.getElem?_eq_some_iff.1 ho).1
   refine dg_sound (st := st.at (base + i)) hE ho ⟨hR.ex, hR.nt, hR.defers⟩ (.inr ⟨i, hlt, hun, rfl⟩) hd fun a' w' hR' => ?_
   refine wpAny_of_DAny hE hn hQ fuel _ _ _ _ (by simpa using hsz) hrec ?_
   have hR'' : RF A (fun id => Fl base n listed id /\ id ≠ base + i) (apS st (base + i) o l e) a' w' := by
    obtain ⟨⟨μ, x1, x2⟩, x3, x4⟩ := hR'
    refine ⟨⟨μ, ?_, fun t ht => ?_⟩, ?_, x4⟩
    .rw [apS_heap] at x1 ⊢; exact x1
    .have := x2 t (by rw [apS_nt] at ht ⊢; exact ht)
     rw [apS_heap, apS_slots] at this
     rw [apS_heap, apS_slots]; exact this
    .rw [apS_nt] at x3 ⊢; exact x3
   obtain ⟨⟨μ, x1, x2⟩, x3, x4⟩ := hR''
   refine ⟨⟨μ, x1.less fun id hid => ?_, x2⟩, x3, x4⟩
   rcases hid with hid | ⟨k, hk1, hk2, rfl⟩
   .exact ⟨.inl hid, by omega⟩
   .have hik : i ≠ k := by
     rintro rfl
     simp [show i < listed.size by omega] at hk2
    exact ⟨.inr ⟨k, hk1, by rw [getD_set_ne true hik] at hk2; exact hk2, rfl⟩, by omega⟩
theorem LRel.drawn {O : Nat -> Prop} {μ : Nat -> Option Loc} {w : World} {v : Value} {l : LV} (n : Nat) (h : LRel O μ w v l) : LRel O μ { w with drawn := n } v l :=
 LRel.mono (w := w) (w' := { w with drawn := n }) ⟨Nat.le_refl _, fun _ _ _ => rfl⟩ (fun _ _ hb => hb) (fun _ _ h => h) h
theorem R.drawn {st : St} {a : Act} {w : World} (n : Nat) (h : R A st a w) : R A st a { w with drawn := n } := by
 obtain ⟨⟨μ, hh, hs⟩, hnt, hdef⟩ := h
 refine ⟨⟨μ, ⟨fun id o ho => ?_, hh.inj, hh.fresh, hh.base, hh.size, hh.block, hh.os, hh.tape, hh.output, hh.ext⟩, fun t ht => (hs t ht).drawn n⟩, hnt, hdef⟩
 obtain ⟨loc, h1, h2⟩ := hh.obj id o ho
 exact ⟨loc, h1, ORel.mono (w := w) (w' := { w with drawn := n }) ⟨Nat.le_refl _, fun _ _ _ => rfl⟩ (fun _ _ hb => hb) (fun _ _ h => h) (fun _ => rfl) h2⟩
theorem dwp_region_any (q : Bool) (hq : q = true -> ∃ b, env.calm = some b) (hE : EnvOK P env) (hm : P.follows .mixedOrders = true) {id : Nat} {l : List Oper} {order : List Nat} (hok : drawOK q env.own .any l.toArray order (Array.replicate l.length false) = true)
  (hlen : order.length = l.length) {st : St} {Q : Exit -> St -> Prop} (h : dpops P env l.toArray st.ctr (fun st' => Q .normal { st' with ctr := st.ctr + l.length }) order st) :
  dwp P A (.region id l.toArray true) Q st := fun a w hR => by
 refine wp_region_any hm ?_
 have hR' := (hR.drawn (w.drawn + 1)).toRF
 have hfr : ∀ k, look (st.ctr + k) st.heap = none := by
  intro k
  cases hx : look (st.ctr + k) st.heap with
  | none => rfl
  | some o =>
   obtain ⟨⟨μ, hh, _⟩, _, _⟩ := hR
   obtain ⟨loc, h1, _⟩ := hh.obj _ _ hx
   rw [hh.fresh _ (by simp [Fr])] at h1; cases h1
 have hD := DAny_of_dpops q hq order (Array.replicate l.length false) st hok (fun k _ => hfr k) h
 have hsz : l.toArray.size = order.length := by simp [hlen]
 rw [hsz]
 have hrep : Array.replicate order.length false = Array.replicate l.length false := by rw [hlen]
 rw [hrep]
 refine wpAny_of_DAny (A := A) (n := l.length) hE (by simp) (fun st' a' w' listed hk hR'' => ?_) order.length _ st a _ (by simp) hD ?_
 .refine ⟨_, ?_, hk⟩
  obtain ⟨⟨μ, x1, x2⟩, x3, x4⟩ := hR''
  exact ⟨⟨μ, x1.less fun id hid => .inl hid, x2⟩, x3, x4⟩
 .obtain ⟨⟨μ, x1, x2⟩, x3, x4⟩ := hR'
  refine ⟨⟨μ, x1.less fun id hid => ?_, x2⟩, x3, x4⟩
  rcases hid with hid | ⟨k, _, _, rfl⟩
  .simp only [Fr]; omega
  .simp [Fr]
end
end Go.E
/- Equality and keys of flat structs; operations in a short form, for the walk of a function. No condition. -/
namespace Go.E
open Go Go.RowKit
def descFits : Option TypeDesc -> Sh -> Bool
 | some (.int j), .int j' => j == j'
 | some .string, .str => true
 | some .bool, .bool => true
 | _, _ => false
def fieldsB (P : Program) : List Field -> Nat -> List Sh -> Bool
 | [], _, [] => true
 | f :: fs, off, k :: ks => f.name != "_" && f.offset == off && descFits (P.underlying f.type) k && fieldsB P fs (off + 1) ks
 | _, _, _ => false
section
variable {P : Program}
theorem run_part_prim {t : TypeId} {k : Sh} (h : descFits (P.underlying t) k = true) {xs : Array Value} {off : Nat} {v : Value} (hx : xs[off]? = some v) (w : World) : (part t xs off).run P w = .ok v w := by
 cases hu : P.underlying t with
 | none => rw [hu] at h; simp [descFits] at h
 | some d =>
  rw [hu] at h
  cases d <;> simp [descFits] at h <;> simp [part, isAgg, run_underlying hu, hx]
theorem run_equal_prim {t : TypeId} {k : Sh} {a b : DV} (h : descFits (P.underlying t) k = true) (ha : shFits k a = true) (hb : shFits k b = true) (d : Nat) (w : World) :
  (Op.equalIn (d + 1) t (flatV a) (flatV b)).run P w = .ok (cellEq a b) w := by
 cases hu : P.underlying t with
 | none => rw [hu] at h; simp [descFits] at h
 | some dd =>
  rw [hu] at h
  cases dd <;> cases k <;> simp [descFits] at h <;> cases a <;> simp only [shFits, Bool.false_eq_true] at ha <;> cases b <;> simp only [shFits, Bool.false_eq_true] at hb
  .simp [flatV, cellEq, Op.equalIn, run_underlying hu]
  .simp only [beq_iff_eq] at ha hb
   subst ha; subst hb
   simp [flatV, cellEq, Op.equalIn, run_underlying hu]
  .simp [flatV, cellEq, Op.equalIn, run_underlying hu, beq_toListBytes]
theorem run_eqFields_flat (d : Nat) (w : World) (xs ys : List DV) : ∀ (fs : List Field) (off : Nat) (ks : List Sh) (xa bs : List DV), fieldsB P fs off ks = true -> xs.drop off = xa -> ys.drop off = bs -> fits ks xa = true -> fits ks bs = true ->
  (Op.eqFields (d + 1) (xs.map flatV).toArray (ys.map flatV).toArray fs).run P w = .ok (cellsEq xa bs) w
 | [], off, [], [], [], _, _, _, _, _ => by simp [Op.eqFields, cellsEq]
 | f :: fs, off, k :: ks, a :: xa, b :: bs, hB, hx, hy, ha, hb => by
  simp only [fieldsB, Bool.and_eq_true, bne_iff_ne, ne_eq, beq_iff_eq] at hB
  simp only [fits, Bool.and_eq_true] at ha hb
  obtain ⟨⟨⟨h1, h2⟩, h3⟩, h4⟩ := hB
  have ex : xs[off]? = some a := by
   have := congrArg List.head? hx
   rw [List.head?_drop] at this; exact this
  have ey : ys[off]? = some b := by
   have := congrArg List.head? hy
   rw [List.head?_drop] at this; exact this
  have hx' : xs.drop (off + 1) = xa := by rw [<- List.tail_drop, hx]; rfl
  have hy' : ys.drop (off + 1) = bs := by rw [<- List.tail_drop, hy]; rfl
  have ih := run_eqFields_flat d w xs ys fs (off + 1) ks xa bs h4 hx' hy' ha.2 hb.2
  have px := run_part_prim (w := w) h3 (xs := (xs.map flatV).toArray) (off := off) (v := flatV a) (by simp [ex])
  have py := run_part_prim (w := w) h3 (xs := (ys.map flatV).toArray) (off := off) (v := flatV b) (by simp [ey])
  have pe := run_equal_prim h3 ha.1 hb.1 d w
  simp only [Op.eqFields, h1, h2, ne_eq, not_false_eq_true, if_true, Sem.run_bind, px, py, pe, Result.andThen_ok, cellsEq]
  cases cellEq a b with
  | true => simpa using ih
  | false => simp
 | [], _, _ :: _, _, _, hB, _, _, _, _ => by simp [fieldsB] at hB
 | _ :: _, _, [], _, _, hB, _, _, _, _ => by simp [fieldsB] at hB
 | [], _, [], _ :: _, _, _, _, _, ha, _ => by simp [fits] at ha
 | [], _, [], [], _ :: _, _, _, _, _, hb => by simp [fits] at hb
 | _ :: _, _, _ :: _, [], _, _, _, _, ha, _ => by simp [fits] at ha
 | _ :: _, _, _ :: _, _ :: _, [], _, _, _, _, hb => by simp [fits] at hb
theorem eqok_flat {t : TypeId} {ks : List Sh} (hu : P.underlying t = some (.struct (P.fieldsOf t))) (hp : P.stoodInHeld t = false) (hg : P.eqGuardType P.depth t = false)
  (hf : fieldsB P (P.fieldsOf t).toList 0 ks = true) : EqOK P t ks :=
 ⟨hg, fun w ds es h1 h2 => by
  show (Op.equalIn (9999 + 1) t _ _).run P w = _
  rw [run_equalIn_struct w 9999 t _ _ hu hp]
  exact run_eqFields_flat 9998 w ds es _ 0 ks ds es hf rfl rfl h1 h2⟩
theorem run_check_fields (em : Bool) (d : Nat) (w : World) (xs : List DV) : ∀ (fs : List Field) (off : Nat) (ks : List Sh) (xa : List DV), fieldsB P fs off ks = true -> xs.drop off = xa -> fits ks xa = true ->
  (forIn fs PUnit.unit fun f (_ : PUnit) => (do
   if f.name ≠ "_" then Instr.checkKey em (d + 1) f.type (<- part f.type (xs.map flatV).toArray f.offset)
   pure (ForInStep.yield PUnit.unit) : Sem (ForInStep PUnit))).run P w = .ok PUnit.unit w
 | [], off, [], [], _, _, _ => by simp
 | f :: fs, off, k :: ks, a :: xa, hB, hx, ha => by
  simp only [fieldsB, Bool.and_eq_true, bne_iff_ne, ne_eq, beq_iff_eq] at hB
  simp only [fits, Bool.and_eq_true] at ha
  obtain ⟨⟨⟨h1, h2⟩, h3⟩, h4⟩ := hB
  have ex : xs[off]? = some a := by
   have := congrArg List.head? hx
   rw [List.head?_drop] at this; exact this
  have hx' : xs.drop (off + 1) = xa := by rw [<- List.tail_drop, hx]; rfl
  have ih := run_check_fields em d w xs fs (off + 1) ks xa h4 hx' ha.2
  have px := run_part_prim (w := w) h3 (xs := (xs.map flatV).toArray) (off := off) (v := flatV a) (by simp [ex])
  have pc : (Instr.checkKey em (d + 1) f.type (flatV a)).run P w = .ok () w := by
   cases hu : P.underlying f.type with
   | none => rw [hu] at h3; simp [descFits] at h3
   | some dd =>
    rw [hu] at h3
    cases dd <;> simp [descFits] at h3 <;> simp [Instr.checkKey, run_underlying hu]
  simp only [List.forIn_cons, Sem.run_bind, h1, ne_eq, not_false_eq_true, if_true, h2, px, pc, Result.andThen_ok, Sem.run_pure]
  exact ih
 | [], _, _ :: _, _, hB, _, _ => by simp [fieldsB] at hB
 | _ :: _, _, [], _, hB, _, _ => by simp [fieldsB] at hB
 | [], _, [], _ :: _, _, _, ha => by simp [fits] at ha
 | _ :: _, _, _ :: _, [], _, _, ha => by simp [fits] at ha
theorem keyok_flat {t : TypeId} {ks : List Sh} (hu : P.underlying t = some (.struct (P.fieldsOf t))) (he : EqOK P t ks) (hf : fieldsB P (P.fieldsOf t).toList 0 ks = true) : KeyOK P t ks := by
 refine ⟨he, by rw [hu]; trivial, fun em w ds h => ?_⟩
 show (Instr.checkKey em (9999 + 1) t _).run P w = _
 unfold Instr.checkKey
 simp only [Sem.run_bind, run_underlying hu, Result.andThen_ok]
 have := run_check_fields (P := P) em 9998 w ds (P.fieldsOf t).toList 0 ks ds hf rfl h
 simp only [Array.forIn_toList] at this
 simp at this ⊢
 rw [this]; rfl
end
def St.keep (ts : List Nat) (st : St) : St := { st with slots := ts.map fun t => (t, getS st.slots t) }
theorem look_keep {st : St} {t : Nat} : ∀ (ts : List Nat), look t (ts.map fun t => (t, getS st.slots t)) = if t ∈ ts then some (getS st.slots t) else none
 | [] => by simp [look]
 | u :: ts => by
  simp only [List.map_cons, look]
  by_cases e : t = u
  .subst e; simp
  .rw [if_neg e, look_keep ts]; simp [e]
theorem R.keep {A : Amb} {st : St} {a : Act} {w : World} (ts : List Nat) (h : R A st a w) : R A (st.keep ts) a w := by
 obtain ⟨⟨μ, hh, hs⟩, hnt, hdef⟩ := h
 refine ⟨⟨μ, hh, fun t ht => ?_⟩, hnt, hdef⟩
 have : getS (st.keep ts).slots t = if t ∈ ts then getS st.slots t else .any := by
  show (match look t (ts.map fun t => (t, getS st.slots t)) with | some v => v | none => LV.any) = _
  rw [look_keep]
  by_cases e : t ∈ ts <;> simp [e]
 rw [this]
 split
 .exact hs t ht
 .exact .any _
end Go.E
/- The walk of a function: operations in a short form (wpM), rules for the parts of a body, states made weaker (Weak). No condition. -/
namespace Go.E
open Go Go.RowKit
structure MOp where
 dst : Option Tmp
 op : Op
 g : Option (Option Tmp × Bool)
def dstAt (ops : List Oper) (j : Nat) : Option Tmp :=
 match ops[j]? with
 | some o => o.dst
 | none => none
def toM (ops : List Oper) (o : Oper) : MOp :=
 ⟨o.dst, o.op, match o.guard with
  | none => none
  | some (j, w) => some (dstAt ops j, w)⟩
structure Hid {α : Sort _} (a : α) : Type where
structure Cont (α : Type) where
 f : α -> Prop
 h : Hid f
def optW {α : Type} (o : Option α) (k : Cont α) : Prop :=
 match o with
 | some a => k.f a
 | none => False
def boolW (x : LV) (k : Cont Bool) : Prop :=
 match x with
 | .p (.bool b) => k.f b
 | _ => False
def intW (x : LV) (k : Cont (IntKind × Int)) : Prop :=
 match x with
 | .p (.int kk n) => k.f (kk, n)
 | _ => False
def pdW (x : LV) (k : Cont DV) : Prop :=
 match x with
 | .p d => k.f d
 | _ => False
def slcW (s : Sh) (k : Cont Nat) : Prop :=
 match s with
 | .slc e => k.f e
 | _ => False
def structW (s : Sh) (k : Cont (List (Nat × Nat))) : Prop :=
 match s with
 | .struct fs => k.f fs
 | _ => False
def mpW (s : Sh) (k : Cont (Nat × Nat)) : Prop :=
 match s with
 | .mp a b => k.f (a, b)
 | _ => False
def tiW (env : Env) (t : Nat) (k : Cont TI) : Prop := optW (env.tt t) k
def ptrW (x : LV) (k : Cont LV) : Prop :=
 match x with
 | .lpb i o => k.f (.lpb i o)
 | .lpe i j o => k.f (.lpe i j o)
 | .p (.place l o) => k.f (.p (.place l o))
 | _ => False
def intBinS (op : BinOp) (kk : IntKind) (a b : Int) (k : Cont LV) : Prop :=
 match op with
 | .quo | .rem => b ≠ 0 /\ optW (intBin op kk a b) ⟨fun v => k.f (.p v), ⟨⟩⟩
 | _ => optW (intBin op kk a b) ⟨fun v => k.f (.p v), ⟨⟩⟩
def nilEqW (neg : Bool) (empty : Prop) (k : Cont LV) : Prop := ∀ r, (¬ empty -> r = false) -> k.f (eqB neg r)
def eqS (env : Env) (neg : Bool) (t : Nat) (x y : LV) (k : Cont LV) : Prop :=
 match x, y with
 | .p (.str a), .p (.str b) => k.f (eqB neg (a.toList == b.toList))
 | .p (.bool a), .p (.bool b) => tiW env t ⟨fun ti => ti.sh = .bool /\ k.f (eqB neg (a == b)), ⟨⟩⟩
 | .p (.agg xs), .p (.agg ys) => optW (env.eqk t) ⟨fun ks => fits ks xs = true /\ fits ks ys = true /\ k.f (eqB neg (cellsEq xs ys)), ⟨⟩⟩
 | .p (.slice _ l), .p .nils => tiW env t ⟨fun ti => slcW ti.sh ⟨fun _ => nilEqW neg (l = []) k, ⟨⟩⟩, ⟨⟩⟩
 | .p .nils, .p .nils => tiW env t ⟨fun ti => slcW ti.sh ⟨fun _ => k.f (eqB neg true), ⟨⟩⟩, ⟨⟩⟩
 | .lsl _ _ _ len, .p .nils => tiW env t ⟨fun ti => slcW ti.sh ⟨fun _ => nilEqW neg (len = 0) k, ⟨⟩⟩, ⟨⟩⟩
 | .p (.place _ _), .p .nilp => env.ptr t = true /\ k.f (eqB neg false)
 | .p .nilp, .p .nilp => env.ptr t = true /\ k.f (eqB neg true)
 | .lpb _ _, .p .nilp => env.ptr t = true /\ k.f (eqB neg false)
 | _, _ => False
def binS (env : Env) (op : BinOp) (t : Nat) (x y : LV) (k : Cont LV) : Prop :=
 match x, y with
 | .p (.int k1 a), .p (.int k2 b) => k1 = k2 /\ intBinS op k1 a b k
 | x, y => match op with
  | .eql => eqS env false t x y k
  | .neq => eqS env true t x y k
  | _ => False
def extS (x : LV) (i : Nat) (k : Cont LV) : Prop :=
 match x with
 | .tup l => optW l[i]? k
 | .p (.tup l) => optW l[i]? ⟨fun v => k.f (.p v), ⟨⟩⟩
 | _ => False
def aggW (x : LV) (k : Cont (List LV)) : Prop :=
 match x with
 | .agg l => k.f l
 | .p (.agg l) => k.f (l.map .p)
 | _ => False
def offS (off : Nat) (x : LV) (k : Cont LV) : Prop :=
 match x with
 | .lpb id o => k.f (.lpb id (o + off))
 | .lpe id j o => k.f (.lpe id j (o + off))
 | .p (.place l o) => k.f (.p (.place l (o + off)))
 | _ => False
def buildS (env : Env) (place : Nat -> Option (Nat × Nat)) : List LV -> List (Nat × LV) -> Cont (List LV) -> Prop
 | cells, [], k => k.f cells
 | cells, (i, v) :: rest, k => optW (place i) ⟨fun p => tiW env p.2 ⟨fun ti => optW v.cells ⟨fun ls => (ls.length = ti.size /\ p.1 + ls.length <= cells.length) /\
   buildS env place (setAt cells p.1 ls) rest k, ⟨⟩⟩, ⟨⟩⟩, ⟨⟩⟩
def buildT (env : Env) (sh : Sh) (zero : List LV) (ps : List (Nat × LV)) (k : Cont (List LV)) : Prop :=
 match sh with
 | .struct fs => (fs.all fun p => (env.tt p.2).isSome) = true /\ buildS env (fun i => fs[i]?) zero ps k
 | .arr _ e => tiW env e ⟨fun te => buildS env (fun i => some (i * te.size, e)) zero ps k, ⟨⟩⟩
 | _ => False
def iaS (env : Env) (sh : Sh) (x : LV) (n : Int) (k : Cont LV) : Prop :=
 match sh, x with
 | .slc e, .p (.slice sz l) => tiW env e ⟨fun te => te.size = sz /\ 0 <= n /\ optW l[n.toNat]? ⟨fun c => k.f (.p (.place c 0)), ⟨⟩⟩, ⟨⟩⟩
 | .slc e, .lsl id sz off len => tiW env e ⟨fun te => te.size = sz /\ (0 <= n /\ n < len) /\ k.f (.lpe id (off + n.toNat) 0), ⟨⟩⟩
 | .arr m e, .lpb id o => tiW env e ⟨fun te => (0 <= n /\ n < m) /\ k.f (.lpb id (o + n.toNat * te.size)), ⟨⟩⟩
 | .arr m e, .p (.place l o) => tiW env e ⟨fun te => (0 <= n /\ n < m) /\ k.f (.p (.place l (o + n.toNat * te.size))), ⟨⟩⟩
 | _, _ => False
def ixS (env : Env) (sh : Sh) (x : LV) (n : Int) (k : Cont LV) : Prop :=
 match sh, x with
 | .arr m e, .agg l => tiW env e ⟨fun te => n < m /\ optW (partE te (n.toNat * te.size) l) k, ⟨⟩⟩
 | .arr m e, .p (.agg l) => tiW env e ⟨fun te => n < m /\ optW (partE te (n.toNat * te.size) (l.map .p)) k, ⟨⟩⟩
 | .str, .p (.str s) => optW s[n.toNat]? ⟨fun c => k.f (.p (.int .u8 c.toNat)), ⟨⟩⟩
 | _, _ => False
def bndS (dflt : Int) (x : Option LV) (k : Cont Int) : Prop :=
 match x with
 | none => k.f dflt
 | some (.p (.int _ n)) => k.f n
 | some _ => False
def sliceS (env : Env) (t : Nat) (x : LV) (lo hi : Option LV) (k : Cont LV) : Prop :=
 match x with
 | .p (.slice sz l) => tiW env t ⟨fun ti => slcW ti.sh ⟨fun e => tiW env e ⟨fun te => te.size = sz /\ bndS l.length hi ⟨fun h => bndS 0 lo ⟨fun lw => (0 <= lw /\ lw <= h /\ h <= l.length) /\ k.f (.p (.slice sz ((l.take h.toNat).drop lw.toNat))), ⟨⟩⟩, ⟨⟩⟩, ⟨⟩⟩, ⟨⟩⟩, ⟨⟩⟩
 | .lsl id sz off len => tiW env t ⟨fun ti => slcW ti.sh ⟨fun e => tiW env e ⟨fun te => te.size = sz /\ len ≠ 0 /\ bndS len hi ⟨fun h => bndS 0 lo ⟨fun lw => (0 <= lw /\ lw <= h /\ h <= len) /\ k.f (.lsl id sz (off + lw.toNat) (h - lw).toNat), ⟨⟩⟩, ⟨⟩⟩, ⟨⟩⟩, ⟨⟩⟩, ⟨⟩⟩
 | .p (.str s) => tiW env t ⟨fun ti => ti.sh = .str /\ bndS s.size hi ⟨fun h => bndS 0 lo ⟨fun lw => (0 <= lw /\ lw <= h /\ h <= s.size) /\ k.f (.p (.str (s.extract lw.toNat h.toNat))), ⟨⟩⟩, ⟨⟩⟩, ⟨⟩⟩
 | _ => False
def lenS (sh : Sh) (x : LV) (k : Cont LV) : Prop :=
 match sh, x with
 | .arr n _, _ => k.f (.p (.int .i64 n))
 | .slc _, .p (.slice _ l) => l.length <= maxLen -> k.f (.p (.int .i64 l.length))
 | .slc _, .p .nils => k.f (.p (.int .i64 0))
 | .slc _, .lsl _ _ _ len => k.f (.p (.int .i64 len))
 | .str, .p (.str s) => k.f (.p (.int .i64 s.size))
 | _, _ => False
def boxW (o : HObj) (k : Cont (List LV)) : Prop :=
 match o with
 | .box cells => k.f cells
 | _ => False
def rowW (o : HObj) (k : Cont (Nat × Nat × List (List DV))) : Prop :=
 match o with
 | .row e sz l => k.f (e, sz, l)
 | _ => False
def mapW (o : HObj) (k : Cont (List (DV × DV))) : Prop :=
 match o with
 | .map m => k.f m
 | _ => False
def loadS (h : Heap) (ti : TI) (p : LV) (k : Cont LV) : Prop :=
 match p with
 | .p (.place l off) => optW (partE ti off (l.map .p)) k
 | .lpb id off => optW (look id h) ⟨fun o => boxW o ⟨fun cells => optW (partE ti off cells) k, ⟨⟩⟩, ⟨⟩⟩
 | .lpe id i off => optW (look id h) ⟨fun o => rowW o ⟨fun r => optW r.2.2[i]? ⟨fun x => optW (partE ti off (x.map .p)) k, ⟨⟩⟩, ⟨⟩⟩, ⟨⟩⟩
 | _ => False
def storeS (h : Heap) (ti : TI) (p : LV) (ls : List LV) (k : Cont Heap) : Prop :=
 match p with
 | .lpb id off => optW (look id h) ⟨fun o => boxW o ⟨fun cells => off + ls.length <= cells.length /\ k.f (upd id (.box (setAt cells off ls)) h), ⟨⟩⟩, ⟨⟩⟩
 | .lpe id i off => optW (look id h) ⟨fun o => rowW o ⟨fun r => optW r.2.2[i]? ⟨fun x => optW (allP ls) ⟨fun ds => off + ls.length <= x.length /\ k.f (upd id (.row r.1 r.2.1 (r.2.2.set i (setAt x off ds))) h), ⟨⟩⟩, ⟨⟩⟩, ⟨⟩⟩, ⟨⟩⟩
 | _ => False
def St.go (st : St) (dst : Option Tmp) (l : LV) (h : Heap) (c : Nat) : St := ({ st with heap := h, ctr := c } : St).put dst l
def appS (st : St) (dst : Option Tmp) (e : Nat) (te : TI) (s : LV) (new : List (List DV)) (K : Cont St) : Prop :=
  match s with
  | .p .nils => (new.length * te.bytes <= 140737488355328 /\ new.length <= maxLen) /\ K.f (st.go dst (.lsl st.ctr te.size 0 new.length) ((st.ctr, .row e te.size new) :: st.heap) (st.ctr + 1))
  | .lsl id sz off len => sz = te.size /\ optW (look id st.heap) ⟨fun o => rowW o ⟨fun r => (r.1 = e /\ r.2.1 = te.size /\ off + len <= r.2.2.length /\
        (len + new.length) * te.bytes <= 140737488355328 /\ len + new.length <= maxLen) /\ K.f (st.go dst (.lsl st.ctr te.size 0 (len + new.length)) ((st.ctr, .row e te.size ((r.2.2.drop off).take len ++ new)) :: del id st.heap) (st.ctr + 1)), ⟨⟩⟩, ⟨⟩⟩
  | _ => False
def lmapW (x : LV) (k : Cont Nat) : Prop :=
 match x with
 | .lmap id => k.f id
 | _ => False
def fnW (x : LV) (k : Cont (FuncId × List LV)) : Prop :=
 match x with
 | .fn f caps => k.f (f, caps)
 | _ => False
def CallC (P : Program) (A : Amb) (h : Heap) (ctr k : Nat) (args : List LV) (K : Cont (LV × Heap × Nat)) : Prop := CallW P A h ctr k args fun l h c => K.f (l, h, c)
def callS (P : Program) (A : Amb) (env : Env) (st : St) (dst : Option Tmp) (c : Call) (K : Cont St) : Prop :=
 match c.callee, c.args.toList, c.argTypes.toList with
 | .value f, args, _ => fnW (st.eval f) ⟨fun g => CallC P A st.heap st.ctr g.1 (args.map st.eval ++ g.2) ⟨fun r => K.f (st.go dst r.1 r.2.1 r.2.2), ⟨⟩⟩, ⟨⟩⟩
 | .builtin .append, [s, x], [t, t'] => t' = t /\ tiW env t ⟨fun ti => slcW ti.sh ⟨fun e => tiW env e ⟨fun te => 0 < te.size /\ optW (rowOf st.heap (st.eval x)) ⟨fun new =>
   (∀ y ∈ new, y.length = te.size /\ y.all DV.cell = true) /\ appS st dst e te (st.eval s) new K, ⟨⟩⟩, ⟨⟩⟩, ⟨⟩⟩, ⟨⟩⟩
 | .builtin .len, [x], [t] => tiW env t ⟨fun ti => lenS ti.sh (st.eval x) ⟨fun l => K.f (st.put dst l), ⟨⟩⟩, ⟨⟩⟩
 | .builtin .max, args, _ => optW (foldInts (fun x y => if y > x then y else x) (args.map st.eval)) ⟨fun r => K.f (st.put dst (.p (.int r.1 r.2))), ⟨⟩⟩
 | .builtin .min, args, _ => optW (foldInts (fun x y => if y < x then y else x) (args.map st.eval)) ⟨fun r => K.f (st.put dst (.p (.int r.1 r.2))), ⟨⟩⟩
 | _, _, _ => False
def shInt : Sh -> Option IntKind
 | .int k => some k
 | _ => none
def rngW (l : LV) (k : Cont (List (DV × DV))) : Prop := match l with
 | .p .nilm => k.f []
 | .p (.map m) => k.f m
 | _ => False
def nxtW (h : Heap) (l : LV) (k0 : Unit -> Prop) (k : Nat -> List (DV × DV) -> Nat -> DV × DV -> Prop) : Prop := match l with
 | .lpb id 0 => match look id h with
  | some (.iter _ left) => (left = [] -> k0 ()) /\ ∀ j p, left[j]? = some p -> k id left j p
  | _ => False
 | _ => False
def entW (h : Heap) (l : LV) (k : Nat -> DV × DV -> List (DV × DV) -> Prop) : Prop := match l with
 | .lpb id 0 => match look id h with
  | some (.iter (some p) left) => k id p left
  | _ => False
 | _ => False
def opS (P : Program) (A : Amb) (env : Env) (st : St) (dst : Option Tmp) (op : Op) (K : Cont St) : Prop :=
 match op with
 | .move x | .assign x => K.f (st.put dst (st.eval x))
 | .pick c a b => boolW (st.eval c) ⟨fun t => K.f (st.put dst (if t then st.eval a else st.eval b)), ⟨⟩⟩
 | .nilCheck x => ptrW (st.eval x) ⟨fun l => K.f (st.put dst l), ⟨⟩⟩
 | .binOp op t x y _ => binS env op t (st.eval x) (st.eval y) ⟨fun l => K.f (st.put dst l), ⟨⟩⟩
 | .unOp .neg _ x => intW (st.eval x) ⟨fun n => K.f (st.put dst (.p (.int n.1 (n.1.wrap (0 - n.2))))), ⟨⟩⟩
 | .unOp .not _ x => boolW (st.eval x) ⟨fun b => K.f (st.put dst (.p (.bool !b))), ⟨⟩⟩
 | .convert s d x => intW (st.eval x) ⟨fun n => tiW env s ⟨fun _ => tiW env d ⟨fun ti => optW (shInt ti.sh) ⟨fun kd => K.f (st.put dst (.p (.int kd (kd.wrap n.2)))), ⟨⟩⟩, ⟨⟩⟩, ⟨⟩⟩, ⟨⟩⟩
 | .extract t i => extS (st.eval t) i ⟨fun l => K.f (st.put dst l), ⟨⟩⟩
 | .field t x i => tiW env t ⟨fun ti => structW ti.sh ⟨fun fs => optW fs[i]? ⟨fun f => tiW env f.2 ⟨fun tf => aggW (st.eval x) ⟨fun ls => optW (partE tf f.1 ls) ⟨fun l => K.f (st.put dst l), ⟨⟩⟩, ⟨⟩⟩, ⟨⟩⟩, ⟨⟩⟩, ⟨⟩⟩, ⟨⟩⟩
 | .build t ps => tiW env t ⟨fun ti => buildT env ti.sh (ti.zero.map .p) (ps.toList.map fun p => (p.1, st.eval p.2)) ⟨fun cells => K.f (st.put dst (mkAgg cells)), ⟨⟩⟩, ⟨⟩⟩
 | .fieldAddr t x i => tiW env t ⟨fun ti => structW ti.sh ⟨fun fs => optW fs[i]? ⟨fun f => tiW env f.2 ⟨fun tf => tf.size ≠ 0 /\ offS f.1 (st.eval x) ⟨fun l => K.f (st.put dst l), ⟨⟩⟩, ⟨⟩⟩, ⟨⟩⟩, ⟨⟩⟩, ⟨⟩⟩
 | .indexAddr t x i => intW (st.eval i) ⟨fun n => tiW env t ⟨fun ti => iaS env ti.sh (st.eval x) n.2 ⟨fun l => K.f (st.put dst l), ⟨⟩⟩, ⟨⟩⟩, ⟨⟩⟩
 | .index t x i => intW (st.eval i) ⟨fun n => tiW env t ⟨fun ti => 0 <= n.2 /\ ixS env ti.sh (st.eval x) n.2 ⟨fun l => K.f (st.put dst l), ⟨⟩⟩, ⟨⟩⟩, ⟨⟩⟩
 | .makeFunc (.func f) first caps => first.toList = [] /\ K.f (st.put dst (.fn f (caps.toList.map st.eval)))
 | .slice t x lo hi none => sliceS env t (st.eval x) (lo.map st.eval) (hi.map st.eval) ⟨fun l => K.f (st.put dst l), ⟨⟩⟩
 | .load t x => tiW env t ⟨fun ti => loadS st.heap ti (st.eval x) ⟨fun l => K.f (st.put dst l), ⟨⟩⟩, ⟨⟩⟩
 | .store t x v => tiW env t ⟨fun ti => optW (st.eval v).cells ⟨fun ls => (ls.length = ti.size /\ ls.all LV.one = true) /\ storeS st.heap ti (st.eval x) ls ⟨fun h => K.f (st.go dst .any h st.ctr), ⟨⟩⟩, ⟨⟩⟩, ⟨⟩⟩
 | .alloc t => tiW env t ⟨fun ti => K.f (st.go dst (.lpb st.ctr 0) ((st.ctr, .box (ti.zero.map .p)) :: st.heap) (st.ctr + 1)), ⟨⟩⟩
 | .box _ x => optW (st.eval x).cells ⟨fun ls => K.f (st.go dst (.lpb st.ctr 0) ((st.ctr, .box ls) :: st.heap) (st.ctr + 1)), ⟨⟩⟩
 | .buildSlice t n ps => tiW env t ⟨fun ti => slcW ti.sh ⟨fun e => tiW env e ⟨fun te => (0 < te.size /\ n * te.size <= 16777216) /\ optW (partsE te.size 0 (ps.toList.map fun p => (p.1, st.eval p.2))) ⟨fun l =>
   l.length = n /\ (K.f (st.go dst (.lsl st.ctr te.size 0 n) ((st.ctr, .row e te.size l) :: st.heap) (st.ctr + 1)) \/ K.f (st.put dst (.p (.slice te.size l)))), ⟨⟩⟩, ⟨⟩⟩, ⟨⟩⟩, ⟨⟩⟩
 | .makeSlice t l c => tiW env t ⟨fun ti => slcW ti.sh ⟨fun e => tiW env e ⟨fun te => intW (st.eval l) ⟨fun n => intW (st.eval c) ⟨fun n' => (n'.2 = n.2 /\ 0 <= n.2 /\ te.bytes * n.2.toNat <= 281474976710656 /\ n.2.toNat <= maxLen) /\
   (K.f (st.go dst (.lsl st.ctr te.size 0 n.2.toNat) ((st.ctr, .row e te.size (List.replicate n.2.toNat te.zero)) :: st.heap) (st.ctr + 1)) \/ K.f (st.put dst (.p (.slice te.size (List.replicate n.2.toNat te.zero))))), ⟨⟩⟩, ⟨⟩⟩, ⟨⟩⟩, ⟨⟩⟩, ⟨⟩⟩
 | .makeMap _ none => K.f (st.go dst (.lmap st.ctr) ((st.ctr, .map []) :: st.heap) (st.ctr + 1))
 | .lookup t x i ok => tiW env t ⟨fun ti => mpW ti.sh ⟨fun m => tiW env m.2 ⟨fun te => optW (mapOf st.heap (st.eval x)) ⟨fun l => pdW (st.eval i) ⟨fun kd => (keyFits env m.1 kd = true /\ (l.all fun p => keyFits env m.1 p.1) = true) /\
   K.f (st.put dst (if ok then .tup [.p ((mget kd l).getD te.zeroDV), .p (.bool (mget kd l).isSome)] else .p ((mget kd l).getD te.zeroDV))), ⟨⟩⟩, ⟨⟩⟩, ⟨⟩⟩, ⟨⟩⟩, ⟨⟩⟩
 | .mapUpdate t x i v => tiW env t ⟨fun ti => mpW ti.sh ⟨fun m => lmapW (st.eval x) ⟨fun id => optW (look id st.heap) ⟨fun o => mapW o ⟨fun l => pdW (st.eval i) ⟨fun kd => pdW (st.eval v) ⟨fun vd =>
   (keyFits env m.1 kd = true /\ (l.all fun p => keyFits env m.1 p.1) = true) /\ K.f (st.go dst .any (upd id (.map (mput kd vd l)) st.heap) st.ctr), ⟨⟩⟩, ⟨⟩⟩, ⟨⟩⟩, ⟨⟩⟩, ⟨⟩⟩, ⟨⟩⟩, ⟨⟩⟩
 | .mapEntry t x i => tiW env t ⟨fun ti => mpW ti.sh ⟨fun m => tiW env m.2 ⟨fun te => lmapW (st.eval x) ⟨fun id => optW (look id st.heap) ⟨fun o => mapW o ⟨fun l => pdW (st.eval i) ⟨fun kd =>
   (keyFits env m.1 kd = true /\ (l.all fun p => keyFits env m.1 p.1) = true) /\
   K.f (st.go dst (.tup [.p ((mget kd l).getD te.zeroDV), .p (.int .i64 (((mfind kd l).map (·.1)).getD l.length))]) (match mfind kd l with
    | some _ => st.heap
    | none => upd id (.map (l ++ [(kd, te.zeroDV)])) st.heap) st.ctr), ⟨⟩⟩, ⟨⟩⟩, ⟨⟩⟩, ⟨⟩⟩, ⟨⟩⟩, ⟨⟩⟩, ⟨⟩⟩
 | .entryStore _ x s v => lmapW (st.eval x) ⟨fun id => optW (look id st.heap) ⟨fun o => mapW o ⟨fun m => intW (st.eval s) ⟨fun n => pdW (st.eval v) ⟨fun vd => 0 <= n.2 /\ optW m[n.2.toNat]? ⟨fun p =>
   K.f (st.go dst .any (upd id (.map (m.set n.2.toNat (p.1, vd))) st.heap) st.ctr), ⟨⟩⟩, ⟨⟩⟩, ⟨⟩⟩, ⟨⟩⟩, ⟨⟩⟩, ⟨⟩⟩
 | .range t x => tiW env t ⟨fun ti => mpW ti.sh ⟨fun _ => rngW (st.eval x) ⟨fun m => K.f (st.go dst (.lpb st.ctr 0) ((st.ctr, .iter none m) :: st.heap) (st.ctr + 1)), ⟨⟩⟩, ⟨⟩⟩, ⟨⟩⟩
 | .next x false => nxtW st.heap (st.eval x) (fun _ => K.f (st.go dst (.tup [.p (.bool false)]) st.heap st.ctr)) fun id left j p => ∃ cur', (cur' = none \/ cur' = some p) /\ K.f (st.go dst (.tup [.p (.bool true), .p p.1, .p p.2]) (upd id (.iter cur' (left.eraseIdx j)) st.heap) st.ctr)
 | .entry x => entW st.heap (st.eval x) fun id p left => K.f (st.go dst (.tup [.p p.1, .p p.2]) (upd id (.iter none left) st.heap) st.ctr)
 | .call c => callS P A env st dst c K
 | _ => False
def gW (b want : Bool) (X Y : Cont Unit) : Prop := (b = want -> X.f ()) /\ (b = !want -> Y.f ())
def gM (v : LV) (want : Bool) (X Y : Cont Unit) : Prop :=
 match v with
 | .p (.bool b) => gW b want X Y
 | .und => Y.f ()
 | _ => False
def guardM (st : St) (d : Option Tmp) : LV :=
 match d with
 | some t => st.eval (.tmp t)
 | none => .any
structure Leaf (K : Cont St) (st : St) : Prop where
 h : K.f st
def wpM (P : Program) (A : Amb) (env : Env) (K : Cont St) : List MOp -> St -> Prop
 | [], st => Leaf K st
 | ⟨dst, op, none⟩ :: rest, st => opS P A env st dst op ⟨wpM P A env K rest, ⟨⟩⟩
 | ⟨dst, op, some (d, want)⟩ :: rest, st => gM (guardM st d) want ⟨fun _ => opS P A env st dst op ⟨wpM P A env K rest, ⟨⟩⟩, ⟨⟩⟩ ⟨fun _ => wpM P A env K rest (st.put dst .und), ⟨⟩⟩
section
variable {P : Program} {A : Amb} {env : Env}
theorem optW_iff {α : Type} {o : Option α} {k : Cont α} : optW o k ↔ ∃ a, o = some a /\ k.f a := by cases o <;> simp [optW]
theorem tiW_iff {t : Nat} {k : Cont TI} : tiW env t k ↔ ∃ a, env.tt t = some a /\ k.f a := optW_iff
theorem boolW_iff {x : LV} {k : Cont Bool} : boolW x k ↔ ∃ b, x = .p (.bool b) /\ k.f b := by
 unfold boolW; split <;> simp_all
theorem intW_iff {x : LV} {k : Cont (IntKind × Int)} : intW x k ↔ ∃ kk n, x = .p (.int kk n) /\ k.f (kk, n) := by
 unfold intW; split
 .exact ⟨fun h => ⟨_, _, rfl, h⟩, fun ⟨_, _, e, h⟩ => by cases e; exact h⟩
 .simp_all
theorem pdW_iff {x : LV} {k : Cont DV} : pdW x k ↔ ∃ d, x = .p d /\ k.f d := by
 unfold pdW; split <;> simp_all
theorem slcW_iff {x : Sh} {k : Cont Nat} : slcW x k ↔ ∃ e, x = .slc e /\ k.f e := by
 unfold slcW; split <;> simp_all
theorem structW_iff {x : Sh} {k : Cont (List (Nat × Nat))} : structW x k ↔ ∃ e, x = .struct e /\ k.f e := by
 unfold structW; split <;> simp_all
theorem mpW_iff {x : Sh} {k : Cont (Nat × Nat)} : mpW x k ↔ ∃ a b, x = .mp a b /\ k.f (a, b) := by
 unfold mpW; split
 .exact ⟨fun h => ⟨_, _, rfl, h⟩, fun ⟨_, _, e, h⟩ => by cases e; exact h⟩
 .simp_all
theorem lmapW_iff {x : LV} {k : Cont Nat} : lmapW x k ↔ ∃ id, x = .lmap id /\ k.f id := by
 unfold lmapW; split <;> simp_all
theorem fnW_iff {x : LV} {k : Cont (FuncId × List LV)} : fnW x k ↔ ∃ f c, x = .fn f c /\ k.f (f, c) := by
 unfold fnW; split
 .exact ⟨fun h => ⟨_, _, rfl, h⟩, fun ⟨_, _, e, h⟩ => by cases e; exact h⟩
 .simp_all
theorem mapW_iff {x : HObj} {k : Cont (List (DV × DV))} : mapW x k ↔ ∃ m, x = .map m /\ k.f m := by
 unfold mapW; split <;> simp_all
theorem boxW_iff {x : HObj} {k : Cont (List LV)} : boxW x k ↔ ∃ m, x = .box m /\ k.f m := by
 unfold boxW; split <;> simp_all
theorem rowW_iff {x : HObj} {k : Cont (Nat × Nat × List (List DV))} : rowW x k ↔ ∃ a b c, x = .row a b c /\ k.f (a, b, c) := by
 unfold rowW; split
 .exact ⟨fun h => ⟨_, _, _, rfl, h⟩, fun ⟨_, _, _, e, h⟩ => by cases e; exact h⟩
 .simp_all
theorem bndS_imp {d : Int} {x : Option LV} {k : Cont Int} {k' : Int -> Prop} (hk : ∀ n, k.f n -> k' n) (h : bndS d x k) : boundW d x k' := by
 unfold bndS at h; unfold boundW
 split at h <;> first | exact hk _ h | exact h.elim
theorem eqS_imp {neg : Bool} {t : Nat} {x y : LV} {k : Cont LV} (h : eqS env neg t x y k) : eqW env neg t x y k.f := by
 unfold eqS at h
 unfold eqW
 split at h
 .exact h
 .obtain ⟨ti, h1, h2, h3⟩ := tiW_iff.1 h; exact ⟨⟨ti, h1, h2⟩, h3⟩
 .obtain ⟨ks, h1, h2⟩ := optW_iff.1 h; exact ⟨ks, h1, h2⟩
 .obtain ⟨ti, h1, h2⟩ := tiW_iff.1 h
  obtain ⟨e, h3, h4⟩ := slcW_iff.1 h2
  exact ⟨⟨ti, e, h1, h3⟩, h4⟩
 .obtain ⟨ti, h1, h2⟩ := tiW_iff.1 h
  obtain ⟨e, h3, h4⟩ := slcW_iff.1 h2
  exact ⟨⟨ti, e, h1, h3⟩, h4⟩
 .obtain ⟨ti, h1, h2⟩ := tiW_iff.1 h
  obtain ⟨e, h3, h4⟩ := slcW_iff.1 h2
  exact ⟨⟨ti, e, h1, h3⟩, h4⟩
 .exact h
 .exact h
 .exact h
 .exact h.elim
theorem intBinS_imp {op : BinOp} {kk : IntKind} {a b : Int} {k : Cont LV} (h : intBinS op kk a b k) : ∃ v, intBin op kk a b = some v /\ k.f (.p v) := by
 unfold intBinS at h
 split at h
 .exact optW_iff.1 h.2
 .exact optW_iff.1 h.2
 .exact optW_iff.1 h
theorem binS_imp {op : BinOp} {t : Nat} {x y : LV} {k : Cont LV} (h : binS env op t x y k) : binW env op t x y k.f := by
 unfold binS at h
 unfold binW
 split at h
 .exact ⟨h.1, intBinS_imp h.2⟩
 .rename_i hne
  split
  .exact absurd rfl (hne _ _ _ _ rfl)
  .split at h
   .exact eqS_imp h
   .exact eqS_imp h
   .exact h.elim
theorem buildS_imp {place : Nat -> Option (Nat × Nat)} {k : Cont (List LV)} : ∀ {ps : List (Nat × LV)} {cells : List LV}, buildS env place cells ps k -> buildW env place cells ps k.f
 | [], _, h => h
 | (i, v) :: rest, cells, h => by
  obtain ⟨p, h1, h⟩ := optW_iff.1 h
  obtain ⟨ti, h2, h⟩ := tiW_iff.1 h
  obtain ⟨ls, h3, ⟨h4, h5⟩, h⟩ := optW_iff.1 h
  exact ⟨p.1, p.2, ti, ls, h1, h2, h3, h4, h5, buildS_imp h⟩
theorem loadS_imp {h : Heap} {ti : TI} {p : LV} {k : Cont LV} (hl : loadS h ti p k) : loadW h ti p k.f := by
 unfold loadS at hl
 unfold loadW
 split at hl
 .exact optW_iff.1 hl
 .obtain ⟨o, h1, hl⟩ := optW_iff.1 hl
  obtain ⟨cells, rfl, hl⟩ := boxW_iff.1 hl
  obtain ⟨r, h2, h3⟩ := optW_iff.1 hl
  exact ⟨cells, r, h1, h2, h3⟩
 .obtain ⟨o, h1, hl⟩ := optW_iff.1 hl
  obtain ⟨e, sz, elems, rfl, hl⟩ := rowW_iff.1 hl
  obtain ⟨x, h2, hl⟩ := optW_iff.1 hl
  obtain ⟨r, h3, h4⟩ := optW_iff.1 hl
  exact ⟨e, sz, elems, x, r, h1, h2, h3, h4⟩
 .exact hl.elim
theorem and3 {a b c d : Prop} (h : (a /\ b /\ c) /\ d) : a /\ b /\ c /\ d := ⟨h.1.1, h.1.2.1, h.1.2.2, h.2⟩
theorem sliceS_imp {t : Nat} {x : LV} {lo hi : Option LV} {k : Cont LV} (h : sliceS env t x lo hi k) : sliceW env t x lo hi k.f := by
 unfold sliceS at h
 unfold sliceW
 split at h
 .obtain ⟨ti, h1, h⟩ := tiW_iff.1 h
  obtain ⟨e, h2, h⟩ := slcW_iff.1 h
  obtain ⟨te, h3, h4, h⟩ := tiW_iff.1 h
  exact ⟨⟨ti, e, h1, h2, te, h3, h4⟩, bndS_imp (fun n hn => bndS_imp (fun m hm => and3 hm) hn) h⟩
 .obtain ⟨ti, h1, h⟩ := tiW_iff.1 h
  obtain ⟨e, h2, h⟩ := slcW_iff.1 h
  obtain ⟨te, h3, h4, h5, h⟩ := tiW_iff.1 h
  exact ⟨⟨ti, e, h1, h2, te, h3, h4⟩, h5, bndS_imp (fun n hn => bndS_imp (fun m hm => and3 hm) hn) h⟩
 .obtain ⟨ti, h1, h2, h⟩ := tiW_iff.1 h
  exact ⟨⟨ti, h1, h2⟩, bndS_imp (fun n hn => bndS_imp (fun m hm => and3 hm) hn) h⟩
 .exact h.elim
end
end Go.E
/- The walk of a function: the short form holds what the long one says (opS_imp); rules for the parts of a body, states made weaker (Weak). No condition. -/
namespace Go.E
open Go Go.RowKit
section
variable {P : Program} {A : Amb} {env : Env} {K : St -> Prop}
theorem opS_imp {st : St} {o : Oper} {K : Cont St} (h : opS P A env st o.dst o.op K) : opW P A env st o K.f := by
 obtain ⟨dst, op, type, pos, after, guard⟩ := o
 simp only at h
 cases op <;> simp only [opS] at h <;> simp only [opW]
 case move x => exact h
 case assign x => exact h
 case pick c a b => obtain ⟨t, h1, h2⟩ := boolW_iff.1 h; exact ⟨t, h1, h2⟩
 case nilCheck x =>
  try dsimp only at h
  unfold ptrW at h
  simp only [nW]
  split at h <;> first | (rename_i e; simp only [e]; exact ⟨trivial, h⟩) | exact h.elim
 case binOp op t x y z => exact binS_imp h
 case unOp op t x =>
  cases op <;> simp only [opS] at h
  case neg => obtain ⟨kk, n, h1, h2⟩ := intW_iff.1 h; simp only [nW, unW, h1]; exact h2
  case not => obtain ⟨b, h1, h2⟩ := boolW_iff.1 h; simp only [nW, unW, h1]; exact h2
 case convert s d x =>
  obtain ⟨kk, n, h1, h⟩ := intW_iff.1 h
  obtain ⟨tj, h2, h⟩ := tiW_iff.1 h
  obtain ⟨ti, h3, h⟩ := tiW_iff.1 h
  obtain ⟨kd, h4, h⟩ := optW_iff.1 h
  refine ⟨kk, n, ti, tj, h1, h2, h3, kd, ?_, h⟩
  generalize ti.sh = q at h4
  cases q <;> simp [shInt] at h4
  rw [h4]
 case extract t i =>
  try dsimp only at h
  unfold extS at h
  simp only [nW]
  split at h
  .rename_i l hl; simp only [hl]; exact optW_iff.1 h
  .rename_i l hl; simp only [hl]; exact optW_iff.1 h
  .exact h.elim
 case field t x i =>
  obtain ⟨ti, h1, h⟩ := tiW_iff.1 h
  obtain ⟨fs, h2, h⟩ := structW_iff.1 h
  obtain ⟨f, h3, h⟩ := optW_iff.1 h
  obtain ⟨tf, h4, h⟩ := tiW_iff.1 h
  try dsimp only at h
  unfold aggW at h
  split at h
  .rename_i l hl
   obtain ⟨v, h5, h6⟩ := optW_iff.1 h
   exact ⟨ti, fs, f.1, f.2, tf, l, v, h1, h2, h3, h4, by rw [hl]; rfl, by rw [hl]; trivial, h5, h6⟩
  .rename_i l hl
   obtain ⟨v, h5, h6⟩ := optW_iff.1 h
   exact ⟨ti, fs, f.1, f.2, tf, l.map .p, v, h1, h2, h3, h4, by rw [hl]; rfl, by rw [hl]; trivial, h5, h6⟩
  .exact h.elim
 case build t ps =>
  obtain ⟨ti, h1, h⟩ := tiW_iff.1 h
  refine ⟨ti, h1, ?_⟩
  try dsimp only at h
  unfold buildT at h
  split at h
  .rename_i fs hsh; simp only [hsh]; exact ⟨h.1, buildS_imp h.2⟩
  .rename_i n e hsh
   obtain ⟨te, h2, h⟩ := tiW_iff.1 h
   simp only [hsh]
   exact ⟨te, h2, buildS_imp h⟩
  .exact h.elim
 case fieldAddr t x i =>
  obtain ⟨ti, h1, h⟩ := tiW_iff.1 h
  obtain ⟨fs, h2, h⟩ := structW_iff.1 h
  obtain ⟨f, h3, h⟩ := optW_iff.1 h
  obtain ⟨tf, h4, h5, h⟩ := tiW_iff.1 h
  refine ⟨ti, fs, f.1, f.2, tf, h1, h2, h3, h4, h5, ?_⟩
  try dsimp only at h
  unfold offS at h
  split at h <;> first | (rename_i e; simp only [e]; exact h) | exact h.elim
 case indexAddr t x i =>
  obtain ⟨kk, n, h1, h⟩ := intW_iff.1 h
  obtain ⟨ti, h2, h⟩ := tiW_iff.1 h
  refine ⟨kk, n, ti, h1, h2, ?_⟩
  try dsimp only at h
  unfold iaS at h
  split at h
  .rename_i e1 e2
   obtain ⟨te, g1, g2, g3, h⟩ := tiW_iff.1 h
   simp only [e1, e2]
   exact ⟨⟨te, g1, g2⟩, g3, optW_iff.1 h⟩
  .rename_i e1 e2
   obtain ⟨te, g1, g2, ⟨g3, g4⟩, h⟩ := tiW_iff.1 h
   simp only [e1, e2]
   exact ⟨⟨te, g1, g2⟩, g3, g4, h⟩
  .rename_i e1 e2
   obtain ⟨te, g1, ⟨g2, g3⟩, h⟩ := tiW_iff.1 h
   simp only [e1, e2]
   exact ⟨te, g1, g2, g3, h⟩
  .rename_i e1 e2
   obtain ⟨te, g1, ⟨g2, g3⟩, h⟩ := tiW_iff.1 h
   simp only [e1, e2]
   exact ⟨te, g1, g2, g3, h⟩
  .exact h.elim
 case index t x i =>
  obtain ⟨kk, n, h1, h⟩ := intW_iff.1 h
  obtain ⟨ti, h2, h0, h⟩ := tiW_iff.1 h
  refine ⟨kk, n, ti, h1, h2, h0, ?_⟩
  try dsimp only at h
  unfold ixS at h
  split at h
  .rename_i e1 e2
   obtain ⟨te, g1, g2, h⟩ := tiW_iff.1 h
   obtain ⟨v, g3, g4⟩ := optW_iff.1 h
   simp only [e1, e2]
   exact ⟨te, v, g1, g2, g3, g4⟩
  .rename_i e1 e2
   obtain ⟨te, g1, g2, h⟩ := tiW_iff.1 h
   obtain ⟨v, g3, g4⟩ := optW_iff.1 h
   simp only [e1, e2]
   exact ⟨te, v, g1, g2, g3, g4⟩
  .rename_i e1 e2
   simp only [e1, e2]
   exact optW_iff.1 h
  .exact h.elim
 case makeFunc fn first caps =>
  cases fn <;> simp only [opS] at h
  rename_i f
  exact ⟨by simpa using h.1, f, rfl, h.2⟩
 case slice t x lo hi mx =>
  cases mx with
  | some m => exact h.elim
  | none => exact ⟨rfl, sliceS_imp h⟩
 case load t x => obtain ⟨ti, h1, h2⟩ := tiW_iff.1 h; exact ⟨ti, h1, loadS_imp h2⟩
 case store t x v =>
  obtain ⟨ti, h1, h⟩ := tiW_iff.1 h
  obtain ⟨ls, h2, ⟨h3, h4⟩, h⟩ := optW_iff.1 h
  refine ⟨ti, h1, ls, h2, h3, h4, ?_⟩
  try dsimp only at h
  unfold storeS at h
  split at h
  .rename_i id off e
   obtain ⟨o, g1, h⟩ := optW_iff.1 h
   obtain ⟨cells, rfl, g2, h⟩ := boxW_iff.1 h
   try simp only [e]
   exact ⟨cells, g1, g2, h⟩
  .rename_i id i off e
   obtain ⟨o, g1, h⟩ := optW_iff.1 h
   obtain ⟨e', sz, elems, rfl, h⟩ := rowW_iff.1 h
   obtain ⟨x, g2, h⟩ := optW_iff.1 h
   obtain ⟨ds, g3, g4, h⟩ := optW_iff.1 h
   try simp only [e]
   exact ⟨e', sz, elems, x, ds, g1, g2, g4, g3, h⟩
  .exact h.elim
 case alloc t => obtain ⟨ti, h1, h2⟩ := tiW_iff.1 h; exact ⟨ti, h1, h2⟩
 case box t x => obtain ⟨ls, h1, h2⟩ := optW_iff.1 h; exact ⟨ls, h1, h2⟩
 case buildSlice t n ps =>
  obtain ⟨ti, h1, h⟩ := tiW_iff.1 h
  obtain ⟨e, h2, h⟩ := slcW_iff.1 h
  obtain ⟨te, h3, ⟨h4, h5⟩, h⟩ := tiW_iff.1 h
  obtain ⟨l, h6, h7, h⟩ := optW_iff.1 h
  exact ⟨ti, e, te, l, h1, h2, h3, h4, h5, h6, h7, h⟩
 case makeSlice t l c =>
  obtain ⟨ti, h1, h⟩ := tiW_iff.1 h
  obtain ⟨e, h2, h⟩ := slcW_iff.1 h
  obtain ⟨te, h3, h⟩ := tiW_iff.1 h
  obtain ⟨k1, n, h4, h⟩ := intW_iff.1 h
  obtain ⟨k2, n', h5, ⟨h9, h6, h7, h8⟩, h⟩ := intW_iff.1 h
  simp only at h9
  subst h9
  exact ⟨ti, e, te, n', k1, k2, h1, h2, h3, h4, h5, h6, h7, h8, h⟩
 case makeMap t r =>
  cases r with
  | some r => exact h.elim
  | none => exact ⟨rfl, h⟩
 case lookup t x i ok =>
  obtain ⟨ti, h1, h⟩ := tiW_iff.1 h
  obtain ⟨kt, et, h2, h⟩ := mpW_iff.1 h
  obtain ⟨te, h3, h⟩ := tiW_iff.1 h
  obtain ⟨m, h4, h⟩ := optW_iff.1 h
  obtain ⟨kd, h5, ⟨h6, h7⟩, h⟩ := pdW_iff.1 h
  exact ⟨ti, kt, et, te, m, kd, h1, h2, h3, h4, h5, h6, h7, h⟩
 case mapUpdate t x i v =>
  obtain ⟨ti, h1, h⟩ := tiW_iff.1 h
  obtain ⟨kt, et, h2, h⟩ := mpW_iff.1 h
  obtain ⟨id, h3, h⟩ := lmapW_iff.1 h
  obtain ⟨o, h4, h⟩ := optW_iff.1 h
  obtain ⟨m, rfl, h⟩ := mapW_iff.1 h
  obtain ⟨kd, h5, h⟩ := pdW_iff.1 h
  obtain ⟨vd, h6, ⟨h7, h8⟩, h⟩ := pdW_iff.1 h
  exact ⟨ti, kt, et, id, m, kd, vd, h1, h2, h3, h4, h5, h6, h7, h8, h⟩
 case mapEntry t x i =>
  obtain ⟨ti, h1, h⟩ := tiW_iff.1 h
  obtain ⟨kt, et, h2, h⟩ := mpW_iff.1 h
  obtain ⟨te, h3, h⟩ := tiW_iff.1 h
  obtain ⟨id, h4, h⟩ := lmapW_iff.1 h
  obtain ⟨o, h5, h⟩ := optW_iff.1 h
  obtain ⟨m, rfl, h⟩ := mapW_iff.1 h
  obtain ⟨kd, h6, ⟨h7, h8⟩, h⟩ := pdW_iff.1 h
  exact ⟨ti, kt, et, te, id, m, kd, h1, h2, h3, h4, h5, h6, h7, h8, h⟩
 case entryStore t x s v =>
  obtain ⟨id, h1, h⟩ := lmapW_iff.1 h
  obtain ⟨o, h2, h⟩ := optW_iff.1 h
  obtain ⟨m, rfl, h⟩ := mapW_iff.1 h
  obtain ⟨kk, n, h3, h⟩ := intW_iff.1 h
  obtain ⟨vd, h4, h0, h⟩ := pdW_iff.1 h
  obtain ⟨p, h5, h⟩ := optW_iff.1 h
  exact ⟨id, m, kk, n, vd, p, h1, h2, h3, h0, h5, h4, h⟩
 case range t x =>
  obtain ⟨ti, h1, h⟩ := tiW_iff.1 h
  obtain ⟨kt, et, h2, h⟩ := mpW_iff.1 h
  try dsimp only at h
  unfold rngW at h
  split at h
  .rename_i e; exact ⟨ti, kt, et, [], h1, h2, .inl ⟨e, rfl⟩, h⟩
  .rename_i m e; exact ⟨ti, kt, et, m, h1, h2, .inr e, h⟩
  .exact h.elim
 case next x s =>
  cases s with
  | true => exact h.elim
  | false =>
   simp only [opS] at h
   unfold nxtW at h
   split at h
   .rename_i id e
    split at h
    .rename_i cur left hl
     exact ⟨rfl, id, cur, left, e, hl, h.1, h.2⟩
    .exact h.elim
   .exact h.elim
 case entry x =>
  unfold entW at h
  split at h
  .rename_i id e
   split at h
   .rename_i p left hl
    exact ⟨id, p, left, e, hl, h⟩
   .exact h.elim
  .exact h.elim
 case call c =>
  obtain ⟨callee, args, ats⟩ := c
  try dsimp only at h
  unfold callS at h
  simp only at h
  split at h
  .rename_i f
   obtain ⟨k, caps, g1, g2⟩ := fnW_iff.1 h
   simp only [g1]
   exact g2
  .rename_i s x t t' e2 e3
   obtain ⟨rfl, h⟩ := h
   obtain ⟨ti, h1, h⟩ := tiW_iff.1 h
   obtain ⟨e, h2, h⟩ := slcW_iff.1 h
   obtain ⟨te, h3, h4, h⟩ := tiW_iff.1 h
   obtain ⟨new, h5, h6, h⟩ := optW_iff.1 h
   have ha : args = #[s, x] := by rw [<- Array.toList_inj, e2]
   have hb : ats = #[t', t'] := by rw [<- Array.toList_inj, e3]
   simp only [mW]
   refine ⟨trivial, s, x, t', ha, hb, ti, e, te, h1, h2, h3, h4, new, h5, h6, ?_⟩
   try dsimp only at h
   unfold appS at h
   split at h
   .rename_i e; simp only [e]; exact ⟨h.1.1, h.1.2, h.2⟩
   .rename_i id sz off len e
    obtain ⟨hsz, h⟩ := h
    obtain ⟨o, g1, h⟩ := optW_iff.1 h
    obtain ⟨e', sz', elems, rfl, ⟨k1, k2, g2, g3, g4⟩, h9⟩ := rowW_iff.1 h
    subst k1; subst k2
    try simp only [e]
    exact ⟨elems, hsz, g1, g2, g3, g4, h9⟩
   .exact h.elim
  .rename_i x t e2 e3
   obtain ⟨ti, h1, h⟩ := tiW_iff.1 h
   have ha : args = #[x] := by rw [<- Array.toList_inj, e2]
   have hb : ats = #[t] := by rw [<- Array.toList_inj, e3]
   simp only [nW]
   refine ⟨x, t, ti, ha, hb, h1, ?_⟩
   try dsimp only at h
   unfold lenS at h
   split at h
   .rename_i g; simp only [g]; exact h
   .rename_i g1 g2; simp only [g1, g2, lenW]; exact h
   .rename_i g1 g2; simp only [g1, g2, lenW]; exact h
   .rename_i g1 g2; simp only [g1, g2, lenW]; exact h
   .rename_i g1 g2; simp only [g1, g2, lenW]; exact h
   .exact h.elim
  .obtain ⟨r, h1, h⟩ := optW_iff.1 h
   simp only [nW]
   exact ⟨r, h1, h⟩
  .obtain ⟨r, h1, h⟩ := optW_iff.1 h
   simp only [nW]
   exact ⟨r, h1, h⟩
  .exact h.elim
 all_goals exact h.elim
theorem guardM_eq (st : St) (ops : List Oper) (j : Nat) : guardM st (dstAt ops j) = guardLV st ops.toArray j := by
 unfold guardM guardLV dstAt
 simp only [List.getElem?_toArray]
 cases ops[j]? with
 | none => rfl
 | some o => cases hd : o.dst <;> simp [hd]
theorem wpM_sound (hE : EnvOK P env) {ops : List Oper} {K : Cont St} {Q : Exit -> Act -> World -> Prop} (hQ : ∀ st a w, K.f st -> R A st a w -> Q .normal a w) :
  ∀ (l : List Oper) (st : St) (a : Act) (w : World), wpM P A env K (l.map (toM ops)) st -> R A st a w -> wpList P ops.toArray Q l a w
 | [], st, a, w, h, hR => hQ st a w h.h hR
 | o :: rest, st, a, w, h, hR => by
  have run : opS P A env st o.dst o.op ⟨wpM P A env K (rest.map (toM ops)), ⟨⟩⟩ -> o.wp P a w (wpList P ops.toArray Q rest) Q := fun h =>
   opW_sound hE (opS_imp h) hR fun st' a' w' hk hR' => wpM_sound hE hQ rest st' a' w' hk hR'
  have skip : wpM P A env K (rest.map (toM ops)) (st.put o.dst .und) -> wpList P ops.toArray Q rest (a.put o.dst undef) w := fun h => by
   obtain ⟨μ, hh, hs⟩ := hR.ex
   exact wpM_sound hE hQ rest _ _ _ h (hR.put hs hh .und)
  unfold wpList
  simp only [List.map_cons, toM] at h
  cases hg : o.guard with
  | none =>
   rw [hg] at h
   rw [if_pos (by simp [Region.wanted, hg])]
   exact .inl (run h)
  | some g =>
   obtain ⟨j, want⟩ := g
   rw [hg] at h
   simp only [wpM, guardM_eq] at h
   obtain ⟨μ, hh, hs⟩ := hR.ex
   obtain ⟨g1, g2⟩ := guard_wanted (ops := ops.toArray) (j := j) (fun x => eval_rel hs x)
   unfold gM at h
   split at h
   .rename_i b hb
    have hy := g1 b hb
    by_cases e : b = want
    .rw [if_pos (by simp [Region.wanted, hg, hy, e])]
     exact .inl (run (h.1 e))
    .rw [if_neg (by simp [Region.wanted, hg, hy, e])]
     exact skip (h.2 (by cases b <;> cases want <;> simp_all))
   .rename_i hb
    have hy := g2 hb
    rw [if_neg (by simp [Region.wanted, hg, hy])]
    exact skip h
   .exact h.elim
theorem dwp_run (hE : EnvOK P env) {id : Nat} {ops : List Oper} {ms : List MOp} {y : Code} {Q : Exit -> St -> Prop} {st : St} (hm : ops.map (toM ops) = ms) (h : wpM P A env ⟨fun st' => dwp P A y Q st', ⟨⟩⟩ ms st) :
  dwp P A (.seq (.region id ops.toArray false) y) Q st :=
 dwp_seq fun a w hR => wp_region_lit (wpM_sound hE (fun st' _ _ hk hR' => ⟨st', hR', hk⟩) ops st a w (by rw [hm]; exact h) hR)
theorem dwp_run1 (hE : EnvOK P env) {id : Nat} {ops : List Oper} {ms : List MOp} {Q : Exit -> St -> Prop} {st : St} (hm : ops.map (toM ops) = ms) (h : wpM P A env ⟨fun st' => Q .normal st', ⟨⟩⟩ ms st) :
  dwp P A (.region id ops.toArray false) Q st :=
 fun a w hR => wp_region_lit (wpM_sound hE (fun st' _ _ hk hR' => ⟨st', hR', hk⟩) ops st a w (by rw [hm]; exact h) hR)
def Weak (A : Amb) (st st' : St) : Prop := ∀ a w, R A st a w -> R A st' a w
theorem Weak.refl (st : St) : Weak A st st := fun _ _ h => h
theorem Weak.trans {a b c : St} (h : Weak A a b) (h' : Weak A b c) : Weak A a c := fun x w hR => h' x w (h x w hR)
theorem dwp_weak {c : Code} {Q : Exit -> St -> Prop} {st st' : St} (hw : Weak A st st') (h : dwp P A c Q st') : dwp P A c Q st := fun a w hR => h a w (hw a w hR)
def renL (gl : List (Nat × Nat)) : LV -> LV
 | .lsl id sz off len => .lsl ((look id gl).getD 0) sz off len
 | .lpb id off => .lpb ((look id gl).getD 0) off
 | .lpe id i off => .lpe ((look id gl).getD 0) i off
 | .lmap id => .lmap ((look id gl).getD 0)
 | .agg l => .agg (renLs gl l)
 | .tup l => .tup (renLs gl l)
 | .fn f l => .fn f (renLs gl l)
 | l => l
where renLs (gl : List (Nat × Nat)) : List LV -> List LV
 | [] => []
 | x :: l => renL gl x :: renLs gl l
def namesL (gl : List (Nat × Nat)) : LV -> Bool
 | .lsl id _ _ _ | .lpb id _ | .lpe id _ _ | .lmap id => (look id gl).isSome
 | .agg l | .tup l | .fn _ l => namesLs gl l
 | _ => true
where namesLs (gl : List (Nat × Nat)) : List LV -> Bool
 | [] => true
 | x :: l => namesL gl x && namesLs gl l
theorem renLs_get {gl : List (Nat × Nat)} : ∀ {ls : List LV} {i : Nat}, (renL.renLs gl ls)[i]? = (ls[i]?).map (renL gl)
 | [], i => by simp [renL.renLs]
 | x :: l, 0 => by simp [renL.renLs]
 | x :: l, i + 1 => by simpa [renL.renLs] using renLs_get (ls := l)
theorem renLs_len {gl : List (Nat × Nat)} : ∀ {ls : List LV}, (renL.renLs gl ls).length = ls.length
 | [] => rfl
 | x :: l => by simp [renL.renLs, renLs_len (ls := l)]
theorem namesLs_get {gl : List (Nat × Nat)} : ∀ {ls : List LV} {i : Nat} {x : LV}, namesL.namesLs gl ls = true -> ls[i]? = some x -> namesL gl x = true
 | [], i, x, _, h => by simp at h
 | y :: l, 0, x, hn, h => by simp at h; subst h; simp only [namesL.namesLs, Bool.and_eq_true] at hn; exact hn.1
 | y :: l, i + 1, x, hn, h => by simp only [namesL.namesLs, Bool.and_eq_true] at hn; exact namesLs_get hn.2 (by simpa using h)
def renμ (gl : List (Nat × Nat)) (μ : Nat -> Option Loc) (id : Nat) : Option Loc :=
 match look id gl with
 | some old => μ old
 | none => none
theorem renL_rel {O O' : Nat -> Prop} {μ : Nat -> Option Loc} {w : World} {gl : List (Nat × Nat)} (hO : ∀ b, b < w.heap.size -> O' b -> O b) :
  ∀ (l : LV) (v : Value), namesL gl l = true -> LRel O μ w v (renL gl l) -> LRel O' (renμ gl μ) w v l
 | .p d, v, _, h => .p _ _ (h.p_inv.mono (Kept.refl _ _) hO)
 | .und, v, _, h => by cases h; exact .und
 | .any, v, _, h => .any _
 | .lsl id sz off len, v, hn, h => by
  simp only [namesL] at hn
  cases hl : look id gl with
  | none => rw [hl] at hn; cases hn
  | some old =>
   simp only [renL, hl, Option.getD_some] at h
   have hm : ∀ loc, μ old = some loc -> renμ gl μ id = some loc := fun loc h => by simp [renμ, hl, h]
   cases h with
   | lsln _ loc h1 h2 => exact .lsln id loc (hm _ h1) h2
   | lsl _ _ _ cap a loc h1 h2 h3 h4 h5 h6 h7 => exact .lsl id _ _ cap a loc (hm _ h1) h2 h3 h4 h5 h6 h7
 | .lpb id off, v, hn, h => by
  simp only [namesL] at hn
  cases hl : look id gl with
  | none => rw [hl] at hn; cases hn
  | some old =>
   simp only [renL, hl, Option.getD_some] at h
   have hm : ∀ loc, μ old = some loc -> renμ gl μ id = some loc := fun loc h => by simp [renμ, hl, h]
   cases h with
   | lpb _ _ loc h1 h2 => exact .lpb id _ loc (hm _ h1) h2
 | .lpe id i off, v, hn, h => by
  simp only [namesL] at hn
  cases hl : look id gl with
  | none => rw [hl] at hn; cases hn
  | some old =>
   simp only [renL, hl, Option.getD_some] at h
   have hm : ∀ loc, μ old = some loc -> renμ gl μ id = some loc := fun loc h => by simp [renμ, hl, h]
   cases h with
   | lpe _ _ _ loc h1 h2 => exact .lpe id _ _ loc (hm _ h1) h2
 | .lmap id, v, hn, h => by
  simp only [namesL] at hn
  cases hl : look id gl with
  | none => rw [hl] at hn; cases hn
  | some old =>
   simp only [renL, hl, Option.getD_some] at h
   have hm : ∀ loc, μ old = some loc -> renμ gl μ id = some loc := fun loc h => by simp [renμ, hl, h]
   cases h with
   | lmap _ loc h1 h2 => exact .lmap id loc (hm _ h1) h2
 | .agg ls, v, hn, h => by
  simp only [renL] at h
  simp only [namesL] at hn
  cases h with
  | agg vs _ hsz hr =>
   rw [renLs_len] at hsz
   refine .agg vs ls hsz fun i u x h1 h2 => ?_
   have : SizeOf.sizeOf x < SizeOf.sizeOf ls := List.sizeOf_lt_of_mem (List.mem_of_getElem? h2)
   exact renL_rel hO x u (namesLs_get hn h2) (hr i u _ h1 (by rw [renLs_get, h2]; rfl))
 | .tup ls, v, hn, h => by
  simp only [renL] at h
  simp only [namesL] at hn
  cases h with
  | tup vs _ hsz hr =>
   rw [renLs_len] at hsz
   refine .tup vs ls hsz fun i u x h1 h2 => ?_
   have : SizeOf.sizeOf x < SizeOf.sizeOf ls := List.sizeOf_lt_of_mem (List.mem_of_getElem? h2)
   exact renL_rel hO x u (namesLs_get hn h2) (hr i u _ h1 (by rw [renLs_get, h2]; rfl))
 | .fn f ls, v, hn, h => by
  simp only [renL] at h
  simp only [namesL] at hn
  cases h with
  | fn _ vs _ hsz hr =>
   rw [renLs_len] at hsz
   refine .fn f vs ls hsz fun i u x h1 h2 => ?_
   have : SizeOf.sizeOf x < SizeOf.sizeOf ls := List.sizeOf_lt_of_mem (List.mem_of_getElem? h2)
   exact renL_rel hO x u (namesLs_get hn h2) (hr i u _ h1 (by rw [renLs_get, h2]; rfl))
def renO (gl : List (Nat × Nat)) : HObj -> HObj
 | .box cells => .box (renL.renLs gl cells)
 | o => o
def namesO (gl : List (Nat × Nat)) : HObj -> Bool
 | .box cells => namesL.namesLs gl cells
 | _ => true
def saysR (gl : List (Nat × Nat)) (sl : List (Nat × LV)) : List (Nat × LV) -> Prop
 | [] => True
 | (t, l) :: rest => (namesL gl l = true /\ getS sl t = renL gl l) /\ saysR gl sl rest
def heapR (gl : List (Nat × Nat)) (h : Heap) : Heap -> Prop
 | [] => True
 | (id, o) :: rest => (namesO gl o = true /\ ∃ old, look id gl = some old /\ look old h = some (renO gl o)) /\ heapR gl h rest
theorem saysR_look {gl : List (Nat × Nat)} {sl : List (Nat × LV)} : ∀ {sl' : List (Nat × LV)}, saysR gl sl sl' -> ∀ t l, look t sl' = some l -> namesL gl l = true /\ getS sl t = renL gl l
 | [], _, t, l, h => by simp [look] at h
 | (u, x) :: rest, ⟨h1, h2⟩, t, l, h => by
  simp only [look] at h
  split at h
  .cases h; subst_vars; exact h1
  .exact saysR_look h2 t l h
theorem heapR_look {gl : List (Nat × Nat)} {hp : Heap} : ∀ {h' : Heap}, heapR gl hp h' -> ∀ id o, look id h' = some o -> namesO gl o = true /\ ∃ old, look id gl = some old /\ look old hp = some (renO gl o)
 | [], _, id, o, h => by simp [look] at h
 | (u, x) :: rest, ⟨h1, h2⟩, id, o, h => by
  simp only [look] at h
  split at h
  .cases h; subst_vars; exact h1
  .exact heapR_look h2 id o h
theorem look_mem {α : Type} {t : Nat} {v : α} : ∀ {l : List (Nat × α)}, look t l = some v -> (t, v) ∈ l
 | [], h => by simp [look] at h
 | (k, u) :: l, h => by
  simp only [look] at h
  split at h
  .cases h; subst_vars; simp
  .exact List.mem_cons_of_mem _ (look_mem h)
def onceB (gl : List (Nat × Nat)) (h : Heap) (c : Nat) : Bool := decide (h.map fun p => (look p.1 gl).getD 0).Nodup && gl.all fun p => decide (p.1 < c)
theorem once_inj {gl : List (Nat × Nat)} {h : Heap} (hn : (h.map fun p => (look p.1 gl).getD 0).Nodup) {a b : Nat × HObj} (ha : a ∈ h) (hb : b ∈ h) (e : (look a.1 gl).getD 0 = (look b.1 gl).getD 0) : a = b := by
 induction h with
 | nil => simp at ha
 | cons x l ih =>
  simp only [List.map_cons, List.nodup_cons, List.mem_map, not_exists, not_and] at hn
  rcases List.mem_cons.1 ha with e1 | ha' <;> rcases List.mem_cons.1 hb with e2 | hb'
  .rw [e1, e2]
  .subst e1; exact absurd e.symm (hn.1 b hb')
  .subst e2; exact absurd e (hn.1 a ha')
  .exact ih hn.2 ha' hb'
theorem weak_ren (gl : List (Nat × Nat)) {nt : Nat} {sl sl' : List (Nat × LV)} {h h' : Heap} {c c' : Nat} (hext : ∀ id, A.μ0 id ≠ none -> look id gl = some id) (ho : onceB gl h' c' = true)
  (hs : saysR gl sl sl') (hh' : heapR gl h h') : Weak A ⟨nt, sl, h, c⟩ ⟨nt, sl', h', c'⟩ := fun a w ⟨⟨μ, hh, hr⟩, hnt, hdef⟩ => by
 simp only [onceB, Bool.and_eq_true, decide_eq_true_eq, List.all_eq_true] at ho
 have hmine : ∀ b, Mine (renμ gl μ) h' b -> Mine μ h b := by
  rintro b ⟨id, o, loc, h1, h2, h3, h4⟩
  obtain ⟨_, old, g1, g2⟩ := heapR_look hh' id o h1
  simp only [renμ, g1] at h2
  exact ⟨old, _, loc, g2, h2, h3, h4⟩
 have hown : ∀ b, b < w.heap.size -> Own A (renμ gl μ) h' b -> Own A μ h b := fun b _ hb => hb.imp id (hmine b)
 refine ⟨⟨renμ gl μ, ⟨?_, ?_, ?_, ?_, hh.size, hh.block, hh.os, hh.tape, hh.output, ?_⟩, fun t ht => ?_⟩, hnt, hdef⟩
 .intro id o hid
  obtain ⟨hn, old, g1, g2⟩ := heapR_look hh' id o hid
  obtain ⟨loc, k1, k2⟩ := hh.obj old _ g2
  refine ⟨loc, by simp only [renμ, g1]; exact k1, ?_⟩
  cases o with
  | box cells =>
   obtain ⟨a1, cs, ty, a2, a3, a4⟩ := k2
   rw [renLs_len] at a3
   refine ⟨a1, cs, ty, a2, a3, fun i v l hv hl => renL_rel hown l v (namesLs_get hn hl) (a4 i v _ hv (by rw [renLs_get, hl]; rfl))⟩
  | row e sz elems =>
   obtain ⟨a1, a2, a3⟩ := k2
   refine ⟨a1, a2, ?_⟩
   rcases a3 with a3 | ⟨b1, cs, b2, b3, b4, b5, b6⟩
   .exact .inl a3
   .exact .inr ⟨b1, cs, b2, b3, b4, b5, fun i j x d v hx hd hv => (b6 i j x d v hx hd hv).mono (Kept.refl _ _) hown⟩
  | map m =>
   obtain ⟨a1, es, a2, a3, a4, a5⟩ := k2
   exact ⟨a1, es, a2, a3, a4, fun i e p he hp => ⟨(a5 i e p he hp).1.mono (Kept.refl _ _) hown, (a5 i e p he hp).2.mono (Kept.refl _ _) hown⟩⟩
  | iter cur left => exact ⟨k2.1, k2.2.mono (Kept.refl _ _) hown rfl⟩
 .intro id id' o o' loc loc' h1 h2 m1 m2 n1 n2 hb
  obtain ⟨_, old, g1, g2⟩ := heapR_look hh' id o h1
  obtain ⟨_, old', g1', g2'⟩ := heapR_look hh' id' o' h2
  simp only [renμ, g1] at m1
  simp only [renμ, g1'] at m2
  have := hh.inj _ _ _ _ _ _ g2 g2' m1 m2 n1 n2 hb
  have := once_inj ho.1 (look_mem h1) (look_mem h2) (by simp only [g1, g1', Option.getD_some]; exact this)
  exact congrArg (·.1) this
 .intro id hid
  simp only [renμ]
  cases hl : look id gl with
  | none => rfl
  | some old =>
   have := ho.2 _ (look_mem hl)
   simp only [Fr] at hid
   omega
 .intro id o loc h1 m1 n1
  obtain ⟨_, old, g1, g2⟩ := heapR_look hh' id o h1
  simp only [renμ, g1] at m1
  exact hh.base _ _ _ g2 m1 n1
 .intro id loc hm
  have := hext id (by rw [hm]; simp)
  simp only [renμ, this]
  exact hh.ext _ _ hm
 .show LRel _ _ _ _ (match look t sl' with | some v => v | none => .any)
  cases hl : look t sl' with
  | none => exact .any _
  | some l =>
   obtain ⟨g1, g2⟩ := saysR_look hs t l hl
   have := hr t ht
   simp only at this
   rw [g2] at this
   exact renL_rel hown l _ g1 this
theorem weak_ghost {nt : Nat} {sl : List (Nat × LV)} {h : Heap} {c : Nat} (t e sz : Nat) (ht : getS sl t = .p .nils) : Weak A ⟨nt, sl, h, c⟩ ⟨nt, (t, .lsl c sz 0 0) :: sl, (c, .row e sz []) :: h, c + 1⟩ := fun a w ⟨⟨μ, hh, hr⟩, hnt, hdef⟩ => by
 have hno := hh.fresh c (Nat.le_refl _)
 let loc : Loc := ⟨true, 0, 0, sz, 0⟩
 have hsub : ∀ id x, look id ((c, HObj.row e sz []) :: h) = some x -> (id = c /\ x = .row e sz []) \/ look id h = some x := by
  intro id x hx
  simp only [look] at hx
  split at hx
  .cases hx; exact .inl ⟨‹_›, rfl⟩
  .exact .inr hx
 have hadd := hh.add hno loc (.row e sz []) ((c, .row e sz []) :: h) (fun hn => by cases hn) (fun hn => by cases hn) hsub (Kept.refl _ _) (fun _ _ _ _ _ _ _ => rfl) rfl rfl rfl ⟨rfl, by simp, .inl ⟨rfl, rfl⟩⟩
 have hown := hh.sub_add loc (.row e sz []) ((c, .row e sz []) :: h) (fun hn => by cases hn) hsub
 refine ⟨⟨_, hadd.less (F' := Fr (c + 1)) fun id hid => ?_, fun u hu => ?_⟩, hnt, hdef⟩
 .simp only [Fr] at hid ⊢; omega
 .show LRel _ _ _ _ (match look u ((t, LV.lsl c sz 0 0) :: sl) with | some v => v | none => .any)
  simp only [look]
  by_cases hut : u = t
  .subst hut
   rw [if_pos rfl]
   have := hr u hu
   simp only at this
   rw [ht] at this
   rw [this.nils_inv]
   exact .lsln c loc (by simp [setμ]) rfl
  .rw [if_neg hut]
   exact (hr u hu).mono (Kept.refl _ _) hown (keepμ hno loc)
end
end Go.E
/- Loops whose states are told outright; parts of a body. No condition. -/
namespace Go.E
open Go Go.RowKit
section
variable {P : Program} {A : Amb} {env : Env} {Q : Exit -> St -> Prop} {st : St}
theorem thenD_n {next : St -> Prop} (h : next st) : thenD next Q .normal st := h
theorem thenD_r {next : St -> Prop} (h : Q .ret st) : thenD next Q .ret st := h
theorem thenD_x {next : St -> Prop} {id : Nat} (h : Q (.exit id) st) : thenD next Q (.exit id) st := h
theorem inB_n {id : Nat} (h : Q .normal st) : inBlockD id Q .normal st := h
theorem inB_r {id : Nat} (h : Q .ret st) : inBlockD id Q .ret st := h
theorem inB_x {id : Nat} (h : Q .normal st) : inBlockD id Q (.exit id) st := by simp only [inBlockD, if_true]; exact h
theorem inB_y {id id' : Nat} (hne : (id' == id) = false) (h : Q (.exit id') st) : inBlockD id Q (.exit id') st := by
 simp only [inBlockD]
 rw [if_neg (by simpa using hne)]; exact h
theorem fun_of {P : Program} {env : Env} (hE : EnvOK P env) {k : Nat} {fn : Func} {c : Code} (hf : P.funcs[k]? = some fn) (hb : fn.body = some c) (hn : (fn.name == "runtime.NumGoroutine") = false) (nt : Nat) (hnt : fn.ntmps = nt)
  (rs : List ResultVar) (hrs : fn.results.toList = rs) {ds : List DV} (hlen : ds.length <= nt) {Q : DV -> Prop}
  (h : ∀ A : Amb, (∀ id, A.μ0 id = none) -> dwp P A c (endD fun st => ∃ r, resDV env.tt rs st = some r /\ Q r) ⟨nt, initSlots 0 ds, [], 0⟩) : Fun P k ds Q := by
 subst hnt hrs
 exact fun_of_dwp hE hf hb hn hlen h
theorem call1 {h : Heap} {c k : Nat} {args : List LV} {ds : List DV} {r : DV} {f : LV × Heap × Nat -> Prop} {hf : Hid f} (hds : toDVall h args = some ds) (hF : Fun P k ds (· = r))
  (hs : r.scalar = true \/ args.flatMap (ids h) = []) (hK : f (.p r, h, c)) : CallC P A h c k args ⟨f, hf⟩ :=
 CallW.pure hds hF fun q hq => by
  subst hq
  split
  .exact hK
  .rcases hs with hs | hs
   .exact absurd hs ‹_›
   .rw [hs]; exact hK
theorem call2 {h h' : Heap} {c k : Nat} {args : List LV} {ds : List DV} {r : DV} {f : LV × Heap × Nat -> Prop} {hf : Hid f} (hds : toDVall h args = some ds) (hF : Fun P k ds (· = r))
  (hs : r.scalar = false) (hd : dels (args.flatMap (ids h)) h = h') (hK : f (.p r, h', c)) : CallC P A h c k args ⟨f, hf⟩ :=
 CallW.pure hds hF fun q hq => by
  subst hq
  rw [if_neg (by simp [hs]), hd]; exact hK
def Le (r d : DV) : Prop := ∀ (O : Nat -> Prop) (w : World) (v : Value), PRel O w v r -> PRel O w v d
theorem Le.of_eq {r d : DV} (h : r = d) : Le r d := fun _ _ _ hv => h ▸ hv
theorem Le.nil (sz : Nat) : Le .nils (.slice sz []) := fun _ _ _ hv => by cases hv; exact .snil sz
theorem Le.tup {l m : List DV} (hl : l.length = m.length) (h : ∀ (i : Nat) (a b : DV), l[i]? = some a -> m[i]? = some b -> Le a b) : Le (.tup l) (.tup m) := fun O w v hv => by
 cases hv with
 | tup vs _ hsz hr =>
  refine .tup vs m (by omega) fun i u d h1 h2 => ?_
  have hi := (List.getElem?_eq_some_iff.1 h2).1
  have hx : l[i]? = some (l[i]'(by omega)) := List.getElem?_eq_getElem _
  exact h i _ d hx h2 O w u (hr i u _ h1 hx)
theorem Le.agg {l m : List DV} (hl : l.length = m.length) (h : ∀ (i : Nat) (a b : DV), l[i]? = some a -> m[i]? = some b -> Le a b) : Le (.agg l) (.agg m) := fun O w v hv => by
 cases hv with
 | agg vs _ hsz hr =>
  refine .agg vs m (by omega) fun i u d h1 h2 => ?_
  have hi := (List.getElem?_eq_some_iff.1 h2).1
  have hx : l[i]? = some (l[i]'(by omega)) := List.getElem?_eq_getElem _
  exact h i _ d hx h2 O w u (hr i u _ h1 hx)
theorem Le.cons {a b : DV} {l m : List DV} (h : Le a b) (hr : ∀ (i : Nat) (a b : DV), l[i]? = some a -> m[i]? = some b -> Le a b) : ∀ (i : Nat) (x y : DV), (a :: l)[i]? = some x -> (b :: m)[i]? = some y -> Le x y := fun i x y h1 h2 => by
 cases i with
 | zero => simp at h1 h2; subst h1 h2; exact h
 | succ i => exact hr i x y (by simpa using h1) (by simpa using h2)
theorem fun_to {P : Program} {env : Env} (hE : EnvOK P env) {k : Nat} {fn : Func} {c : Code} (hf : P.funcs[k]? = some fn) (hb : fn.body = some c) (hn : (fn.name == "runtime.NumGoroutine") = false) (nt : Nat) (hnt : fn.ntmps = nt)
  (rs : List ResultVar) (hrs : fn.results.toList = rs) {ds : List DV} (hlen : ds.length <= nt) {d : DV}
  (h : ∀ A : Amb, (∀ id, A.μ0 id = none) -> dwp P A c (endD fun st => ∃ r, resDV env.tt rs st = some r /\ Le r d) ⟨nt, initSlots 0 ds, [], 0⟩) : Fun P k ds (· = d) := by
 have := fun_of hE hf hb hn nt hnt rs hrs hlen h
 exact ⟨this.enters, fun O w vs h1 h2 h3 => (this.run O w vs h1 h2 h3).mono fun _ _ ⟨v, r, e, hr, q, hb⟩ => ⟨v, d, e, q _ _ _ hr, rfl, hb⟩⟩
end
end Go.E
/- The equations by which a walk is reckoned. Written by a program (mkev.py). No condition. -/
namespace Go.E
open Go Go.RowKit
theorem allP_map : ∀ l : List DV, allP (l.map .p) = some l
 | [] => rfl
 | x :: l => by simp [allP, allP_map l]
end Go.E
/- Drawn regions in short form. Conditions: drawOK and mixedOrders, by kernel. -/
namespace Go.E
open Go Go.RowKit
def DetC (P : Program) (h : Heap) (k : Nat) (args : List LV) (K : Cont DV) : Prop :=
 ∃ ds r, toDVall h args = some ds /\ Fun P k ds (· = r) /\ (r.scalar = true \/ args.flatMap (ids h) = []) /\ K.f r
def OwnC (P : Program) (env : Env) (h : Heap) (k : Nat) (args : List LV) (K : Cont (Nat × Nat × List (List DV))) : Prop :=
 env.own = true /\ ∃ ds t sz elems, toDVall h args = some ds /\ FunN P k ds t sz elems /\ freeF (args.flatMap (ids h)) elems /\ K.f (t, sz, elems)
def eqD (env : Env) (neg : Bool) (t : Nat) (x y : LV) (k : Cont LV) : Prop :=
 match y with
 | .p .nils => False
 | y => eqS env neg t x y k
def binD (env : Env) (op : BinOp) (t : Nat) (x y : LV) (k : Cont LV) : Prop :=
 match x, y with
 | .p (.int k1 a), .p (.int k2 b) => k1 = k2 /\ intBinS op k1 a b k
 | x, y => match op with
  | .eql => eqD env false t x y k
  | .neq => eqD env true t x y k
  | _ => False
def lenD (sh : Sh) (x : LV) (k : Cont LV) : Prop :=
 match sh, x with
 | .arr n _, _ => k.f (.p (.int .i64 n))
 | .slc _, .p (.slice _ l) => k.f (.p (.int .i64 l.length))
 | .slc _, .p .nils => k.f (.p (.int .i64 0))
 | .slc _, .lsl _ _ _ len => k.f (.p (.int .i64 len))
 | .str, .p (.str s) => k.f (.p (.int .i64 s.size))
 | _, _ => False
def opD (P : Program) (A : Amb) (env : Env) (st : St) (dst : Option Tmp) (op : Op) (K : Cont St) : Prop :=
 match op with
 | .binOp op t x y _ => binD env op t (st.eval x) (st.eval y) ⟨fun l => K.f (st.put dst l), ⟨⟩⟩
 | .call c => match c.callee, c.args.toList, c.argTypes.toList with
  | .builtin .len, [x], [t] => tiW env t ⟨fun ti => lenD ti.sh (st.eval x) ⟨fun l => K.f (st.put dst l), ⟨⟩⟩, ⟨⟩⟩
  | .builtin .len, _, _ => False
  | .value f, args, _ => fnW (st.eval f) ⟨fun g => DetC P st.heap g.1 (args.map st.eval ++ g.2) ⟨fun r => K.f (st.put dst (.p r)), ⟨⟩⟩ \/
    OwnC P env st.heap g.1 (args.map st.eval ++ g.2) ⟨fun r => K.f (({ st with heap := (st.ctr, .row r.1 r.2.1 r.2.2) :: st.heap, ctr := st.ctr + 1 } : St).put dst (.lsl st.ctr r.2.1 0 r.2.2.length)), ⟨⟩⟩, ⟨⟩⟩
  | _, _, _ => opS P A env st dst (.call c) K
 | .range _ _ => False
 | .next _ _ => False
 | .entry _ => False
 | .load t x => calmLd env.calm (st.eval x) = true /\ opS P A env st dst (.load t x) K
 | .store t x v => calmSt env.calm (st.eval x) = true /\ opS P A env st dst (.store t x v) K
 | op => opS P A env st dst op K
def drM (P : Program) (A : Amb) (env : Env) (base n : Nat) (K : Cont St) : List (Nat × MOp) -> St -> Prop
 | [], st => Leaf K (st.at (base + n))
 | (i, ⟨dst, op, none⟩) :: rest, st => opD P A env (st.at (base + i)) dst op ⟨drM P A env base n K rest, ⟨⟩⟩
 | (i, ⟨dst, op, some (d, want)⟩) :: rest, st => gM (guardM st d) want ⟨fun _ => opD P A env (st.at (base + i)) dst op ⟨drM P A env base n K rest, ⟨⟩⟩, ⟨⟩⟩ ⟨fun _ => drM P A env base n K rest (st.put dst .und), ⟨⟩⟩
section
variable {P : Program} {A : Amb} {env : Env}
theorem St.at_at (st : St) (c d : Nat) : (st.at c).at d = st.at d := rfl
theorem gM_cong {v : LV} {want : Bool} {f f' g g' : Unit -> Prop} (h1 : f () = f' ()) (h2 : g () = g' ()) : gM v want ⟨f, ⟨⟩⟩ ⟨g, ⟨⟩⟩ = gM v want ⟨f', ⟨⟩⟩ ⟨g', ⟨⟩⟩ := by
 unfold gM
 split
 .simp only [gW, h1, h2]
 .exact h2
 .rfl
theorem drM_at (base n : Nat) (K : Cont St) (l : List (Nat × MOp)) : ∀ (st : St) (c : Nat), drM P A env base n K l (st.at c) = drM P A env base n K l st := by
 induction l with
 | nil => intro st c; rfl
 | cons p l ih =>
  intro st c
  obtain ⟨i, dst, op, g⟩ := p
  cases g with
  | none => rfl
  | some g =>
   obtain ⟨d, want⟩ := g
   have e1 : guardM (st.at c) d = guardM st d := by cases d <;> rfl
   have e2 : drM P A env base n K l ((st.at c).put dst .und) = drM P A env base n K l (st.put dst .und) := by
    have : (st.at c).put dst .und = (st.put dst .und).at c := by cases dst <;> rfl
    rw [this, ih]
   simp only [drM, e1, St.at_at]
   exact gM_cong rfl e2
theorem eqD_det {neg : Bool} {t : Nat} {x y : LV} {k : Cont LV} (h : eqD env neg t x y k) : ∃ l, eqW env neg t x y (· = l) /\ k.f l := by
 unfold eqD at h
 split at h
 .exact h.elim
 .rename_i hne
  unfold eqS at h
  unfold eqW
  split at h
  .exact ⟨_, rfl, h⟩
  .obtain ⟨ti, h1, h2, h3⟩ := tiW_iff.1 h; exact ⟨_, ⟨⟨ti, h1, h2⟩, rfl⟩, h3⟩
  .obtain ⟨ks, h1, h2, h3, h4⟩ := optW_iff.1 h; exact ⟨_, ⟨ks, h1, h2, h3, rfl⟩, h4⟩
  .exact absurd rfl hne
  .exact absurd rfl hne
  .exact absurd rfl hne
  .exact ⟨_, ⟨h.1, rfl⟩, h.2⟩
  .exact ⟨_, ⟨h.1, rfl⟩, h.2⟩
  .exact ⟨_, ⟨h.1, rfl⟩, h.2⟩
  .exact h.elim
theorem binD_det {op : BinOp} {t : Nat} {x y : LV} {k : Cont LV} (h : binD env op t x y k) : ∃ l, binW env op t x y (· = l) /\ k.f l := by
 unfold binD at h
 unfold binW
 split at h
 .obtain ⟨v, h1, h2⟩ := intBinS_imp h.2
  exact ⟨_, ⟨h.1, v, h1, rfl⟩, h2⟩
 .rename_i hne
  split
  .exact absurd rfl (hne _ _ _ _ rfl)
  .split at h
   .exact eqD_det h
   .exact eqD_det h
   .exact h.elim
theorem buildS_det {place : Nat -> Option (Nat × Nat)} {k : Cont (List LV)} : ∀ {ps : List (Nat × LV)} {cells : List LV}, buildS env place cells ps k -> ∃ l, buildW env place cells ps (· = l) /\ k.f l
 | [], _, h => ⟨_, rfl, h⟩
 | (i, v) :: rest, cells, h => by
  obtain ⟨p, h1, h⟩ := optW_iff.1 h
  obtain ⟨ti, h2, h⟩ := tiW_iff.1 h
  obtain ⟨ls, h3, ⟨h4, h5⟩, h⟩ := optW_iff.1 h
  obtain ⟨l, h6, h7⟩ := buildS_det h
  exact ⟨l, ⟨p.1, p.2, ti, ls, h1, h2, h3, h4, h5, h6⟩, h7⟩
theorem buildW_map {place : Nat -> Option (Nat × Nat)} {f : List LV -> LV} {l : List LV} : ∀ {ps : List (Nat × LV)} {cells : List LV}, buildW env place cells ps (· = l) -> buildW env place cells ps fun c => f c = f l
 | [], _, h => congrArg f h
 | (i, v) :: rest, cells, ⟨off, t, ti, ls, h1, h2, h3, h4, h5, h6⟩ => ⟨off, t, ti, ls, h1, h2, h3, h4, h5, buildW_map h6⟩
theorem bndS_det {d : Int} {x : Option LV} {k : Cont Int} (h : bndS d x k) : ∃ n, (∀ k' : Int -> Prop, k' n -> boundW d x k') /\ k.f n := by
 unfold bndS at h; unfold boundW
 split at h
 .exact ⟨_, fun _ h => h, h⟩
 .exact ⟨_, fun _ h => h, h⟩
 .exact h.elim
theorem loadS_det {h : Heap} {ti : TI} {p : LV} {k : Cont LV} (hl : loadS h ti p k) : ∃ l, loadW h ti p (· = l) /\ k.f l := by
 unfold loadS at hl
 unfold loadW
 split at hl
 .obtain ⟨r, h1, h2⟩ := optW_iff.1 hl
  exact ⟨r, ⟨r, h1, rfl⟩, h2⟩
 .obtain ⟨o, h1, hl⟩ := optW_iff.1 hl
  obtain ⟨cells, rfl, hl⟩ := boxW_iff.1 hl
  obtain ⟨r, h2, h3⟩ := optW_iff.1 hl
  exact ⟨r, ⟨cells, r, h1, h2, rfl⟩, h3⟩
 .obtain ⟨o, h1, hl⟩ := optW_iff.1 hl
  obtain ⟨e, sz, elems, rfl, hl⟩ := rowW_iff.1 hl
  obtain ⟨x, h2, hl⟩ := optW_iff.1 hl
  obtain ⟨r, h3, h4⟩ := optW_iff.1 hl
  exact ⟨r, ⟨e, sz, elems, x, r, h1, h2, h3, rfl⟩, h4⟩
 .exact hl.elim
theorem sliceS_det {t : Nat} {x : LV} {lo hi : Option LV} {k : Cont LV} (h : sliceS env t x lo hi k) : ∃ l, sliceW env t x lo hi (· = l) /\ k.f l := by
 unfold sliceS at h
 unfold sliceW
 split at h
 .obtain ⟨ti, h1, h⟩ := tiW_iff.1 h
  obtain ⟨e, h2, h⟩ := slcW_iff.1 h
  obtain ⟨te, h3, h4, h⟩ := tiW_iff.1 h
  obtain ⟨a, ka, h⟩ := bndS_det h
  obtain ⟨b, kb, h5, h⟩ := bndS_det h
  exact ⟨_, ⟨⟨ti, e, h1, h2, te, h3, h4⟩, ka _ (kb _ ⟨h5.1, h5.2.1, h5.2.2, rfl⟩)⟩, h⟩
 .obtain ⟨ti, h1, h⟩ := tiW_iff.1 h
  obtain ⟨e, h2, h⟩ := slcW_iff.1 h
  obtain ⟨te, h3, h4, h6, h⟩ := tiW_iff.1 h
  obtain ⟨a, ka, h⟩ := bndS_det h
  obtain ⟨b, kb, h5, h⟩ := bndS_det h
  exact ⟨_, ⟨⟨ti, e, h1, h2, te, h3, h4⟩, h6, ka _ (kb _ ⟨h5.1, h5.2.1, h5.2.2, rfl⟩)⟩, h⟩
 .obtain ⟨ti, h1, h2, h⟩ := tiW_iff.1 h
  obtain ⟨a, ka, h⟩ := bndS_det h
  obtain ⟨b, kb, h5, h⟩ := bndS_det h
  exact ⟨_, ⟨⟨ti, h1, h2⟩, ka _ (kb _ ⟨h5.1, h5.2.1, h5.2.2, rfl⟩)⟩, h⟩
 .exact h.elim
theorem opD_det {st : St} {dst : Option Tmp} {op : Op} {K : Cont St} (hK : ∀ (s : St) (c : Nat), K.f (s.at c) -> K.f s) (h : opD P A env st dst op K) {o : Oper} (ho : o.dst = dst) :
  ∃ l e, dopW P env st op l e /\ K.f (apS st st.ctr o l e) := by
 subst ho
 have keep : ∀ l, K.f (st.put o.dst l) -> K.f (apS st st.ctr o l .keep) := fun l h => by
  have : apS st st.ctr o l .keep = st.put o.dst l := rfl
  rw [this]; exact h
 have goes : ∀ l e h' c, e.ap st.ctr st.heap = h' -> K.f (st.go o.dst l h' c) -> K.f (apS st st.ctr o l e) := fun l e h' c he hk => by
  refine hK _ c ?_
  have : (apS st st.ctr o l e).at c = st.go o.dst l h' c := by
   unfold apS St.go St.at St.put
   rw [he]
   cases o.dst <;> rfl
  rw [this]; exact hk
 have nC : ∀ l, nW env st op (· = l) -> (dopW P env st op l .keep ↔ (Eff.keep = Eff.keep /\ nW env st op (· = l))) -> K.f (st.put o.dst l) -> ∃ l e, dopW P env st op l e /\ K.f (apS st st.ctr o l e) :=
  fun l h1 h2 h3 => ⟨l, .keep, h2.2 ⟨rfl, h1⟩, keep l h3⟩
 cases op <;> simp only [opD, opS] at h
 case move x => exact nC _ rfl Iff.rfl h
 case assign x => exact nC _ rfl Iff.rfl h
 case pick c a b => obtain ⟨t, h1, h2⟩ := boolW_iff.1 h; exact nC _ ⟨t, h1, rfl⟩ Iff.rfl h2
 case nilCheck x =>
  unfold ptrW at h
  split at h <;> first | exact h.elim | (rename_i e; refine nC _ ?_ Iff.rfl h; simp only [nW, e]; exact ⟨trivial, trivial⟩)
 case binOp op t x y z => obtain ⟨l, h1, h2⟩ := binD_det h; exact nC l h1 Iff.rfl h2
 case unOp op t x =>
  cases op <;> simp only at h
  case neg => obtain ⟨kk, n, h1, h2⟩ := intW_iff.1 h; exact nC _ (by simp only [nW, unW, h1]) Iff.rfl h2
  case not => obtain ⟨b, h1, h2⟩ := boolW_iff.1 h; exact nC _ (by simp only [nW, unW, h1]) Iff.rfl h2
 case convert s d x =>
  obtain ⟨kk, n, h1, h⟩ := intW_iff.1 h
  obtain ⟨tj, h2, h⟩ := tiW_iff.1 h
  obtain ⟨ti, h3, h⟩ := tiW_iff.1 h
  obtain ⟨kd, h4, h⟩ := optW_iff.1 h
  refine nC _ ⟨kk, n, ti, tj, h1, h2, h3, kd, ?_, rfl⟩ Iff.rfl h
  generalize ti.sh = q at h4
  cases q <;> simp [shInt] at h4
  rw [h4]
 case extract t i =>
  unfold extS at h
  split at h
  .rename_i l hl; obtain ⟨v, h1, h2⟩ := optW_iff.1 h; exact nC v (by simp only [nW, hl]; exact ⟨v, h1, rfl⟩) Iff.rfl h2
  .rename_i l hl; obtain ⟨v, h1, h2⟩ := optW_iff.1 h; exact nC _ (by simp only [nW, hl]; exact ⟨v, h1, rfl⟩) Iff.rfl h2
  .exact h.elim
 case field t x i =>
  obtain ⟨ti, h1, h⟩ := tiW_iff.1 h
  obtain ⟨fs, h2, h⟩ := structW_iff.1 h
  obtain ⟨f, h3, h⟩ := optW_iff.1 h
  obtain ⟨tf, h4, h⟩ := tiW_iff.1 h
  try dsimp only at h
  unfold aggW at h
  split at h
  .rename_i l hl
   obtain ⟨v, h5, h6⟩ := optW_iff.1 h
   exact nC v ⟨ti, fs, f.1, f.2, tf, l, v, h1, h2, h3, h4, by rw [hl]; rfl, by rw [hl]; trivial, h5, rfl⟩ Iff.rfl h6
  .rename_i l hl
   obtain ⟨v, h5, h6⟩ := optW_iff.1 h
   exact nC v ⟨ti, fs, f.1, f.2, tf, l.map .p, v, h1, h2, h3, h4, by rw [hl]; rfl, by rw [hl]; trivial, h5, rfl⟩ Iff.rfl h6
  .exact h.elim
 case build t ps =>
  obtain ⟨ti, h1, h⟩ := tiW_iff.1 h
  try dsimp only at h
  unfold buildT at h
  split at h
  .rename_i fs hsh
   obtain ⟨l, h2, h3⟩ := buildS_det h.2
   exact nC _ ⟨ti, h1, by simp only [hsh]; exact ⟨h.1, buildW_map h2⟩⟩ Iff.rfl h3
  .rename_i n e hsh
   obtain ⟨te, h2, h⟩ := tiW_iff.1 h
   obtain ⟨l, h3, h4⟩ := buildS_det h
   exact nC _ ⟨ti, h1, by simp only [hsh]; exact ⟨te, h2, buildW_map h3⟩⟩ Iff.rfl h4
  .exact h.elim
 case fieldAddr t x i =>
  obtain ⟨ti, h1, h⟩ := tiW_iff.1 h
  obtain ⟨fs, h2, h⟩ := structW_iff.1 h
  obtain ⟨f, h3, h⟩ := optW_iff.1 h
  obtain ⟨tf, h4, h5, h⟩ := tiW_iff.1 h
  try dsimp only at h
  unfold offS at h
  split at h <;> first | exact h.elim | (rename_i e; exact nC _ ⟨ti, fs, f.1, f.2, tf, h1, h2, h3, h4, h5, by simp only [e]⟩ Iff.rfl h)
 case indexAddr t x i =>
  obtain ⟨kk, n, h1, h⟩ := intW_iff.1 h
  obtain ⟨ti, h2, h⟩ := tiW_iff.1 h
  try dsimp only at h
  unfold iaS at h
  split at h
  .rename_i e1 e2
   obtain ⟨te, g1, g2, g3, h⟩ := tiW_iff.1 h
   obtain ⟨c, g4, g5⟩ := optW_iff.1 h
   exact nC _ ⟨kk, n, ti, h1, h2, by simp only [e1, e2]; exact ⟨⟨te, g1, g2⟩, g3, c, g4, rfl⟩⟩ Iff.rfl g5
  .rename_i e1 e2
   obtain ⟨te, g1, g2, ⟨g3, g4⟩, h⟩ := tiW_iff.1 h
   exact nC _ ⟨kk, n, ti, h1, h2, by simp only [e1, e2]; exact ⟨⟨te, g1, g2⟩, g3, g4, trivial⟩⟩ Iff.rfl h
  .rename_i e1 e2
   obtain ⟨te, g1, ⟨g2, g3⟩, h⟩ := tiW_iff.1 h
   exact nC _ ⟨kk, n, ti, h1, h2, by simp only [e1, e2]; exact ⟨te, g1, g2, g3, rfl⟩⟩ Iff.rfl h
  .rename_i e1 e2
   obtain ⟨te, g1, ⟨g2, g3⟩, h⟩ := tiW_iff.1 h
   exact nC _ ⟨kk, n, ti, h1, h2, by simp only [e1, e2]; exact ⟨te, g1, g2, g3, rfl⟩⟩ Iff.rfl h
  .exact h.elim
 case index t x i =>
  obtain ⟨kk, n, h1, h⟩ := intW_iff.1 h
  obtain ⟨ti, h2, h0, h⟩ := tiW_iff.1 h
  try dsimp only at h
  unfold ixS at h
  split at h
  .rename_i e1 e2
   obtain ⟨te, g1, g2, h⟩ := tiW_iff.1 h
   obtain ⟨v, g3, g4⟩ := optW_iff.1 h
   exact nC v ⟨kk, n, ti, h1, h2, h0, by simp only [e1, e2]; exact ⟨te, v, g1, g2, g3, rfl⟩⟩ Iff.rfl g4
  .rename_i e1 e2
   obtain ⟨te, g1, g2, h⟩ := tiW_iff.1 h
   obtain ⟨v, g3, g4⟩ := optW_iff.1 h
   exact nC v ⟨kk, n, ti, h1, h2, h0, by simp only [e1, e2]; exact ⟨te, v, g1, g2, g3, rfl⟩⟩ Iff.rfl g4
  .rename_i e1 e2
   obtain ⟨c, g1, g2⟩ := optW_iff.1 h
   exact nC _ ⟨kk, n, ti, h1, h2, h0, by simp only [e1, e2]; exact ⟨c, g1, rfl⟩⟩ Iff.rfl g2
  .exact h.elim
 case makeFunc fn first caps =>
  cases fn <;> simp only at h
  rename_i f
  exact nC _ ⟨by simpa using h.1, f, rfl, rfl⟩ Iff.rfl h.2
 case slice t x lo hi mx =>
  cases mx with
  | some m => exact h.elim
  | none => obtain ⟨l, h1, h2⟩ := sliceS_det h; exact nC l ⟨rfl, h1⟩ Iff.rfl h2
 case load t x =>
  obtain ⟨hc', h⟩ := h
  obtain ⟨ti, h1, h2⟩ := tiW_iff.1 h
  obtain ⟨l, h3, h4⟩ := loadS_det h2
  exact ⟨l, .keep, ⟨rfl, hc', ti, h1, h3⟩, keep l h4⟩
 case store t x v =>
  obtain ⟨hc', h⟩ := h
  obtain ⟨ti, h1, h⟩ := tiW_iff.1 h
  obtain ⟨ls, h2, ⟨h3, h4⟩, h⟩ := optW_iff.1 h
  try dsimp only at h
  unfold storeS at h
  split at h
  .rename_i id off e
   obtain ⟨o', g1, h⟩ := optW_iff.1 h
   obtain ⟨cells, rfl, g2, h⟩ := boxW_iff.1 h
   refine ⟨.any, .set _, ⟨hc', _, rfl, ?_⟩, goes _ _ _ _ rfl h⟩
   simp only [mW, storeW]
   exact ⟨ti, h1, ls, h2, h3, h4, by simp only [e]; exact ⟨cells, g1, g2, trivial, rfl⟩⟩
  .rename_i id i off e
   obtain ⟨o', g1, h⟩ := optW_iff.1 h
   obtain ⟨e', sz, elems, rfl, h⟩ := rowW_iff.1 h
   obtain ⟨x, g2, h⟩ := optW_iff.1 h
   obtain ⟨ds, g3, g4, h⟩ := optW_iff.1 h
   refine ⟨.any, .set _, ⟨hc', _, rfl, ?_⟩, goes _ _ _ _ rfl h⟩
   simp only [mW, storeW]
   exact ⟨ti, h1, ls, h2, h3, h4, by simp only [e]; exact ⟨e', sz, elems, x, ds, g1, g2, g4, g3, trivial, rfl⟩⟩
  .exact h.elim
 case alloc t => obtain ⟨ti, h1, h2⟩ := tiW_iff.1 h; exact ⟨_, .new _, ⟨ti, h1, rfl, rfl⟩, goes _ _ _ _ rfl h2⟩
 case box t x => obtain ⟨ls, h1, h2⟩ := optW_iff.1 h; exact ⟨_, .new _, ⟨ls, h1, rfl, rfl⟩, goes _ _ _ _ rfl h2⟩
 case buildSlice t n ps =>
  obtain ⟨ti, h1, h⟩ := tiW_iff.1 h
  obtain ⟨e, h2, h⟩ := slcW_iff.1 h
  obtain ⟨te, h3, ⟨h4, h5⟩, h⟩ := tiW_iff.1 h
  obtain ⟨l, h6, h7, h⟩ := optW_iff.1 h
  rcases h with h | h
  .exact ⟨_, .new _, ⟨ti, e, te, l, h1, h2, h3, h4, h5, h6, h7, .inl ⟨rfl, rfl⟩⟩, goes _ _ _ _ rfl h⟩
  .exact ⟨_, .keep, ⟨ti, e, te, l, h1, h2, h3, h4, h5, h6, h7, .inr ⟨rfl, rfl⟩⟩, keep _ h⟩
 case makeSlice t l c =>
  obtain ⟨ti, h1, h⟩ := tiW_iff.1 h
  obtain ⟨e, h2, h⟩ := slcW_iff.1 h
  obtain ⟨te, h3, h⟩ := tiW_iff.1 h
  obtain ⟨k1, n, h4, h⟩ := intW_iff.1 h
  obtain ⟨k2, n', h5, ⟨h9, h6, h7, h8⟩, h⟩ := intW_iff.1 h
  simp only at h9
  subst h9
  rcases h with h | h
  .exact ⟨_, .new _, ⟨ti, e, te, n', k1, k2, h1, h2, h3, h4, h5, h6, h7, h8, .inl ⟨rfl, rfl⟩⟩, goes _ _ _ _ rfl h⟩
  .exact ⟨_, .keep, ⟨ti, e, te, n', k1, k2, h1, h2, h3, h4, h5, h6, h7, h8, .inr ⟨rfl, rfl⟩⟩, keep _ h⟩
 case makeMap t r =>
  cases r with
  | some r => exact h.elim
  | none => exact ⟨_, .new _, ⟨rfl, rfl, rfl⟩, goes _ _ _ _ rfl h⟩
 case lookup t x i ok =>
  obtain ⟨ti, h1, h⟩ := tiW_iff.1 h
  obtain ⟨kt, et, h2, h⟩ := mpW_iff.1 h
  obtain ⟨te, h3, h⟩ := tiW_iff.1 h
  obtain ⟨m, h4, h⟩ := optW_iff.1 h
  obtain ⟨kd, h5, ⟨h6, h7⟩, h⟩ := pdW_iff.1 h
  exact ⟨_, .keep, ⟨rfl, ti, kt, et, te, m, kd, h1, h2, h3, h4, h5, h6, h7, rfl⟩, keep _ h⟩
 case mapUpdate t x i v =>
  obtain ⟨ti, h1, h⟩ := tiW_iff.1 h
  obtain ⟨kt, et, h2, h⟩ := mpW_iff.1 h
  obtain ⟨id, h3, h⟩ := lmapW_iff.1 h
  obtain ⟨o', h4, h⟩ := optW_iff.1 h
  obtain ⟨m, rfl, h⟩ := mapW_iff.1 h
  obtain ⟨kd, h5, h⟩ := pdW_iff.1 h
  obtain ⟨vd, h6, ⟨h7, h8⟩, h⟩ := pdW_iff.1 h
  refine ⟨.any, .set _, ⟨_, rfl, ?_⟩, goes _ _ _ _ rfl h⟩
  simp only [mW, mapUpdW]
  exact ⟨ti, kt, et, id, m, kd, vd, h1, h2, h3, h4, h5, h6, h7, h8, trivial, rfl⟩
 case mapEntry t x i =>
  obtain ⟨ti, h1, h⟩ := tiW_iff.1 h
  obtain ⟨kt, et, h2, h⟩ := mpW_iff.1 h
  obtain ⟨te, h3, h⟩ := tiW_iff.1 h
  obtain ⟨id, h4, h⟩ := lmapW_iff.1 h
  obtain ⟨o', h5, h⟩ := optW_iff.1 h
  obtain ⟨m, rfl, h⟩ := mapW_iff.1 h
  obtain ⟨kd, h6, ⟨h7, h8⟩, h⟩ := pdW_iff.1 h
  refine ⟨_, .set _, ⟨_, rfl, ?_⟩, goes _ _ _ _ rfl h⟩
  simp only [mW, mapEntW]
  exact ⟨ti, kt, et, te, id, m, kd, h1, h2, h3, h4, h5, h6, h7, h8, rfl, rfl⟩
 case entryStore t x s v =>
  obtain ⟨id, h1, h⟩ := lmapW_iff.1 h
  obtain ⟨o', h2, h⟩ := optW_iff.1 h
  obtain ⟨m, rfl, h⟩ := mapW_iff.1 h
  obtain ⟨kk, n, h3, h⟩ := intW_iff.1 h
  obtain ⟨vd, h4, h0, h⟩ := pdW_iff.1 h
  obtain ⟨p, h5, h⟩ := optW_iff.1 h
  refine ⟨.any, .set _, ⟨_, rfl, ?_⟩, goes _ _ _ _ rfl h⟩
  simp only [mW, entStW]
  exact ⟨id, m, kk, n, vd, p, h1, h2, h3, h0, h5, h4, trivial, rfl⟩
 case call c =>
  obtain ⟨callee, args, ats⟩ := c
  simp only at h
  split at h
  .rename_i x t e2 e3
   obtain ⟨ti, h1, h⟩ := tiW_iff.1 h
   have ha : args = #[x] := by rw [<- Array.toList_inj, e2]
   have hb : ats = #[t] := by rw [<- Array.toList_inj, e3]
   try dsimp only at h
   unfold lenD at h
   split at h
   .rename_i g; exact nC _ (by simp only [nW]; exact ⟨x, t, ti, ha, hb, h1, by simp only [g]⟩) Iff.rfl h
   .rename_i g1 g2; exact nC _ (by simp only [nW]; exact ⟨x, t, ti, ha, hb, h1, by simp only [g1, g2, lenW]; try (intros; trivial)⟩) Iff.rfl h
   .rename_i g1 g2; exact nC _ (by simp only [nW]; exact ⟨x, t, ti, ha, hb, h1, by simp only [g1, g2, lenW]; try (intros; trivial)⟩) Iff.rfl h
   .rename_i g1 g2; exact nC _ (by simp only [nW]; exact ⟨x, t, ti, ha, hb, h1, by simp only [g1, g2, lenW]; try (intros; trivial)⟩) Iff.rfl h
   .rename_i g1 g2; exact nC _ (by simp only [nW]; exact ⟨x, t, ti, ha, hb, h1, by simp only [g1, g2, lenW]; try (intros; trivial)⟩) Iff.rfl h
   .exact h.elim
  .exact h.elim
  .rename_i f
   obtain ⟨k, caps, g1, g2⟩ := fnW_iff.1 h
   rcases g2 with ⟨ds, r, g3, g4, g5, g6⟩ | ⟨g0, ds, t, sz, elems, g3, g4, g5, g6⟩
   .exact ⟨_, .keep, .inl ⟨rfl, k, caps, ds, r, g1, g3, g4, g5, rfl⟩, keep _ g6⟩
   .exact ⟨_, .new _, .inr ⟨g0, k, caps, ds, t, sz, elems, g1, g3, g4, g5, rfl, rfl⟩, goes _ _ _ _ rfl g6⟩
  .rename_i hne
   unfold callS at h
   simp only at h
   split at h
   .rename_i g; exact (g _ rfl).elim
   .rename_i s x t t' e2 e3 _ _
    obtain ⟨rfl, h⟩ := h
    obtain ⟨ti, h1, h⟩ := tiW_iff.1 h
    obtain ⟨e, h2, h⟩ := slcW_iff.1 h
    obtain ⟨te, h3, h4, h⟩ := tiW_iff.1 h
    obtain ⟨new, h5, h6, h⟩ := optW_iff.1 h
    have ha : args = #[s, x] := by rw [<- Array.toList_inj, e2]
    have hb : ats = #[t', t'] := by rw [<- Array.toList_inj, e3]
    try dsimp only at h
    unfold appS at h
    split at h
    .rename_i e9
     refine ⟨_, .set _, ⟨_, rfl, ?_⟩, goes _ _ _ _ rfl h.2⟩
     simp only [mW]
     exact ⟨trivial, s, x, t', ha, hb, ti, e, te, h1, h2, h3, h4, new, h5, h6, by simp only [e9]; exact ⟨h.1.1, h.1.2, trivial, trivial⟩⟩
    .rename_i id sz off len e9
     obtain ⟨hsz, h⟩ := h
     obtain ⟨o', g1, h⟩ := optW_iff.1 h
     obtain ⟨e', sz', elems, rfl, ⟨k1, k2, g2, g3, g4⟩, h9⟩ := rowW_iff.1 h
     subst k1; subst k2
     refine ⟨_, .set _, ⟨_, rfl, ?_⟩, goes _ _ _ _ rfl h9⟩
     simp only [mW]
     exact ⟨trivial, s, x, t', ha, hb, ti, e', te, h1, h2, h3, h4, new, h5, h6, by simp only [e9]; exact ⟨elems, hsz, g1, g2, g3, g4, trivial, rfl⟩⟩
    .exact h.elim
   .rename_i x t e2 e3
    simp_all
   .obtain ⟨r, h1, h⟩ := optW_iff.1 h
    exact nC _ (by simp only [nW]; exact ⟨r, h1, rfl⟩) Iff.rfl h
   .obtain ⟨r, h1, h⟩ := optW_iff.1 h
    exact nC _ (by simp only [nW]; exact ⟨r, h1, rfl⟩) Iff.rfl h
   .exact h.elim
 all_goals exact h.elim
def pairM (ops : List Oper) (order : List Nat) : List (Nat × MOp) :=
 match order with
 | [] => []
 | i :: rest => match ops[i]? with
  | some o => (i, toM ops o) :: pairM ops rest
  | none => []
theorem drM_sound {ops : List Oper} {base : Nat} {K : Cont St} : ∀ (order : List Nat) (st : St), (order.all fun i => decide (i < ops.length)) = true -> drM P A env base ops.length K (pairM ops order) st ->
  dpops P env ops.toArray base (fun st' => K.f { st' with ctr := base + ops.length }) order st
 | [], st, _, h => h.h
 | i :: rest, st, hb, h => by
  simp only [List.all_cons, Bool.and_eq_true, decide_eq_true_eq] at hb
  obtain ⟨o, ho⟩ : ∃ o, ops[i]? = some o := ⟨_, List.getElem?_eq_getElem hb.1⟩
  have ih := drM_sound (ops := ops) (base := base) (K := K) rest
  have hp : pairM ops (i :: rest) = (i, toM ops o) :: pairM ops rest := by simp [pairM, ho]
  rw [hp] at h
  have ho' : ops.toArray[i]? = some o := by simpa using ho
  have step : opD P A env (st.at (base + i)) o.dst o.op ⟨drM P A env base ops.length K (pairM ops rest), ⟨⟩⟩ ->
    ∃ l e, dopW P env (st.at (base + i)) o.op l e /\ dpops P env ops.toArray base (fun st' => K.f { st' with ctr := base + ops.length }) rest (apS st (base + i) o l e) := fun h => by
   obtain ⟨l, e, h1, h2⟩ := opD_det (fun s c hk => by
    have := drM_at (P := P) (A := A) (env := env) base ops.length K (pairM ops rest) s c
    simp only at hk ⊢
    rw [<- this]; exact hk) h (o := o) rfl
   refine ⟨l, e, h1, ih _ hb.2 ?_⟩
   have e1 : apS (st.at (base + i)) (st.at (base + i)).ctr o l e = (apS st (base + i) o l e).at (base + i) := by
    unfold apS St.at St.put
    cases o.dst <;> rfl
   simp only at h2
   rw [e1, drM_at] at h2
   exact h2
  simp only [dpops, ho']
  simp only [toM] at h
  cases hg : o.guard with
  | none =>
   rw [hg] at h
   exact step h
  | some g =>
   obtain ⟨j, want⟩ := g
   rw [hg] at h
   simp only [drM, guardM_eq] at h
   unfold gM at h
   have sk : drM P A env base ops.length K (pairM ops rest) (st.put o.dst .und) -> dpops P env ops.toArray base (fun st' => K.f { st' with ctr := base + ops.length }) rest (apS st (base + i) o .und .keep) := fun h => by
    have e1 : apS st (base + i) o .und .keep = st.put o.dst .und := rfl
    rw [e1]; exact ih _ hb.2 h
   simp only
   split at h
   .rename_i b e
    try simp only [e]
    exact ⟨fun hb => step (h.1 hb), fun hb => sk (h.2 hb)⟩
   .rename_i e
    try simp only [e]
    exact sk h
   .exact h.elim
end
end Go.E
/- The equations by which a drawn region is reckoned. Written by a program (mkev.py). No condition. -/
namespace Go.E
open Go Go.RowKit
section
variable {P : Program}
theorem det1 {h : Heap} {k : Nat} {args : List LV} {ds : List DV} {r : DV} {f : DV -> Prop} {hf : Hid f} (hds : toDVall h args = some ds) (hF : Fun P k ds (· = r))
  (hs : r.scalar = true \/ args.flatMap (ids h) = []) (hK : f r) : DetC P h k args ⟨f, hf⟩ := ⟨ds, r, hds, hF, hs, hK⟩
end
end Go.E
/- Functions that hand back a slice of their own: the caller may write into it. No condition. -/
namespace Go.E
open Go Go.RowKit
section
variable {P : Program} {A : Amb} {env : Env}
theorem CallW.own {h : Heap} {ctr k : Nat} {args : List LV} {ds : List DV} {e sz : Nat} {elems : List (List DV)} {K : LV -> Heap -> Nat -> Prop} (hds : toDVall h args = some ds) (hf : FunN P k ds e sz elems)
  (hl : args.flatMap (ids h) = []) (hK : K (.lsl ctr sz 0 elems.length) ((ctr, .row e sz elems) :: h) (ctr + 1)) : CallW P A h ctr k args K := by
 refine ⟨hf.enters, fun μ w vs hh hsz hr => ?_⟩
 obtain ⟨g1, g2⟩ := toDVall_rel hh (l := args.flatMap (ids h)) hds (fun id hid => hid)
 rw [hl] at g2
 have hO : ∀ b, Own A μ h b -> b < w.heap.size := by
  rintro b (hb | ⟨id, x, lc, h1, h2, h3, rfl⟩)
  .exact Nat.lt_of_lt_of_le (A.hO b hb).1 hh.size
  .exact (hh.base id x lc h1 h2 h3).1
 refine (hf.run (Own A μ h) w vs hO (by omega) fun i v d hv hd => ?_).mono fun en w' ⟨v, he, hn, hb⟩ => ?_
 .have hi := (List.getElem?_eq_some_iff.1 hd).1
  have hx : args[i]? = some (args[i]'(by omega)) := List.getElem?_eq_getElem _
  exact g2 i v _ d hx hd (hr i v _ hv hx)
 .have hno : μ ctr = none := hh.fresh ctr (Nat.le_refl _)
  obtain ⟨hlen, hn⟩ := hn
  have hkm : Kept (Mine μ h) w w' := ⟨hb.size, fun b hb' _ => hb.block b hb'⟩
  have hsub : ∀ id x, look id ((ctr, HObj.row e sz elems) :: h) = some x -> (id = ctr /\ x = .row e sz elems) \/ look id h = some x := by
   intro id x hx
   simp only [look] at hx
   split at hx
   .cases hx; exact .inl ⟨‹_›, rfl⟩
   .exact .inr hx
  have hold : ∀ id x lc, look id ((ctr, HObj.row e sz elems) :: h) = some x -> id ≠ ctr -> μ id = some lc -> lc.nil = false -> w'.heap[lc.b]? = w.heap[lc.b]? := by
   intro id x lc hx hne hm hnl
   rcases hsub id x hx with ⟨rfl, _⟩ | hx
   .exact absurd rfl hne
   .exact hb.block _ (hh.base id x lc hx hm hnl).1
  have fin : ∀ (loc : Loc), (loc.nil = false -> loc.b < w'.heap.size /\ w.heap.size <= loc.b) ->
    (∀ O' : Nat -> Prop, (∀ b, O' b -> Own A μ h b \/ (loc.nil = false /\ b = loc.b)) -> ORel O' (setμ μ ctr loc) w' loc (.row e sz elems)) ->
    (∀ O', LRel O' (setμ μ ctr loc) w' v (.lsl ctr sz 0 elems.length)) ->
    ∃ u l h' c' μ', en = .returned u /\ K l h' c' /\ HRel A μ' h' (Fr c') w' /\ LRel (Own A μ' h') μ' w' u l /\ ∀ v x, LRel (Own A μ h) μ w v x -> LRel (Own A μ' h') μ' w' v x := by
   intro loc hloc ho hu
   have hfr : Fresh μ h ((ctr, HObj.row e sz elems) :: h) w loc := fun hn => .inl (hloc hn).2
   have hown := hh.sub_add loc (.row e sz elems) ((ctr, .row e sz elems) :: h) hfr hsub
   have hcov : ∀ b, Own A (setμ μ ctr loc) ((ctr, .row e sz elems) :: h) b -> Own A μ h b \/ (loc.nil = false /\ b = loc.b) := by
    rintro b (hb' | ⟨id, x, lc, h1, h2, h3, h4⟩)
    .exact .inl (.inl hb')
    .by_cases e' : id = ctr
     .subst e'
      simp only [setμ, if_true, Option.some.injEq] at h2
      subst h2; exact .inr ⟨h3, h4.symm⟩
     .rcases hsub id x h1 with ⟨e'', _⟩ | h1
      .exact absurd e'' e'
      .simp only [setμ, e', if_false] at h2
       exact .inl (.inr ⟨id, x, lc, h1, h2, h3, h4⟩)
   have hadd := hh.add (w' := w') hno loc (.row e sz elems) ((ctr, .row e sz elems) :: h) (fun hn => (hloc hn).1) hfr hsub hkm hold hb.os hb.tape hb.output (ho _ hcov)
   exact ⟨v, _, _, _, _, he, hK, hadd.less (fun id hid => by simp only [Fr] at hid ⊢; omega), hu _, fun v x hv => hv.mono hkm.own hown (keepμ hno loc)⟩
  rcases hn with ⟨rfl, rfl⟩ | ⟨a, b, o, cap, c, rfl, h1, h2, h3, h4, h5, h6, h7, h8, h9, h10⟩
  .exact fin ⟨true, 0, 0, sz, 0⟩ (fun hn => by cases hn) (fun O' _ => ⟨rfl, hlen, .inl ⟨rfl, rfl⟩⟩) (fun O' => .lsln ctr ⟨true, 0, 0, sz, 0⟩ (by simp [setμ]) rfl)
  .refine fin ⟨false, b, o, sz, cap⟩ (fun _ => ⟨h2, h1⟩) (fun O' hO' => ⟨rfl, hlen, .inr ⟨rfl, c, h6, h7, h8, h9, fun i j x d u hx hd hu => ?_⟩⟩) (fun O' => ?_)
   .refine (h10 i j x d u hx hd hu).mono (Kept.refl _ _) fun q _ hq => ?_
    rcases hO' q hq with hq | ⟨_, hq⟩
    .exact .inl hq
    .exact .inr hq
   .exact .lsl ctr 0 elems.length cap a ⟨false, b, o, sz, cap⟩ (by simp [setμ]) rfl (by simp) h8 (fun hc => by rw [h3 hc]; simp) h4 h5
def endN (t e sz : Nat) (elems : List (List DV)) : Exit -> St -> Prop := endD fun st =>
 (∃ id, st.eval (.tmp t) = .lsl id sz 0 elems.length /\ look id st.heap = some (.row e sz elems)) \/ (st.eval (.tmp t) = .p .nils /\ elems = [])
theorem funN_of {k : Nat} {fn : Func} {c : Code} (hf : P.funcs[k]? = some fn) (hb : fn.body = some c) (hn : (fn.name == "runtime.NumGoroutine") = false) (nt : Nat) (hnt : fn.ntmps = nt) (t : Nat) (hrs : fn.results.toList = [.tmp t]) {ds : List DV} (hlen : ds.length <= nt)
  {e sz : Nat} {elems : List (List DV)} (hel : ∀ x ∈ elems, x.length = sz)
  (h : ∀ A : Amb, (∀ id, A.μ0 id = none) -> dwp P A c (endN t e sz elems) ⟨nt, initSlots 0 ds, [], 0⟩) : FunN P k ds e sz elems := by
 subst hnt
 refine ⟨enters_of hf hb hn, fun O w vs hO hsz hrel => ?_⟩
 let A : Amb := ⟨w, O, fun _ => False, fun _ => none, fun b hb => ⟨hO b hb, id⟩⟩
 have hR : R A ⟨fn.ntmps, initSlots 0 ds, [], 0⟩ { tmps := vs ++ Array.replicate (fn.ntmps - vs.size) undef, defers := [] } w := by
  refine ⟨⟨fun _ => none, ⟨by simp [look], by simp [look], fun _ _ => rfl, by simp [look], Nat.le_refl _, fun _ _ _ => rfl, rfl, rfl, rfl, by simp [A]⟩, fun t ht => ?_⟩, by simp; omega, rfl⟩
  have hown : ∀ b, Own A (fun _ => none) [] b -> O b := by
   rintro b (hb | ⟨id, x, lc, h1, _⟩)
   .exact hb
   .simp [look] at h1
  simp only [getS, look_init, Nat.zero_le, if_true, Nat.sub_zero]
  by_cases hlt : t < ds.length
  .have hv : t < vs.size := by omega
   have e : ds[t]? = some ds[t] := by simp [hlt]
   rw [e]
   simp only [Option.map_some]
   have e2 : (vs ++ Array.replicate (fn.ntmps - vs.size) undef).getD t undef = vs[t] := by
    rw [Array.getD_eq_getD_getElem?, Array.getElem?_append_left hv]; simp [hv]
   rw [e2]
   exact .p _ _ ((hrel t _ _ (by simp [hv]) e).mono (Kept.refl _ _) (fun b _ hb => hown b hb))
  .have e : ds[t]? = none := by simp; omega
   rw [e]; exact .any _
 refine calls_of_wp hf hb (wp_mono (h A (fun _ => rfl) _ _ hR) ?_)
 rintro en a' w' ⟨st', ⟨⟨μ, hh, hs⟩, hnt, hdef⟩, hq⟩
 have hres : (results fn a'.tmps).run P w' = .ok (a'.eval (.tmp t)) w' := by
  have : (fn.results.toList.mapM (resV P a'.tmps)).run P w' = .ok [a'.eval (.tmp t)] w' := by
   rw [hrs]; simp [List.mapM_cons, resV, Act.eval]
  exact results_run this
 have hbel : Below w.heap.size w w' := ⟨hh.os, hh.tape, hh.output, hh.size, fun b hb => hh.block b hb id⟩
 have fin : ((∃ id, st'.eval (.tmp t) = .lsl id sz 0 elems.length /\ look id st'.heap = some (.row e sz elems)) \/ (st'.eval (.tmp t) = .p .nils /\ elems = [])) ->
   a'.defers = [] /\ ∃ v, (results fn a'.tmps).run P w' = .ok v w' /\ ∃ u, Ending.returned v = .returned u /\ NewRow w w' O u e sz elems /\ Below w.heap.size w w' := by
  intro hc
  refine ⟨hdef, _, hres, _, rfl, ?_, hbel⟩
  have hv := eval_rel hs (.tmp t)
  rcases hc with ⟨id, h1, h2⟩ | ⟨h1, rfl⟩
  .rw [h1] at hv
   generalize a'.eval (.tmp t) = v at hv
   obtain ⟨loc, m1, ⟨_, m2, m3⟩⟩ := hh.obj id _ h2
   refine ⟨hel, ?_⟩
   generalize hq0 : (0 : Nat) = off at hv
   generalize hq1 : elems.length = n at hv
   cases hv with
   | lsln _ loc' k1 k2 => exact .inl ⟨rfl, by cases elems <;> simp_all⟩
   | lsl _ _ _ cap ad loc' k1 k2 k3 k4 k5 k6 k7 =>
    subst hq0; subst hq1
    rw [m1] at k1; cases k1
    rcases m3 with ⟨m4, _⟩ | ⟨m4, c, m5, m6, m7, m8, m9⟩
    .rw [k2] at m4; cases m4
    .have hbase := hh.base id _ loc h2 m1 k2
     refine .inr ⟨ad, loc.b, loc.o, cap, c, rfl, ?_, hbase.1, fun hc => by simpa using k5 hc, k6, k7, m5, by rw [show cap = loc.cap by omega]; exact m6, k4, by omega, fun i j x d u hx hd hu => ?_⟩
     .rcases hbase.2.2 with hb | hb
      .exact hb
      .exact hb.elim
     .refine (m9 i j x d u hx hd hu).mono (Kept.refl _ _) fun q _ hq => ?_
      rcases hq with hq | rfl
      .exact .inl hq
      .exact .inr ⟨id, _, loc, h2, m1, k2, rfl⟩
  .rw [h1] at hv
   exact ⟨by simp, .inl ⟨hv.nils_inv, rfl⟩⟩
 cases en with
 | normal => exact fin hq
 | ret => exact fin hq
 | _ => exact hq.elim
theorem callN {h : Heap} {c k : Nat} {args : List LV} {ds : List DV} {e sz : Nat} {elems : List (List DV)} {f : LV × Heap × Nat -> Prop} {hf : Hid f} (hds : toDVall h args = some ds) (hF : FunN P k ds e sz elems)
  (hs : args.flatMap (ids h) = []) (hK : f (.lsl c sz 0 elems.length, (c, .row e sz elems) :: h, c + 1)) : CallC P A h c k args ⟨f, hf⟩ :=
 CallW.own hds hF hs hK
end
end Go.E
/- Operations reckoned by unfolding alone (stepF, runM, runD): a run of operations of which each gives its value at once. No condition. -/
namespace Go.E
open Go Go.RowKit
def lookB {α : Type} (t : Nat) : List (Nat × α) -> Option α
 | [] => none
 | p :: l => match Nat.beq t p.1 with
  | true => some p.2
  | false => lookB t l
theorem lookB_eq {α : Type} {t : Nat} : ∀ {l : List (Nat × α)}, lookB t l = look t l
 | [] => rfl
 | (k, v) :: l => by
  simp only [lookB, look]
  by_cases h : t = k
  .subst h; simp
  .rw [if_neg h]
   have : Nat.beq t k = false := by
    cases hb : Nat.beq t k with
    | false => rfl
    | true => exact absurd (Nat.eq_of_beq_eq_true hb) h
   rw [this]
   exact lookB_eq
def evC (nt : Nat) (sl : List (Nat × LV)) (x : Operand) : LV :=
 match x with
 | .tmp t => match Nat.blt t nt with
  | true => match lookB t sl with
   | some v => v
   | none => .any
  | false => .any
 | .const v => constLV v
 | .func f => .fn f []
 | .global _ => .any
theorem evC_eq {nt : Nat} {sl : List (Nat × LV)} {h : Heap} {c : Nat} {x : Operand} : evC nt sl x = (⟨nt, sl, h, c⟩ : St).eval x := by
 cases x with
 | tmp t =>
  simp only [evC, St.eval, getS, lookB_eq]
  by_cases hb : t < nt
  .rw [if_pos hb]
   have : Nat.blt t nt = true := Nat.ble_eq_true_of_le hb
   rw [this]; rfl
  .rw [if_neg hb]
   have : Nat.blt t nt = false := by
    cases hq : Nat.blt t nt with
    | false => rfl
    | true => exact absurd (Nat.le_of_ble_eq_true hq) hb
   rw [this]
 | const v => rfl
 | func f => rfl
 | global g => rfl
section
variable {α β γ : Type}
def dropB : List α -> Nat -> List α
 | l, 0 => l
 | [], _ + 1 => []
 | _ :: l, n + 1 => dropB l n
theorem dropB_eq : ∀ {l : List α} {n : Nat}, dropB l n = l.drop n
 | l, 0 => by simp [dropB]
 | [], _ + 1 => by simp [dropB]
 | _ :: l, n + 1 => by simp only [dropB, List.drop_succ_cons]; exact dropB_eq
def takeF : List α -> Nat -> (List α -> Option β) -> Option β
 | _, 0, k => k []
 | x :: l, n + 1, k => takeF l n (fun r => k (x :: r))
 | [], _ + 1, _ => none
theorem takeF_eq : ∀ {l : List α} {n : Nat} {k : List α -> Option β}, takeF l n k = (takeN l n).bind k
 | _, 0, k => by simp [takeF, takeN]
 | x :: l, n + 1, k => by
  simp only [takeF, takeN]
  rw [takeF_eq]
  cases takeN l n <;> rfl
 | [], _ + 1, _ => by simp [takeF, takeN]
def allF : List LV -> (List DV -> Option β) -> Option β -> Option β
 | [], k, _ => k []
 | .p d :: l, k, e => allF l (fun ds => k (d :: ds)) e
 | _ :: _, _, e => e
theorem allF_eq : ∀ {l : List LV} {k : List DV -> Option β} {e : Option β}, allF l k e = match allP l with | some ds => k ds | none => e
 | [], k, e => by simp [allF, allP]
 | x :: l, k, e => by
  cases x with
  | p d =>
   simp only [allF, allP]
   rw [allF_eq]
   cases allP l <;> rfl
  | _ => rfl
def aggF (l : List LV) (k : LV -> Option β) : Option β := allF l (fun ds => k (.p (.agg ds))) (k (.agg l))
theorem aggF_eq {l : List LV} {k : LV -> Option β} : aggF l k = k (mkAgg l) := by
 unfold aggF mkAgg
 rw [allF_eq]
 cases allP l <;> rfl
def partF (ti : TI) (off : Nat) (l : List LV) (k : LV -> Option β) : Option β :=
 match ti.sh with
 | .struct _ | .arr _ _ => takeF (dropB l off) ti.size (fun r => aggF r k)
 | _ => match dropB l off with
  | v :: _ => k v
  | [] => none
theorem partF_eq {ti : TI} {off : Nat} {l : List LV} {k : LV -> Option β} : partF ti off l k = (partE ti off l).bind k := by
 have hd : (match dropB l off with
  | v :: _ => k v
  | [] => none) = l[off]?.bind k := by
  rw [dropB_eq]
  cases hq : l.drop off with
  | nil => simp at hq; simp [List.getElem?_eq_none hq]
  | cons v r =>
   have : l[off]? = some v := by
    have := congrArg (·[0]?) hq
    simpa [List.getElem?_drop] using this
   simp [this]
 have ha : takeF (dropB l off) ti.size (fun r => aggF r k) = ((takeN (l.drop off) ti.size).map mkAgg).bind k := by
  rw [takeF_eq, dropB_eq]
  cases takeN (l.drop off) ti.size with
  | none => rfl
  | some r => simp [aggF_eq]
 unfold partF partE
 cases hsh : ti.sh <;> simp only [Sh.isAgg] <;> first | exact ha | exact hd
def partP (ti : TI) (off : Nat) (l : List DV) (k : LV -> Option β) : Option β :=
 match ti.sh with
 | .struct _ | .arr _ _ => takeF (dropB l off) ti.size (fun r => k (.p (.agg r)))
 | _ => match dropB l off with
  | v :: _ => k (.p v)
  | [] => none
theorem takeN_map {f : α -> γ} : ∀ {l : List α} {n : Nat}, takeN (l.map f) n = (takeN l n).map (List.map f)
 | _, 0 => by simp [takeN]
 | x :: l, n + 1 => by
  simp only [List.map_cons, takeN]
  rw [takeN_map]
  cases takeN l n <;> rfl
 | [], _ + 1 => by simp [takeN]
theorem mkAgg_map {l : List DV} : mkAgg (l.map .p) = .p (.agg l) := by simp [mkAgg, allP_map]
theorem partP_eq {ti : TI} {off : Nat} {l : List DV} {k : LV -> Option β} : partP ti off l k = (partE ti off (l.map .p)).bind k := by
 have hd : (match dropB l off with
  | v :: _ => k (.p v)
  | [] => none) = (l.map LV.p)[off]?.bind k := by
  rw [dropB_eq, List.getElem?_map]
  cases hq : l.drop off with
  | nil => simp at hq; simp [List.getElem?_eq_none hq]
  | cons v r =>
   have : l[off]? = some v := by
    have := congrArg (·[0]?) hq
    simpa [List.getElem?_drop] using this
   simp [this]
 have ha : takeF (dropB l off) ti.size (fun r => k (.p (.agg r))) = ((takeN ((l.map LV.p).drop off) ti.size).map mkAgg).bind k := by
  rw [takeF_eq, dropB_eq, <- List.map_drop, takeN_map]
  cases takeN (l.drop off) ti.size with
  | none => rfl
  | some r => simp [mkAgg_map]
 unfold partP partE
 cases hsh : ti.sh <;> simp only [Sh.isAgg] <;> first | exact ha | exact hd
def mapPF : List DV -> (List LV -> Option β) -> Option β
 | [], k => k []
 | d :: l, k => mapPF l (fun r => k (.p d :: r))
theorem mapPF_eq : ∀ {l : List DV} {k : List LV -> Option β}, mapPF l k = k (l.map .p)
 | [], k => rfl
 | d :: l, k => by simp only [mapPF, List.map_cons]; rw [mapPF_eq]
def cellsF (v : LV) (k : List LV -> Option β) : Option β :=
 match v with
 | .p (.agg l) => mapPF l k
 | .agg l => k l
 | .p (.tup _) | .tup _ | .any | .und => none
 | v => k [v]
theorem cellsF_eq {v : LV} {k : List LV -> Option β} : cellsF v k = v.cells.bind k := by
 cases v with
 | p d => cases d <;> first | rfl | (simp only [cellsF, LV.cells]; rw [mapPF_eq]; rfl)
 | _ => rfl
def overF : List LV -> List LV -> (List LV -> Option β) -> Option β
 | l, [], k => k l
 | [], _ :: _, _ => none
 | _ :: l, v :: vs, k => overF l vs (fun r => k (v :: r))
def setF : List LV -> Nat -> List LV -> (List LV -> Option β) -> Option β
 | l, 0, vs, k => overF l vs k
 | [], _ + 1, _, _ => none
 | x :: l, n + 1, vs, k => setF l n vs (fun r => k (x :: r))
theorem overF_eq : ∀ {l vs : List LV} {k : List LV -> Option β} {y : β}, overF l vs k = some y -> vs.length <= l.length /\ k (setAt.over l vs) = some y
 | l, [], k, y, h => by simp only [overF] at h; exact ⟨by simp, by simpa [setAt.over] using h⟩
 | [], _ :: _, _, _, h => by simp [overF] at h
 | _ :: l, v :: vs, k, y, h => by
  simp only [overF] at h
  obtain ⟨h1, h2⟩ := overF_eq h
  exact ⟨by simpa using h1, h2⟩
theorem setF_eq : ∀ {l : List LV} {n : Nat} {vs : List LV} {k : List LV -> Option β} {y : β}, setF l n vs k = some y -> n + vs.length <= l.length /\ k (setAt l n vs) = some y
 | l, 0, vs, k, y, h => by
  obtain ⟨h1, h2⟩ := overF_eq (by simpa only [setF] using h)
  cases l <;> exact ⟨by simpa using h1, h2⟩
 | [], _ + 1, _, _, _, h => by simp [setF] at h
 | x :: l, n + 1, vs, k, y, h => by
  simp only [setF] at h
  obtain ⟨h1, h2⟩ := setF_eq h
  exact ⟨by simp only [List.length_cons]; omega, h2⟩
def updF (t : Nat) (v : HObj) : Heap -> (Heap -> Option β) -> Option β
 | [], k => k []
 | (q, u) :: l, k => match Nat.beq t q with
  | true => k ((q, v) :: l)
  | false => updF t v l (fun r => k ((q, u) :: r))
theorem updF_eq {t : Nat} {v : HObj} : ∀ {l : Heap} {k : Heap -> Option β}, updF t v l k = k (upd t v l)
 | [], k => rfl
 | (q, u) :: l, k => by
  simp only [updF, upd]
  by_cases h : t = q
  .subst h; simp
  .have : Nat.beq t q = false := by
    cases hb : Nat.beq t q with
    | false => rfl
    | true => exact absurd (Nat.eq_of_beq_eq_true hb) h
   rw [this, if_neg h]
   exact updF_eq
def oneAll : List LV -> Bool
 | [] => true
 | v :: l => match v.one with
  | true => oneAll l
  | false => false
theorem oneAll_eq : ∀ {l : List LV}, oneAll l = l.all LV.one
 | [] => rfl
 | v :: l => by
  simp only [oneAll, List.all_cons]
  cases v.one with
  | true => rw [oneAll_eq]; rfl
  | false => rfl
def partsF (sz : Nat) : Nat -> List (Nat × LV) -> (List (List DV) -> Option β) -> Option β
 | _, [], k => k []
 | n, p :: rest, k => match Nat.beq p.1 n with
  | true => cellsF p.2 fun ls => allF ls (fun ds => match Nat.beq ds.length sz with
   | true => partsF sz (n + 1) rest (fun r => k (ds :: r))
   | false => none) none
  | false => none
theorem partsF_eq {sz : Nat} : ∀ {ps : List (Nat × LV)} {n : Nat} {k : List (List DV) -> Option β} {y : β}, partsF sz n ps k = some y -> ∃ l, partsE sz n ps = some l /\ k l = some y
 | [], n, k, y, h => ⟨[], by simp [partsE], h⟩
 | (i, v) :: rest, n, k, y, h => by
  simp only [partsF] at h
  split at h
  .rename_i hb
   have hi : i = n := Nat.eq_of_beq_eq_true hb
   subst hi
   rw [cellsF_eq] at h
   cases hc : v.cells with
   | none => rw [hc] at h; simp at h
   | some ls =>
    rw [hc] at h
    simp only [Option.bind_some] at h
    rw [allF_eq] at h
    cases ha : allP ls with
    | none => rw [ha] at h; simp at h
    | some ds =>
     rw [ha] at h
     simp only at h
     split at h
     .rename_i hl
      obtain ⟨r, h1, h2⟩ := partsF_eq h
      refine ⟨ds :: r, ?_, h2⟩
      simp only [partsE, if_true, hc, ha, h1]
      rw [if_pos (Nat.eq_of_beq_eq_true hl)]
     .cases h
  .cases h
def valF (v : LV) (k : LV -> Option β) : Option β :=
 match v with
 | .p d => k (.p d)
 | .lsl a b c d => k (.lsl a b c d)
 | .lpb a b => k (.lpb a b)
 | .lpe a b c => k (.lpe a b c)
 | .lmap a => k (.lmap a)
 | .agg l => k (.agg l)
 | .tup l => k (.tup l)
 | .fn g l => k (.fn g l)
 | .und => k .und
 | .any => k .any
theorem valF_eq {v : LV} {k : LV -> Option β} : valF v k = k v := by cases v <;> rfl
def mapEv (nt : Nat) (sl : List (Nat × LV)) : List (Nat × Operand) -> (List (Nat × LV) -> Option β) -> Option β
 | [], k => k []
 | (i, x) :: l, k => valF (evC nt sl x) fun v => mapEv nt sl l (fun r => k ((i, v) :: r))
theorem mapEv_eq {nt : Nat} {sl : List (Nat × LV)} : ∀ {l : List (Nat × Operand)} {k : List (Nat × LV) -> Option β}, mapEv nt sl l k = k (l.map fun p => (p.1, evC nt sl p.2))
 | [], k => rfl
 | (i, x) :: l, k => by simp only [mapEv, List.map_cons]; rw [valF_eq, mapEv_eq]
def mapOpF (nt : Nat) (sl : List (Nat × LV)) : List Operand -> (List LV -> Option β) -> Option β
 | [], k => k []
 | p :: l, k => valF (evC nt sl p) fun v => mapOpF nt sl l (fun r => k (v :: r))
theorem mapOpF_eq {nt : Nat} {sl : List (Nat × LV)} : ∀ {l : List Operand} {k : List LV -> Option β}, mapOpF nt sl l k = k (l.map fun p => evC nt sl p)
 | [], k => rfl
 | p :: l, k => by simp only [mapOpF, List.map_cons]; rw [valF_eq, mapOpF_eq]
def buildF (env : Env) (pl : Nat -> Option (Nat × Nat)) : List LV -> List (Nat × LV) -> (List LV -> Option β) -> Option β
 | cells, [], k => k cells
 | cells, (i, v) :: rest, k => match pl i with
  | some (o, ft) => match env.tt ft with
   | some ti => cellsF v fun ls => match Nat.beq ls.length ti.size with
    | true => setF cells o ls fun cells' => buildF env pl cells' rest k
    | false => none
   | none => none
  | none => none
theorem buildF_eq {env : Env} {pl : Nat -> Option (Nat × Nat)} : ∀ {ps : List (Nat × LV)} {cells : List LV} {k : List LV -> Option β} {y : β}, buildF env pl cells ps k = some y ->
  ∃ l, k l = some y /\ ∀ K : Cont (List LV), K.f l -> buildS env pl cells ps K
 | [], cells, k, y, h => ⟨cells, h, fun _ => id⟩
 | (i, v) :: rest, cells, k, y, h => by
  simp only [buildF] at h
  split at h
  .rename_i o ft hq
   split at h
   .rename_i ti hti
    rw [cellsF_eq] at h
    cases hc : v.cells with
    | none => rw [hc] at h; simp at h
    | some ls =>
     rw [hc] at h
     simp only [Option.bind_some] at h
     split at h
     .rename_i hl
      obtain ⟨h1, h2⟩ := setF_eq h
      obtain ⟨l, h3, h4⟩ := buildF_eq h2
      refine ⟨l, h3, fun K hk => ?_⟩
      simp only [buildS]
      exact optW_iff.2 ⟨(o, ft), hq, tiW_iff.2 ⟨ti, hti, optW_iff.2 ⟨ls, hc, ⟨Nat.eq_of_beq_eq_true hl, h1⟩, h4 K hk⟩⟩⟩
     .cases h
   .cases h
  .cases h
def allTT (env : Env) : List (Nat × Nat) -> Bool
 | [] => true
 | p :: l => match env.tt p.2 with
  | some _ => allTT env l
  | none => false
theorem allTT_eq {env : Env} : ∀ {l : List (Nat × Nat)}, allTT env l = l.all fun p => (env.tt p.2).isSome
 | [] => rfl
 | p :: l => by
  simp only [allTT, List.all_cons]
  cases env.tt p.2 with
  | some _ => simp [allTT_eq]
  | none => simp
def intF (op : BinOp) (kk : IntKind) (a b : Int) (k : LV -> Option β) : Option β :=
 match op with
 | .add => k (.p (.int kk (kk.wrap (a + b))))
 | .sub => k (.p (.int kk (kk.wrap (a - b))))
 | .mul => k (.p (.int kk (kk.wrap (a * b))))
 | .eql => k (.p (.bool (a == b)))
 | .neq => k (.p (.bool (a != b)))
 | .lss => k (.p (.bool (decide (a < b))))
 | .leq => k (.p (.bool (decide (a <= b))))
 | .gtr => k (.p (.bool (decide (b < a))))
 | .geq => k (.p (.bool (decide (b <= a))))
 | .xor => k (.p (.int kk (kk.wrap (BitVec.ofInt kk.bits a ^^^ BitVec.ofInt kk.bits b).toNat)))
 | .or => k (.p (.int kk (kk.wrap (BitVec.ofInt kk.bits a ||| BitVec.ofInt kk.bits b).toNat)))
 | _ => none
def isBoolT (env : Env) (t : Nat) : Bool :=
 match env.tt t with
 | some ti => match ti.sh with
  | .bool => true
  | _ => false
 | none => false
def kindEq : IntKind -> IntKind -> Bool
 | .i8, .i8 | .i16, .i16 | .i32, .i32 | .i64, .i64 | .u8, .u8 | .u16, .u16 | .u32, .u32 | .u64, .u64 => true
 | _, _ => false
theorem kindEq_eq {a b : IntKind} (h : kindEq a b = true) : a = b := by cases a <;> cases b <;> first | rfl | simp [kindEq] at h
def binF (env : Env) (op : BinOp) (t : Nat) (x y : LV) (k : LV -> Option β) : Option β :=
 match x, y with
 | .p (.int k1 a), .p (.int k2 b) => match kindEq k1 k2 with
  | true => intF op k1 a b k
  | false => none
 | .p (.str a), .p (.str b) => match op with
  | .eql => k (.p (.bool (a.toList == b.toList)))
  | .neq => k (.p (.bool (!(a.toList == b.toList))))
  | _ => none
 | .p (.bool a), .p (.bool b) => match isBoolT env t with
  | true => match op with
   | .eql => k (.p (.bool (a == b)))
   | .neq => k (.p (.bool (!(a == b))))
   | _ => none
  | false => none
 | .p (.place _ _), .p .nilp => match env.ptr t with
  | true => match op with
   | .eql => k (.p (.bool false))
   | .neq => k (.p (.bool true))
   | _ => none
  | false => none
 | .lpb _ _, .p .nilp => match env.ptr t with
  | true => match op with
   | .eql => k (.p (.bool false))
   | .neq => k (.p (.bool true))
   | _ => none
  | false => none
 | .p .nilp, .p .nilp => match env.ptr t with
  | true => match op with
   | .eql => k (.p (.bool true))
   | .neq => k (.p (.bool false))
   | _ => none
  | false => none
 | _, _ => none
def offF (off : Nat) (x : LV) (k : LV -> Option β) : Option β :=
 match x with
 | .lpb id o => k (.lpb id (o + off))
 | .lpe id j o => k (.lpe id j (o + off))
 | .p (.place l o) => k (.p (.place l (o + off)))
 | _ => none
def maxF : IntKind -> Int -> List LV -> (Int -> Option β) -> Option β
 | _, n, [], k => k n
 | kk, n, .p (.int j m) :: rest, k => match kindEq j kk with
  | true => maxF kk (if m > n then m else n) rest k
  | false => none
 | _, _, _ :: _, _ => none
def minF : IntKind -> Int -> List LV -> (Int -> Option β) -> Option β
 | _, n, [], k => k n
 | kk, n, .p (.int j m) :: rest, k => match kindEq j kk with
  | true => minF kk (if m < n then m else n) rest k
  | false => none
 | _, _, _ :: _, _ => none
def stepF (env : Env) (nt : Nat) (sl : List (Nat × LV)) (h : Heap) (c : Nat) (op : Op) (k : LV -> Heap -> Nat -> Option β) : Option β :=
  match op with
  | .move x | .assign x => valF (evC nt sl x) fun v => k v h c
  | .pick b x y => match evC nt sl b with
    | .p (.bool b) => match b with
      | true => valF (evC nt sl x) fun v => k v h c
      | false => valF (evC nt sl y) fun v => k v h c
    | _ => none
  | .nilCheck x => match evC nt sl x with
    | .lpb i o => k (.lpb i o) h c
    | .lpe i j o => k (.lpe i j o) h c
    | .p (.place l o) => k (.p (.place l o)) h c
    | _ => none
  | .binOp op t x y _ => binF env op t (evC nt sl x) (evC nt sl y) fun l => k l h c
  | .unOp op _ x => match op with
    | .not => match evC nt sl x with
      | .p (.bool b) => k (.p (.bool !b)) h c
      | _ => none
    | .neg => match evC nt sl x with
      | .p (.int kk n) => k (.p (.int kk (kk.wrap (0 - n)))) h c
      | _ => none
    | _ => none
  | .convert s d x => match evC nt sl x with
    | .p (.int _ n) => match env.tt s with
      | some _ => match env.tt d with
        | some ti => match ti.sh with
          | .int kd => k (.p (.int kd (kd.wrap n))) h c
          | _ => none
        | none => none
      | none => none
    | _ => none
  | .extract t i => match evC nt sl t with
    | .tup l => match dropB l i with
      | v :: _ => k v h c
      | [] => none
    | .p (.tup l) => match dropB l i with
      | v :: _ => k (.p v) h c
      | [] => none
    | _ => none
  | .field t x i => match env.tt t with
    | some ti => match ti.sh with
      | .struct fs => match dropB fs i with
        | (o, ft) :: _ => match env.tt ft with
          | some tf => match evC nt sl x with
            | .agg ls => partF tf o ls fun l => k l h c
            | .p (.agg ds) => partP tf o ds fun l => k l h c
            | _ => none
          | none => none
        | [] => none
      | _ => none
    | none => none
  | .build t ps => match env.tt t with
    | some ti => match ti.sh with
      | .struct fs => match allTT env fs with
        | true => mapPF ti.zero fun z => mapEv nt sl ps.toList fun ps' => buildF env (fun i => fs[i]?) z ps' fun cells => aggF cells fun l => k l h c
        | false => none
      | .arr _ e => match env.tt e with
        | some te => mapPF ti.zero fun z => mapEv nt sl ps.toList fun ps' => buildF env (fun i => some (i * te.size, e)) z ps' fun cells => aggF cells fun l => k l h c
        | none => none
      | _ => none
    | none => none
  | .fieldAddr t x i => match env.tt t with
    | some ti => match ti.sh with
      | .struct fs => match dropB fs i with
        | (o, ft) :: _ => match env.tt ft with
          | some tf => match Nat.blt 0 tf.size with
            | true => offF o (evC nt sl x) fun l => k l h c
            | false => none
          | none => none
        | [] => none
      | _ => none
    | none => none
  | .makeFunc (.func f) first caps => match first.toList with
    | [] => mapOpF nt sl caps.toList fun l => k (.fn f l) h c
    | _ => none
  | .load t x => match calmLd env.calm (evC nt sl x) with
   | false => none
   | true => match env.tt t with
    | some ti => match evC nt sl x with
      | .p (.place l off) => partP ti off l fun v => k v h c
      | .lpb id off => match lookB id h with
        | some (.box cells) => partF ti off cells fun v => k v h c
        | _ => none
      | _ => none
    | none => none
  | .store t x v => match calmSt env.calm (evC nt sl x) with
   | false => none
   | true => match env.tt t with
    | some ti => match evC nt sl x with
      | .lpb id off => cellsF (evC nt sl v) fun ls => match Nat.beq ls.length ti.size with
        | true => match oneAll ls with
          | true => match lookB id h with
            | some (.box cells) => setF cells off ls fun cells' => updF id (.box cells') h fun h' => k .any h' c
            | _ => none
          | false => none
        | false => none
      | _ => none
    | none => none
  | .alloc t => match env.tt t with
    | some ti => mapPF ti.zero fun z => k (.lpb c 0) ((c, .box z) :: h) (c + 1)
    | none => none
  | .box _ x => cellsF (evC nt sl x) fun ls => k (.lpb c 0) ((c, .box ls) :: h) (c + 1)
  | .buildSlice t n ps => match env.tt t with
    | some ti => match ti.sh with
      | .slc e => match env.tt e with
        | some te => match Nat.blt 0 te.size && Nat.ble (n * te.size) 16777216 with
          | true => mapEv nt sl ps.toList fun ps' => partsF te.size 0 ps' fun l => match Nat.beq l.length n with
            | true => k (.lsl c te.size 0 n) ((c, .row e te.size l) :: h) (c + 1)
            | false => none
          | false => none
        | none => none
      | _ => none
    | none => none
  | .makeMap _ none => k (.lmap c) ((c, .map []) :: h) (c + 1)
  | .call ⟨.builtin .len, args, ts⟩ => match args.toList, ts.toList with
    | [x], [t] => match env.tt t with
      | some ti => match ti.sh, evC nt sl x with
        | .arr n _, _ => k (.p (.int .i64 n)) h c
        | .slc _, .p .nils => k (.p (.int .i64 0)) h c
        | .slc _, .lsl _ _ _ len => k (.p (.int .i64 len)) h c
        | .str, .p (.str s) => k (.p (.int .i64 s.size)) h c
        | _, _ => none
      | none => none
    | _, _ => none
  | .call ⟨.builtin .max, args, _⟩ => mapOpF nt sl args.toList fun l => match l with
    | .p (.int kk n) :: rest => maxF kk n rest fun m => k (.p (.int kk m)) h c
    | _ => none
  | .call ⟨.builtin .min, args, _⟩ => mapOpF nt sl args.toList fun l => match l with
    | .p (.int kk n) :: rest => minF kk n rest fun m => k (.p (.int kk m)) h c
    | _ => none
  | _ => none
end
end Go.E
/- Operations reckoned by unfolding alone: they are sound (stepF_sound); runs of operations (runM, runD). No condition. -/
namespace Go.E
open Go Go.RowKit
section
variable {β : Type} {env : Env} {nt : Nat} {sl : List (Nat × LV)} {hp : Heap} {c : Nat}
theorem intF_eq {op : BinOp} {kk : IntKind} {a b : Int} {k : LV -> Option β} {y : β} (h : intF op kk a b k = some y) : ∃ l, k l = some y /\ ∀ K : Cont LV, K.f l -> intBinS op kk a b K := by
 cases op <;> simp only [intF] at h <;> first | cases h | exact ⟨_, h, fun K hk => hk⟩
theorem isBoolT_eq {t : Nat} (h : isBoolT env t = true) : ∃ ti, env.tt t = some ti /\ ti.sh = .bool := by
 unfold isBoolT at h
 split at h
 .rename_i ti hti
  split at h
  .exact ⟨ti, hti, ‹_›⟩
  .cases h
 .cases h
theorem binF_eq {op : BinOp} {t : Nat} {x y : LV} {k : LV -> Option β} {z : β} (h : binF env op t x y k = some z) : ∃ l, k l = some z /\ ∀ K : Cont LV, K.f l -> binS env op t x y K /\ binD env op t x y K := by
 unfold binF at h
 split at h
 .rename_i k1 a k2 b
  split at h
  .rename_i hk
   have := kindEq_eq hk
   subst this
   obtain ⟨l, h1, h2⟩ := intF_eq h
   exact ⟨l, h1, fun K hk => ⟨⟨rfl, h2 K hk⟩, ⟨rfl, h2 K hk⟩⟩⟩
  .cases h
 .rename_i a b
  split at h
  .exact ⟨_, h, fun K hk => ⟨hk, hk⟩⟩
  .exact ⟨_, h, fun K hk => ⟨hk, hk⟩⟩
  .cases h
 .rename_i a b
  split at h
  .rename_i hb
   obtain ⟨ti, hti, hsh⟩ := isBoolT_eq hb
   split at h
   .exact ⟨_, h, fun K hk => ⟨tiW_iff.2 ⟨ti, hti, hsh, hk⟩, tiW_iff.2 ⟨ti, hti, hsh, hk⟩⟩⟩
   .exact ⟨_, h, fun K hk => ⟨tiW_iff.2 ⟨ti, hti, hsh, hk⟩, tiW_iff.2 ⟨ti, hti, hsh, hk⟩⟩⟩
   .cases h
  .cases h
 .split at h
  .rename_i hb
   split at h
   .exact ⟨_, h, fun K hk => ⟨⟨hb, hk⟩, ⟨hb, hk⟩⟩⟩
   .exact ⟨_, h, fun K hk => ⟨⟨hb, hk⟩, ⟨hb, hk⟩⟩⟩
   .cases h
  .cases h
 .split at h
  .rename_i hb
   split at h
   .exact ⟨_, h, fun K hk => ⟨⟨hb, hk⟩, ⟨hb, hk⟩⟩⟩
   .exact ⟨_, h, fun K hk => ⟨⟨hb, hk⟩, ⟨hb, hk⟩⟩⟩
   .cases h
  .cases h
 .split at h
  .rename_i hb
   split at h
   .exact ⟨_, h, fun K hk => ⟨⟨hb, hk⟩, ⟨hb, hk⟩⟩⟩
   .exact ⟨_, h, fun K hk => ⟨⟨hb, hk⟩, ⟨hb, hk⟩⟩⟩
   .cases h
  .cases h
 .cases h
theorem offF_eq {off : Nat} {x : LV} {k : LV -> Option β} {y : β} (h : offF off x k = some y) : ∃ l, k l = some y /\ ∀ K : Cont LV, K.f l -> offS off x K := by
 unfold offF at h
 split at h
 .exact ⟨_, h, fun K hk => hk⟩
 .exact ⟨_, h, fun K hk => hk⟩
 .exact ⟨_, h, fun K hk => hk⟩
 .cases h
theorem dropB_some {α : Type} {l r : List α} {n : Nat} {x : α} (h : dropB l n = x :: r) : l[n]? = some x := by
 rw [dropB_eq] at h
 have := congrArg (·[0]?) h
 simpa [List.getElem?_drop] using this
theorem maxF_eq {kk : IntKind} : ∀ {l : List LV} {n : Int} {k : Int -> Option β} {y : β}, maxF kk n l k = some y -> ∃ m, k m = some y /\ foldInts.go (fun x y => if y > x then y else x) kk n l = some m
 | [], n, k, y, h => ⟨n, h, rfl⟩
 | .p (.int j m) :: rest, n, k, y, h => by
  simp only [maxF] at h
  split at h
  .rename_i hj
   have := kindEq_eq hj
   subst this
   obtain ⟨r, h1, h2⟩ := maxF_eq h
   exact ⟨r, h1, by simp only [foldInts.go, if_true]; exact h2⟩
  .cases h
 | .p .nils :: _, _, _, _, h | .p .nilp :: _, _, _, _, h | .p .nilm :: _, _, _, _, h | .p (.bool _) :: _, _, _, _, h | .p (.str _) :: _, _, _, _, h | .p (.agg _) :: _, _, _, _, h | .p (.tup _) :: _, _, _, _, h
 | .p (.slice _ _) :: _, _, _, _, h | .p (.place _ _) :: _, _, _, _, h | .p (.map _) :: _, _, _, _, h | .lsl .. :: _, _, _, _, h | .lpb .. :: _, _, _, _, h | .lpe .. :: _, _, _, _, h | .lmap _ :: _, _, _, _, h | .p (.fn _ _) :: _, _, _, _, h
 | .agg _ :: _, _, _, _, h | .tup _ :: _, _, _, _, h | .fn .. :: _, _, _, _, h | .und :: _, _, _, _, h | .any :: _, _, _, _, h => by simp [maxF] at h
theorem minF_eq {kk : IntKind} : ∀ {l : List LV} {n : Int} {k : Int -> Option β} {y : β}, minF kk n l k = some y -> ∃ m, k m = some y /\ foldInts.go (fun x y => if y < x then y else x) kk n l = some m
 | [], n, k, y, h => ⟨n, h, rfl⟩
 | .p (.int j m) :: rest, n, k, y, h => by
  simp only [minF] at h
  split at h
  .rename_i hj
   have := kindEq_eq hj
   subst this
   obtain ⟨r, h1, h2⟩ := minF_eq h
   exact ⟨r, h1, by simp only [foldInts.go, if_true]; exact h2⟩
  .cases h
 | .p .nils :: _, _, _, _, h | .p .nilp :: _, _, _, _, h | .p .nilm :: _, _, _, _, h | .p (.bool _) :: _, _, _, _, h | .p (.str _) :: _, _, _, _, h | .p (.agg _) :: _, _, _, _, h | .p (.tup _) :: _, _, _, _, h
 | .p (.slice _ _) :: _, _, _, _, h | .p (.place _ _) :: _, _, _, _, h | .p (.map _) :: _, _, _, _, h | .lsl .. :: _, _, _, _, h | .lpb .. :: _, _, _, _, h | .lpe .. :: _, _, _, _, h | .lmap _ :: _, _, _, _, h | .p (.fn _ _) :: _, _, _, _, h
 | .agg _ :: _, _, _, _, h | .tup _ :: _, _, _, _, h | .fn .. :: _, _, _, _, h | .und :: _, _, _, _, h | .any :: _, _, _, _, h => by simp [minF] at h
def StepOK (env : Env) (st : St) (op : Op) (l : LV) (h' : Heap) (c' : Nat) : Prop :=
 ∀ (P : Program) (A : Amb) (dst : Option Tmp) (K : Cont St), K.f (st.go dst l h' c') -> opS P A env st dst op K /\ opD P A env st dst op K
theorem stepF_sound {op : Op} {k : LV -> Heap -> Nat -> Option β} {y : β} (h : stepF env nt sl hp c op k = some y) : ∃ l h' c', k l h' c' = some y /\ StepOK env ⟨nt, sl, hp, c⟩ op l h' c' := by
 have hev : ∀ x, evC nt sl x = (⟨nt, sl, hp, c⟩ : St).eval x := fun x => evC_eq
 cases op <;> simp only [stepF] at h <;> try (cases h; done)
 case move x => rw [valF_eq] at h; exact ⟨_, _, _, h, fun P A dst K hk => by rw [hev] at hk; exact ⟨hk, hk⟩⟩
 case assign x => rw [valF_eq] at h; exact ⟨_, _, _, h, fun P A dst K hk => by rw [hev] at hk; exact ⟨hk, hk⟩⟩
 case pick b x z =>
  split at h
  .rename_i b' hb
   rw [hev] at hb
   simp only [valF_eq] at h
   split at h
   .exact ⟨_, _, _, h, fun P A dst K hk => by
     rw [hev] at hk
     have : opS P A env ⟨nt, sl, hp, c⟩ dst (.pick b x z) K := by simp only [opS]; rw [hb]; exact hk
     exact ⟨this, this⟩⟩
   .exact ⟨_, _, _, h, fun P A dst K hk => by
     rw [hev] at hk
     have : opS P A env ⟨nt, sl, hp, c⟩ dst (.pick b x z) K := by simp only [opS]; rw [hb]; exact hk
     exact ⟨this, this⟩⟩
  .cases h
 case nilCheck x =>
  split at h
  .rename_i hx; rw [hev] at hx
   exact ⟨_, _, _, h, fun P A dst K hk => by
    have : opS P A env ⟨nt, sl, hp, c⟩ dst (.nilCheck x) K := by simp only [opS]; rw [hx]; exact hk
    exact ⟨this, this⟩⟩
  .rename_i hx; rw [hev] at hx
   exact ⟨_, _, _, h, fun P A dst K hk => by
    have : opS P A env ⟨nt, sl, hp, c⟩ dst (.nilCheck x) K := by simp only [opS]; rw [hx]; exact hk
    exact ⟨this, this⟩⟩
  .rename_i hx; rw [hev] at hx
   exact ⟨_, _, _, h, fun P A dst K hk => by
    have : opS P A env ⟨nt, sl, hp, c⟩ dst (.nilCheck x) K := by simp only [opS]; rw [hx]; exact hk
    exact ⟨this, this⟩⟩
  .cases h
 case binOp op t x z w =>
  obtain ⟨l, h1, h2⟩ := binF_eq h
  refine ⟨l, _, _, h1, fun P A dst K hk => ?_⟩
  rw [hev, hev] at h2
  exact ⟨(h2 ⟨fun l => K.f (St.put ⟨nt, sl, hp, c⟩ dst l), ⟨⟩⟩ hk).1, (h2 ⟨fun l => K.f (St.put ⟨nt, sl, hp, c⟩ dst l), ⟨⟩⟩ hk).2⟩
 case unOp op t x =>
  split at h
  .split at h
   .rename_i hx; rw [hev] at hx
    exact ⟨_, _, _, h, fun P A dst K hk => by
     have : opS P A env ⟨nt, sl, hp, c⟩ dst (.unOp .not t x) K := by simp only [opS]; rw [hx]; exact hk
     exact ⟨this, this⟩⟩
   .cases h
  .split at h
   .rename_i hx; rw [hev] at hx
    exact ⟨_, _, _, h, fun P A dst K hk => by
     have : opS P A env ⟨nt, sl, hp, c⟩ dst (.unOp .neg t x) K := by simp only [opS]; rw [hx]; exact hk
     exact ⟨this, this⟩⟩
   .cases h
  .cases h
 case convert s d x =>
  split at h
  .rename_i kk n hx; rw [hev] at hx
   split at h
   .rename_i ts hs
    split at h
    .rename_i ti ht
     split at h
     .rename_i kd hsh
      exact ⟨_, _, _, h, fun P A dst K hk => by
       have : opS P A env ⟨nt, sl, hp, c⟩ dst (.convert s d x) K := by
        simp only [opS]; rw [hx]
        exact tiW_iff.2 ⟨ts, hs, tiW_iff.2 ⟨ti, ht, optW_iff.2 ⟨kd, by rw [hsh]; rfl, hk⟩⟩⟩
       exact ⟨this, this⟩⟩
     .cases h
    .cases h
   .cases h
  .cases h
 case extract t i =>
  split at h
  .rename_i l hx; rw [hev] at hx
   split at h
   .rename_i v r hd
    exact ⟨_, _, _, h, fun P A dst K hk => by
     have : opS P A env ⟨nt, sl, hp, c⟩ dst (.extract t i) K := by
      simp only [opS]; rw [hx]
      exact optW_iff.2 ⟨v, dropB_some hd, hk⟩
     exact ⟨this, this⟩⟩
   .cases h
  .rename_i l hx; rw [hev] at hx
   split at h
   .rename_i v r hd
    exact ⟨_, _, _, h, fun P A dst K hk => by
     have : opS P A env ⟨nt, sl, hp, c⟩ dst (.extract t i) K := by
      simp only [opS]; rw [hx]
      exact optW_iff.2 ⟨v, dropB_some hd, hk⟩
     exact ⟨this, this⟩⟩
   .cases h
  .cases h
 case field t x i =>
  split at h
  .rename_i ti ht
   split at h
   .rename_i fs hsh
    split at h
    .rename_i o ft r hd
     split at h
     .rename_i tf htf
      split at h
      .rename_i ls hx; rw [hev] at hx
       rw [partF_eq, Option.bind_eq_some_iff] at h
       obtain ⟨v, hv, h⟩ := h
       exact ⟨_, _, _, h, fun P A dst K hk => by
        have : opS P A env ⟨nt, sl, hp, c⟩ dst (.field t x i) K := by
         simp only [opS]; rw [hx]
         exact tiW_iff.2 ⟨ti, ht, structW_iff.2 ⟨fs, hsh, optW_iff.2 ⟨(o, ft), dropB_some hd, tiW_iff.2 ⟨tf, htf, optW_iff.2 ⟨v, hv, hk⟩⟩⟩⟩⟩
        exact ⟨this, this⟩⟩
      .rename_i ds hx; rw [hev] at hx
       rw [partP_eq, Option.bind_eq_some_iff] at h
       obtain ⟨v, hv, h⟩ := h
       exact ⟨_, _, _, h, fun P A dst K hk => by
        have : opS P A env ⟨nt, sl, hp, c⟩ dst (.field t x i) K := by
         simp only [opS]; rw [hx]
         exact tiW_iff.2 ⟨ti, ht, structW_iff.2 ⟨fs, hsh, optW_iff.2 ⟨(o, ft), dropB_some hd, tiW_iff.2 ⟨tf, htf, optW_iff.2 ⟨v, hv, hk⟩⟩⟩⟩⟩
        exact ⟨this, this⟩⟩
      .cases h
     .cases h
    .cases h
   .cases h
  .cases h
 case build t ps =>
  split at h
  .rename_i ti ht
   split at h
   .rename_i fs hsh
    split at h
    .rename_i hall
     rw [mapPF_eq, mapEv_eq] at h
     obtain ⟨l, h1, h2⟩ := buildF_eq h
     rw [aggF_eq] at h1
     exact ⟨_, _, _, h1, fun P A dst K hk => by
      have : opS P A env ⟨nt, sl, hp, c⟩ dst (.build t ps) K := by
       simp only [opS]
       refine tiW_iff.2 ⟨ti, ht, ?_⟩
       simp only [buildT, hsh]
       rw [allTT_eq] at hall
       refine ⟨hall, ?_⟩
       have := h2 ⟨fun cells => K.f (St.put ⟨nt, sl, hp, c⟩ dst (mkAgg cells)), ⟨⟩⟩ hk
       simpa only [hev] using this
      exact ⟨this, this⟩⟩
    .cases h
   .rename_i n e hsh
    split at h
    .rename_i te hte
     rw [mapPF_eq, mapEv_eq] at h
     obtain ⟨l, h1, h2⟩ := buildF_eq h
     rw [aggF_eq] at h1
     exact ⟨_, _, _, h1, fun P A dst K hk => by
      have : opS P A env ⟨nt, sl, hp, c⟩ dst (.build t ps) K := by
       simp only [opS]
       refine tiW_iff.2 ⟨ti, ht, ?_⟩
       simp only [buildT, hsh]
       refine tiW_iff.2 ⟨te, hte, ?_⟩
       have := h2 ⟨fun cells => K.f (St.put ⟨nt, sl, hp, c⟩ dst (mkAgg cells)), ⟨⟩⟩ hk
       simpa only [hev] using this
      exact ⟨this, this⟩⟩
    .cases h
   .cases h
  .cases h
 case fieldAddr t x i =>
  split at h
  .rename_i ti ht
   split at h
   .rename_i fs hsh
    split at h
    .rename_i o ft r hd
     split at h
     .rename_i tf htf
      split at h
      .rename_i hsz
       obtain ⟨l, h1, h2⟩ := offF_eq h
       rw [hev] at h2
       exact ⟨_, _, _, h1, fun P A dst K hk => by
        have : opS P A env ⟨nt, sl, hp, c⟩ dst (.fieldAddr t x i) K := by
         simp only [opS]
         refine tiW_iff.2 ⟨ti, ht, structW_iff.2 ⟨fs, hsh, optW_iff.2 ⟨(o, ft), dropB_some hd, tiW_iff.2 ⟨tf, htf, ?_, h2 ⟨fun l => K.f (St.put ⟨nt, sl, hp, c⟩ dst l), ⟨⟩⟩ hk⟩⟩⟩⟩
         have := Nat.le_of_ble_eq_true hsz
         omega
        exact ⟨this, this⟩⟩
      .cases h
     .cases h
    .cases h
   .cases h
  .cases h
 case makeFunc fn first caps =>
  cases fn <;> simp only at h <;> try (cases h; done)
  rename_i f
  split at h
  .rename_i hf
   rw [mapOpF_eq] at h
   exact ⟨_, _, _, h, fun P A dst K hk => by
    have : opS P A env ⟨nt, sl, hp, c⟩ dst (.makeFunc (.func f) first caps) K := by
     simp only [opS]
     refine ⟨hf, ?_⟩
     have e : (caps.toList.map fun p => evC nt sl p) = caps.toList.map (St.eval ⟨nt, sl, hp, c⟩) := List.map_congr_left fun x _ => hev x
     rw [e] at hk
     exact hk
    exact ⟨this, this⟩⟩
  .cases h
 case load t x =>
  split at h
  .cases h
  rename_i hc'
  rw [hev] at hc'
  split at h
  .rename_i ti ht
   split at h
   .rename_i l off hx; rw [hev] at hx
    rw [partP_eq, Option.bind_eq_some_iff] at h
    obtain ⟨v, hv, h⟩ := h
    exact ⟨_, _, _, h, fun P A dst K hk => by
     have : opS P A env ⟨nt, sl, hp, c⟩ dst (.load t x) K := by
      simp only [opS]; rw [hx]
      exact tiW_iff.2 ⟨ti, ht, optW_iff.2 ⟨v, hv, hk⟩⟩
     exact ⟨this, hc', this⟩⟩
   .rename_i id off hx; rw [hev] at hx
    split at h
    .rename_i cells hl
     rw [lookB_eq] at hl
     rw [partF_eq, Option.bind_eq_some_iff] at h
     obtain ⟨v, hv, h⟩ := h
     exact ⟨_, _, _, h, fun P A dst K hk => by
      have : opS P A env ⟨nt, sl, hp, c⟩ dst (.load t x) K := by
       simp only [opS]; rw [hx]
       exact tiW_iff.2 ⟨ti, ht, optW_iff.2 ⟨_, hl, by dsimp only; refine boxW_iff.2 ⟨cells, rfl, ?_⟩; exact optW_iff.2 ⟨v, hv, hk⟩⟩⟩
      exact ⟨this, hc', this⟩⟩
    .cases h
   .cases h
  .cases h
 case store t x v =>
  split at h
  .cases h
  rename_i hc'
  rw [hev] at hc'
  split at h
  .rename_i ti ht
   split at h
   .rename_i id off hx; rw [hev] at hx
    rw [cellsF_eq, Option.bind_eq_some_iff] at h
    obtain ⟨ls, hls, h⟩ := h
    rw [hev] at hls
    split at h
    .rename_i hlen
     split at h
     .rename_i hone
      rw [oneAll_eq] at hone
      split at h
      .rename_i cells hl
       rw [lookB_eq] at hl
       obtain ⟨h1, h2⟩ := setF_eq h
       rw [updF_eq] at h2
       exact ⟨_, _, _, h2, fun P A dst K hk => by
        have : opS P A env ⟨nt, sl, hp, c⟩ dst (.store t x v) K := by
         simp only [opS]; rw [hx]
         exact tiW_iff.2 ⟨ti, ht, optW_iff.2 ⟨ls, hls, ⟨Nat.eq_of_beq_eq_true hlen, hone⟩, optW_iff.2 ⟨_, hl, by dsimp only; refine boxW_iff.2 ⟨cells, rfl, ?_⟩; exact ⟨h1, hk⟩⟩⟩⟩
        exact ⟨this, hc', this⟩⟩
      .cases h
     .cases h
    .cases h
   .cases h
  .cases h
 case alloc t =>
  split at h
  .rename_i ti ht
   rw [mapPF_eq] at h
   exact ⟨_, _, _, h, fun P A dst K hk => by
    have : opS P A env ⟨nt, sl, hp, c⟩ dst (.alloc t) K := by
     simp only [opS]
     exact tiW_iff.2 ⟨ti, ht, hk⟩
    exact ⟨this, this⟩⟩
  .cases h
 case box t x =>
  rw [cellsF_eq, Option.bind_eq_some_iff] at h
  obtain ⟨ls, hls, h⟩ := h
  rw [hev] at hls
  exact ⟨_, _, _, h, fun P A dst K hk => by
   have : opS P A env ⟨nt, sl, hp, c⟩ dst (.box t x) K := by
    simp only [opS]
    exact optW_iff.2 ⟨ls, hls, hk⟩
   exact ⟨this, this⟩⟩
 case buildSlice t n ps =>
  split at h
  .rename_i ti ht
   split at h
   .rename_i e hsh
    split at h
    .rename_i te hte
     split at h
     .rename_i hb
      rw [mapEv_eq] at h
      obtain ⟨l, h1, h2⟩ := partsF_eq h
      split at h2
      .rename_i hlen
       simp only [Bool.and_eq_true] at hb
       exact ⟨_, _, _, h2, fun P A dst K hk => by
        have : opS P A env ⟨nt, sl, hp, c⟩ dst (.buildSlice t n ps) K := by
         simp only [opS]
         simp only [hev] at h1
         exact tiW_iff.2 ⟨ti, ht, slcW_iff.2 ⟨e, hsh, tiW_iff.2 ⟨te, hte, ⟨Nat.le_of_ble_eq_true hb.1, Nat.le_of_ble_eq_true hb.2⟩, optW_iff.2 ⟨l, h1, Nat.eq_of_beq_eq_true hlen, .inl hk⟩⟩⟩⟩
        exact ⟨this, this⟩⟩
      .cases h2
     .cases h
    .cases h
   .cases h
  .cases h
 case makeMap t r =>
  cases r with
  | some r => cases h
  | none => exact ⟨_, _, _, h, fun P A dst K hk => ⟨hk, hk⟩⟩
 case call cl =>
  obtain ⟨callee, args, ts⟩ := cl
  cases callee with
  | value f => cases h
  | invoke r m => cases h
  | builtin b =>
   cases b <;> simp only at h <;> try (cases h; done)
   case len =>
    split at h
    .rename_i x t hargs hts
     split at h
     .rename_i ti ht
      have ha : args = #[x] := by cases args; simpa using hargs
      have ht' : ts = #[t] := by cases ts; simpa using hts
      subst ha ht'
      have fin : ∀ l, k l hp c = some y -> (∀ K : Cont LV, K.f l -> lenS ti.sh ((⟨nt, sl, hp, c⟩ : St).eval x) K /\ lenD ti.sh ((⟨nt, sl, hp, c⟩ : St).eval x) K) ->
        ∃ l h' c', k l h' c' = some y /\ StepOK env ⟨nt, sl, hp, c⟩ (.call ⟨.builtin .len, #[x], #[t]⟩) l h' c' := fun l h1 h2 => ⟨l, hp, c, h1, fun P A dst K hk => by
       have := h2 ⟨fun l => K.f (St.put ⟨nt, sl, hp, c⟩ dst l), ⟨⟩⟩ hk
       exact ⟨tiW_iff.2 ⟨ti, ht, this.1⟩, tiW_iff.2 ⟨ti, ht, this.2⟩⟩⟩
      split at h
      .rename_i hsh
       exact fin _ h fun K hk => by rw [hsh]; exact ⟨hk, hk⟩
      .rename_i hsh hx; rw [hev] at hx
       exact fin _ h fun K hk => by rw [hsh, hx]; exact ⟨hk, hk⟩
      .rename_i hsh hx; rw [hev] at hx
       exact fin _ h fun K hk => by rw [hsh, hx]; exact ⟨hk, hk⟩
      .rename_i hsh hx; rw [hev] at hx
       exact fin _ h fun K hk => by rw [hsh, hx]; exact ⟨hk, hk⟩
      .cases h
     .cases h
    .cases h
   case max =>
    rw [mapOpF_eq] at h
    split at h
    .rename_i kk n rest hl
     obtain ⟨m, h1, h2⟩ := maxF_eq h
     exact ⟨_, _, _, h1, fun P A dst K hk => by
      have : opS P A env ⟨nt, sl, hp, c⟩ dst (.call ⟨.builtin .max, args, ts⟩) K := by
       simp only [opS, callS]
       simp only [hev] at hl
       refine optW_iff.2 ⟨(kk, m), ?_, hk⟩
       show foldInts _ (args.toList.map fun x => St.eval _ x) = _
       rw [hl]
       simp only [foldInts, h2]; rfl
      exact ⟨this, this⟩⟩
    .cases h
   case min =>
    rw [mapOpF_eq] at h
    split at h
    .rename_i kk n rest hl
     obtain ⟨m, h1, h2⟩ := minF_eq h
     exact ⟨_, _, _, h1, fun P A dst K hk => by
      have : opS P A env ⟨nt, sl, hp, c⟩ dst (.call ⟨.builtin .min, args, ts⟩) K := by
       simp only [opS, callS]
       simp only [hev] at hl
       refine optW_iff.2 ⟨(kk, m), ?_, hk⟩
       show foldInts _ (args.toList.map fun x => St.eval _ x) = _
       rw [hl]
       simp only [foldInts, h2]; rfl
      exact ⟨this, this⟩⟩
    .cases h
end
end Go.E
/- Runs of operations (runM, runD), loops and joins told by plain Lean (loopR, seqR), rules for a walk in step with a plain function. No condition. -/
namespace Go.E
open Go Go.RowKit
section
variable {β : Type}
def boolIs : Bool -> Bool -> Bool
 | true, true | false, false => true
 | _, _ => false
theorem boolIs_t {a b : Bool} (h : boolIs a b = true) : a = b := by cases a <;> cases b <;> first | rfl | cases h
theorem boolIs_f {a b : Bool} (h : boolIs a b = false) : a = !b := by cases a <;> cases b <;> first | rfl | cases h
def runM (env : Env) : Nat -> List MOp -> Nat -> List (Nat × LV) -> Heap -> Nat -> Option (List MOp × St)
 | 0, ms, nt, sl, h, c => some (ms, ⟨nt, sl, h, c⟩)
 | _ + 1, [], _, _, _, _ => none
 | n + 1, m :: ms, nt, sl, h, c => match m with
  | ⟨dst, op, g⟩ => match g with
   | none => stepF env nt sl h c op fun l h' c' => match dst with
    | some t => runM env n ms nt ((t, l) :: sl) h' c'
    | none => runM env n ms nt sl h' c'
   | some (some d, want) => match evC nt sl (.tmp d) with
    | .p (.bool b) => match boolIs b want with
     | true => stepF env nt sl h c op fun l h' c' => match dst with
      | some t => runM env n ms nt ((t, l) :: sl) h' c'
      | none => runM env n ms nt sl h' c'
     | false => match dst with
      | some t => runM env n ms nt ((t, .und) :: sl) h c
      | none => runM env n ms nt sl h c
    | .und => match dst with
     | some t => runM env n ms nt ((t, .und) :: sl) h c
     | none => runM env n ms nt sl h c
    | _ => none
   | some (none, _) => none
def runA (env : Env) : List MOp -> Nat -> List (Nat × LV) -> Heap -> Nat -> Option St
 | [], nt, sl, h, c => some ⟨nt, sl, h, c⟩
 | m :: ms, nt, sl, h, c => match m with
  | ⟨dst, op, g⟩ => match g with
   | none => stepF env nt sl h c op fun l h' c' => match dst with
    | some t => runA env ms nt ((t, l) :: sl) h' c'
    | none => runA env ms nt sl h' c'
   | some (some d, want) => match evC nt sl (.tmp d) with
    | .p (.bool b) => match boolIs b want with
     | true => stepF env nt sl h c op fun l h' c' => match dst with
      | some t => runA env ms nt ((t, l) :: sl) h' c'
      | none => runA env ms nt sl h' c'
     | false => match dst with
      | some t => runA env ms nt ((t, .und) :: sl) h c
      | none => runA env ms nt sl h c
    | .und => match dst with
     | some t => runA env ms nt ((t, .und) :: sl) h c
     | none => runA env ms nt sl h c
    | _ => none
   | some (none, _) => none
def runD (env : Env) (base : Nat) : Nat -> List (Nat × MOp) -> Nat -> List (Nat × LV) -> Heap -> Option (List (Nat × MOp) × List (Nat × LV) × Heap)
 | 0, ms, _, sl, h => some (ms, sl, h)
 | _ + 1, [], _, _, _ => none
 | n + 1, m :: ms, nt, sl, h => match m with
  | (i, ⟨dst, op, g⟩) => match g with
   | none => stepF env nt sl h (base + i) op fun l h' _ => match dst with
    | some t => runD env base n ms nt ((t, l) :: sl) h'
    | none => runD env base n ms nt sl h'
   | some (some d, want) => match evC nt sl (.tmp d) with
    | .p (.bool b) => match boolIs b want with
     | true => stepF env nt sl h (base + i) op fun l h' _ => match dst with
      | some t => runD env base n ms nt ((t, l) :: sl) h'
      | none => runD env base n ms nt sl h'
     | false => match dst with
      | some t => runD env base n ms nt ((t, .und) :: sl) h
      | none => runD env base n ms nt sl h
    | .und => match dst with
     | some t => runD env base n ms nt ((t, .und) :: sl) h
     | none => runD env base n ms nt sl h
    | _ => none
   | some (none, _) => none
def runAD (env : Env) (base : Nat) : List (Nat × MOp) -> Nat -> List (Nat × LV) -> Heap -> Option (List (Nat × LV) × Heap)
 | [], _, sl, h => some (sl, h)
 | m :: ms, nt, sl, h => match m with
  | (i, ⟨dst, op, g⟩) => match g with
   | none => stepF env nt sl h (base + i) op fun l h' _ => match dst with
    | some t => runAD env base ms nt ((t, l) :: sl) h'
    | none => runAD env base ms nt sl h'
   | some (some d, want) => match evC nt sl (.tmp d) with
    | .p (.bool b) => match boolIs b want with
     | true => stepF env nt sl h (base + i) op fun l h' _ => match dst with
      | some t => runAD env base ms nt ((t, l) :: sl) h'
      | none => runAD env base ms nt sl h'
     | false => match dst with
      | some t => runAD env base ms nt ((t, .und) :: sl) h
      | none => runAD env base ms nt sl h
    | .und => match dst with
     | some t => runAD env base ms nt ((t, .und) :: sl) h
     | none => runAD env base ms nt sl h
    | _ => none
   | some (none, _) => none
end
section
variable {P : Program} {A : Amb} {env : Env} {f : St -> Prop} {hf : Hid f} {nt : Nat} {sl : List (Nat × LV)} {h : Heap} {c : Nat}
theorem go_go {dst : Option Tmp} {l : LV} {h' : Heap} {c' : Nat} : (⟨nt, sl, h, c⟩ : St).go dst l h' c' = match dst with | some t => ⟨nt, (t, l) :: sl, h', c'⟩ | none => ⟨nt, sl, h', c'⟩ := by
 cases dst <;> rfl
theorem rn (n : Nat) {ms ms' : List MOp} {st' : St} (hr : runM env n ms nt sl h c = some (ms', st')) (k : wpM P A env ⟨f, hf⟩ ms' st') : wpM P A env ⟨f, hf⟩ ms ⟨nt, sl, h, c⟩ := by
  induction n generalizing ms nt sl h c with
  | zero =>
    have : (ms, (⟨nt, sl, h, c⟩ : St)) = (ms', st') := by simpa [runM] using hr
    cases this; exact k
  | succ n ih =>
    cases ms with
    | nil => simp [runM] at hr
    | cons m ms =>
      obtain ⟨dst, op, g⟩ := m
      have run : (stepF env nt sl h c op fun l h' c' => match (generalizing := false) dst with
            | some t => runM env n ms nt ((t, l) :: sl) h' c'
            | none => runM env n ms nt sl h' c') = some (ms', st') -> opS P A env ⟨nt, sl, h, c⟩ dst op ⟨wpM P A env ⟨f, hf⟩ ms, ⟨⟩⟩ := fun hs => by
        obtain ⟨l, h', c', h1, h2⟩ := stepF_sound hs
        refine (h2 P A dst _ ?_).1
        rw [go_go]
        cases dst with
        | some t => exact ih h1
        | none => exact ih h1
      have skip : (match (generalizing := false) dst with
          | some t => runM env n ms nt ((t, .und) :: sl) h c
          | none => runM env n ms nt sl h c) = some (ms', st') -> wpM P A env ⟨f, hf⟩ ms ((⟨nt, sl, h, c⟩ : St).put dst .und) := fun hs => by
        cases dst with
        | some t => exact ih hs
        | none => exact ih hs
      simp only [runM] at hr
      cases g with
      | none => exact run hr
      | some g =>
        obtain ⟨d, want⟩ := g
        cases d with
        | none => simp at hr
        | some d =>
          simp only at hr
          simp only [wpM, guardM, <- evC_eq (h := h) (c := c)]
          generalize evC nt sl (.tmp d) = v at hr ⊢
          split at hr
          . rename_i b
            split at hr
            . rename_i hb
              refine ⟨fun _ => run hr, fun e => ?_⟩
              rw [boolIs_t hb] at e; cases want <;> cases e
            . rename_i hb
              refine ⟨fun e => ?_, fun _ => skip hr⟩
              rw [boolIs_f hb] at e; cases want <;> cases e
          . exact skip hr
          . cases hr
theorem rl {ms : List MOp} {st' : St} (hr : runA env ms nt sl h c = some st') (k : f st') : wpM P A env ⟨f, hf⟩ ms ⟨nt, sl, h, c⟩ := by
  induction ms generalizing nt sl h c with
  | nil =>
    have : (⟨nt, sl, h, c⟩ : St) = st' := by simpa [runA] using hr
    subst this; exact ⟨k⟩
  | cons m ms ih =>
      obtain ⟨dst, op, g⟩ := m
      have run : (stepF env nt sl h c op fun l h' c' => match (generalizing := false) dst with
            | some t => runA env ms nt ((t, l) :: sl) h' c'
            | none => runA env ms nt sl h' c') = some st' -> opS P A env ⟨nt, sl, h, c⟩ dst op ⟨wpM P A env ⟨f, hf⟩ ms, ⟨⟩⟩ := fun hs => by
        obtain ⟨l, h', c', h1, h2⟩ := stepF_sound hs
        refine (h2 P A dst _ ?_).1
        rw [go_go]
        cases dst with
        | some t => exact ih h1
        | none => exact ih h1
      have skip : (match (generalizing := false) dst with
          | some t => runA env ms nt ((t, .und) :: sl) h c
          | none => runA env ms nt sl h c) = some st' -> wpM P A env ⟨f, hf⟩ ms ((⟨nt, sl, h, c⟩ : St).put dst .und) := fun hs => by
        cases dst with
        | some t => exact ih hs
        | none => exact ih hs
      simp only [runA] at hr
      cases g with
      | none => exact run hr
      | some g =>
        obtain ⟨d, want⟩ := g
        cases d with
        | none => simp at hr
        | some d =>
          simp only at hr
          simp only [wpM, guardM, <- evC_eq (h := h) (c := c)]
          generalize evC nt sl (.tmp d) = v at hr ⊢
          split at hr
          . rename_i b
            split at hr
            . rename_i hb
              refine ⟨fun _ => run hr, fun e => ?_⟩
              rw [boolIs_t hb] at e; cases want <;> cases e
            . rename_i hb
              refine ⟨fun e => ?_, fun _ => skip hr⟩
              rw [boolIs_f hb] at e; cases want <;> cases e
          . exact skip hr
          . cases hr
theorem rnD (n : Nat) {base m : Nat} {ms ms' : List (Nat × MOp)} {sl' : List (Nat × LV)} {h' : Heap} (hr : runD env base n ms nt sl h = some (ms', sl', h')) (k : drM P A env base m ⟨f, hf⟩ ms' ⟨nt, sl', h', c⟩) : drM P A env base m ⟨f, hf⟩ ms ⟨nt, sl, h, c⟩ := by
  induction n generalizing ms sl h with
  | zero =>
    have : (ms, sl, h) = (ms', sl', h') := by simpa [runD] using hr
    cases this; exact k
  | succ n ih =>
    cases ms with
    | nil => simp [runD] at hr
    | cons p ms =>
      obtain ⟨i, dst, op, g⟩ := p
      have at_ : ∀ {sl h c'} , drM P A env base m ⟨f, hf⟩ ms ⟨nt, sl, h, c⟩ -> drM P A env base m ⟨f, hf⟩ ms ⟨nt, sl, h, c'⟩ := fun {sl h c'} hd => by
        have := drM_at (P := P) (A := A) (env := env) base m ⟨f, hf⟩ ms ⟨nt, sl, h, c⟩ c'
        rw [<- this] at hd; exact hd
      have run : (stepF env nt sl h (base + i) op fun l h' c' => match (generalizing := false) dst with
            | some t => runD env base n ms nt ((t, l) :: sl) h'
            | none => runD env base n ms nt sl h') = some (ms', sl', h') -> opD P A env ((⟨nt, sl, h, c⟩ : St).at (base + i)) dst op ⟨drM P A env base m ⟨f, hf⟩ ms, ⟨⟩⟩ := fun hs => by
        obtain ⟨l, h', c', h1, h2⟩ := stepF_sound hs
        refine (h2 P A dst _ ?_).2
        rw [go_go]
        cases dst with
        | some t => exact at_ (ih h1)
        | none => exact at_ (ih h1)
      have skip : (match (generalizing := false) dst with
          | some t => runD env base n ms nt ((t, .und) :: sl) h
          | none => runD env base n ms nt sl h) = some (ms', sl', h') -> drM P A env base m ⟨f, hf⟩ ms ((⟨nt, sl, h, c⟩ : St).put dst .und) := fun hs => by
        cases dst with
        | some t => exact ih hs
        | none => exact ih hs
      simp only [runD] at hr
      cases g with
      | none => exact run hr
      | some g =>
        obtain ⟨d, want⟩ := g
        cases d with
        | none => simp at hr
        | some d =>
          simp only at hr
          simp only [drM, guardM, <- evC_eq (h := h) (c := c)]
          generalize evC nt sl (.tmp d) = v at hr ⊢
          split at hr
          . rename_i b
            split at hr
            . rename_i hb
              refine ⟨fun _ => run hr, fun e => ?_⟩
              rw [boolIs_t hb] at e; cases want <;> cases e
            . rename_i hb
              refine ⟨fun e => ?_, fun _ => skip hr⟩
              rw [boolIs_f hb] at e; cases want <;> cases e
          . exact skip hr
          . cases hr
theorem rlD {base m : Nat} {ms : List (Nat × MOp)} {sl' : List (Nat × LV)} {h' : Heap} (hr : runAD env base ms nt sl h = some (sl', h')) (k : f ⟨nt, sl', h', base + m⟩) : drM P A env base m ⟨f, hf⟩ ms ⟨nt, sl, h, c⟩ := by
  induction ms generalizing sl h with
  | nil =>
    have : (sl, h) = (sl', h') := by simpa [runAD] using hr
    cases this; exact ⟨k⟩
  | cons p ms ih =>
      obtain ⟨i, dst, op, g⟩ := p
      have at_ : ∀ {sl h c'} , drM P A env base m ⟨f, hf⟩ ms ⟨nt, sl, h, c⟩ -> drM P A env base m ⟨f, hf⟩ ms ⟨nt, sl, h, c'⟩ := fun {sl h c'} hd => by
        have := drM_at (P := P) (A := A) (env := env) base m ⟨f, hf⟩ ms ⟨nt, sl, h, c⟩ c'
        rw [<- this] at hd; exact hd
      have run : (stepF env nt sl h (base + i) op fun l h' c' => match (generalizing := false) dst with
            | some t => runAD env base ms nt ((t, l) :: sl) h'
            | none => runAD env base ms nt sl h') = some (sl', h') -> opD P A env ((⟨nt, sl, h, c⟩ : St).at (base + i)) dst op ⟨drM P A env base m ⟨f, hf⟩ ms, ⟨⟩⟩ := fun hs => by
        obtain ⟨l, h', c', h1, h2⟩ := stepF_sound hs
        refine (h2 P A dst _ ?_).2
        rw [go_go]
        cases dst with
        | some t => exact at_ (ih h1)
        | none => exact at_ (ih h1)
      have skip : (match (generalizing := false) dst with
          | some t => runAD env base ms nt ((t, .und) :: sl) h
          | none => runAD env base ms nt sl h) = some (sl', h') -> drM P A env base m ⟨f, hf⟩ ms ((⟨nt, sl, h, c⟩ : St).put dst .und) := fun hs => by
        cases dst with
        | some t => exact ih hs
        | none => exact ih hs
      simp only [runAD] at hr
      cases g with
      | none => exact run hr
      | some g =>
        obtain ⟨d, want⟩ := g
        cases d with
        | none => simp at hr
        | some d =>
          simp only at hr
          simp only [drM, guardM, <- evC_eq (h := h) (c := c)]
          generalize evC nt sl (.tmp d) = v at hr ⊢
          split at hr
          . rename_i b
            split at hr
            . rename_i hb
              refine ⟨fun _ => run hr, fun e => ?_⟩
              rw [boolIs_t hb] at e; cases want <;> cases e
            . rename_i hb
              refine ⟨fun e => ?_, fun _ => skip hr⟩
              rw [boolIs_f hb] at e; cases want <;> cases e
          . exact skip hr
          . cases hr
end
end Go.E
/- Rules for a walk in step with a plain function. No condition. -/
namespace Go.E
open Go Go.RowKit
def memB : List Nat -> Nat -> Bool
 | [], _ => false
 | x :: l, t => match Nat.beq t x with
  | true => true
  | false => memB l t
theorem memB_eq : ∀ {l : List Nat} {t : Nat}, memB l t = true ↔ t ∈ l
 | [], t => by simp [memB]
 | x :: l, t => by
  simp only [memB, List.mem_cons]
  split
  .rename_i h; have := Nat.eq_of_beq_eq_true h; subst this; simp
  .rename_i h
   have hne : t ≠ x := by rintro rfl; simp at h
   rw [memB_eq]; simp [hne]
theorem ttok_ofB {P : Program} {l : List (Nat × TI)} (h : (l.map fun p => tiOf P p.1) = l.map fun p => some p.2) : TTOK P (fun t => lookB t l) := by
 have := ttok_of_list h
 intro t ti ht
 exact this t ti (by simpa only [lookB_eq] using ht)
section
variable {α β γ : Type}
theorem bd {o : Option α} {f : α -> Option β} {b : β} (h : o.bind f = some b) : ∃ a, o = some a /\ f a = some b := Option.bind_eq_some_iff.1 h
def idx (l : List α) (n : Int) : Option α := match n with
 | .ofNat k => l[k]?
 | .negSucc _ => none
theorem idx_some {l : List α} {n : Int} {y : α} (h : idx l n = some y) : 0 <= n /\ n.toNat < l.length /\ l[n.toNat]? = some y := by
 cases n with
 | ofNat k => exact ⟨Int.natCast_nonneg k, (List.getElem?_eq_some_iff.1 h).1, h⟩
 | negSucc k => cases h
def idxS (s : ByteArray) (n : Int) : Option UInt8 := match n with
 | .ofNat k => s[k]?
 | .negSucc _ => none
def slI (l : List α) (lo hi : Int) : Option (List α) := if 0 <= lo /\ lo <= hi /\ hi <= l.length then some ((l.take hi.toNat).drop lo.toNat) else none
def appI (l m : List α) : Option (List α) := if l.length + m.length <= 4294967296 then some (l ++ m) else none
def setI (l : List α) (n : Int) (z : α) : List α := l.set n.toNat z
def divU (a b : Int) : Option Int := if b = 0 then none else some (IntKind.wrap .u8 (a.tdiv b))
def modI (a b : Int) : Option Int := if b = 0 then none else some (a.tmod b)
def iterN (step : α -> Option (α ⊕ β)) : Nat -> α -> Option β
 | 0, _ => none
 | n + 1, s => match step s with
  | none => none
  | some (.inl s') => iterN step n s'
  | some (.inr b) => some b
theorem iterN_add {step : α -> Option (α ⊕ β)} : ∀ {n m : Nat} {s : α} {b : β}, iterN step n s = some b -> iterN step (n + m) s = some b
 | 0, _, _, _, h => by cases h
 | n + 1, m, s, b, h => by
  rw [show n + 1 + m = (n + m) + 1 by omega]
  simp only [iterN] at h ⊢
  split at h
  .cases h
  .exact iterN_add h
  .exact h
open Classical in
noncomputable def loopC (step : α -> Option (α ⊕ β)) (s : α) : Option β := if h : ∃ b n, iterN step n s = some b then some h.choose else none
noncomputable def loopR (step : α -> Option (α ⊕ β)) (s : α) : Option β := match iterN step 18446744073709551616 s with
 | some b => some b
 | none => loopC step s
theorem loopC_of {step : α -> Option (α ⊕ β)} {n : Nat} {s : α} {b : β} (h : iterN step n s = some b) : loopC step s = some b := by
 have hex : ∃ b n, iterN step n s = some b := ⟨b, n, h⟩
 unfold loopC
 rw [dif_pos hex]
 obtain ⟨m, hm⟩ := hex.choose_spec
 have h1 := iterN_add (m := m) h
 have h2 := iterN_add (m := n) hm
 rw [show m + n = n + m by omega, h1] at h2
 exact h2.symm
theorem loopR_C (step : α -> Option (α ⊕ β)) (s : α) : loopR step s = loopC step s := by
 unfold loopR
 split
 .rename_i h; exact (loopC_of h).symm
 .rfl
theorem loopR_some {step : α -> Option (α ⊕ β)} {s : α} {b : β} (h : loopR step s = some b) : ∃ n, iterN step n s = some b := by
 rw [loopR_C] at h
 unfold loopC at h
 split at h
 .rename_i hex
  obtain ⟨m, hm⟩ := hex.choose_spec
  simp only [Option.some.injEq] at h
  rw [h] at hm
  exact ⟨m, hm⟩
 .cases h
def seqR (sp : Option (α ⊕ β)) (rest : α -> Option β) : Option β := match sp with
 | none => none
 | some (.inl t) => rest t
 | some (.inr b) => some b
def optM (o : Option α) (a : Option β) (b : α -> Option β) : Option β := match o with
 | none => a
 | some x => b x
theorem omN {a : Option β} {b : α -> Option β} {r : Option β} (h : optM none a b = r) : a = r := h
theorem omS {x : α} {a : Option β} {b : α -> Option β} {r : Option β} (h : optM (some x) a b = r) : b x = r := h
end
section
variable {P : Program} {A : Amb} {env : Env} {st : St} {σ Ans : Type}
def LP (A : Amb) (S : σ -> St) (Q : Ans -> Exit -> St -> Prop) : σ ⊕ Ans -> Exit -> St -> Prop
 | .inl s, e, st => e = .normal /\ Weak A st (S s)
 | .inr a, e, st => e ≠ .normal /\ Q a e st
theorem lp {c : Code} {Q : Ans -> Exit -> St -> Prop} {a : Ans} (I : σ -> St) {step : σ -> Option (σ ⊕ Ans)} {s0 : σ} (h : loopR step s0 = some a) (hw : Weak A st (I s0))
  (hb : ∀ s b, step s = some b -> dwp P A c (LP A I Q b) (I s)) : dwp P A (.loop c) (Q a) st := by
 obtain ⟨n, hn⟩ := loopR_some h
 refine dwp_loop (ι := Nat × σ) (fun i s => iterN step i.1 i.2 = some a /\ Weak A s (I i.2)) (fun i => i.1) (n, s0) ⟨hn, hw⟩ ?_
 rintro ⟨n, s⟩ st' ⟨hi, hws⟩
 refine dwp_weak hws ?_
 cases n with
 | zero => cases hi
 | succ n =>
  simp only [iterN] at hi
  cases hs : step s with
  | none => rw [hs] at hi; cases hi
  | some r =>
   rw [hs] at hi
   refine dwp_mono (hb s r hs) fun e st'' q => ?_
   cases r with
   | inl s' =>
    obtain ⟨he, hw'⟩ := q
    subst he
    exact ⟨(n, s'), ⟨hi, hw'⟩, Nat.lt_succ_self n⟩
   | inr a' =>
    obtain ⟨he, hq⟩ := q
    simp only [Option.some.injEq] at hi
    subst hi
    cases e <;> first | exact absurd rfl he | exact hq
theorem jn {x y : Code} {Q : Ans -> Exit -> St -> Prop} {a : Ans} (S : σ -> St) {sp : Option (σ ⊕ Ans)} {rest : σ -> Option Ans} (h : seqR sp rest = some a)
  (hx : ∀ b, sp = some b -> dwp P A x (LP A S Q b) st) (hy : ∀ t, rest t = some a -> dwp P A y (Q a) (S t)) : dwp P A (.seq x y) (Q a) st := by
 refine dwp_seq ?_
 cases hs : sp with
 | none => rw [hs] at h; cases h
 | some r =>
  rw [hs] at h
  refine dwp_mono (hx r hs) fun e st' q => ?_
  cases r with
  | inl t =>
   obtain ⟨he, hw⟩ := q
   subst he
   exact dwp_weak hw (hy t h)
  | inr a' =>
   obtain ⟨he, hq⟩ := q
   simp only [seqR, Option.some.injEq] at h
   subst h
   cases e <;> first | exact absurd rfl he | exact hq
def NP (A : Amb) (S : σ -> St) (s : σ) (e : Exit) (st : St) : Prop := e = .normal /\ Weak A st (S s)
theorem jb {x y : Code} {Q : Exit -> St -> Prop} {a : Ans} (S : σ -> St) {sp : Option σ} {rest : σ -> Option Ans} (h : sp.bind rest = some a)
  (hx : ∀ t, sp = some t -> dwp P A x (NP A S t) st) (hy : ∀ t, rest t = some a -> dwp P A y Q (S t)) : dwp P A (.seq x y) Q st := by
 obtain ⟨t, h1, h2⟩ := bd h
 refine dwp_seq (dwp_mono (hx t h1) fun e st' q => ?_)
 obtain ⟨he, hw⟩ := q
 subst he
 exact dwp_weak hw (hy t h2)
theorem rg (hE : EnvOK P env) {id : Nat} {ops : List Oper} {Q : Exit -> St -> Prop} (k : wpM P A env ⟨Q .normal, ⟨⟩⟩ (ops.map (toM ops)) st) : dwp P A (.region id ops.toArray false) Q st := dwp_run1 hE rfl k
theorem rs (hE : EnvOK P env) {id : Nat} {ops : List Oper} {y : Code} {Q : Exit -> St -> Prop} (k : wpM P A env ⟨dwp P A y Q, ⟨⟩⟩ (ops.map (toM ops)) st) : dwp P A (.seq (.region id ops.toArray false) y) Q st := dwp_run hE rfl k
theorem rgd (hE : EnvOK P env) (hm : P.follows .mixedOrders = true) {id : Nat} {ops : List Oper} {Q : Exit -> St -> Prop} {nt : Nat} {sl : List (Nat × LV)} {h : Heap} {c : Nat} (order : List Nat) (n : Nat)
  (hok : drawOK false env.own .any ops.toArray order (Array.replicate ops.length false) = true) (hl : Nat.beq order.length ops.length = true) (hb : (order.all fun i => Nat.blt i ops.length) = true) (hn : Nat.beq ops.length n = true)
  (k : drM P A env c n ⟨Q .normal, ⟨⟩⟩ (pairM ops order) ⟨nt, sl, h, c⟩) : dwp P A (.region id ops.toArray true) Q ⟨nt, sl, h, c⟩ := by
 have hb' : (order.all fun i => decide (i < ops.length)) = true := by
  rw [List.all_eq_true] at hb ⊢
  intro i hi
  have := Nat.le_of_ble_eq_true (hb i hi)
  simp only [decide_eq_true_eq]; omega
 have hn' := Nat.eq_of_beq_eq_true hn
 subst hn'
 exact dwp_region_any false (fun h => by cases h) hE hm hok (Nat.eq_of_beq_eq_true hl) (drM_sound order _ hb' k)
theorem rgdC (hE : EnvOK P env) (hm : P.follows .mixedOrders = true) {id : Nat} {ops : List Oper} {Q : Exit -> St -> Prop} {nt : Nat} {sl : List (Nat × LV)} {h : Heap} {c : Nat} (order : List Nat) (n : Nat)
  (hq : env.calm.isSome = true) (hok : drawOK true env.own .any ops.toArray order (Array.replicate ops.length false) = true) (hl : Nat.beq order.length ops.length = true) (hb : (order.all fun i => Nat.blt i ops.length) = true) (hn : Nat.beq ops.length n = true)
  (k : drM P A env c n ⟨Q .normal, ⟨⟩⟩ (pairM ops order) ⟨nt, sl, h, c⟩) : dwp P A (.region id ops.toArray true) Q ⟨nt, sl, h, c⟩ := by
 have hb' : (order.all fun i => decide (i < ops.length)) = true := by
  rw [List.all_eq_true] at hb ⊢
  intro i hi
  have := Nat.le_of_ble_eq_true (hb i hi)
  simp only [decide_eq_true_eq]; omega
 have hn' := Nat.eq_of_beq_eq_true hn
 subst hn'
 exact dwp_region_any true (fun _ => Option.isSome_iff_exists.1 hq) hE hm hok (Nat.eq_of_beq_eq_true hl) (drM_sound order _ hb' k)
theorem cd {x : Operand} {cx cy : Code} {Q : Exit -> St -> Prop} {nt : Nat} {sl : List (Nat × LV)} {h : Heap} {c : Nat} {b : Bool} {p q : Option Ans} {a : Ans} (hb : evC nt sl x = .p (.bool b)) (hh : cond b p q = some a)
  (hx : p = some a -> dwp P A cx Q ⟨nt, sl, h, c⟩) (hy : q = some a -> dwp P A cy Q ⟨nt, sl, h, c⟩) : dwp P A (.cond x cx cy) Q ⟨nt, sl, h, c⟩ := by
 refine dwp_cond (b := b) (by rw [<- evC_eq]; exact hb) (fun e => ?_) (fun e => ?_)
 .subst e; exact hx hh
 .subst e; exact hy hh
theorem cdt {x : Operand} {cx cy : Code} {Q : Exit -> St -> Prop} {nt : Nat} {sl : List (Nat × LV)} {h : Heap} {c : Nat} (hb : evC nt sl x = .p (.bool true)) (hx : dwp P A cx Q ⟨nt, sl, h, c⟩) : dwp P A (.cond x cx cy) Q ⟨nt, sl, h, c⟩ :=
 dwp_cond (b := true) (by rw [<- evC_eq]; exact hb) (fun _ => hx) (fun e => by cases e)
theorem cdf {x : Operand} {cx cy : Code} {Q : Exit -> St -> Prop} {nt : Nat} {sl : List (Nat × LV)} {h : Heap} {c : Nat} (hb : evC nt sl x = .p (.bool false)) (hx : dwp P A cy Q ⟨nt, sl, h, c⟩) : dwp P A (.cond x cx cy) Q ⟨nt, sl, h, c⟩ :=
 dwp_cond (b := false) (by rw [<- evC_eq]; exact hb) (fun e => by cases e) (fun _ => hx)
end
end Go.E
/- Rules for single operations of a walk in step with a plain function. No condition. -/
namespace Go.E
open Go Go.RowKit
section
variable {β : Type}
def repF (t : Nat) (v : LV) : List (Nat × LV) -> (List (Nat × LV) -> Option β) -> Option β
 | [], _ => none
 | (q, u) :: l, k => match Nat.beq t q with
  | true => k ((q, v) :: l)
  | false => repF t v l (fun r => k ((q, u) :: r))
theorem repF_eq {t : Nat} {v : LV} : ∀ {l : List (Nat × LV)} {k : List (Nat × LV) -> Option β} {y : β}, lookB t l = some v -> repF t v l k = some y -> k l = some y
 | [], _, _, h, _ => by simp [lookB] at h
 | (q, u) :: l, k, y, h, hr => by
  simp only [lookB] at h
  simp only [repF] at hr
  split at h
  .rename_i hb
   rw [hb] at hr
   simp only [Option.some.injEq] at h
   subst h; exact hr
  .rename_i hb
   rw [hb] at hr
   exact repF_eq (k := fun r => k ((q, u) :: r)) h hr
def rep (t : Nat) (v : LV) (l : List (Nat × LV)) : Option (List (Nat × LV)) := repF t v l some
theorem rep_eq {t : Nat} {v : LV} {l l' : List (Nat × LV)} (h : lookB t l = some v) (hr : rep t v l = some l') : l = l' := by
 have := repF_eq h hr
 simpa using this
theorem evC_look {nt t : Nat} {sl : List (Nat × LV)} {d : DV} (h : evC nt sl (.tmp t) = .p d) : lookB t sl = some (.p d) := by
 simp only [evC] at h
 split at h
 .split at h
  .subst h; assumption
  .cases h
 .cases h
def gOK (nt : Nat) (sl : List (Nat × LV)) : Option (Option Tmp × Bool) -> Bool
 | none => true
 | some (some d, want) => match evC nt sl (.tmp d) with
  | .p (.bool b) => boolIs b want
  | _ => false
 | some (none, _) => false
theorem gOK_some {nt : Nat} {sl : List (Nat × LV)} {d : Tmp} {want : Bool} (h : gOK nt sl (some (some d, want)) = true) : evC nt sl (.tmp d) = .p (.bool want) := by
 simp only [gOK] at h
 split at h
 .rename_i b hb; rw [hb, boolIs_t h]
 .cases h
end
section
variable {P : Program} {A : Amb} {env : Env} {f : St -> Prop} {hf : Hid f} {nt : Nat} {sl : List (Nat × LV)} {h : Heap} {c : Nat} {Ans : Type}
theorem gs (t : Nat) {ms : List MOp} {b : Bool} {p q : Option Ans} {a : Ans} {slT slF : List (Nat × LV)} (hh : cond b p q = some a) (hv : evC nt sl (.tmp t) = .p (.bool b))
  (hT : rep t (.p (.bool true)) sl = some slT) (hF : rep t (.p (.bool false)) sl = some slF)
  (hx : p = some a -> wpM P A env ⟨f, hf⟩ ms ⟨nt, slT, h, c⟩) (hy : q = some a -> wpM P A env ⟨f, hf⟩ ms ⟨nt, slF, h, c⟩) : wpM P A env ⟨f, hf⟩ ms ⟨nt, sl, h, c⟩ := by
 cases b with
 | true => rw [rep_eq (evC_look hv) hT]; exact hx hh
 | false => rw [rep_eq (evC_look hv) hF]; exact hy hh
theorem gsD (t : Nat) {base m : Nat} {ms : List (Nat × MOp)} {b : Bool} {p q : Option Ans} {a : Ans} {slT slF : List (Nat × LV)} (hh : cond b p q = some a) (hv : evC nt sl (.tmp t) = .p (.bool b))
  (hT : rep t (.p (.bool true)) sl = some slT) (hF : rep t (.p (.bool false)) sl = some slF)
  (hx : p = some a -> drM P A env base m ⟨f, hf⟩ ms ⟨nt, slT, h, c⟩) (hy : q = some a -> drM P A env base m ⟨f, hf⟩ ms ⟨nt, slF, h, c⟩) : drM P A env base m ⟨f, hf⟩ ms ⟨nt, sl, h, c⟩ := by
 cases b with
 | true => rw [rep_eq (evC_look hv) hT]; exact hx hh
 | false => rw [rep_eq (evC_look hv) hF]; exact hy hh
theorem sx {dst : Option Tmp} {op : Op} {g : Option (Option Tmp × Bool)} {rest : List MOp} (hg : gOK nt sl g = true) (k : opS P A env ⟨nt, sl, h, c⟩ dst op ⟨wpM P A env ⟨f, hf⟩ rest, ⟨⟩⟩) :
  wpM P A env ⟨f, hf⟩ (⟨dst, op, g⟩ :: rest) ⟨nt, sl, h, c⟩ := by
 cases g with
 | none => exact k
 | some g =>
  obtain ⟨d, want⟩ := g
  cases d with
  | none => cases hg
  | some d =>
   have := gOK_some hg
   simp only [wpM, guardM, <- evC_eq (h := h) (c := c), this, gM, gW]
   exact ⟨fun _ => k, fun e => by cases want <;> cases e⟩
theorem sxD {base m i : Nat} {dst : Option Tmp} {op : Op} {g : Option (Option Tmp × Bool)} {rest : List (Nat × MOp)} (hg : gOK nt sl g = true) (k : opD P A env ⟨nt, sl, h, base + i⟩ dst op ⟨drM P A env base m ⟨f, hf⟩ rest, ⟨⟩⟩) :
  drM P A env base m ⟨f, hf⟩ ((i, ⟨dst, op, g⟩) :: rest) ⟨nt, sl, h, c⟩ := by
 cases g with
 | none => exact k
 | some g =>
  obtain ⟨d, want⟩ := g
  cases d with
  | none => cases hg
  | some d =>
   have := gOK_some hg
   simp only [drM, guardM, <- evC_eq (h := h) (c := c), this, gM, gW]
   exact ⟨fun _ => k, fun e => by cases want <;> cases e⟩
def plainOp : Op -> Bool
 | .binOp .. | .call _ | .range .. | .next .. | .entry .. | .load .. | .store .. => false
 | _ => true
theorem opD_plain {st : St} {dst : Option Tmp} {op : Op} {K : Cont St} (hp : plainOp op = true) (k : opS P A env st dst op K) : opD P A env st dst op K := by
 cases op <;> first | exact k | cases hp
theorem opD_ld {nt : Nat} {sl : List (Nat × LV)} {h : Heap} {c : Nat} {dst : Option Tmp} {t : TypeId} {x : Operand} {K : Cont St} (hc : calmLd env.calm (evC nt sl x) = true) (k : opS P A env ⟨nt, sl, h, c⟩ dst (.load t x) K) : opD P A env ⟨nt, sl, h, c⟩ dst (.load t x) K := ⟨by rw [<- evC_eq (h := h) (c := c)]; exact hc, k⟩
theorem opD_st {nt : Nat} {sl : List (Nat × LV)} {h : Heap} {c : Nat} {dst : Option Tmp} {t : TypeId} {x v : Operand} {K : Cont St} (hc : calmSt env.calm (evC nt sl x) = true) (k : opS P A env ⟨nt, sl, h, c⟩ dst (.store t x v) K) : opD P A env ⟨nt, sl, h, c⟩ dst (.store t x v) K := ⟨by rw [<- evC_eq (h := h) (c := c)]; exact hc, k⟩
theorem opD_app {st : St} {dst : Option Tmp} {args : Array Operand} {ts : Array TypeId} {K : Cont St} (k : opS P A env st dst (.call ⟨.builtin .append, args, ts⟩) K) : opD P A env st dst (.call ⟨.builtin .append, args, ts⟩) K := k
def isSlc (env : Env) (t : Nat) : Bool := match env.tt t with
 | some ti => match ti.sh with
  | .slc _ => true
  | _ => false
 | none => false
def isStr (env : Env) (t : Nat) : Bool := match env.tt t with
 | some ti => match ti.sh with
  | .str => true
  | _ => false
 | none => false
theorem isStr_eq {t : Nat} (h : isStr env t = true) : ∃ ti, env.tt t = some ti /\ ti.sh = .str := by
 unfold isStr at h
 split at h
 .rename_i ti hti
  split at h
  .rename_i he; exact ⟨ti, hti, he⟩
  .cases h
 .cases h
theorem isSlc_eq {t : Nat} (h : isSlc env t = true) : ∃ ti e, env.tt t = some ti /\ ti.sh = .slc e := by
 unfold isSlc at h
 split at h
 .rename_i ti hti
  split at h
  .rename_i e he; exact ⟨ti, e, hti, he⟩
  .cases h
 .cases h
def slcSz (env : Env) (t sz : Nat) : Bool := match env.tt t with
 | some ti => match ti.sh with
  | .slc e => match env.tt e with
   | some te => Nat.beq te.size sz
   | none => false
  | _ => false
 | none => false
theorem slcSz_eq {t sz : Nat} (h : slcSz env t sz = true) : ∃ ti e te, env.tt t = some ti /\ ti.sh = .slc e /\ env.tt e = some te /\ te.size = sz := by
 unfold slcSz at h
 split at h
 .rename_i ti hti
  split at h
  .rename_i e he
   split at h
   .rename_i te hte; exact ⟨ti, e, te, hti, he, hte, Nat.eq_of_beq_eq_true h⟩
   .cases h
  .cases h
 .cases h
variable {α : Type} {enc : α -> List DV} {l : List α} {d : Tmp} {t sz : Nat} {x : Operand}
theorem o_len (ht : isSlc env t = true) (hx : evC nt sl x = .p (.slice sz (l.map enc))) (k : f ⟨nt, (d, .p (.int .i64 l.length)) :: sl, h, c⟩) : opS P A env ⟨nt, sl, h, c⟩ (some d) (.call ⟨.builtin .len, #[x], #[t]⟩) ⟨f, hf⟩ := by
 obtain ⟨ti, e, h1, h2⟩ := isSlc_eq ht
 refine tiW_iff.2 ⟨ti, h1, ?_⟩
 rw [evC_eq (h := h) (c := c)] at hx
 dsimp only
 rw [h2, hx]
 intro _
 simp only [List.length_map]
 exact k
theorem o_lenD (ht : isSlc env t = true) (hx : evC nt sl x = .p (.slice sz (l.map enc))) (k : f ⟨nt, (d, .p (.int .i64 l.length)) :: sl, h, c⟩) : opD P A env ⟨nt, sl, h, c⟩ (some d) (.call ⟨.builtin .len, #[x], #[t]⟩) ⟨f, hf⟩ := by
 obtain ⟨ti, e, h1, h2⟩ := isSlc_eq ht
 refine tiW_iff.2 ⟨ti, h1, ?_⟩
 rw [evC_eq (h := h) (c := c)] at hx
 dsimp only
 rw [h2, hx]
 simp only [lenD, List.length_map]
 exact k
theorem o_idx {i : Operand} {kk : IntKind} {n : Int} {y : α} (hy : idx l n = some y) (ht : slcSz env t sz = true) (hx : evC nt sl x = .p (.slice sz (l.map enc))) (hi : evC nt sl i = .p (.int kk n))
  (k : f ⟨nt, (d, .p (.place (enc y) 0)) :: sl, h, c⟩) : opS P A env ⟨nt, sl, h, c⟩ (some d) (.indexAddr t x i) ⟨f, hf⟩ := by
 obtain ⟨ti, e, te, h1, h2, h3, h4⟩ := slcSz_eq ht
 obtain ⟨g1, g2, g3⟩ := idx_some hy
 rw [evC_eq (h := h) (c := c)] at hx hi
 refine intW_iff.2 ⟨kk, n, hi, tiW_iff.2 ⟨ti, h1, ?_⟩⟩
 dsimp only
 rw [h2, hx]
 exact tiW_iff.2 ⟨te, h3, h4, g1, optW_iff.2 ⟨enc y, by rw [List.getElem?_map, g3]; rfl, k⟩⟩
theorem o_idxS {s : ByteArray} {i : Operand} {kk : IntKind} {n : Int} {y : UInt8} (hy : idxS s n = some y) (ht : isStr env t = true) (hx : evC nt sl x = .p (.str s)) (hi : evC nt sl i = .p (.int kk n))
  (k : f ⟨nt, (d, .p (.int .u8 y.toNat)) :: sl, h, c⟩) : opS P A env ⟨nt, sl, h, c⟩ (some d) (.index t x i) ⟨f, hf⟩ := by
 obtain ⟨ti, hti, hsh⟩ := isStr_eq ht
 rw [evC_eq (h := h) (c := c)] at hx hi
 cases n with
 | negSucc n => cases hy
 | ofNat n =>
  refine intW_iff.2 ⟨kk, _, hi, tiW_iff.2 ⟨ti, hti, Int.natCast_nonneg n, ?_⟩⟩
  dsimp only
  rw [hsh, hx]
  exact optW_iff.2 ⟨y, hy, k⟩
def bndI (nt : Nat) (sl : List (Nat × LV)) (d : Int) : Option Operand -> Option Int
 | none => some d
 | some o => match evC nt sl o with
  | .p (.int _ n) => some n
  | _ => none
theorem bndI_eq {d n : Int} {x : Option Operand} {k : Cont Int} (hb : bndI nt sl d x = some n) (hk : k.f n) : bndS d (x.map (St.eval ⟨nt, sl, h, c⟩)) k := by
 cases x with
 | none => simp only [bndI, Option.some.injEq] at hb; subst hb; exact hk
 | some o =>
  simp only [bndI, evC_eq (h := h) (c := c)] at hb
  simp only [Option.map_some]
  split at hb
  .rename_i kk m he
   simp only [Option.some.injEq] at hb
   subst hb
   rw [he]; exact hk
  .cases hb
theorem o_slc {lo hi : Option Operand} {n m : Int} {r : List α} (hr : slI l n m = some r) (ht : slcSz env t sz = true) (hx : evC nt sl x = .p (.slice sz (l.map enc)))
  (hlo : bndI nt sl 0 lo = some n) (hhi : bndI nt sl l.length hi = some m)
  (k : f ⟨nt, (d, .p (.slice sz (r.map enc))) :: sl, h, c⟩) : opS P A env ⟨nt, sl, h, c⟩ (some d) (.slice t x lo hi none) ⟨f, hf⟩ := by
 obtain ⟨ti, e, te, h1, h2, h3, h4⟩ := slcSz_eq ht
 rw [evC_eq (h := h) (c := c)] at hx
 simp only [slI] at hr
 split at hr
 .rename_i hb
  simp only [Option.some.injEq] at hr
  subst hr
  show sliceS env t _ _ _ _
  rw [hx]
  refine tiW_iff.2 ⟨ti, h1, slcW_iff.2 ⟨e, h2, tiW_iff.2 ⟨te, h3, h4, ?_⟩⟩⟩
  rw [List.length_map]
  refine bndI_eq hhi (bndI_eq hlo ⟨hb, ?_⟩)
  rw [<- List.map_take, <- List.map_drop]; exact k
 .cases hr
end
end Go.E
/- Rules for single operations: calls, what is appended, made, looked up, set against another. No condition. -/
namespace Go.E
open Go Go.RowKit
inductive LeL : List DV -> List DV -> Prop where
 | nil : LeL [] []
 | cons {a b : DV} {l m : List DV} (h : Le a b) (t : LeL l m) : LeL (a :: l) (b :: m)
theorem Le.rfl {d : DV} : Le d d := fun _ _ _ h => h
theorem LeL.rfl : ∀ {l : List DV}, LeL l l
 | [] => .nil
 | _ :: _ => .cons Le.rfl LeL.rfl
theorem LeL.len {l m : List DV} (h : LeL l m) : l.length = m.length := by induction h with
 | nil => exact Eq.refl _
 | cons _ _ ih => simp [ih]
theorem LeL.get {l m : List DV} (h : LeL l m) : ∀ (i : Nat) (a b : DV), l[i]? = some a -> m[i]? = some b -> Le a b := by
 induction h with
 | nil => intro i a b h1; simp at h1
 | cons h _ ih =>
  intro i x y h1 h2
  cases i with
  | zero => simp at h1 h2; subst h1 h2; exact h
  | succ i => exact ih i x y (by simpa using h1) (by simpa using h2)
theorem Le.tup' {l m : List DV} (h : LeL l m) : Le (.tup l) (.tup m) := Le.tup h.len h.get
theorem Le.agg' {l m : List DV} (h : LeL l m) : Le (.agg l) (.agg m) := Le.agg h.len h.get
theorem Le.nilm : Le .nilm (.map []) := fun _ _ _ hv => by cases hv; exact .mnil
theorem Le.own {α : Type} {enc : α -> List DV} {l : List α} {sz : Nat} : Le (.slice sz (((l.map enc).drop 0).take l.length)) (.slice sz (l.map enc)) := Le.of_eq (by rw [List.drop_zero, List.take_of_length_le (by simp)])
theorem Fun.le {P : Program} {k : Nat} {ds ds' : List DV} {Q : DV -> Prop} (h : Fun P k ds Q) (hl : LeL ds' ds) : Fun P k ds' Q :=
 ⟨h.enters, fun O w vs h1 h2 h3 => h.run O w vs h1 (by rw [h2, hl.len]) fun i v d hv hd => by
  have hi := (List.getElem?_eq_some_iff.1 hd).1
  have hlen := hl.len
  have hx : ds'[i]? = some (ds'[i]'(by omega)) := List.getElem?_eq_getElem _
  exact hl.get i _ d hx hd _ _ _ (h3 i v _ hv hx)⟩
theorem FunN.le {P : Program} {k : Nat} {ds ds' : List DV} {e sz : Nat} {el : List (List DV)} (h : FunN P k ds e sz el) (hl : LeL ds' ds) : FunN P k ds' e sz el :=
 ⟨h.enters, fun O w vs h1 h2 h3 => h.run O w vs h1 (by rw [h2, hl.len]) fun i v d hv hd => by
  have hi := (List.getElem?_eq_some_iff.1 hd).1
  have hlen := hl.len
  have hx : ds'[i]? = some (ds'[i]'(by omega)) := List.getElem?_eq_getElem _
  exact hl.get i _ d hx hd _ _ _ (h3 i v _ hv hx)⟩
section
variable {κ υ : Type} [BEq κ]
def assoc (m : List (κ × υ)) (x : κ) : Option υ := match m with
 | [] => none
 | p :: m => if x == p.1 then some p.2 else assoc m x
def aput (x : κ) (v : υ) : List (κ × υ) -> List (κ × υ)
 | [] => [(x, v)]
 | p :: m => if x == p.1 then (p.1, v) :: m else p :: aput x v m
structure KeyE (env : Env) (kt : Nat) (ke : κ -> DV) : Prop where
 eq : ∀ a b, keyEq (ke a) (ke b) = (a == b)
 fits : ∀ a, keyFits env kt (ke a) = true
def mapD (ke : κ -> DV) (ve : υ -> DV) (m : List (κ × υ)) : List (DV × DV) := m.map fun p => (ke p.1, ve p.2)
variable {env : Env} {kt : Nat} {ke : κ -> DV} {ve : υ -> DV}
theorem mget_mapD (hk : KeyE env kt ke) (x : κ) : ∀ m : List (κ × υ), mget (ke x) (mapD ke ve m) = (assoc m x).map ve
 | [] => by simp [mapD, mget, mfind, assoc]
 | p :: m => by
  have ih := mget_mapD hk x m
  simp only [mapD, mget] at ih
  simp only [mapD, List.map_cons, mget, mfind, hk.eq, assoc]
  by_cases h : (x == p.1) = true
  .simp [h]
  .simp only [h]
   simp only [Bool.false_eq_true, if_false, Option.map_map]
   rw [<- ih]
   cases mfind (ke x) (m.map fun p => (ke p.1, ve p.2)) <;> simp
theorem mput_mapD (hk : KeyE env kt ke) (x : κ) (v : υ) : ∀ m : List (κ × υ), mput (ke x) (ve v) (mapD ke ve m) = mapD ke ve (aput x v m)
 | [] => by simp [mapD, mput, aput]
 | p :: m => by
  have ih := mput_mapD hk x v m
  simp only [mapD] at ih
  simp only [mapD, List.map_cons, mput, hk.eq, aput]
  by_cases h : (x == p.1) = true
  .simp [h]
  .simp only [h]
   simp only [Bool.false_eq_true, if_false, List.map_cons, ih]
theorem fits_mapD (hk : KeyE env kt ke) (m : List (κ × υ)) : ((mapD ke ve m).all fun p => keyFits env kt p.1) = true := by
 simp only [mapD, List.all_map, List.all_eq_true, Function.comp]
 intro p _; exact hk.fits _
end
section
variable {β : Type}
def delF (t : Nat) : Heap -> (Heap -> Option β) -> Option β
 | [], k => k []
 | (q, u) :: l, k => match Nat.beq t q with
  | true => delF t l k
  | false => delF t l (fun r => k ((q, u) :: r))
theorem delF_eq {t : Nat} : ∀ {l : Heap} {k : Heap -> Option β}, delF t l k = k (del t l)
 | [], k => rfl
 | (q, u) :: l, k => by
  simp only [delF, del]
  by_cases h : t = q
  .subst h; simp only [Nat.beq_refl, if_true]; exact delF_eq
  .have : Nat.beq t q = false := by
    cases hb : Nat.beq t q with
    | false => rfl
    | true => exact absurd (Nat.eq_of_beq_eq_true hb) h
   rw [this, if_neg h]
   exact delF_eq
end
section
variable {P : Program} {A : Amb} {env : Env} {f : St -> Prop} {hf : Hid f} {nt : Nat} {sl : List (Nat × LV)} {h : Heap} {c : Nat} {d : Tmp}
theorem args_eq {args : List Operand} {ls : List LV} (hl : mapOpF nt sl args some = some ls) : args.map (St.eval ⟨nt, sl, h, c⟩) = ls := by
 rw [mapOpF_eq, Option.some.injEq] at hl
 rw [<- hl]
 exact List.map_congr_left fun x _ => (evC_eq (h := h) (c := c)).symm
theorem o_call {fo : Operand} {args : Array Operand} {ts : Array TypeId} {k : Nat} {caps ls : List LV} {ds : List DV} {r : DV} (hF : Fun P k ds (· = r)) (hs : r.scalar = true \/ (ls ++ caps).flatMap (ids h) = [])
  (hfn : evC nt sl fo = .fn k caps) (hl : mapOpF nt sl args.toList some = some ls) (hds : toDVall h (ls ++ caps) = some ds) (kk : f ⟨nt, (d, .p r) :: sl, h, c⟩) : opS P A env ⟨nt, sl, h, c⟩ (some d) (.call ⟨.value fo, args, ts⟩) ⟨f, hf⟩ := by
 rw [evC_eq (h := h) (c := c)] at hfn
 show fnW _ _
 rw [hfn]
 show CallC P A h c k (args.toList.map _ ++ caps) _
 rw [args_eq hl]
 exact call1 hds hF hs kk
theorem o_call2 {fo : Operand} {args : Array Operand} {ts : Array TypeId} {k : Nat} {caps ls : List LV} {ds : List DV} {r : DV} {h' : Heap} (hF : Fun P k ds (· = r)) (hs : r.scalar = false)
  (hfn : evC nt sl fo = .fn k caps) (hl : mapOpF nt sl args.toList some = some ls) (hds : toDVall h (ls ++ caps) = some ds) (hd : dels ((ls ++ caps).flatMap (ids h)) h = h') (kk : f ⟨nt, (d, .p r) :: sl, h', c⟩) : opS P A env ⟨nt, sl, h, c⟩ (some d) (.call ⟨.value fo, args, ts⟩) ⟨f, hf⟩ := by
 rw [evC_eq (h := h) (c := c)] at hfn
 show fnW _ _
 rw [hfn]
 show CallC P A h c k (args.toList.map _ ++ caps) _
 rw [args_eq hl]
 exact call2 hds hF hs hd kk
theorem o_callD {fo : Operand} {args : Array Operand} {ts : Array TypeId} {k : Nat} {caps ls : List LV} {ds : List DV} {r : DV} (hF : Fun P k ds (· = r)) (hs : r.scalar = true \/ (ls ++ caps).flatMap (ids h) = [])
  (hfn : evC nt sl fo = .fn k caps) (hl : mapOpF nt sl args.toList some = some ls) (hds : toDVall h (ls ++ caps) = some ds) (kk : f ⟨nt, (d, .p r) :: sl, h, c⟩) : opD P A env ⟨nt, sl, h, c⟩ (some d) (.call ⟨.value fo, args, ts⟩) ⟨f, hf⟩ := by
 rw [evC_eq (h := h) (c := c)] at hfn
 show fnW _ _
 rw [hfn]
 refine .inl ?_
 show DetC P h k (args.toList.map _ ++ caps) _
 rw [args_eq hl]
 exact det1 hds hF hs kk
def slcT (env : Env) (t e sz : Nat) : Bool := match env.tt t with
 | some ti => match ti.sh with
  | .slc e' => match env.tt e with
   | some te => Nat.beq e' e && (Nat.beq te.size sz && (Nat.blt 0 sz && Nat.ble te.bytes 32768))
   | none => false
  | _ => false
 | none => false
theorem slcT_eq {t e sz : Nat} (h : slcT env t e sz = true) : ∃ ti te, env.tt t = some ti /\ ti.sh = .slc e /\ env.tt e = some te /\ te.size = sz /\ 0 < sz /\ te.bytes <= 32768 := by
 unfold slcT at h
 split at h
 .rename_i ti hti
  split at h
  .rename_i e' he
   split at h
   .rename_i te hte
    simp only [Bool.and_eq_true] at h
    obtain ⟨h1, h2, h3, h4⟩ := h
    have := Nat.eq_of_beq_eq_true h1
    subst this
    exact ⟨ti, te, hti, he, hte, Nat.eq_of_beq_eq_true h2, Nat.le_of_ble_eq_true h3, Nat.le_of_ble_eq_true h4⟩
   .cases h
  .cases h
 .cases h
variable {α : Type} {enc : α -> List DV} {l m r : List α} {t e sz : Nat} {s x : Operand}
def EncOK (enc : α -> List DV) (sz : Nat) : Prop := ∀ a, (enc a).length = sz /\ (enc a).all DV.cell = true
theorem appI_some (hr : appI l m = some r) : r = l ++ m /\ l.length + m.length <= 4294967296 := by
 simp only [appI] at hr
 split at hr
 .simp only [Option.some.injEq] at hr; exact ⟨hr.symm, ‹_›⟩
 .cases hr
theorem app_bound {n b : Nat} (hb : b <= 32768) (hn : n <= 4294967296) : n * b <= 140737488355328 :=
 Nat.le_trans (Nat.mul_le_mul hn hb) (by decide)
theorem app_max {n : Nat} (hn : n <= 4294967296) : n <= maxLen := by unfold maxLen; omega
theorem o_app0 (hr : appI [] m = some r) (hen : EncOK enc sz) (hs : evC nt sl s = .p .nils) (hx : rowOf h (evC nt sl x) = some (m.map enc)) (ht : slcT env t e sz = true)
  (k : f ⟨nt, (d, .lsl c sz 0 r.length) :: sl, (c, .row e sz (r.map enc)) :: h, c + 1⟩) : opS P A env ⟨nt, sl, h, c⟩ (some d) (.call ⟨.builtin .append, #[s, x], #[t, t]⟩) ⟨f, hf⟩ := by
 obtain ⟨ti, te, h1, h2, h3, h4, h5, h6⟩ := slcT_eq ht
 obtain ⟨rfl, hn⟩ := appI_some hr
 simp only [List.length_nil, Nat.zero_add] at hn
 rw [evC_eq (h := h) (c := c)] at hs hx
 subst h4
 refine ⟨rfl, tiW_iff.2 ⟨ti, h1, slcW_iff.2 ⟨e, h2, tiW_iff.2 ⟨te, h3, h5, optW_iff.2 ⟨_, hx, ?_, ?_⟩⟩⟩⟩⟩
 .intro y hy
  obtain ⟨a, _, rfl⟩ := List.mem_map.1 hy
  exact hen a
 .rw [hs]
  simp only [appS, List.length_map]
  exact ⟨⟨app_bound h6 hn, app_max hn⟩, k⟩
theorem o_app1 {id n : Nat} {h' : Heap} (hr : appI l m = some r) (hen : EncOK enc sz) (hs : evC nt sl s = .lsl id sz 0 n) (hl : lookB id h = some (.row e sz (l.map enc))) (hn : n = l.length) (hd : delF id h some = some h')
  (hx : rowOf h (evC nt sl x) = some (m.map enc)) (ht : slcT env t e sz = true)
  (k : f ⟨nt, (d, .lsl c sz 0 r.length) :: sl, (c, .row e sz (r.map enc)) :: h', c + 1⟩) : opS P A env ⟨nt, sl, h, c⟩ (some d) (.call ⟨.builtin .append, #[s, x], #[t, t]⟩) ⟨f, hf⟩ := by
 obtain ⟨ti, te, h1, h2, h3, h4, h5, h6⟩ := slcT_eq ht
 obtain ⟨rfl, hb⟩ := appI_some hr
 rw [evC_eq (h := h) (c := c)] at hs hx
 rw [delF_eq, Option.some.injEq] at hd
 rw [lookB_eq] at hl
 subst h4 hn hd
 refine ⟨rfl, tiW_iff.2 ⟨ti, h1, slcW_iff.2 ⟨e, h2, tiW_iff.2 ⟨te, h3, h5, optW_iff.2 ⟨_, hx, ?_, ?_⟩⟩⟩⟩⟩
 .intro y hy
  obtain ⟨a, _, rfl⟩ := List.mem_map.1 hy
  exact hen a
 .rw [hs]
  simp only [appS]
  refine ⟨trivial, optW_iff.2 ⟨_, hl, ?_⟩⟩
  dsimp only
  refine rowW_iff.2 ⟨e, te.size, l.map enc, rfl, ?_⟩
  refine ⟨⟨rfl, rfl, by simp, by rw [List.length_map]; exact app_bound h6 hb, by rw [List.length_map]; exact app_max hb⟩, ?_⟩
  have e1 : ((l.map enc).drop 0).take l.length ++ m.map enc = (l ++ m).map enc := by rw [List.drop_zero, List.take_of_length_le (by simp), List.map_append]
  rw [List.length_append] at k
  simp only [e1, List.length_map]
  exact k
theorem o_idxO {i : Operand} {kk : IntKind} {n : Int} {id len : Nat} {y : α} (hy : idx l n = some y) (ht : slcSz env t sz = true) (hx : evC nt sl x = .lsl id sz 0 len) (hi : evC nt sl i = .p (.int kk n)) (hn : len = l.length)
  (k : f ⟨nt, (d, .lpe id n.toNat 0) :: sl, h, c⟩) : opS P A env ⟨nt, sl, h, c⟩ (some d) (.indexAddr t x i) ⟨f, hf⟩ := by
 obtain ⟨ti, e, te, h1, h2, h3, h4⟩ := slcSz_eq ht
 obtain ⟨g1, g2, g3⟩ := idx_some hy
 rw [evC_eq (h := h) (c := c)] at hx hi
 refine intW_iff.2 ⟨kk, n, hi, tiW_iff.2 ⟨ti, h1, ?_⟩⟩
 dsimp only
 rw [h2, hx]
 refine tiW_iff.2 ⟨te, h3, h4, ⟨g1, by omega⟩, ?_⟩
 simp only [Nat.zero_add]
 exact k
theorem o_ldO {n : Int} {id o : Nat} {y : α} {v : LV} (hy : idx l n = some y) (hx : evC nt sl x = .lpe id n.toNat o) (hl : lookB id h = some (.row e sz (l.map enc)))
  (hv : (match env.tt t with | some ti => partP ti o (enc y) some | none => none) = some v) (k : f ⟨nt, (d, v) :: sl, h, c⟩) : opS P A env ⟨nt, sl, h, c⟩ (some d) (.load t x) ⟨f, hf⟩ := by
 obtain ⟨g1, g2, g3⟩ := idx_some hy
 rw [evC_eq (h := h) (c := c)] at hx
 rw [lookB_eq] at hl
 split at hv
 .rename_i ti hti
  rw [partP_eq] at hv
  obtain ⟨u, h1, h2⟩ := Option.bind_eq_some_iff.1 hv
  simp only [Option.some.injEq] at h2
  subst h2
  refine tiW_iff.2 ⟨ti, hti, ?_⟩
  rw [hx]
  refine optW_iff.2 ⟨_, hl, ?_⟩
  dsimp only
  refine rowW_iff.2 ⟨e, sz, l.map enc, rfl, ?_⟩
  exact optW_iff.2 ⟨enc y, by rw [List.getElem?_map, g3]; rfl, optW_iff.2 ⟨u, h1, k⟩⟩
 .cases hv
theorem o_stO {n : Int} {id o : Nat} {y z : α} {v : Operand} {ls : List LV} {ds : List DV} {h' : Heap} (hy : idx l n = some y) (hx : evC nt sl x = .lpe id n.toNat o) (hl : lookB id h = some (.row e sz (l.map enc)))
  (hc : cellsF (evC nt sl v) some = some ls) (hds : allP ls = some ds) (hsz : (match env.tt t with | some ti => Nat.beq ls.length ti.size && oneAll ls | none => false) = true) (hz : setAt (enc y) o ds = enc z) (hlen : Nat.ble (o + ls.length) (enc y).length = true)
  (hu : updF id (.row e sz ((setI l n z).map enc)) h some = some h') (k : f ⟨nt, sl, h', c⟩) : opS P A env ⟨nt, sl, h, c⟩ none (.store t x v) ⟨f, hf⟩ := by
 obtain ⟨g1, g2, g3⟩ := idx_some hy
 rw [evC_eq (h := h) (c := c)] at hx hc
 rw [lookB_eq] at hl
 rw [updF_eq, Option.some.injEq] at hu
 subst hu
 split at hsz
 .rename_i ti hti
  simp only [Bool.and_eq_true] at hsz
  rw [cellsF_eq, Option.bind_eq_some_iff] at hc
  obtain ⟨ls', h1, h2⟩ := hc
  simp only [Option.some.injEq] at h2
  subst h2
  refine tiW_iff.2 ⟨ti, hti, optW_iff.2 ⟨ls', h1, ⟨Nat.eq_of_beq_eq_true hsz.1, by rw [<- oneAll_eq]; exact hsz.2⟩, ?_⟩⟩
  rw [hx]
  refine optW_iff.2 ⟨_, hl, ?_⟩
  dsimp only
  refine rowW_iff.2 ⟨e, sz, l.map enc, rfl, ?_⟩
  refine optW_iff.2 ⟨enc y, by rw [List.getElem?_map, g3]; rfl, optW_iff.2 ⟨ds, hds, Nat.le_of_ble_eq_true hlen, ?_⟩⟩
  dsimp only
  rw [hz]
  simp only [setI, List.map_set] at k
  exact k
 .cases hsz
def mpT (env : Env) (t kt et : Nat) : Bool := match env.tt t with
 | some ti => match ti.sh with
  | .mp k e => Nat.beq k kt && Nat.beq e et
  | _ => false
 | none => false
theorem mpT_eq {kt et : Nat} (h : mpT env t kt et = true) : ∃ ti, env.tt t = some ti /\ ti.sh = .mp kt et := by
 unfold mpT at h
 split at h
 .rename_i ti hti
  split at h
  .rename_i k e he
   simp only [Bool.and_eq_true] at h
   have h1 := Nat.eq_of_beq_eq_true h.1; have h2 := Nat.eq_of_beq_eq_true h.2
   subst h1 h2
   exact ⟨ti, hti, he⟩
  .cases h
 .cases h
variable {κ υ : Type} [BEq κ] {ke : κ -> DV} {ve : υ -> DV} {mp : List (κ × υ)} {kt et : Nat} {i : Operand}
theorem getD_map {o : Option υ} {z : υ} : (o.map ve).getD (ve z) = ve (o.getD z) := by cases o <;> rfl
theorem o_lk2 {y : κ} (z : υ) (hk : KeyE env kt ke) (hm : mapOf h (evC nt sl x) = some (mapD ke ve mp)) (hi : evC nt sl i = .p (ke y)) (ht : mpT env t kt et = true) (hz : (env.tt et).map TI.zeroDV = some (ve z))
  (k : f ⟨nt, (d, .tup [.p (ve ((assoc mp y).getD z)), .p (.bool (assoc mp y).isSome)]) :: sl, h, c⟩) : opS P A env ⟨nt, sl, h, c⟩ (some d) (.lookup t x i true) ⟨f, hf⟩ := by
 obtain ⟨ti, h1, h2⟩ := mpT_eq ht
 rw [evC_eq (h := h) (c := c)] at hm hi
 obtain ⟨te, h3, h4⟩ := Option.map_eq_some_iff.1 hz
 refine tiW_iff.2 ⟨ti, h1, mpW_iff.2 ⟨kt, et, h2, tiW_iff.2 ⟨te, h3, optW_iff.2 ⟨_, hm, pdW_iff.2 ⟨_, hi, ⟨hk.fits y, fits_mapD hk mp⟩, ?_⟩⟩⟩⟩⟩
 simp only [if_true, mget_mapD hk, h4, getD_map, Option.isSome_map]
 exact k
theorem o_lk1 {y : κ} (z : υ) (hk : KeyE env kt ke) (hm : mapOf h (evC nt sl x) = some (mapD ke ve mp)) (hi : evC nt sl i = .p (ke y)) (ht : mpT env t kt et = true) (hz : (env.tt et).map TI.zeroDV = some (ve z))
  (k : f ⟨nt, (d, .p (ve ((assoc mp y).getD z))) :: sl, h, c⟩) : opS P A env ⟨nt, sl, h, c⟩ (some d) (.lookup t x i false) ⟨f, hf⟩ := by
 obtain ⟨ti, h1, h2⟩ := mpT_eq ht
 rw [evC_eq (h := h) (c := c)] at hm hi
 obtain ⟨te, h3, h4⟩ := Option.map_eq_some_iff.1 hz
 refine tiW_iff.2 ⟨ti, h1, mpW_iff.2 ⟨kt, et, h2, tiW_iff.2 ⟨te, h3, optW_iff.2 ⟨_, hm, pdW_iff.2 ⟨_, hi, ⟨hk.fits y, fits_mapD hk mp⟩, ?_⟩⟩⟩⟩⟩
 simp only [Bool.false_eq_true, if_false, mget_mapD hk, h4, getD_map]
 exact k
theorem o_mup {y : κ} {z : υ} {id : Nat} {v : Operand} {h' : Heap} (hk : KeyE env kt ke) (hx : evC nt sl x = .lmap id) (hm : lookB id h = some (.map (mapD ke ve mp))) (hi : evC nt sl i = .p (ke y)) (hv : evC nt sl v = .p (ve z)) (ht : mpT env t kt et = true)
  (hu : updF id (.map (mapD ke ve (aput y z mp))) h some = some h') (k : f ⟨nt, sl, h', c⟩) : opS P A env ⟨nt, sl, h, c⟩ none (.mapUpdate t x i v) ⟨f, hf⟩ := by
 obtain ⟨ti, h1, h2⟩ := mpT_eq ht
 rw [evC_eq (h := h) (c := c)] at hx hi hv
 rw [lookB_eq] at hm
 rw [updF_eq, Option.some.injEq] at hu
 subst hu
 refine tiW_iff.2 ⟨ti, h1, mpW_iff.2 ⟨kt, et, h2, lmapW_iff.2 ⟨id, hx, optW_iff.2 ⟨_, hm, ?_⟩⟩⟩⟩
 dsimp only
 refine mapW_iff.2 ⟨mapD ke ve mp, rfl, ?_⟩
 refine pdW_iff.2 ⟨_, hi, pdW_iff.2 ⟨_, hv, ⟨hk.fits y, fits_mapD hk mp⟩, ?_⟩⟩
 rw [mput_mapD hk]
 exact k
theorem o_eqA {ks : List Sh} {xs ys : List DV} {b : Bool} {y : Operand} {t' : Nat} (hb : cellsEq xs ys = b) (hx : evC nt sl x = .p (.agg xs)) (hy : evC nt sl y = .p (.agg ys)) (hk : env.eqk t = some ks) (f1 : fits ks xs = true) (f2 : fits ks ys = true)
  (k : f ⟨nt, (d, .p (.bool b)) :: sl, h, c⟩) : opS P A env ⟨nt, sl, h, c⟩ (some d) (.binOp .eql t x y t') ⟨f, hf⟩ := by
 rw [evC_eq (h := h) (c := c)] at hx hy
 show binS env .eql t _ _ _
 rw [hx, hy]
 exact optW_iff.2 ⟨ks, hk, f1, f2, by rw [hb]; exact k⟩
theorem o_eqAD {ks : List Sh} {xs ys : List DV} {b : Bool} {y : Operand} {t' : Nat} (hb : cellsEq xs ys = b) (hx : evC nt sl x = .p (.agg xs)) (hy : evC nt sl y = .p (.agg ys)) (hk : env.eqk t = some ks) (f1 : fits ks xs = true) (f2 : fits ks ys = true)
  (k : f ⟨nt, (d, .p (.bool b)) :: sl, h, c⟩) : opD P A env ⟨nt, sl, h, c⟩ (some d) (.binOp .eql t x y t') ⟨f, hf⟩ := by
 rw [evC_eq (h := h) (c := c)] at hx hy
 show binD env .eql t _ _ _
 rw [hx, hy]
 exact optW_iff.2 ⟨ks, hk, f1, f2, by rw [hb]; exact k⟩
theorem o_neAD {ks : List Sh} {xs ys : List DV} {b : Bool} {y : Operand} {t' : Nat} (hb : cellsEq xs ys = b) (hx : evC nt sl x = .p (.agg xs)) (hy : evC nt sl y = .p (.agg ys)) (hk : env.eqk t = some ks) (f1 : fits ks xs = true) (f2 : fits ks ys = true)
  (k : f ⟨nt, (d, .p (.bool !b)) :: sl, h, c⟩) : opD P A env ⟨nt, sl, h, c⟩ (some d) (.binOp .neq t x y t') ⟨f, hf⟩ := by
 rw [evC_eq (h := h) (c := c)] at hx hy
 show binD env .neq t _ _ _
 rw [hx, hy]
 exact optW_iff.2 ⟨ks, hk, f1, f2, by rw [hb]; exact k⟩
end
end Go.E
/- Rules for a function's beginning and end, and for states that are made weaker, by unfolding alone. No condition. -/
namespace Go.E
open Go Go.RowKit
abbrev li (n : Int) : LV := .p (.int .i64 n)
abbrev lb (b : Bool) : LV := .p (.bool b)
abbrev lq (l : List DV) : LV := .p (.place l 0)
abbrev ls {α : Type} (sz : Nat) (enc : α -> List DV) (l : List α) : LV := .p (.slice sz (l.map enc))
section
variable {P : Program} {A : Amb} {env : Env}
theorem fn (hE : EnvOK P env) {k : Nat} {fn : Func} {c : Code} {ds : List DV} {d : DV} (hf : P.funcs[k]? = some fn) (hb : fn.body = some c) (hn : (fn.name == "runtime.NumGoroutine") = false) (nt : Nat) (hnt : Nat.beq fn.ntmps nt = true)
  (rs : List ResultVar) (hrs : fn.results.toList = rs) (sl : List (Nat × LV)) (hsl : initSlots 0 ds = sl) (hlen : Nat.ble ds.length nt = true)
  (h : ∀ A : Amb, (∀ id, A.μ0 id = none) -> dwp P A c (endD fun st => ∃ r, resDV env.tt rs st = some r /\ Le r d) ⟨nt, sl, [], 0⟩) : Fun P k ds (· = d) := by
 subst hsl
 exact fun_to hE hf hb hn nt (Nat.eq_of_beq_eq_true hnt) rs hrs (Nat.le_of_ble_eq_true hlen) h
theorem er {rs : List ResultVar} {st : St} {r d : DV} (h : resDV env.tt rs st = some r) (hle : Le r d) : endD (fun st => ∃ r, resDV env.tt rs st = some r /\ Le r d) .ret st := ⟨r, h, hle⟩
theorem en {rs : List ResultVar} {st : St} {r d : DV} (h : resDV env.tt rs st = some r) (hle : Le r d) : endD (fun st => ∃ r, resDV env.tt rs st = some r /\ Le r d) .normal st := ⟨r, h, hle⟩
inductive Ld1 (h : Heap) : LV -> DV -> Prop where
 | p (d : DV) : Ld1 h (.p d) d
 | own {α : Type} {enc : α -> List DV} (l : List α) {id e sz n : Nat} (hl : lookB id h = some (.row e sz (l.map enc))) (hn : n = l.length) : Ld1 h (.lsl id sz 0 n) (.slice sz (l.map enc))
 | map {id : Nat} {m : List (DV × DV)} (hl : lookB id h = some (.map m)) : Ld1 h (.lmap id) (.map m)
 | sub {α : Type} {enc : α -> List DV} (l r : List α) {id e sz off n : Nat} (hl : lookB id h = some (.row e sz (l.map enc))) (hr : off + n <= l.length /\ (l.drop off).take n = r) : Ld1 h (.lsl id sz off n) (.slice sz (r.map enc))
inductive LdL (h : Heap) : List LV -> List DV -> Prop where
 | nil : LdL h [] []
 | cons {v : LV} {d : DV} {vs : List LV} {ds : List DV} (k : Ld1 h v d) (r : LdL h vs ds) : LdL h (v :: vs) (d :: ds)
inductive LdB (h : Heap) : List LV -> List DV -> Prop where
 | nil : LdB h [] []
 | box {us : List LV} {es : List DV} {id off : Nat} {vs : List LV} {ds : List DV} (hl : lookB id h = some (.box us)) (k : LdL h us es) (r : LdB h vs ds) : LdB h (.lpb id off :: vs) (.place es off :: ds)
 | cons {v : LV} {d : DV} {vs : List LV} {ds : List DV} (k : Ld1 h v d) (r : LdB h vs ds) : LdB h (v :: vs) (d :: ds)
inductive Ld (h : Heap) : LV -> DV -> Prop where
 | one {v : LV} {d : DV} (k : Ld1 h v d) : Ld h v d
 | agg {vs : List LV} {ds : List DV} (k : LdL h vs ds) : Ld h (.agg vs) (.agg ds)
 | tup {vs : List LV} {ds : List DV} (k : LdL h vs ds) : Ld h (.tup vs) (.tup ds)
 | box {vs : List LV} {ds : List DV} {id off : Nat} (hl : lookB id h = some (.box vs)) (k : LdL h vs ds) : Ld h (.lpb id off) (.place ds off)
 | fn {f : Nat} {vs : List LV} {ds : List DV} (k : LdB h vs ds) : Ld h (.fn f vs) (.fn f ds)
inductive LdA (h : Heap) : List LV -> List DV -> Prop where
 | nil : LdA h [] []
 | cons {v : LV} {d : DV} {vs : List LV} {ds : List DV} (k : Ld h v d) (r : LdA h vs ds) : LdA h (v :: vs) (d :: ds)
theorem Ld1.eq {h : Heap} {v : LV} {d : DV} (k : Ld1 h v d) : toDV1 h v = some d := by
 cases k with
 | p => rfl
 | own l hl hn =>
  rw [lookB_eq] at hl
  subst hn
  simp only [toDV1, hl, Nat.zero_add, List.length_map, Nat.le_refl, and_self, if_true, List.drop_zero]
  rw [List.take_of_length_le (by simp)]
 | map hl => rw [lookB_eq] at hl; simp only [toDV1, hl]
 | sub l r hl hr =>
  rw [lookB_eq] at hl
  simp only [toDV1, hl, List.length_map]
  rw [if_pos ⟨trivial, hr.1⟩, <- List.map_drop, <- List.map_take, hr.2]
theorem LdL.eq {h : Heap} {vs : List LV} {ds : List DV} (k : LdL h vs ds) : toDVs h vs = some ds := by
 induction k with
 | nil => rfl
 | cons k _ ih => simp only [toDVs, k.eq, ih]
theorem Ld1.eqb {h : Heap} {v : LV} {d : DV} (k : Ld1 h v d) : toDVb h v = some d := by
 have := k.eq
 cases k <;> exact this
theorem LdB.eq {h : Heap} {vs : List LV} {ds : List DV} (k : LdB h vs ds) : toDVbs h vs = some ds := by
 induction k with
 | nil => rfl
 | box hl k _ ih => rw [lookB_eq] at hl; simp only [toDVbs, toDVb, hl, k.eq, ih, Option.map_some]
 | cons k _ ih => simp only [toDVbs, k.eqb, ih]
theorem Ld.eq {h : Heap} {v : LV} {d : DV} (k : Ld h v d) : toDV h v = some d := by
 cases k with
 | one k => cases k with
  | p => rfl
  | own l hl hn => exact Ld1.eq (.own l hl hn)
  | map hl => exact Ld1.eq (.map hl)
  | sub l r hl hr => exact Ld1.eq (.sub l r hl hr)
 | agg k => simp only [toDV, k.eq, Option.map_some]
 | tup k => simp only [toDV, k.eq, Option.map_some]
 | box hl k => rw [lookB_eq] at hl; simp only [toDV, hl, k.eq, Option.map_some]
 | fn k => simp only [toDV, k.eq, Option.map_some]
theorem LdA.eq {h : Heap} {vs : List LV} {ds : List DV} (k : LdA h vs ds) : toDVall h vs = some ds := by
 induction k with
 | nil => rfl
 | cons k _ ih => simp only [toDVall, k.eq, ih]
theorem rd1 {rs : List ResultVar} {st : St} {v : LV} {d : DV} (hr : ressE env.tt st rs = some [v]) (k : Ld st.heap v d) : resDV env.tt rs st = some d := by
 simp only [resDV, hr, k.eq]
theorem rdN {rs : List ResultVar} {st : St} {v u : LV} {vs : List LV} {ds : List DV} (hr : ressE env.tt st rs = some (v :: u :: vs)) (k : LdA st.heap (v :: u :: vs) ds) : resDV env.tt rs st = some (.tup ds) := by
 simp only [resDV, hr, k.eq, Option.map_some]
def valB (sl : List (Nat × LV)) (t : Nat) : LV := match lookB t sl with
 | some v => v
 | none => .any
theorem valB_eq {sl : List (Nat × LV)} {t : Nat} : valB sl t = getS sl t := by simp only [valB, getS, lookB_eq]; rfl
inductive OkS (gl : List (Nat × Nat)) (sl : List (Nat × LV)) : List (Nat × LV) -> Prop where
 | nil : OkS gl sl []
 | cons {t : Nat} {l : LV} {r : List (Nat × LV)} (h : valB sl t = renL gl l) (k : OkS gl sl r) : OkS gl sl ((t, l) :: r)
inductive OkH (gl : List (Nat × Nat)) (h : Heap) : Heap -> Prop where
 | nil : OkH gl h []
 | cons {id old : Nat} {o : HObj} {r : Heap} (h1 : lookB id gl = some old) (h2 : lookB old h = some (renO gl o)) (k : OkH gl h r) : OkH gl h ((id, o) :: r)
def namesS (gl : List (Nat × Nat)) : List (Nat × LV) -> Bool
 | [] => true
 | (_, l) :: r => match namesL gl l with
  | true => namesS gl r
  | false => false
def namesH (gl : List (Nat × Nat)) : Heap -> Bool
 | [] => true
 | (_, o) :: r => match namesO gl o with
  | true => namesH gl r
  | false => false
theorem saysR_of {gl : List (Nat × Nat)} {sl sl' : List (Nat × LV)} (h : OkS gl sl sl') : namesS gl sl' = true -> saysR gl sl sl' := by
 induction h with
 | nil => intro _; trivial
 | cons h _ ih =>
  intro hn
  simp only [namesS] at hn
  split at hn
  .rename_i hq; exact ⟨⟨hq, by rw [<- valB_eq]; exact h⟩, ih hn⟩
  .cases hn
theorem heapR_of {gl : List (Nat × Nat)} {h h' : Heap} (k : OkH gl h h') : namesH gl h' = true -> heapR gl h h' := by
 induction k with
 | nil => intro _; trivial
 | cons h1 h2 _ ih =>
  intro hn
  simp only [namesH] at hn
  split at hn
  .rename_i hq; exact ⟨⟨hq, _, by rw [<- lookB_eq]; exact h1, by rw [<- lookB_eq]; exact h2⟩, ih hn⟩
  .cases hn
theorem wk (gl : List (Nat × Nat)) {nt : Nat} {sl sl' : List (Nat × LV)} {h h' : Heap} {c c' : Nat} (hext : ∀ id, A.μ0 id ≠ none -> look id gl = some id) (ho : onceB gl h' c' = true) (hn : namesS gl sl' = true) (hm : namesH gl h' = true)
  (hs : OkS gl sl sl') (hh : OkH gl h h') : Weak A ⟨nt, sl, h, c⟩ ⟨nt, sl', h', c'⟩ := weak_ren gl hext ho (saysR_of hs hn) (heapR_of hh hm)
def valsB (sl : List (Nat × LV)) : List (Nat × LV) -> List LV
 | [] => []
 | (t, _) :: r => valB sl t :: valsB sl r
def rensL (gl : List (Nat × Nat)) : List (Nat × LV) -> List LV
 | [] => []
 | (_, l) :: r => renL gl l :: rensL gl r
def oldB (gl : List (Nat × Nat)) (h : Heap) (id : Nat) : Option HObj := match lookB id gl with
 | some old => lookB old h
 | none => none
def oldsB (gl : List (Nat × Nat)) (h : Heap) : Heap -> List (Option HObj)
 | [] => []
 | (id, _) :: r => oldB gl h id :: oldsB gl h r
def rensO (gl : List (Nat × Nat)) : Heap -> List (Option HObj)
 | [] => []
 | (_, o) :: r => some (renO gl o) :: rensO gl r
theorem okS_of {gl : List (Nat × Nat)} {sl : List (Nat × LV)} : ∀ {sl' : List (Nat × LV)}, valsB sl sl' = rensL gl sl' -> OkS gl sl sl'
 | [], _ => .nil
 | (_, _) :: _, h => .cons (List.cons.inj h).1 (okS_of (List.cons.inj h).2)
theorem okH_of {gl : List (Nat × Nat)} {h : Heap} : ∀ {h' : Heap}, oldsB gl h h' = rensO gl h' -> OkH gl h h'
 | [], _ => .nil
 | (id, o) :: _, e => by
  have e1 := (List.cons.inj e).1
  unfold oldB at e1
  split at e1
  .rename_i old hl; exact .cons hl e1 (okH_of (List.cons.inj e).2)
  .cases e1
def allB (gl : List (Nat × Nat)) (sl' : List (Nat × LV)) (h' : Heap) (c' : Nat) : Bool := match onceB gl h' c' with
 | true => match namesS gl sl' with
  | true => namesH gl h'
  | false => false
 | false => false
theorem allB_of {gl : List (Nat × Nat)} {sl' : List (Nat × LV)} {h' : Heap} {c' : Nat} (h : allB gl sl' h' c' = true) : onceB gl h' c' = true /\ namesS gl sl' = true /\ namesH gl h' = true := by
 unfold allB at h
 split at h
 .split at h
  .exact ⟨‹_›, ‹_›, h⟩
  .cases h
 .cases h
def gi : Nat -> List (Nat × Nat) -> List (Nat × Nat)
 | 0, l => l
 | n + 1, l => gi n ((n, n) :: l)
theorem wf {nt : Nat} {sl sl' : List (Nat × LV)} {h h' : Heap} {c c' : Nat} (hA : ∀ id, A.μ0 id = none) (gl : List (Nat × Nat)) (ha : allB gl sl' h' c' = true) (hs : valsB sl sl' = rensL gl sl') (hh : oldsB gl h h' = rensO gl h') : Weak A ⟨nt, sl, h, c⟩ ⟨nt, sl', h', c'⟩ :=
 wk gl (fun id h => absurd (hA id) h) (allB_of ha).1 (allB_of ha).2.1 (allB_of ha).2.2 (okS_of hs) (okH_of hh)
theorem free (hA : ∀ id, A.μ0 id = none) (gl : List (Nat × Nat)) : ∀ id, A.μ0 id ≠ none -> look id gl = some id := fun id h => absurd (hA id) h
section
variable {σ Ans : Type} {S : σ -> St} {Q : Ans -> Exit -> St -> Prop} {st : St}
theorem lpn {s : σ} (hw : Weak A st (S s)) : LP A S Q (.inl s) .normal st := ⟨rfl, hw⟩
theorem lpx {a : Ans} {id : Nat} (k : Q a (.exit id) st) : LP A S Q (.inr a) (.exit id) st := ⟨nofun, k⟩
theorem lpt {a : Ans} (k : Q a .ret st) : LP A S Q (.inr a) .ret st := ⟨nofun, k⟩
theorem npn {s : σ} (hw : Weak A st (S s)) : NP A S s .normal st := ⟨rfl, hw⟩
end
theorem mp {σ Ans : Type} {o : Option Ans} {b : σ ⊕ Ans} (h : o.map .inr = some b) : ∃ a, o = some a /\ b = .inr a := by
 cases o with
 | none => cases h
 | some a => exact ⟨a, rfl, (Option.some.inj h).symm⟩
theorem mps {σ Ans : Type} {x : Ans} {b : σ ⊕ Ans} (h : some (.inr x) = some b) : ∃ a, some x = some a /\ b = .inr a := ⟨x, rfl, (Option.some.inj h).symm⟩
end
end Go.E
/- Scopes, slices set against nil, functions walked where they are called (o_in), slices handed back (FunN). No condition. -/
namespace Go.E
open Go Go.RowKit
section
variable {α : Type} [DecidableEq α]
def agree (a b : Option α) : Option α := if a = b then a else none
theorem agree_some {a b : Option α} {x : α} (h : agree a b = some x) : a = some x /\ b = some x := by
 unfold agree at h
 split at h
 .rename_i e; exact ⟨h, e ▸ h⟩
 .cases h
def nilS {β : Type} (l : List β) (a b : Option α) : Option α := match l with
 | [] => agree a b
 | _ :: _ => b
end
section
variable {P : Program} {A : Amb} {env : Env} {st : St}
def scD (Q : Exit -> St -> Prop) : Exit -> St -> Prop
 | .goto _, _ => False
 | e, st => Q e st
theorem sc {c : Code} {Q : Exit -> St -> Prop} (h : dwp P A c (scD Q) st) : dwp P A (.scope c) Q st := fun a w hR =>
 wp_scope_straight (wp_mono (h a w hR) fun e a' w' ⟨st', hR', q⟩ => by
  cases e <;> first | exact q.elim | exact ⟨st', hR', q⟩)
theorem sc_r {Q : Exit -> St -> Prop} (h : Q .ret st) : scD Q .ret st := h
theorem sc_x {Q : Exit -> St -> Prop} {id : Nat} (h : Q (.exit id) st) : scD Q (.exit id) st := h
section
variable {f : St -> Prop} {hf : Hid f} {nt : Nat} {sl : List (Nat × LV)} {h : Heap} {c : Nat} {α Ans : Type} [DecidableEq Ans] {enc : α -> List DV} {l : List α} {d : Tmp} {t t' sz : Nat} {x y : Operand} {p q : Option Ans} {a : Ans}
theorem o_nilE (hh : nilS l p q = some a) (ht : isSlc env t = true) (hx : evC nt sl x = .p (.slice sz (l.map enc))) (hy : evC nt sl y = .p .nils)
  (k1 : p = some a -> f ⟨nt, (d, .p (.bool true)) :: sl, h, c⟩) (k2 : q = some a -> f ⟨nt, (d, .p (.bool false)) :: sl, h, c⟩) : opS P A env ⟨nt, sl, h, c⟩ (some d) (.binOp .eql t x y t') ⟨f, hf⟩ := by
 obtain ⟨ti, e, h1, h2⟩ := isSlc_eq ht
 rw [evC_eq (h := h) (c := c)] at hx hy
 show binS env .eql t _ _ _
 rw [hx, hy]
 refine tiW_iff.2 ⟨ti, h1, slcW_iff.2 ⟨e, h2, ?_⟩⟩
 intro r hr
 cases l with
 | nil =>
  obtain ⟨g1, g2⟩ := agree_some hh
  cases r with
  | true => exact k1 g1
  | false => exact k2 g2
 | cons z l => rw [hr (by simp)]; exact k2 hh
end
def resLV (tt : Nat -> Option TI) (rs : List ResultVar) (st : St) : Option LV :=
 match ressE tt st rs with
 | some [l] => some l
 | some ls => some (.tup ls)
 | none => none
def initL : Nat -> List LV -> List (Nat × LV)
 | _, [] => []
 | n, d :: ds => (n, d) :: initL (n + 1) ds
theorem look_initL : ∀ (ds : List LV) (n t : Nat), look t (initL n ds) = if n <= t then ds[t - n]? else none
 | [], n, t => by simp [initL, look]
 | d :: ds, n, t => by
  simp only [initL, look]
  by_cases e : t = n
  .subst e; simp
  .rw [if_neg e, look_initL ds (n + 1) t]
   by_cases h : n + 1 <= t
   .rw [if_pos h, if_pos (by omega), show t - n = t - (n + 1) + 1 by omega, List.getElem?_cons_succ]
   .rw [if_neg h, if_neg (by omega)]
theorem resLV_sound (hE : EnvOK P env) {A : Amb} {μ : Nat -> Option Loc} {F : Nat -> Prop} {st : St} {a : Act} {w : World} (hs : ∀ x, LRel (Own A μ st.heap) μ w (a.eval x) (st.eval x)) (hh : HRel A μ st.heap F w) {fn : Func} {r : LV} (h : resLV env.tt fn.results.toList st = some r) :
  ∃ v, (results fn a.tmps).run P w = .ok v w /\ LRel (Own A μ st.heap) μ w v r := by
 unfold resLV at h
 cases hr : ressE env.tt st fn.results.toList with
 | none => rw [hr] at h; cases h
 | some ls =>
  rw [hr] at h
  obtain ⟨vs, g1, g2, g3⟩ := ressE_sound (P := P) hE hs hh hr
  have hrun := results_run g1
  match ls, vs, g2 with
  | [], [], _ => cases h; exact ⟨_, hrun, .tup _ _ rfl (by simp)⟩
  | [l], [v], _ => simp only [Option.some.injEq] at h; subst h; exact ⟨_, hrun, g3 0 v l rfl rfl⟩
  | l :: m :: ls, u :: v :: vs, g2 => simp only [Option.some.injEq] at h; subst h; exact ⟨_, hrun, .tup _ _ (by simpa using g2) fun i x d hx hd => g3 i x d (by simpa using hx) hd⟩
theorem dwp_end {c : Code} {Q : Exit -> St -> Prop} (h : dwp P A c (fun e s => ∃ s', Weak A s s' /\ Q e s') st) : dwp P A c Q st := fun a w hR =>
 wp_mono (h a w hR) fun _ a' w' ⟨_, hR', s', hw, q⟩ => ⟨s', hw a' w' hR', q⟩
theorem callC_in (hE : EnvOK P env) {k : Nat} {fn : Func} {cd : Code} (hf : P.funcs[k]? = some fn) (hb : fn.body = some cd) (hn : (fn.name == "runtime.NumGoroutine") = false) (nt : Nat) (hnt : fn.ntmps = nt) (rs : List ResultVar) (hrs : fn.results.toList = rs)
  {h : Heap} {ctr : Nat} {args : List LV} (hlen : args.length <= nt) {K : LV -> Heap -> Nat -> Prop}
  (body : ∀ A' : Amb, (∀ id, A'.μ0 id ≠ none -> id < ctr) -> dwp P A' cd (endD fun st => ∃ l, resLV env.tt rs st = some l /\ K l st.heap st.ctr) ⟨nt, initL 0 args, h, ctr⟩) : CallW P A h ctr k args K := by
 subst hnt hrs
 refine ⟨enters_of hf hb hn, fun μ w vs hh hsz hr => ?_⟩
 have hlt : ∀ id loc, μ id = some loc -> id < ctr := by
  intro id loc hm
  by_cases hi : id < ctr
  .exact hi
  .rw [hh.fresh id (by simp only [Fr]; omega)] at hm; cases hm
 let A' : Amb := ⟨w, A.O, Mine μ h, fun id => if id < ctr then μ id else none, fun b hb' => ⟨Nat.lt_of_lt_of_le (A.hO b hb').1 hh.size, by
  rintro ⟨id, o, loc, h1, h2, h3, rfl⟩
  exact (hh.base id o loc h1 h2 h3).2.1 hb'⟩⟩
 have hA' : ∀ id, A'.μ0 id ≠ none -> id < ctr := by
  intro id hid
  by_cases hi : id < ctr
  .exact hi
  .simp [A', hi] at hid
 have hown : ∀ b, Own A' μ h b ↔ Own A μ h b := fun b => Iff.rfl
 have hh' : HRel A' μ h (Fr ctr) w := ⟨hh.obj, hh.inj, hh.fresh, fun id o loc h1 h2 h3 => ⟨(hh.base id o loc h1 h2 h3).1, (hh.base id o loc h1 h2 h3).2.1, .inr ⟨id, o, loc, h1, h2, h3, rfl⟩⟩, Nat.le_refl _, fun _ _ _ => rfl, rfl, rfl, rfl, fun id loc hm => by
  simp only [A'] at hm
  split at hm
  .exact hm
  .cases hm⟩
 have hR : R A' ⟨fn.ntmps, initL 0 args, h, ctr⟩ { tmps := vs ++ Array.replicate (fn.ntmps - vs.size) undef, defers := [] } w := by
  refine ⟨⟨μ, hh', fun t ht => ?_⟩, by simp; omega, rfl⟩
  simp only [getS, look_initL, Nat.zero_le, if_true, Nat.sub_zero]
  by_cases hlt' : t < args.length
  .have hv : t < vs.size := by omega
   have e : args[t]? = some args[t] := by simp [hlt']
   rw [e]
   have e2 : (vs ++ Array.replicate (fn.ntmps - vs.size) undef).getD t undef = vs[t] := by
    rw [Array.getD_eq_getD_getElem?, Array.getElem?_append_left hv]; simp [hv]
   rw [e2]
   exact hr t _ _ (by simp [hv]) e
  .have e : args[t]? = none := by simp; omega
   rw [e]; exact .any _
 refine calls_of_wp hf hb (wp_mono (body A' hA' _ _ hR) ?_)
 rintro e a' w' ⟨st', ⟨⟨μ', hh2, hs⟩, hnt, hdef⟩, hq⟩
 have fin : (∃ l, resLV env.tt fn.results.toList st' = some l /\ K l st'.heap st'.ctr) -> a'.defers = [] /\ ∃ v, (results fn a'.tmps).run P w' = .ok v w' /\
   ∃ u l h' c' μ', Ending.returned v = .returned u /\ K l h' c' /\ HRel A μ' h' (Fr c') w' /\ LRel (Own A μ' h') μ' w' u l /\ ∀ v x, LRel (Own A μ h) μ w v x -> LRel (Own A μ' h') μ' w' v x := by
  rintro ⟨l, h1, h2⟩
  obtain ⟨v, g1, g2⟩ := resLV_sound (P := P) hE (fun x => eval_rel hs x) hh2 h1
  have mineof : ∀ b, b < w.heap.size -> Mine μ' st'.heap b -> Mine μ h b := by
   rintro b hb' ⟨id, o, loc, k1, k2, k3, rfl⟩
   rcases (hh2.base id o loc k1 k2 k3).2.2 with hb2 | hb2
   .exact absurd hb2 (by show ¬ w.heap.size <= _; omega)
   .exact hb2
  have keepμ' : ∀ id loc, μ id = some loc -> μ' id = some loc := fun id loc hm => hh2.ext id loc (by simp only [A']; rw [if_pos (hlt id loc hm)]; exact hm)
  refine ⟨hdef, v, g1, v, l, st'.heap, st'.ctr, μ', rfl, h2, ⟨hh2.obj, hh2.inj, hh2.fresh, fun id o loc k1 k2 k3 => ⟨(hh2.base id o loc k1 k2 k3).1, (hh2.base id o loc k1 k2 k3).2.1, ?_⟩, Nat.le_trans hh.size hh2.size, fun b hb' hnf => ?_, hh2.os.trans hh.os, hh2.tape.trans hh.tape, hh2.output.trans hh.output, fun id loc hm => keepμ' id loc (hh.ext id loc hm)⟩, g2, fun v x hv => hv.mono ⟨hh2.size, fun b hb' hno => hh2.block b hb' fun hm => hno (.inr hm)⟩ (fun b hb' ho => ?_) keepμ'⟩
  .rcases (hh2.base id o loc k1 k2 k3).2.2 with hb2 | ⟨id2, o2, loc2, m1, m2, m3, m4⟩
   .exact .inl (Nat.le_trans hh.size hb2)
   .rw [<- m4]; exact (hh.base id2 o2 loc2 m1 m2 m3).2.2
  .have hnm : ¬ Mine μ h b := by
    rintro ⟨id2, o2, loc2, m1, m2, m3, rfl⟩
    rcases (hh.base id2 o2 loc2 m1 m2 m3).2.2 with hb2 | hb2
    .omega
    .exact hnf hb2
   rw [hh2.block b (Nat.lt_of_lt_of_le hb' hh.size) hnm]
   exact hh.block b hb' hnf
  .rcases ho with ho | ho
   .exact .inl ho
   .exact .inr (mineof b hb' ho)
 cases e with
 | normal => exact fin hq
 | ret => exact fin hq
 | _ => exact hq.elim
def IP (tt : Nat -> Option TI) (rs : List ResultVar) (A : Amb) (L : LV) (H : Heap) (C : Nat) (e : Exit) (st : St) : Prop :=
 ∃ s', Weak A st s' /\ endD (fun s => resLV tt rs s = some L /\ s.heap = H /\ s.ctr = C) e s'
theorem ipr {rs : List ResultVar} {L : LV} {nt C : Nat} {sl : List (Nat × LV)} {H : Heap} (hw : Weak A st ⟨nt, sl, H, C⟩) (hr : resLV env.tt rs ⟨nt, sl, H, C⟩ = some L) : IP env.tt rs A L H C .ret st := ⟨_, hw, hr, rfl, rfl⟩
theorem ipn {rs : List ResultVar} {L : LV} {nt C : Nat} {sl : List (Nat × LV)} {H : Heap} (hw : Weak A st ⟨nt, sl, H, C⟩) (hr : resLV env.tt rs ⟨nt, sl, H, C⟩ = some L) : IP env.tt rs A L H C .normal st := ⟨_, hw, hr, rfl, rfl⟩
section
variable {f : St -> Prop} {hf : Hid f} {nt : Nat} {sl : List (Nat × LV)} {h : Heap} {c : Nat} {σ Ans : Type}
theorem o_in (hE : EnvOK P env) (L : σ -> LV) (H : σ -> Heap) (C : Nat) {sp : Option σ} {rest : σ -> Option Ans} {a : Ans} {dst : Option Tmp} {fo : Operand} {args : Array Operand} {ts : Array TypeId} {k : Nat} {fn : Func} {cd : Code} {caps ls : List LV}
  (hh : sp.bind rest = some a) (hfun : P.funcs[k]? = some fn) (nt' : Nat) (rs : List ResultVar) (sl' : List (Nat × LV)) (hb : fn.body = some cd) (hn : (fn.name == "runtime.NumGoroutine") = false) (hnt : Nat.beq fn.ntmps nt' = true) (hrs : fn.results.toList = rs)
  (hfn : evC nt sl fo = .fn k caps) (hl : mapOpF nt sl args.toList some = some ls) (hlen : Nat.ble (ls ++ caps).length nt' = true) (hsl : initL 0 (ls ++ caps) = sl')
  (body : ∀ A : Amb, (∀ id, A.μ0 id ≠ none -> id < c) -> ∀ t, sp = some t -> dwp P A cd (IP env.tt rs A (L t) (H t) C) ⟨nt', sl', h, c⟩)
  (kk : ∀ t, rest t = some a -> f (match dst with | some d => ⟨nt, (d, L t) :: sl, H t, C⟩ | none => ⟨nt, sl, H t, C⟩)) : opS P A env ⟨nt, sl, h, c⟩ dst (.call ⟨.value fo, args, ts⟩) ⟨f, hf⟩ := by
 obtain ⟨t, h1, h2⟩ := bd hh
 rw [evC_eq (h := h) (c := c)] at hfn
 show fnW _ _
 rw [hfn]
 show CallC P A h c k (args.toList.map _ ++ caps) _
 rw [args_eq hl]
 subst hsl
 refine callC_in hE hfun hb hn nt' (Nat.eq_of_beq_eq_true hnt) rs hrs (Nat.le_of_ble_eq_true hlen) fun A' hA' => ?_
 have := dwp_end (body A' hA' t h1)
 refine dwp_mono this fun e s q => ?_
 have fin : (resLV env.tt rs s = some (L t) /\ s.heap = H t /\ s.ctr = C) -> ∃ l, resLV env.tt rs s = some l /\ f (St.go ⟨nt, sl, h, c⟩ dst l s.heap s.ctr) := by
  rintro ⟨q1, q2, q3⟩
  refine ⟨_, q1, ?_⟩
  rw [q2, q3, go_go]
  have := kk t h2
  cases dst <;> exact this
 cases e <;> first | exact fin q | exact q.elim
end
def keepB : Nat -> List (Nat × Nat) -> Bool
 | 0, _ => true
 | n + 1, gl => match lookB n gl with
  | some m => match Nat.beq n m with
   | true => keepB n gl
   | false => false
  | none => false
theorem keepB_eq : ∀ {n : Nat} {gl : List (Nat × Nat)}, keepB n gl = true -> ∀ i, i < n -> look i gl = some i
 | 0, _, _, i, h => by omega
 | n + 1, gl, hk, i, hi => by
  simp only [keepB] at hk
  split at hk
  .rename_i m hm
   split at hk
   .rename_i hb
    have := Nat.eq_of_beq_eq_true hb
    subst this
    by_cases e : i = n
    .subst e; rw [<- lookB_eq]; exact hm
    .exact keepB_eq hk i (by omega)
   .cases hk
  .cases hk
theorem kept {n : Nat} (hA : ∀ id, A.μ0 id ≠ none -> id < n) (gl : List (Nat × Nat)) (hk : keepB n gl = true) : ∀ id, A.μ0 id ≠ none -> look id gl = some id := fun id h => keepB_eq hk id (hA id h)
theorem wj {n nt : Nat} {sl sl' : List (Nat × LV)} {h h' : Heap} {c c' : Nat} (hA : ∀ id, A.μ0 id ≠ none -> id < n) (gl : List (Nat × Nat)) (hk : keepB n gl = true) (ha : allB gl sl' h' c' = true) (hs : valsB sl sl' = rensL gl sl') (hh : oldsB gl h h' = rensO gl h') : Weak A ⟨nt, sl, h, c⟩ ⟨nt, sl', h', c'⟩ :=
 wk gl (kept hA gl hk) (allB_of ha).1 (allB_of ha).2.1 (allB_of ha).2.2 (okS_of hs) (okH_of hh)
section
variable {f : St -> Prop} {hf : Hid f} {nt : Nat} {sl : List (Nat × LV)} {h : Heap} {c : Nat} {d : Tmp} {α : Type} {enc : α -> List DV}
theorem o_callN {fo : Operand} {args : Array Operand} {ts : Array TypeId} {k e sz : Nat} {caps ls : List LV} {ds : List DV} {r : List α} (hF : FunN P k ds e sz (r.map enc))
  (hs : (ls ++ caps).flatMap (ids h) = []) (hfn : evC nt sl fo = .fn k caps) (hl : mapOpF nt sl args.toList some = some ls) (hds : toDVall h (ls ++ caps) = some ds)
  (kk : f ⟨nt, (d, .lsl c sz 0 r.length) :: sl, (c, .row e sz (r.map enc)) :: h, c + 1⟩) : opS P A env ⟨nt, sl, h, c⟩ (some d) (.call ⟨.value fo, args, ts⟩) ⟨f, hf⟩ := by
 rw [evC_eq (h := h) (c := c)] at hfn
 show fnW _ _
 rw [hfn]
 show CallC P A h c k (args.toList.map _ ++ caps) _
 rw [args_eq hl]
 refine callN hds hF hs ?_
 rw [List.length_map]
 exact kk
theorem o_callNO {fo : Operand} {args : Array Operand} {ts : Array TypeId} {k e sz : Nat} {caps ls : List LV} {ds : List DV} {r : List α} (hF : FunN P k ds e sz (r.map enc)) (hw : env.own = true)
  (hs : (ls ++ caps).flatMap (ids h) = []) (hfn : evC nt sl fo = .fn k caps) (hl : mapOpF nt sl args.toList some = some ls) (hds : toDVall h (ls ++ caps) = some ds)
  (kk : f ⟨nt, (d, .lsl c sz 0 r.length) :: sl, (c, .row e sz (r.map enc)) :: h, c + 1⟩) : opD P A env ⟨nt, sl, h, c⟩ (some d) (.call ⟨.value fo, args, ts⟩) ⟨f, hf⟩ := by
 rw [evC_eq (h := h) (c := c)] at hfn
 show fnW _ _
 rw [hfn]
 refine .inr ⟨hw, ds, e, sz, r.map enc, ?_, hF, ?_, ?_⟩
 .show toDVall h (args.toList.map _ ++ caps) = _
  rw [args_eq hl]; exact hds
 .show freeF (List.flatMap _ (args.toList.map _ ++ caps)) _
  rw [args_eq hl]; exact .inl hs
 .show f ⟨nt, (d, .lsl c sz 0 (r.map enc).length) :: sl, _, _⟩
  rw [List.length_map]
  exact kk
theorem fnN {k : Nat} {fn : Func} {cd : Code} {ds : List DV} {e sz : Nat} {r : List α} (hen : EncOK enc sz) (hf : P.funcs[k]? = some fn) (hb : fn.body = some cd) (hn : (fn.name == "runtime.NumGoroutine") = false) (nt : Nat) (hnt : Nat.beq fn.ntmps nt = true)
  (t : Nat) (hrs : fn.results.toList = [.tmp t]) (sl : List (Nat × LV)) (hsl : initSlots 0 ds = sl) (hlen : Nat.ble ds.length nt = true)
  (h : ∀ A : Amb, (∀ id, A.μ0 id = none) -> dwp P A cd (endN t e sz (r.map enc)) ⟨nt, sl, [], 0⟩) : FunN P k ds e sz (r.map enc) := by
 subst hsl
 refine funN_of hf hb hn nt (Nat.eq_of_beq_eq_true hnt) t hrs (Nat.le_of_ble_eq_true hlen) (fun x hx => ?_) h
 obtain ⟨a, _, rfl⟩ := List.mem_map.1 hx
 exact (hen a).1
theorem erN {t e sz id n : Nat} {r : List α} (hv : evC nt sl (.tmp t) = .lsl id sz 0 n) (hl : lookB id h = some (.row e sz (r.map enc))) (hn : n = r.length) : endN t e sz (r.map enc) .ret ⟨nt, sl, h, c⟩ := by
 rw [evC_eq (h := h) (c := c)] at hv
 rw [lookB_eq] at hl
 refine .inl ⟨id, ?_, hl⟩
 rw [hv, hn, List.length_map]
theorem erNn {t e sz : Nat} (hv : evC nt sl (.tmp t) = .p .nils) : endN t e sz (([] : List α).map enc) .ret ⟨nt, sl, h, c⟩ := by
 rw [evC_eq (h := h) (c := c)] at hv
 exact .inr ⟨hv, rfl⟩
end
end
end Go.E
/- Rules for single operations: arrays, division, a nil slice as an empty one. No condition. -/
namespace Go.E
open Go Go.RowKit
section
variable {P : Program} {A : Amb} {env : Env} {f : St -> Prop} {hf : Hid f} {nt : Nat} {sl : List (Nat × LV)} {h : Heap} {c : Nat} {d : Tmp} {α : Type} {l : List α} {t : Nat} {x i : Operand}
theorem setI_len {α : Type} (l : List α) (n : Int) (z : α) : (setI l n z).length = l.length := by simp [setI]
def arrE (env : Env) (t m : Nat) : Bool := match env.tt t with
 | some ti => match ti.sh with
  | .arr n e => match env.tt e with
   | some te => match te.sh with
    | .struct _ | .arr _ _ => false
    | _ => Nat.beq n m && Nat.beq te.size 1
   | none => false
  | _ => false
 | none => false
theorem arrE_eq {t m : Nat} (h : arrE env t m = true) : ∃ ti e te, env.tt t = some ti /\ ti.sh = .arr m e /\ env.tt e = some te /\ te.size = 1 /\ te.sh.isAgg = false := by
 unfold arrE at h
 split at h
 .rename_i ti hti
  split at h
  .rename_i n e he
   split at h
   .rename_i te hte
    split at h
    .cases h
    .cases h
    .rename_i k1 k2
     simp only [Bool.and_eq_true] at h
     have h1 := Nat.eq_of_beq_eq_true h.1
     subst h1
     refine ⟨ti, e, te, hti, he, hte, Nat.eq_of_beq_eq_true h.2, ?_⟩
     cases hq : te.sh <;> first | rfl | exact absurd hq (k1 _) | exact absurd hq (k2 _ _)
   .cases h
  .cases h
 .cases h
theorem o_ixP {n : Int} {kk : IntKind} {id : Nat} {y : α} (hy : idx l n = some y) (ht : arrE env t l.length = true) (hx : evC nt sl x = .lpb id 0) (hi : evC nt sl i = .p (.int kk n)) (_ : True = True)
  (k : f ⟨nt, (d, .lpb id n.toNat) :: sl, h, c⟩) : opS P A env ⟨nt, sl, h, c⟩ (some d) (.indexAddr t x i) ⟨f, hf⟩ := by
 obtain ⟨ti, e, te, h1, h2, h3, h4, _⟩ := arrE_eq ht
 obtain ⟨g1, g2, g3⟩ := idx_some hy
 rw [evC_eq (h := h) (c := c)] at hx hi
 refine intW_iff.2 ⟨kk, n, hi, tiW_iff.2 ⟨ti, h1, ?_⟩⟩
 dsimp only
 rw [h2, hx]
 refine tiW_iff.2 ⟨te, h3, ⟨g1, by omega⟩, ?_⟩
 simp only [Nat.zero_add, h4, Nat.mul_one]
 exact k
def cellT (env : Env) (t : Nat) : Bool := match env.tt t with
 | some ti => match ti.sh with
  | .struct _ | .arr _ _ => false
  | _ => true
 | none => false
theorem cellT_eq {t : Nat} (h : cellT env t = true) : ∃ ti, env.tt t = some ti /\ ti.sh.isAgg = false := by
 unfold cellT at h
 split at h
 .rename_i ti hti
  refine ⟨ti, hti, ?_⟩
  split at h
  .cases h
  .cases h
  .rename_i k1 k2
   cases hq : ti.sh <;> first | rfl | exact absurd hq (k1 _) | exact absurd hq (k2 _ _)
 .cases h
theorem o_ldX {n : Int} {id : Nat} {y : α} {g : α -> LV} (hy : idx l n = some y) (hx : evC nt sl x = .lpb id n.toNat) (hl : lookB id h = some (.box (l.map g))) (ht : cellT env t = true) (_ : True = True)
  (k : f ⟨nt, (d, g y) :: sl, h, c⟩) : opS P A env ⟨nt, sl, h, c⟩ (some d) (.load t x) ⟨f, hf⟩ := by
 obtain ⟨ti, h1, h2⟩ := cellT_eq ht
 obtain ⟨g1, g2, g3⟩ := idx_some hy
 rw [evC_eq (h := h) (c := c)] at hx
 rw [lookB_eq] at hl
 refine tiW_iff.2 ⟨ti, h1, ?_⟩
 rw [hx]
 refine optW_iff.2 ⟨_, hl, ?_⟩
 dsimp only
 refine boxW_iff.2 ⟨_, rfl, ?_⟩
 refine optW_iff.2 ⟨g y, ?_, k⟩
 simp only [partE, h2, Bool.false_eq_true, if_false, List.getElem?_map, g3, Option.map_some]
theorem o_ixA {n : Int} {kk : IntKind} {y : α} {g : α -> DV} (hy : idx l n = some y) (ht : arrE env t l.length = true) (hx : evC nt sl x = .p (.agg (l.map g))) (hi : evC nt sl i = .p (.int kk n)) (_ : True = True)
  (k : f ⟨nt, (d, .p (g y)) :: sl, h, c⟩) : opS P A env ⟨nt, sl, h, c⟩ (some d) (.index t x i) ⟨f, hf⟩ := by
 obtain ⟨ti, e, te, h1, h2, h3, h4, h5⟩ := arrE_eq ht
 obtain ⟨g1, g2, g3⟩ := idx_some hy
 rw [evC_eq (h := h) (c := c)] at hx hi
 refine intW_iff.2 ⟨kk, n, hi, tiW_iff.2 ⟨ti, h1, g1, ?_⟩⟩
 dsimp only
 rw [h2, hx]
 refine tiW_iff.2 ⟨te, h3, by show n < (l.length : Int); omega, optW_iff.2 ⟨.p (g y), ?_, k⟩⟩
 simp only [partE, h5, Bool.false_eq_true, if_false, h4, Nat.mul_one, List.map_map, List.getElem?_map, g3, Option.map_some, Function.comp]
theorem o_quoU {a b r : Int} {y : Operand} {t' : Nat} (hr : divU a b = some r) (hx : evC nt sl x = .p (.int .u8 a)) (hy : evC nt sl y = .p (.int .u8 b)) (k : f ⟨nt, (d, .p (.int .u8 r)) :: sl, h, c⟩) :
  opS P A env ⟨nt, sl, h, c⟩ (some d) (.binOp .quo t x y t') ⟨f, hf⟩ := by
 rw [evC_eq (h := h) (c := c)] at hx hy
 simp only [divU] at hr
 split at hr
 .cases hr
 .rename_i hb
  simp only [Option.some.injEq] at hr
  subst hr
  show binS env .quo t _ _ _
  rw [hx, hy]
  exact ⟨rfl, hb, by rw [intBin, if_neg hb]; exact k⟩
theorem o_rem {kk : IntKind} {a b r : Int} {y : Operand} {t' : Nat} (hr : modI a b = some r) (hx : evC nt sl x = .p (.int kk a)) (hy : evC nt sl y = .p (.int kk b)) (k : f ⟨nt, (d, .p (.int kk r)) :: sl, h, c⟩) :
  opS P A env ⟨nt, sl, h, c⟩ (some d) (.binOp .rem t x y t') ⟨f, hf⟩ := by
 rw [evC_eq (h := h) (c := c)] at hx hy
 simp only [modI] at hr
 split at hr
 .cases hr
 .rename_i hb
  simp only [Option.some.injEq] at hr
  subst hr
  show binS env .rem t _ _ _
  rw [hx, hy]
  exact ⟨rfl, hb, by rw [intBin, if_neg hb]; exact k⟩
theorem o_remD {kk : IntKind} {a b r : Int} {y : Operand} {t' : Nat} (hr : modI a b = some r) (hx : evC nt sl x = .p (.int kk a)) (hy : evC nt sl y = .p (.int kk b)) (k : f ⟨nt, (d, .p (.int kk r)) :: sl, h, c⟩) :
  opD P A env ⟨nt, sl, h, c⟩ (some d) (.binOp .rem t x y t') ⟨f, hf⟩ := by
 rw [evC_eq (h := h) (c := c)] at hx hy
 simp only [modI] at hr
 split at hr
 .cases hr
 .rename_i hb
  simp only [Option.some.injEq] at hr
  subst hr
  show binD env .rem t _ _ _
  rw [hx, hy]
  exact ⟨rfl, hb, by rw [intBin, if_neg hb]; exact k⟩
section
variable {κ υ : Type} [BEq κ] {ke : κ -> DV} {ve : υ -> DV} {mp : List (κ × υ)} {kt et : Nat}
def aidx (m : List (κ × υ)) (x : κ) : Nat := match m with
 | [] => 0
 | p :: m => if x == p.1 then 0 else aidx m x + 1
def ament (m : List (κ × υ)) (x : κ) (z : υ) : List (κ × υ) := match m with
 | [] => [(x, z)]
 | p :: m => if x == p.1 then p :: m else p :: ament m x z
theorem mfind_mapD (hk : KeyE env kt ke) (x : κ) : ∀ m : List (κ × υ), (mfind (ke x) (mapD ke ve m)).map (·.1) = if (assoc m x).isSome then some (aidx m x) else none
 | [] => by simp [mapD, mfind, assoc]
 | p :: m => by
  have ih := mfind_mapD hk x m
  simp only [mapD] at ih
  simp only [mapD, List.map_cons, mfind, hk.eq, assoc, aidx]
  by_cases h : (x == p.1) = true
  .simp [h]
  .simp only [h, Bool.false_eq_true, if_false, Option.map_map]
   cases ha : (assoc m x).isSome with
   | true =>
    rw [ha, if_pos rfl] at ih
    obtain ⟨r, hr, h1⟩ := Option.map_eq_some_iff.1 ih
    rw [hr]; simp [h1]
   | false =>
    rw [ha] at ih
    simp only [Bool.false_eq_true, if_false, Option.map_eq_none_iff] at ih
    rw [ih]; simp
theorem ament_has {x : κ} {z : υ} : ∀ {m : List (κ × υ)}, (assoc m x).isSome = true -> ament m x z = m
 | [], h => by simp [assoc] at h
 | p :: m, h => by
  simp only [assoc] at h
  simp only [ament]
  by_cases hx : (x == p.1) = true
  .rw [if_pos hx]
  .rw [if_neg hx] at h ⊢; rw [ament_has h]
theorem ament_not {x : κ} {z : υ} : ∀ {m : List (κ × υ)}, (assoc m x).isSome = false -> ament m x z = m ++ [(x, z)] /\ aidx m x = m.length
 | [], _ => ⟨rfl, rfl⟩
 | p :: m, h => by
  simp only [assoc] at h
  simp only [ament, aidx]
  by_cases hx : (x == p.1) = true
  .rw [if_pos hx] at h; cases h
  .rw [if_neg hx] at h ⊢
   obtain ⟨h1, h2⟩ := ament_not (z := z) h
   rw [h1, if_neg hx, h2]; simp
theorem ament_set {x : κ} {z w : υ} : ∀ (m : List (κ × υ)), ∃ p, (ament m x z)[aidx m x]? = some p /\ (ament m x z).set (aidx m x) (p.1, w) = aput x w m
 | [] => ⟨(x, z), rfl, rfl⟩
 | p :: m => by
  simp only [ament, aidx, aput]
  by_cases hx : (x == p.1) = true
  .simp only [hx, if_true]; exact ⟨p, rfl, rfl⟩
  .simp only [hx, Bool.false_eq_true, if_false]
   obtain ⟨q, h1, h2⟩ := ament_set (x := x) (z := z) (w := w) m
   exact ⟨q, by simpa using h1, by simp [h2]⟩
theorem upd_same {id : Nat} {v : HObj} : ∀ {h : Heap}, look id h = some v -> upd id v h = h
 | [], hl => by simp [look] at hl
 | (q, u) :: r, hl => by
  simp only [look] at hl
  simp only [upd]
  split
  .rw [if_pos ‹_›] at hl; cases hl; rfl
  .rw [if_neg ‹_›] at hl; rw [upd_same hl]
theorem o_ment {y : κ} {id : Nat} {h' : Heap} (z : υ) (hk : KeyE env kt ke) (hx : evC nt sl x = .lmap id) (hm : lookB id h = some (.map (mapD ke ve mp))) (hi : evC nt sl i = .p (ke y)) (ht : mpT env t kt et = true) (hz : (env.tt et).map TI.zeroDV = some (ve z))
  (hu : updF id (.map (mapD ke ve (ament mp y z))) h some = some h') (k : f ⟨nt, (d, .tup [.p (ve ((assoc mp y).getD z)), .p (.int .i64 (aidx mp y))]) :: sl, h', c⟩) : opS P A env ⟨nt, sl, h, c⟩ (some d) (.mapEntry t x i) ⟨f, hf⟩ := by
 obtain ⟨ti, h1, h2⟩ := mpT_eq ht
 rw [evC_eq (h := h) (c := c)] at hx hi
 rw [lookB_eq] at hm
 rw [updF_eq, Option.some.injEq] at hu
 subst hu
 obtain ⟨te, h3, h4⟩ := Option.map_eq_some_iff.1 hz
 refine tiW_iff.2 ⟨ti, h1, mpW_iff.2 ⟨kt, et, h2, tiW_iff.2 ⟨te, h3, lmapW_iff.2 ⟨id, hx, optW_iff.2 ⟨_, hm, ?_⟩⟩⟩⟩⟩
 dsimp only
 refine mapW_iff.2 ⟨mapD ke ve mp, rfl, ?_⟩
 refine pdW_iff.2 ⟨_, hi, ⟨hk.fits y, fits_mapD hk mp⟩, ?_⟩
 have hf1 := mfind_mapD (ve := ve) hk y mp
 rw [mget_mapD hk, h4, getD_map]
 cases ha : (assoc mp y).isSome with
 | true =>
  rw [ha, if_pos rfl] at hf1
  obtain ⟨r, hr, h5⟩ := Option.map_eq_some_iff.1 hf1
  rw [ament_has ha, upd_same hm] at k
  rw [hr]
  simp only [Option.map_some, Option.getD_some, h5]
  exact k
 | false =>
  rw [ha] at hf1
  simp only [Bool.false_eq_true, if_false, Option.map_eq_none_iff] at hf1
  obtain ⟨g1, g2⟩ := ament_not (z := z) ha
  rw [g1, g2] at k
  rw [hf1]
  have e1 : mapD ke ve (mp ++ [(y, z)]) = mapD ke ve mp ++ [(ke y, ve z)] := by simp [mapD]
  have e2 : (mapD ke ve mp).length = mp.length := by simp [mapD]
  rw [e1] at k
  simp only [Option.map_none, Option.getD_none, e2]
  exact k
theorem o_esto {y : κ} {z w : υ} {id : Nat} {h' : Heap} {s v : Operand} (hx : evC nt sl x = .lmap id) (hm : lookB id h = some (.map (mapD ke ve (ament mp y z)))) (hs : evC nt sl s = .p (.int .i64 (aidx mp y))) (hv : evC nt sl v = .p (ve w))
  (hu : updF id (.map (mapD ke ve (aput y w mp))) h some = some h') (k : f ⟨nt, sl, h', c⟩) : opS P A env ⟨nt, sl, h, c⟩ none (.entryStore t x s v) ⟨f, hf⟩ := by
 rw [evC_eq (h := h) (c := c)] at hx hs hv
 rw [lookB_eq] at hm
 rw [updF_eq, Option.some.injEq] at hu
 subst hu
 refine lmapW_iff.2 ⟨id, hx, optW_iff.2 ⟨_, hm, ?_⟩⟩
 dsimp only
 refine mapW_iff.2 ⟨_, rfl, ?_⟩
 refine intW_iff.2 ⟨.i64, _, hs, pdW_iff.2 ⟨_, hv, Int.natCast_nonneg _, ?_⟩⟩
 obtain ⟨p, h1, h2⟩ := ament_set (x := y) (z := z) (w := w) mp
 refine optW_iff.2 ⟨(ke p.1, ve p.2), by simp only [Int.toNat_natCast, mapD, List.getElem?_map, h1, Option.map_some], ?_⟩
 have e : (mapD ke ve (ament mp y z)).set (Int.toNat (aidx mp y : Int)) (ke p.1, ve w) = mapD ke ve (aput y w mp) := by
  rw [<- h2]; simp [mapD, List.map_set]
 dsimp only
 rw [e]
 exact k
end
end
end Go.E
