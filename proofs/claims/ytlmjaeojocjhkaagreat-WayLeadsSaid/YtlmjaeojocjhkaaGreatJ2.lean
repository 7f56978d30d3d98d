/- Operations of a drawn region: they are alike in data states alike (M8), and the real operation is in step (QH). No condition. -/
import Derived.Test.YtlmjaeojocjhkaaGreatJ1
set_option linter.unusedVariables false
set_option linter.unusedSimpArgs false
namespace Go.E
open Go Go.RowKit
def Nw (h h' : AP) : Prop := ∀ id o, AJ id h = some o -> AJ id h' = some o
theorem XY {h h' : AP} {ti : TI} {p : LV} {k : LV -> Prop} (he : Nw h h') (hl : GB h ti p k) : GB h' ti p k := by
 unfold GB at *
 split at hl
 .exact hl
 .obtain ⟨cells, r, h1, h2⟩ := hl
  exact ⟨cells, r, he _ _ h1, h2⟩
 .obtain ⟨e, sz, elems, x, r, h1, h2⟩ := hl
  exact ⟨e, sz, elems, x, r, he _ _ h1, h2⟩
 exact hl.elim
theorem XZ {h h' : AP} (he : Nw h h') {x : LV} {m : List (DV × DV)} (hm : KR h x = some m) : KR h' x = some m := by
 unfold KR at *
 split at hm
 .exact hm
 .exact hm
 .split at hm
  .rename_i h1; rw [he _ _ h1]; exact hm
  cases hm
 cases hm
theorem U3 {AD : A3} {h h' : AP} {t : Nat} {x key : LV} {ok : Bool} {k : LV -> Prop} (he : Nw h h') (hl : MN AD h t x key ok k) : MN AD h' t x key ok k := by
 obtain ⟨ti, kt, et, te, m, kd, h1, h2, h3, h4, h5⟩ := hl
 exact ⟨ti, kt, et, te, m, kd, h1, h2, h3, XZ he h4, h5⟩
theorem OM {h h' : AP} (he : Nw h h') {x : LV} {d : DV} (hx : Ep h x = some d) : Ep h' x = some d := by
 unfold Ep at *
 split at hx
 .exact hx
 .split at hx
  .rename_i h1; rw [he _ _ h1]; exact hx
  cases hx
 .split at hx
  .rename_i h1; rw [he _ _ h1]; exact hx
  .rename_i h1; rw [he _ _ h1]; exact hx
  cases hx
 cases hx
theorem Jc {h h' : AP} (he : Nw h h') : ∀ {ls : List LV} {ds : List DV}, GA h ls = some ds -> GA h' ls = some ds
 | [], _, hx => hx
 | x :: ls, ds, hx => by
  simp only [GA] at hx
  split at hx
  .rename_i h1 h2
   simp only [GA, OM he h1, Jc he h2]; exact hx
  cases hx
theorem Xa {h h' : AP} (he : Nw h h') {x : LV} {d : DV} (hx : JJ h x = some d) : JJ h' x = some d /\ M6 h' x = M6 h x := by
 cases x with
 | lpb id off =>
  simp only [JJ] at hx
  split at hx
  .rename_i cells h1
   simp only [Option.map_eq_some_iff] at hx
   obtain ⟨ds, h2, h3⟩ := hx
   simp only [JJ, he _ _ h1, Jc he h2, M6, h1, Option.map_some, Option.some.injEq]
   exact ⟨h3, trivial⟩
  cases hx
 | _ => simp only [JJ] at hx ⊢; exact ⟨OM he hx, rfl⟩
theorem Qn {h h' : AP} (he : Nw h h') : ∀ {ls : List LV} {ds : List DV}, Fc h ls = some ds -> Fc h' ls = some ds /\ ls.flatMap (M6 h') = ls.flatMap (M6 h)
 | [], _, hx => ⟨hx, rfl⟩
 | x :: ls, ds, hx => by
  simp only [Fc] at hx
  split at hx
  .rename_i h1 h2
   obtain ⟨a1, a2⟩ := Xa he h1
   obtain ⟨b1, b2⟩ := Qn he h2
   simp only [Fc, a1, b1, List.flatMap_cons, a2, b2]; exact ⟨hx, trivial⟩
  cases hx
theorem YW {h h' : AP} (he : Nw h h') {x : LV} {d : DV} (hx : Ew h x = some d) : Ew h' x = some d /\ D5 h' x = D5 h x := by
 cases x with
 | fn f l =>
  simp only [Ew, Option.map_eq_some_iff] at hx ⊢
  obtain ⟨ds, h1, h2⟩ := hx
  obtain ⟨a1, a2⟩ := Qn he h1
  exact ⟨⟨ds, a1, h2⟩, a2⟩
 | agg l =>
  simp only [Ew, Option.map_eq_some_iff] at hx ⊢
  obtain ⟨ds, h1, h2⟩ := hx
  exact ⟨⟨ds, Jc he h1, h2⟩, rfl⟩
 | tup l =>
  simp only [Ew, Option.map_eq_some_iff] at hx ⊢
  obtain ⟨ds, h1, h2⟩ := hx
  exact ⟨⟨ds, Jc he h1, h2⟩, rfl⟩
 | lpb id off =>
  simp only [Ew] at hx
  split at hx
  .rename_i cells h1
   simp only [Option.map_eq_some_iff] at hx
   obtain ⟨ds, h2, h3⟩ := hx
   simp only [Ew, he _ _ h1, Jc he h2, D5, h1, Option.map_some, Option.some.injEq]
   exact ⟨h3, trivial⟩
  cases hx
 | _ => simp only [Ew] at hx ⊢; exact ⟨OM he hx, rfl⟩
theorem Ly {h h' : AP} (he : Nw h h') : ∀ {ls : List LV} {ds : List DV}, Bs h ls = some ds -> Bs h' ls = some ds /\ ls.flatMap (D5 h') = ls.flatMap (D5 h)
 | [], _, hx => ⟨hx, rfl⟩
 | x :: ls, ds, hx => by
  simp only [Bs] at hx
  split at hx
  .rename_i h1 h2
   obtain ⟨a1, a2⟩ := YW he h1
   obtain ⟨b1, b2⟩ := Ly he h2
   simp only [Bs, a1, b1, List.flatMap_cons, a2, b2]; exact ⟨hx, trivial⟩
  cases hx
theorem M9 {id k : Nat} {o : A9} : ∀ {h : AP}, AJ id (BR k o h) = if id = k then (AJ k h).map (fun _ => o) else AJ id h
 | [] => by simp [AJ, BR]
 | (j, x) :: h => by
  unfold BR
  split
  .rename_i hk; subst hk
   by_cases e : id = k <;> simp [AJ, e]
  rename_i hk
  simp only [AJ]
  rw [M9 (h := h)]
  by_cases e : id = j
  .subst e; rw [if_pos rfl, if_neg (fun e => hk e.symm), if_pos rfl]
  simp only [e, if_false, hk]
theorem NA {id k : Nat} : ∀ {h : AP}, AJ id (F9 k h) = if id = k then none else AJ id h
 | [] => by simp [AJ, F9]
 | (j, x) :: h => by
  unfold F9
  split
  .rename_i hk; subst hk
   rw [NA (h := h)]
   by_cases e : id = k <;> simp [AJ, e]
  rename_i hk
  simp only [AJ]
  rw [NA (h := h)]
  by_cases e : id = j
  .subst e; rw [if_pos rfl, if_neg (fun e => hk e.symm), if_pos rfl]
  simp only [e, if_false]
theorem WH {P : Program} {AD : A3} {st st' : St} {op : Op} {l : LV} {h1 : AP} (hw : BO op = .w) (hev : ∀ x ∈ op.operands, st.eval x = st'.eval x) (hc : st.ctr = st'.ctr)
  (hh : ∀ id, AJ id st.heap = AJ id st'.heap) (h : wW P AD st op l h1) :
  ∃ h2, wW P AD st' op l h2 /\ (∀ id, AJ id h1 = AJ id h2) /\ ∀ k, k ≠ st.ctr -> AJ k st.heap = none -> AJ k h1 = none := by
 have key : ∀ (id : Nat) (o : A9), AJ id st.heap ≠ none -> (∀ q, AJ q (BR id o st.heap) = AJ q (BR id o st'.heap)) /\ ∀ k, k ≠ st.ctr -> AJ k st.heap = none -> AJ k (BR id o st.heap) = none := by
  refine fun id o hne => ⟨fun q => ?_, fun k _ hk => ?_⟩
  .rw [M9, M9, hh, hh]
  rw [M9, hk]
  split
  .subst_vars; exact absurd hk hne
  rfl
 cases op with
 | store t x v =>
  simp only [wW, mW, Jd] at h
  obtain ⟨ti, g1, ls, g2, g3, g4, g5⟩ := h
  have e1 := hev x (by simp [Op.operands])
  have e2 := hev v (by simp [Op.operands])
  split at g5
  .rename_i id off hp
   obtain ⟨cells, k1, k2, rfl, rfl⟩ := g5
   refine ⟨BR id (.box (CN cells off ls)) st'.heap, ?_, key _ _ (by rw [k1]; simp)⟩
   simp only [wW, mW, Jd]
   refine ⟨ti, g1, ls, by rw [<- e2]; exact g2, g3, g4, ?_⟩
   rw [<- e1, hp]
   exact ⟨cells, by rw [<- hh]; exact k1, k2, trivial, rfl⟩
  .rename_i id i off hp
   obtain ⟨e, sz, elems, y, ds, k1, k2, k3, k4, rfl, rfl⟩ := g5
   refine ⟨BR id (.row e sz (elems.set i (CN y off ds))) st'.heap, ?_, key _ _ (by rw [k1]; simp)⟩
   simp only [wW, mW, Jd]
   refine ⟨ti, g1, ls, by rw [<- e2]; exact g2, g3, g4, ?_⟩
   rw [<- e1, hp]
   exact ⟨e, sz, elems, y, ds, by rw [<- hh]; exact k1, k2, k3, k4, trivial, rfl⟩
  exact g5.elim
 | mapUpdate t x i v =>
  have e1 := hev x (by simp [Op.operands])
  have e2 := hev i (by simp [Op.operands])
  have e3 := hev v (by simp [Op.operands])
  simp only [wW, mW, MO] at h
  obtain ⟨ti, kt, et, id, m, kd, vd, g1, g2, g3, g4, g5, g6, g7, g8, rfl, rfl⟩ := h
  refine ⟨BR id (.map (Lz kd vd m)) st'.heap, ?_, key _ _ (by rw [g4]; simp)⟩
  simp only [wW, mW, MO]
  exact ⟨ti, kt, et, id, m, kd, vd, g1, g2, by rw [<- e1]; exact g3, by rw [<- hh]; exact g4, by rw [<- e2]; exact g5, by rw [<- e3]; exact g6, g7, g8, trivial, rfl⟩
 | mapEntry t x i =>
  have e1 := hev x (by simp [Op.operands])
  have e2 := hev i (by simp [Op.operands])
  simp only [wW, mW, MP] at h
  obtain ⟨ti, kt, et, te, id, m, kd, g1, g2, g3, g4, g5, g6, g7, g8, rfl, rfl⟩ := h
  refine ⟨match CS kd m with | some _ => st'.heap | none => BR id (.map (m ++ [(kd, te.zeroDV)])) st'.heap, ?_, ?_⟩
  .simp only [wW, mW, MP]
   exact ⟨ti, kt, et, te, id, m, kd, g1, g2, g3, by rw [<- e1]; exact g4, by rw [<- hh]; exact g5, by rw [<- e2]; exact g6, g7, g8, rfl, rfl⟩
  cases CS kd m with
  | some r => exact ⟨hh, fun k _ hk => hk⟩
  | none => exact key _ _ (by rw [g5]; simp)
 | entryStore t x s v =>
  have e1 := hev x (by simp [Op.operands])
  have e2 := hev s (by simp [Op.operands])
  have e3 := hev v (by simp [Op.operands])
  simp only [wW, mW, ON] at h
  obtain ⟨id, m, kk, n, vd, p, g1, g2, g3, g4, g5, g6, rfl, rfl⟩ := h
  refine ⟨BR id (.map (m.set n.toNat (p.1, vd))) st'.heap, ?_, key _ _ (by rw [g2]; simp)⟩
  simp only [wW, mW, ON]
  exact ⟨id, m, kk, n, vd, p, by rw [<- e1]; exact g1, by rw [<- hh]; exact g2, by rw [<- e2]; exact g3, g4, g5, by rw [<- e3]; exact g6, trivial, rfl⟩
 | call c =>
  have hwv : ∀ f, c.callee = .value f -> ∃ h2, wW P AD st' (.call c) l h2 /\ (∀ id, AJ id h1 = AJ id h2) /\ ∀ k, k ≠ st.ctr -> AJ k st.heap = none -> AJ k h1 = none := by
   intro f0 hf0
   have h' : TB P AD st c l h1 := by unfold wW at h; simp only [hf0] at h; exact h
   obtain ⟨f, k, caps, g1, g2, g3, g4, g5⟩ := h'
   have e0 := hev f (by simp [Op.operands, Call.operands, g1])
   have ha : c.args.toList.map st.eval = c.args.toList.map st'.eval := Gu fun x hx => hev x (by simp [Op.operands, Call.operands, g1, hx])
   refine ⟨h1, ?_, fun _ => rfl, g4⟩
   unfold wW
   simp only [hf0]
   exact ⟨f, k, caps, g1, by rw [<- e0]; exact g2, by rw [<- ha, <- hc]; exact g3.eqv hh, fun q hq hn => g4 q (by rw [hc]; exact hq) (by rw [hh]; exact hn), fun b hb id cells hm hi hbi hx => g5 b hb id cells hm (by rw [hc]; exact hi) hbi (by rw [hh]; exact hx)⟩
  have hwb : (∀ f, c.callee ≠ .value f) -> ∀ (s' : St) (q : AP), wW P AD s' (.call c) l q ↔ mW AD s' (.call c) fun r h _ => r = l /\ h = q := by
   intro hne s' q
   cases hcal : c.callee with
   | value f => exact absurd hcal (hne f)
   | builtin b => unfold wW; simp only [hcal]
   | invoke r m => unfold wW; simp only [hcal]
  by_cases hv : ∃ f, c.callee = .value f
  .obtain ⟨f, hf⟩ := hv; exact hwv f hf
  have hne : ∀ f, c.callee ≠ .value f := fun f hf => hv ⟨f, hf⟩
  have h := (hwb hne _ _).1 h
  suffices hs : ∃ h2, (mW AD st' (.call c) fun r h _ => r = l /\ h = h2) /\ (∀ id, AJ id h1 = AJ id h2) /\ ∀ k, k ≠ st.ctr -> AJ k st.heap = none -> AJ k h1 = none by
   obtain ⟨h2, a, b⟩ := hs
   exact ⟨h2, (hwb hne _ _).2 a, b⟩
  simp only [mW] at h
  obtain ⟨hcal, s, x, t, ha, hat, h⟩ := h
  have e1 := hev s (by simp [Op.operands, Call.operands, ha])
  have e2 := hev x (by simp [Op.operands, Call.operands, ha])
  simp only [MK] at h
  obtain ⟨ti, e, te, g1, g2, g3, g4, new, g5, g6, g7⟩ := h
  have hrow : LN st'.heap (st'.eval x) = some new := by
   rw [<- e2, <- g5]
   unfold LN
   split <;> first | rfl | (rw [hh])
  split at g7
  .rename_i hp
   obtain ⟨k1, k2, rfl, rfl⟩ := g7
   refine ⟨(st'.ctr, .row e te.size new) :: st'.heap, ?_, fun q => ?_, fun k hk hn => ?_⟩
   .simp only [mW, MK]
    refine ⟨hcal, s, x, t, ha, hat, ti, e, te, g1, g2, g3, g4, new, hrow, g6, ?_⟩
    rw [<- e1, hp]
    exact ⟨k1, k2, by rw [hc], rfl⟩
   .simp only [AJ, hc, hh]
   simp only [AJ, hk, if_false]; exact hn
  .rename_i id sz off len hp
   obtain ⟨elems, k0, k1, k2, k3, k4, rfl, rfl⟩ := g7
   refine ⟨(st'.ctr, .row e te.size ((elems.drop off).take len ++ new)) :: F9 id st'.heap, ?_, fun q => ?_, fun k hk hn => ?_⟩
   .simp only [mW, MK]
    refine ⟨hcal, s, x, t, ha, hat, ti, e, te, g1, g2, g3, g4, new, hrow, g6, ?_⟩
    rw [<- e1, hp]
    exact ⟨elems, k0, by rw [<- hh]; exact k1, k2, k3, k4, by rw [hc], rfl⟩
   .simp only [AJ, hc, NA, hh]
   simp only [AJ, hk, if_false, NA, hn]; split <;> rfl
  exact g7.elim
 | _ => simp [BO] at hw
theorem OK {P : Program} {AD : A3} {st st' : St} {op : Op} {l : LV} {e : Ds} (hw : BO op ≠ .w) (hev : ∀ x ∈ op.operands, st.eval x = st'.eval x) (hc : st.ctr = st'.ctr)
  (hr : BO op = .r -> Nw st.heap st'.heap) (h : B1 P AD st op l e) : B1 P AD st' op l e := by
 cases op <;> simp only [B1] at h ⊢ <;> simp only [Op.operands] at hev <;> (try exact ⟨h.1, QG (by simpa only [Op.operands] using hev) h.2⟩)
 case load t x =>
  obtain ⟨h1, hc', ti, h2, h3⟩ := h
  rw [<- hev x (by simp)]
  refine ⟨h1, hc', ti, h2, ?_⟩
  exact XY (hr rfl) h3
 case lookup t x i ok =>
  obtain ⟨h1, h2⟩ := h
  refine ⟨h1, ?_⟩
  rw [<- hev x (by simp), <- hev i (by simp)]
  exact U3 (hr rfl) h2
 case store => exact absurd rfl hw
 case mapUpdate => exact absurd rfl hw
 case mapEntry => exact absurd rfl hw
 case entryStore => exact absurd rfl hw
 case alloc => rw [<- hc]; exact h
 case box t x => rw [<- hev x (by simp), <- hc]; exact h
 case buildSlice t n ps => rw [<- OL (by simpa using hev), <- hc]; exact h
 case makeSlice t x y => rw [<- hev x (by simp), <- hev y (by simp), <- hc]; exact h
 case makeMap => rw [<- hc]; exact h
 case call c =>
  obtain ⟨callee, args, ats⟩ := c
  have ha : args.toList.map st.eval = args.toList.map st'.eval := Gu fun x hx => hev x (by simp [Call.operands, hx])
  cases callee with
  | value f =>
   have hnd : ¬ Dn f = true := fun hd => hw (by simp [BO, hd])
   have hr' : Nw st.heap st'.heap := hr (by simp [BO, hnd])
   simp only [if_neg hnd] at h ⊢
   rcases h with ⟨h1, k, caps, ds, r, h2, h3, h4, h5, h6⟩ | ⟨h1, k, caps, ds, t, sz, elems, h2, h3, h4, h5, h6⟩
   .obtain ⟨g1, g2⟩ := Ly hr' h3
    refine .inl ⟨h1, k, caps, ds, r, by rw [<- hev f (by simp [Call.operands])]; exact h2, by rw [<- ha]; exact g1, h4, ?_, h6⟩
    rw [<- ha, g2]; exact h5
   obtain ⟨g1, g2⟩ := Ly hr' h3
   refine .inr ⟨h1, k, caps, ds, t, sz, elems, by rw [<- hev f (by simp [Call.operands])]; exact h2, by rw [<- ha]; exact g1, h4, ?_, by rw [<- hc]; exact h6⟩
   rw [<- ha, g2]; exact h5
  | builtin b =>
   cases b with
   | append => exact absurd rfl hw
   | _ => exact ⟨h.1, QG (by simpa only [Op.operands] using hev) h.2⟩
  | invoke r m => exact ⟨h.1, QG (by simpa only [Op.operands] using hev) h.2⟩
theorem Qo {st st' : St} (hnt : st.nt = st'.nt) {x : Operand} (h : ∀ t, x = .tmp t -> BW st.slots t = BW st'.slots t) : st.eval x = st'.eval x := by
 cases x with
 | tmp t => simp only [St.eval, hnt, h t rfl]
 | _ => rfl
theorem HU {ops : Array Oper} {st st' : St} {o : Oper} (hnt : st.nt = st'.nt) (hs : ∀ t ∈ o.looksAt ops, BW st.slots t = BW st'.slots t) {j : Nat} {want : Bool} (hg : o.guard = some (j, want)) :
  C9 st ops j = C9 st' ops j := by
 unfold C9
 cases ho : ops[j]? with
 | none => rfl
 | some p =>
  simp only
  cases hd : p.dst with
  | none => rfl
  | some d => exact Qo hnt fun t ht => hs t (by cases ht; simp [Oper.looksAt, hg, ho, hd])
theorem Ex {ops : Array Oper} {st st' : St} {o : Oper} (hnt : st.nt = st'.nt) (hs : ∀ t ∈ o.looksAt ops, BW st.slots t = BW st'.slots t) : ∀ x ∈ o.op.operands, st.eval x = st'.eval x :=
 fun x hx => Qo hnt fun t ht => hs t (by
  subst ht
  exact List.mem_append_left _ (List.mem_filterMap.2 ⟨.tmp t, by simpa using hx, rfl⟩))
theorem M8 {P : Program} {AD : A3} {ops : Array Oper} {st st' : St} {o : Oper} {l : LV} {e : Ds} (hw : BO o.op ≠ .w) (hnt : st.nt = st'.nt) (hs : ∀ t ∈ o.looksAt ops, BW st.slots t = BW st'.slots t) (hc : st.ctr = st'.ctr)
  (hr : BO o.op = .r -> Nw st.heap st'.heap) (h : Cg P AD ops st o l e) : Cg P AD ops st' o l e := by
 have hop := Ex hnt hs
 unfold Cg at *
 split at h
 .exact OK hw hop hc hr h
 rename_i j want hg
 rw [<- HU hnt hs hg]
 split at h
 .rename_i hb
  split at h
  .rw [if_pos ‹_›]; exact OK hw hop hc hr h
  rw [if_neg ‹_›]; exact h
 .exact h
 exact h.elim
theorem XX.to {AD : A3} {st st' : St} {args : Array Operand} {ts : Array TypeId} (h : XX AD st ⟨.builtin .append, args, ts⟩) (hop : ∀ x ∈ (Op.call ⟨.builtin .append, args, ts⟩).operands, st.eval x = st'.eval x) : XX AD st' ⟨.builtin .append, args, ts⟩ := fun s hs => by
 rw [<- hop s (by simp only [Op.operands, Call.operands]; simp; exact Array.mem_def.2 (List.mem_of_mem_head? hs))]
 exact h s hs
theorem Xb {P : Program} {AD : A3} {ops : Array Oper} {st st' : St} {o : Oper} {l : LV} {e : Ds} (he : Fd st st') (hc : st.ctr = st'.ctr) (h : Cg P AD ops st o l e) :
  ∃ e', Cg P AD ops st' o l e' /\ ∀ id, AJ id (e.ap st.ctr st.heap) = AJ id (e'.ap st'.ctr st'.heap) := by
 by_cases hw : BO o.op = .w
 .have hop := Ex (ops := ops) (o := o) he.nt fun t _ => he.slots t
  have big : B1 P AD st o.op l e -> ∃ e', B1 P AD st' o.op l e' /\ ∀ id, AJ id (e.ap st.ctr st.heap) = AJ id (e'.ap st'.ctr st'.heap) := by
   intro h
   have : ∃ h1, e = .set h1 /\ wW P AD st o.op l h1 /\ ∀ h2, wW P AD st' o.op l h2 -> B1 P AD st' o.op l (.set h2) := by
    generalize hq : o.op = op at *
    cases op <;> simp only [BO, reduceCtorEq] at hw <;> simp only [B1] at h ⊢
    case store t x v => obtain ⟨hc', h1, a, b⟩ := h; exact ⟨h1, a, b, fun h2 g => ⟨by rw [<- hop x (by simp [Op.operands])]; exact hc', h2, rfl, g⟩⟩
    case mapUpdate => obtain ⟨h1, a, b⟩ := h; exact ⟨h1, a, b, fun h2 g => ⟨h2, rfl, g⟩⟩
    case mapEntry => obtain ⟨h1, a, b⟩ := h; exact ⟨h1, a, b, fun h2 g => ⟨h2, rfl, g⟩⟩
    case entryStore => obtain ⟨h1, a, b⟩ := h; exact ⟨h1, a, b, fun h2 g => ⟨h2, rfl, g⟩⟩
    case call c =>
     obtain ⟨callee, args, ats⟩ := c
     cases callee with
     | builtin b =>
      cases b <;> simp only [reduceCtorEq] at hw
      obtain ⟨hap, h1, a, b⟩ := h; exact ⟨h1, a, b, fun h2 g => ⟨hap.to hop, h2, rfl, g⟩⟩
     | value f =>
      have hd : Dn f = true := by simp only at hw; split at hw <;> first | assumption | cases hw
      simp only [hd, if_true] at h ⊢
      obtain ⟨h1, a, b⟩ := h; exact ⟨h1, a, b, fun h2 g => ⟨h2, rfl, g⟩⟩
     | _ => simp only [reduceCtorEq] at hw
   obtain ⟨h1, rfl, g, g'⟩ := this
   obtain ⟨h2, k1, k2, _⟩ := WH hw hop hc he.heap g
   exact ⟨.set h2, g' h2 k1, k2⟩
  unfold Cg at *
  split at h
  .exact big h
  rename_i j want hg
  rw [<- HU he.nt (fun t _ => he.slots t) hg]
  split at h
  .split at h
   .obtain ⟨e', h1, h2⟩ := big h
    exact ⟨e', by rw [if_pos ‹_›]; exact h1, h2⟩
   obtain ⟨rfl, rfl⟩ := h
   exact ⟨.keep, by rw [if_neg ‹_›]; exact ⟨rfl, rfl⟩, he.heap⟩
  .obtain ⟨rfl, rfl⟩ := h
   exact ⟨.keep, ⟨rfl, rfl⟩, he.heap⟩
  exact h.elim
 refine ⟨e, M8 hw he.nt (fun t _ => he.slots t) hc (fun _ id o ho => by rw [<- he.heap]; exact ho) h, fun id => ?_⟩
 cases e with
 | keep => exact he.heap id
 | new o => simp only [Ds.ap, AJ, hc, he.heap]
 | set h => rfl
theorem Xc {P : Program} {AD : A3} {ops : Array Oper} {st st' : St} {o : Oper} {l : LV} {e : Ds} (hw : BO o.op = .w) (hnt : st.nt = st'.nt) (hs : ∀ t ∈ o.looksAt ops, BW st.slots t = BW st'.slots t) (hc : st.ctr = st'.ctr)
  (hh : ∀ id, AJ id st.heap = AJ id st'.heap) (h : Cg P AD ops st o l e) : ∃ e', Cg P AD ops st' o l e' /\ ∀ id, AJ id (e.ap st.ctr st.heap) = AJ id (e'.ap st'.ctr st'.heap) := by
 have hop := Ex hnt hs
 have big : B1 P AD st o.op l e -> ∃ e', B1 P AD st' o.op l e' /\ ∀ id, AJ id (e.ap st.ctr st.heap) = AJ id (e'.ap st'.ctr st'.heap) := by
  intro h
  have : ∃ h1, e = .set h1 /\ wW P AD st o.op l h1 /\ ∀ h2, wW P AD st' o.op l h2 -> B1 P AD st' o.op l (.set h2) := by
   generalize hq : o.op = op at *
   cases op <;> simp only [BO, reduceCtorEq] at hw <;> simp only [B1] at h ⊢
   case store t x v => obtain ⟨hc', h1, a, b⟩ := h; exact ⟨h1, a, b, fun h2 g => ⟨by rw [<- hop x (by simp [Op.operands])]; exact hc', h2, rfl, g⟩⟩
   case mapUpdate => obtain ⟨h1, a, b⟩ := h; exact ⟨h1, a, b, fun h2 g => ⟨h2, rfl, g⟩⟩
   case mapEntry => obtain ⟨h1, a, b⟩ := h; exact ⟨h1, a, b, fun h2 g => ⟨h2, rfl, g⟩⟩
   case entryStore => obtain ⟨h1, a, b⟩ := h; exact ⟨h1, a, b, fun h2 g => ⟨h2, rfl, g⟩⟩
   case call c =>
    obtain ⟨callee, args, ats⟩ := c
    cases callee with
    | builtin b =>
     cases b <;> simp only [reduceCtorEq] at hw
     obtain ⟨hap, h1, a, b⟩ := h; exact ⟨h1, a, b, fun h2 g => ⟨hap.to hop, h2, rfl, g⟩⟩
    | value f =>
     have hd : Dn f = true := by simp only at hw; split at hw <;> first | assumption | cases hw
     simp only [hd, if_true] at h ⊢
     obtain ⟨h1, a, b⟩ := h; exact ⟨h1, a, b, fun h2 g => ⟨h2, rfl, g⟩⟩
    | _ => simp only [reduceCtorEq] at hw
  obtain ⟨h1, rfl, g, g'⟩ := this
  obtain ⟨h2, k1, k2, _⟩ := WH hw hop hc hh g
  exact ⟨.set h2, g' h2 k1, k2⟩
 unfold Cg at *
 split at h
 .exact big h
 rename_i j want hg
 rw [<- HU hnt hs hg]
 split at h
 .split at h
  .obtain ⟨e', h1, h2⟩ := big h
   exact ⟨e', by rw [if_pos ‹_›]; exact h1, h2⟩
  obtain ⟨rfl, rfl⟩ := h
  exact ⟨.keep, by rw [if_neg ‹_›]; exact ⟨rfl, rfl⟩, hh⟩
 .obtain ⟨rfl, rfl⟩ := h
  exact ⟨.keep, ⟨rfl, rfl⟩, hh⟩
 exact h.elim
end Go.E
/- Drawn regions: whatever order is drawn, the operations give what they give in one order that a check accepts (Iz). -/
namespace Go.E
open Go Go.RowKit
structure RF (A : BB) (F : Nat -> Prop) (st : St) (a : Act) (w : World) : Prop where
 ex : ∃ μ, HRel A μ st.heap F w /\ ∀ t, t < st.nt -> AZ (Ag A μ st.heap) μ w (a.tmps.getD t undef) (BW st.slots t)
 nt : a.tmps.size = st.nt
 defers : a.defers = []
theorem R.toRF {A : BB} {st : St} {a : Act} {w : World} (h : R A st a w) : RF A (Fr st.ctr) st a w := ⟨h.ex, h.nt, h.defers⟩
theorem RF.put' {A : BB} {F F' : Nat -> Prop} {st : St} {a : Act} {w w' : World} {h' : AP} {ctr' : Nat} {μ' : Nat -> Option BQ} (hR : RF A F st a w)
  (hs : ∀ t, t < st.nt -> AZ (Ag A μ' h') μ' w' (a.tmps.getD t undef) (BW st.slots t))
  (hh : HRel A μ' h' F' w') {dst : Option Tmp} {v : Value} {l : LV} (hv : AZ (Ag A μ' h') μ' w' v l) :
  RF A F' (({ st with heap := h', ctr := ctr' } : St).put dst l) (a.put dst v) w' := by
 cases dst with
 | none => exact ⟨⟨μ', hh, hs⟩, hR.nt, hR.defers⟩
 | some d =>
  refine ⟨⟨μ', hh, fun t ht => ?_⟩, by simpa [Act.put, St.put] using hR.nt, hR.defers⟩
  have hn : t < a.tmps.size := by rw [hR.nt]; exact ht
  simp only [Act.put, St.put, BW, AJ]
  by_cases e : t = d
  .subst e
   simp only [if_true]
   rw [Array.getD_eq_getD_getElem?, Array.getElem?_setIfInBounds_self_of_lt hn]
   exact hv
  simp only [e, if_false]
  rw [Array.getD_eq_getD_getElem?, Array.getElem?_setIfInBounds_ne (by omega), <- Array.getD_eq_getD_getElem?]
  exact hs t ht
section
variable {P : Program} {A : BB} {AD : A3} {F : Nat -> Prop} {st : St} {a : Act} {w : World}
theorem YX {μ : Nat -> Option BQ} {h : AP} {F : Nat -> Prop} {w w' : World} {v : Value} {ctr e sz : Nat} {elems : List (List DV)} (hh : HRel A μ h F w) (hc : F ctr) (hn : Kh w w' (Ag A μ h) v e sz elems) (hb : Below w.heap.size w w') :
  ∃ μ', HRel A μ' ((ctr, .row e sz elems) :: h) (fun id => F id /\ id ≠ ctr) w' /\ AZ (Ag A μ' ((ctr, .row e sz elems) :: h)) μ' w' v (.lsl ctr sz 0 elems.length) /\ ∀ v x, AZ (Ag A μ h) μ w v x -> AZ (Ag A μ' ((ctr, .row e sz elems) :: h)) μ' w' v x := by
 have hno : μ ctr = none := hh.fresh ctr hc
 obtain ⟨hlen, hn⟩ := hn
 have hkm : BH (Bk μ h) w w' := ⟨hb.size, fun b hb' _ => hb.block b hb'⟩
 have hsub : ∀ id x, AJ id ((ctr, A9.row e sz elems) :: h) = some x -> (id = ctr /\ x = .row e sz elems) \/ AJ id h = some x := by
  intro id x hx
  simp only [AJ] at hx
  split at hx
  .cases hx; exact .inl ⟨‹_›, rfl⟩
  exact .inr hx
 have hold : ∀ id x lc, AJ id ((ctr, A9.row e sz elems) :: h) = some x -> id ≠ ctr -> μ id = some lc -> lc.nil = false -> w'.heap[lc.b]? = w.heap[lc.b]? := by
  intro id x lc hx hne hm hnl
  rcases hsub id x hx with ⟨rfl, _⟩ | hx
  .exact absurd rfl hne
  exact hb.block _ (hh.base id x lc hx hm hnl).1
 have fin : ∀ (loc : BQ), (loc.nil = false -> loc.b < w'.heap.size /\ w.heap.size <= loc.b) ->
   (∀ O' : Nat -> Prop, (∀ b, O' b -> Ag A μ h b \/ (loc.nil = false /\ b = loc.b)) -> (∀ b, Ag A μ h b -> b < w.heap.size -> O' b \/ True) -> (∀ b, Ag A (Bl μ ctr loc) ((ctr, A9.row e sz elems) :: h) b ↔ O' b) -> Co O' (Bl μ ctr loc) w' loc (.row e sz elems)) ->
   (∀ O', AZ O' (Bl μ ctr loc) w' v (.lsl ctr sz 0 elems.length)) ->
   ∃ μ', HRel A μ' ((ctr, .row e sz elems) :: h) (fun id => F id /\ id ≠ ctr) w' /\ AZ (Ag A μ' ((ctr, .row e sz elems) :: h)) μ' w' v (.lsl ctr sz 0 elems.length) /\ ∀ v x, AZ (Ag A μ h) μ w v x -> AZ (Ag A μ' ((ctr, .row e sz elems) :: h)) μ' w' v x := by
  intro loc hloc ho hu
  have hfr : M4 μ h ((ctr, A9.row e sz elems) :: h) w loc := fun hn => .inl (hloc hn).2
  have hown := hh.sub_add loc (.row e sz elems) ((ctr, .row e sz elems) :: h) hfr hsub
  have hcov : ∀ b, Ag A (Bl μ ctr loc) ((ctr, .row e sz elems) :: h) b -> Ag A μ h b \/ (loc.nil = false /\ b = loc.b) := by
   rintro b (hb' | ⟨id, x, lc, h1, h2, h3, h4⟩)
   .exact .inl (.inl hb')
   by_cases e' : id = ctr
   .subst e'
    simp only [Bl, if_true, Option.some.injEq] at h2
    subst h2; exact .inr ⟨h3, h4.symm⟩
   rcases hsub id x h1 with ⟨e'', _⟩ | h1
   .exact absurd e'' e'
   simp only [Bl, e', if_false] at h2
   exact .inl (.inr ⟨id, x, lc, h1, h2, h3, h4⟩)
  have hadd := hh.add (w' := w') hno loc (.row e sz elems) ((ctr, .row e sz elems) :: h) (fun hn => (hloc hn).1) hfr hsub hkm hold hb.os hb.tape hb.output (ho _ hcov (fun _ _ _ => .inr trivial) (fun _ => Iff.rfl))
  exact ⟨_, hadd, hu _, fun v x hv => hv.mono hkm.own hown (JH hno loc)⟩
 rcases hn with ⟨rfl, rfl⟩ | ⟨a, b, o, cap, c, rfl, h1, h2, h3, h4, h5, h6, h7, h8, h9, h10⟩
 .exact fin ⟨true, 0, 0, sz, 0⟩ (fun hn => by cases hn) (fun O' _ _ _ => ⟨rfl, hlen, .inl ⟨rfl, rfl⟩⟩) (fun O' => .lsln ctr ⟨true, 0, 0, sz, 0⟩ (by simp [Bl]) rfl)
 refine fin ⟨false, b, o, sz, cap⟩ (fun _ => ⟨h2, h1⟩) (fun O' hO' _ _ => ⟨rfl, hlen, .inr ⟨rfl, c, h6, h7, h8, h9, fun i j x d u hx hd hu => ?_⟩⟩) (fun O' => ?_)
 .refine (h10 i j x d u hx hd hu).mono (BH.refl _ _) fun q _ hq => ?_
  rcases hO' q hq with hq | ⟨_, hq⟩
  .exact .inl hq
  exact .inr hq
 exact .lsl ctr 0 elems.length cap a ⟨false, b, o, sz, cap⟩ (by simp [Bl]) rfl (by simp) h8 (fun hc => by rw [h3 hc]; simp) h4 h5
theorem SF (hE : BA P AD) {o : Oper} {l : LV} {e : Ds} (hR : RF A F st a w) (hc : F st.ctr) (hF : ∃ c0, ∀ q, c0 <= q -> F q) (h : B1 P AD st o.op l e) {next : Act -> World -> Prop} {Q : Exit -> Act -> World -> Prop}
  (hK : ∀ a' w', RF A (fun id => F id /\ id ≠ st.ctr) (apS st st.ctr o l e) a' w' -> next a' w') : o.wp P a w next Q := by
 obtain ⟨⟨μ, hh, hs0⟩, hnt, hdef⟩ := id hR
 have hs := fun x => GO hs0 x
 have less : ∀ {μ h w} (c' : Nat), HRel A μ h (fun id => F id /\ (st.ctr < c' -> id ≠ st.ctr)) w -> HRel A μ h (fun id => F id /\ id ≠ st.ctr) w := fun _ h => h.less fun _ h => ⟨h.1, fun _ => h.2⟩
 have nCase : e = .keep -> nW AD st o.op (· = l) -> o.wp P a w next Q := by
  rintro rfl h
  obtain ⟨u, v, rfl, hv, hg⟩ := Iy hE hs h
  unfold Oper.wp
  rw [hg o rfl w]
  exact hK _ _ (hR.put' (ctr' := st.ctr) hs0 (hh.less fun _ h => h.1) hv)
 have mCase : mW AD st o.op (fun r h _ => r = l /\ h = e.ap st.ctr st.heap) -> o.wp P a w next Q := by
  intro h
  obtain ⟨l', h', c', u, w', μ', ⟨rfl, rfl⟩, ⟨_, hh'⟩, hl, hmono, hrun⟩ := QE (a := a) (F := F) hE hs ⟨hh, hc⟩ h
  have := hK _ _ (hR.put' (ctr' := st.ctr) (fun t ht => hmono _ _ (hs0 t ht)) (less c' hh') hl)
  unfold Oper.wp
  rcases hrun o rfl with hr | ⟨hr, rfl⟩ <;> rw [hr] <;> exact this
 obtain ⟨dst, op, type, pos, after, guard⟩ := o
 simp only at h nCase mCase
 cases op <;> simp only [B1] at h <;> (try exact nCase h.1 h.2)
 case load t x =>
  obtain ⟨rfl, _, ti, h1, h2⟩ := h
  refine mCase ?_
  simp only [mW, Ds.ap]
  exact ⟨ti, h1, by
   unfold GB at *
   split at h2
   .obtain ⟨r, g1, g2⟩ := h2; exact ⟨r, g1, g2, trivial⟩
   .obtain ⟨c, r, g1, g2, g3⟩ := h2; exact ⟨c, r, g1, g2, g3, trivial⟩
   .obtain ⟨c1, c2, c3, c4, r, g1, g2, g3, g4⟩ := h2; exact ⟨c1, c2, c3, c4, r, g1, g2, g3, g4, trivial⟩
   exact h2⟩
 case lookup t x i ok =>
  obtain ⟨rfl, ti, kt, et, te, m, kd, h1, h2, h3, h4, h5, h6, h7, h8⟩ := h
  refine mCase ?_
  simp only [mW, Ds.ap]
  exact ⟨ti, kt, et, te, m, kd, h1, h2, h3, h4, h5, h6, h7, h8, trivial⟩
 case store => obtain ⟨_, h', rfl, h⟩ := h; exact mCase h
 case mapUpdate => obtain ⟨h', rfl, h⟩ := h; exact mCase h
 case mapEntry => obtain ⟨h', rfl, h⟩ := h; exact mCase h
 case entryStore => obtain ⟨h', rfl, h⟩ := h; exact mCase h
 case alloc t => obtain ⟨ti, h1, rfl, rfl⟩ := h; exact mCase (by simp only [mW]; exact ⟨ti, h1, trivial, rfl⟩)
 case box t x => obtain ⟨ls, h1, rfl, rfl⟩ := h; exact mCase (by simp only [mW]; exact ⟨ls, h1, trivial, rfl⟩)
 case buildSlice t n ps =>
  obtain ⟨ti, e', te, l', h1, h2, h3, h4, h5, h6, h7, ⟨rfl, rfl⟩ | ⟨rfl, rfl⟩⟩ := h
  .exact mCase (by simp only [mW]; exact ⟨ti, e', te, l', h1, h2, h3, h4, h5, h6, h7, .inl ⟨rfl, rfl⟩⟩)
  exact mCase (by simp only [mW]; exact ⟨ti, e', te, l', h1, h2, h3, h4, h5, h6, h7, .inr ⟨rfl, rfl⟩⟩)
 case makeSlice t x y =>
  obtain ⟨ti, e', te, n, k1, k2, h1, h2, h3, h4, h5, h6, h7, h8, ⟨rfl, rfl⟩ | ⟨rfl, rfl⟩⟩ := h
  .exact mCase (by simp only [mW]; exact ⟨ti, e', te, n, k1, k2, h1, h2, h3, h4, h5, h6, h7, h8, .inl ⟨rfl, rfl⟩⟩)
  exact mCase (by simp only [mW]; exact ⟨ti, e', te, n, k1, k2, h1, h2, h3, h4, h5, h6, h7, h8, .inr ⟨rfl, rfl⟩⟩)
 case makeMap t r => obtain ⟨rfl, rfl, rfl⟩ := h; exact mCase (by simp only [mW]; exact ⟨trivial, trivial, rfl⟩)
 case call c =>
  obtain ⟨callee, args, ats⟩ := c
  cases callee with
  | value f =>
   simp only at h
   split at h
   .obtain ⟨h', rfl, f', k, caps, g1, g2, g3, _, _⟩ := h
    simp only [Callee.value.injEq] at g1
    subst g1
    have hfv := hs f
    rw [g2] at hfv
    generalize hv : a.eval f = v at hfv
    cases hfv with
    | fn _ cs _ hsz hr =>
     have hx : (execOp a.eval ⟨dst, .call ⟨.value f, args, ats⟩, type, pos, after, guard⟩).run P w = .ok (.enter k (args.map a.eval ++ cs)) w := by
      simp [execOp, resolve, Deferred.ofValue, hv, invoke]
      exact g3.1 _ _
     unfold Oper.wp
     rw [hx, Oper.upon_enter]
     refine (g3.2 A F μ w _ hh hc hF (by simp [hsz]) fun i v x hvi hx => ?_).mono fun en w' ⟨u, μ', he, hh', hl, hmono⟩ => ?_
     .rw [List.getElem?_append] at hx
      rw [Array.getElem?_append] at hvi
      by_cases hi' : i < args.size
      .rw [if_pos (by simpa using hi')] at hvi hx
       exact H3 hs args.toList i v _ (by simpa using hvi) hx
      rw [if_neg (by simpa using hi')] at hvi hx
      exact hr _ v _ (by simpa using hvi) (by simpa using hx)
     subst he
     exact hK _ _ (hR.put' (ctr' := st.ctr) (fun t ht => hmono _ _ (hs0 t ht)) hh' hl)
   rcases h with ⟨rfl, k, caps, ds, r, h1, h2, h3, h4, rfl⟩ | ⟨_, k, caps, ds, tt, sz, elems, h1, h2, h3, h4, rfl, rfl⟩
   .have hfv := hs f
    rw [h1] at hfv
    generalize hv : a.eval f = v at hfv
    cases hfv with
    | fn _ cs _ hsz hr =>
     have hx : (execOp a.eval ⟨dst, .call ⟨.value f, args, ats⟩, type, pos, after, guard⟩).run P w = .ok (.enter k (args.map a.eval ++ cs)) w := by
      simp [execOp, resolve, Deferred.ofValue, hv, invoke]
      exact h3.enters _ _
     unfold Oper.wp
     rw [hx, Oper.upon_enter]
     obtain ⟨g1, g2⟩ := Eh hh (l := (args.toList.map st.eval ++ caps).flatMap (D5 st.heap)) h2 (fun id hid => hid)
     have hO : ∀ b, Ag A μ (B5 ((args.toList.map st.eval ++ caps).flatMap (D5 st.heap)) st.heap) b -> b < w.heap.size := by
      rintro b (hb | ⟨id, x, lc, h1, h2, h3, rfl⟩)
      .exact Nat.lt_of_lt_of_le (A.hO b hb).1 hh.size
      exact (hh.base id x lc (GM h1).2 h2 h3).1
     refine (h3.run _ w _ hO (by rw [<- g1]; simp [hsz]) fun i v d hvi hdi => ?_).mono fun e w' ⟨v, r', he, hp, hq, hb⟩ => ?_
     .have hi := (List.getElem?_eq_some_iff.1 hdi).1
      have hx : (args.toList.map st.eval ++ caps)[i]? = some ((args.toList.map st.eval ++ caps)[i]'(by omega)) := List.getElem?_eq_getElem _
      refine g2 i v _ d hx hdi ?_
      rw [List.getElem?_append] at hx
      rw [Array.getElem?_append] at hvi
      by_cases hi' : i < args.size
      .rw [if_pos (by simpa using hi')] at hvi hx
       exact H3 hs args.toList i v _ (by simpa using hvi) hx
      rw [if_neg (by simpa using hi')] at hvi hx
      exact hr _ v _ (by simpa using hvi) (by simpa using hx)
     subst he hq
     obtain ⟨hh', hown⟩ := hh.keep (w' := w') (h' := st.heap) (μ' := μ) (fun _ _ h => h) hh.fresh (fun _ _ h => h) hb.block hb.size hb.os hb.tape hb.output
     have hp' : Av (Ag A μ st.heap) w' v r' := by
      rcases h4 with h4 | h4
      .exact hp.scalar h4 _ _
      rw [h4] at hp; exact hp
     exact hK _ _ (hR.put' (ctr' := st.ctr) (fun t ht => (hs0 t ht).mono ⟨hb.size, fun b hb' _ => hb.block b hb'⟩ (fun b _ hb => hb) (fun _ _ h => h)) (hh'.less fun _ h => h.1) (.p _ _ hp'))
   have hfv := hs f
   rw [h1] at hfv
   generalize hv : a.eval f = v at hfv
   cases hfv with
   | fn _ cs _ hsz hr =>
    have hx : (execOp a.eval ⟨dst, .call ⟨.value f, args, ats⟩, type, pos, after, guard⟩).run P w = .ok (.enter k (args.map a.eval ++ cs)) w := by
     simp [execOp, resolve, Deferred.ofValue, hv, invoke]
     exact h3.enters _ _
    unfold Oper.wp
    rw [hx, Oper.upon_enter]
    obtain ⟨g1, g2⟩ := Eh hh (l := (args.toList.map st.eval ++ caps).flatMap (D5 st.heap)) h2 (fun id hid => hid)
    have hO : ∀ b, Ag A μ (B5 ((args.toList.map st.eval ++ caps).flatMap (D5 st.heap)) st.heap) b -> b < w.heap.size := by
     rintro b (hb | ⟨id, x, lc, h1, h2, h3, rfl⟩)
     .exact Nat.lt_of_lt_of_le (A.hO b hb).1 hh.size
     exact (hh.base id x lc (GM h1).2 h2 h3).1
    refine (h3.run _ w _ hO (by rw [<- g1]; simp [hsz]) fun i v d hvi hdi => ?_).mono fun e w' ⟨v, he, hn', hb⟩ => ?_
    .have hi := (List.getElem?_eq_some_iff.1 hdi).1
     have hx : (args.toList.map st.eval ++ caps)[i]? = some ((args.toList.map st.eval ++ caps)[i]'(by omega)) := List.getElem?_eq_getElem _
     refine g2 i v _ d hx hdi ?_
     rw [List.getElem?_append] at hx
     rw [Array.getElem?_append] at hvi
     by_cases hi' : i < args.size
     .rw [if_pos (by simpa using hi')] at hvi hx
      exact H3 hs args.toList i v _ (by simpa using hvi) hx
     rw [if_neg (by simpa using hi')] at hvi hx
     exact hr _ v _ (by simpa using hvi) (by simpa using hx)
    subst he
    have hn2 : Kh w w' (Ag A μ st.heap) v tt sz elems := by
     rcases h4 with h4 | h4
     .rw [h4] at hn'; exact hn'
     exact hn'.flat h4 _
    obtain ⟨μ', k1, k2, k3⟩ := YX hh hc hn2 hb
    exact hK _ _ (hR.put' (ctr' := st.ctr) (fun t ht => k3 _ _ (hs0 t ht)) k1 k2)
  | builtin b =>
   cases b with
   | append => obtain ⟨-, h', rfl, h⟩ := h; exact mCase h
   | _ => exact nCase h.1 h.2
  | invoke r m => exact nCase h.1 h.2
theorem QH (hE : BA P AD) {ops : Array Oper} {i : Nat} {o : Oper} (ho : ops[i]? = some o) {l : LV} {e : Ds} (hR : RF A F st a w) (hc : F st.ctr) (hF : ∃ c0, ∀ q, c0 <= q -> F q) (h : Cg P AD ops st o l e) {next : Act -> World -> Prop} {Q : Exit -> Act -> World -> Prop}
  (hK : ∀ a' w', RF A (fun id => F id /\ id ≠ st.ctr) (apS st st.ctr o l e) a' w' -> next a' w') : wpOp P ops Q i next a w := by
 obtain ⟨⟨μ, hh, hs0⟩, hnt, hdef⟩ := id hR
 have hs := fun x => GO hs0 x
 unfold wpOp
 rw [ho]
 simp only
 unfold Cg at h
 have skip : l = .und /\ e = .keep -> next (a.put o.dst undef) w := by
  rintro ⟨rfl, rfl⟩
  exact hK _ _ (hR.put' (ctr' := st.ctr) hs0 (hh.less fun _ h => h.1) .und)
 split at h
 .rename_i hg
  rw [if_pos (by simp [Region.wanted, hg])]
  exact .inl (SF hE hR hc hF h hK)
 rename_i j want hg
 obtain ⟨g1, g2⟩ := OI (ops := ops) (j := j) hs
 split at h
 .rename_i b hb
  have hy := g1 b hb
  split at h
  .rename_i e
   rw [if_pos (by simp [Region.wanted, hg, hy, e])]
   exact .inl (SF hE hR hc hF h hK)
  rename_i e
  rw [if_neg (by simp [Region.wanted, hg, hy, e])]
  exact skip h
 .rename_i hb
  have hy := g2 hb
  rw [if_neg (by simp [Region.wanted, hg, hy])]
  exact skip h
 exact h.elim
end
section
variable {P : Program} {AD : A3} {md : Region.Mode} {ops : Array Oper} {base : Nat} {Q : St -> Prop}
def Hx (P : Program) (AD : A3) (md : Region.Mode) (ops : Array Oper) (base : Nat) (Q : St -> Prop) : Nat -> Array Bool -> St -> Prop
 | 0, listed, st => Region.ready md ops listed = [] /\ ∃ st', Fd st st' /\ Q st'
 | fuel + 1, listed, st => (Region.ready md ops listed = [] -> ∃ st', Fd st st' /\ Q st') /\
  ∀ i ∈ Region.ready md ops listed, ∃ o l e, ops[i]? = some o /\ Cg P AD ops (st.at (base + i)) o l e /\ Hx P AD md ops base Q fuel (listed.setIfInBounds i true) (apS st (base + i) o l e)
theorem Fd.trans {a b c : St} (h : Fd a b) (h' : Fd b c) : Fd a c := ⟨h.nt.trans h'.nt, fun t => (h.slots t).trans (h'.slots t), fun i => (h.heap i).trans (h'.heap i)⟩
theorem Fd.symm {a b : St} (h : Fd a b) : Fd b a := ⟨h.nt.symm, fun t => (h.slots t).symm, fun i => (h.heap i).symm⟩
theorem YY {st : St} {dst : Option Tmp} {l : LV} {t : Nat} : BW (st.put dst l).slots t = if dst = some t then l else BW st.slots t := by
 cases dst with
 | none => simp [St.put]
 | some d =>
  simp only [St.put, BW, AJ, Option.some.injEq]
  by_cases e : t = d
  .subst e; simp
  rw [if_neg e, if_neg (fun h => e h.symm)]
theorem Fe {st : St} {c : Nat} {o : Oper} {l : LV} {e : Ds} : (apS st c o l e).nt = st.nt := by
 unfold apS St.put; split <;> rfl
theorem Ba {st : St} {c : Nat} {o : Oper} {l : LV} {e : Ds} : (apS st c o l e).heap = e.ap c st.heap := by
 unfold apS St.put; split <;> rfl
theorem CT {st : St} {c : Nat} {o : Oper} {l : LV} {e : Ds} {t : Nat} : BW (apS st c o l e).slots t = if o.dst = some t then l else BW st.slots t := by
 unfold apS; rw [YY]
theorem Fd.at {st st' : St} (h : Fd st st') (c : Nat) : Fd (st.at c) (st'.at c) := ⟨h.nt, h.slots, h.heap⟩
theorem Fd.apS {st st' : St} (h : Fd st st') {c : Nat} {o : Oper} {l : LV} {e e' : Ds} (he : ∀ id, AJ id (e.ap c st.heap) = AJ id (e'.ap c st'.heap)) : Fd (apS st c o l e) (apS st' c o l e') :=
 ⟨by rw [Fe, Fe]; exact h.nt, fun t => by rw [CT, CT, h.slots], fun id => by rw [Ba, Ba]; exact he id⟩
theorem NB : ∀ (fuel : Nat) (listed : Array Bool) (st st' : St), Fd st st' -> Hx P AD md ops base Q fuel listed st -> Hx P AD md ops base Q fuel listed st'
 | 0, _, _, _, he, ⟨h1, s, h2, h3⟩ => ⟨h1, s, he.symm.trans h2, h3⟩
 | fuel + 1, _, st, st', he, ⟨h1, h2⟩ => ⟨fun hr => by obtain ⟨s, a, b⟩ := h1 hr; exact ⟨s, he.symm.trans a, b⟩, fun i hi => by
   obtain ⟨o, l, e, g1, g2, g3⟩ := h2 i hi
   obtain ⟨e', k1, k2⟩ := Xb (he.at (base + i)) rfl g2
   exact ⟨o, l, e', g1, k1, NB fuel _ _ _ (he.apS k2) g3⟩⟩
def OO : Cls -> Cls -> Bool
 | .n, .w => true
 | .w, _ | _, .w => false
 | .a, .r => false
 | _, _ => true
def MQ : Op -> Bool
 | .call c => match c.callee with
  | .value f => !(Dn f)
  | _ => false
 | _ => false
def Rj (a b : Op) : Bool := !(MQ a) || decide (BO b ≠ .r)
theorem YZ {st : St} {o : Oper} {l : LV} {e : Ds} (h : Cg P AD ops st o l e) (hc : BO o.op = .n \/ BO o.op = .r) (hw : AD.own = true -> MQ o.op = false) : e = .keep := by
 have big : B1 P AD st o.op l e -> e = .keep := by
  intro h
  generalize o.op = op at *
  cases op <;> simp only [BO, reduceCtorEq, or_self] at hc <;> simp only [B1] at h <;> (try exact h.1)
  case call c =>
   obtain ⟨callee, args, ats⟩ := c
   cases callee with
   | builtin b => cases b <;> simp only [reduceCtorEq, or_self] at hc <;> exact h.1
   | value f =>
    have hnd : ¬ Dn f = true := fun hd => by simp [hd] at hc
    simp only [if_neg hnd] at h
    rcases h with h | ⟨h, _⟩
    .exact h.1
    have := hw h
    simp [MQ, hnd] at this
   | _ => exact h.1
 unfold Cg at h
 split at h
 .exact big h
 split at h
 .split at h
  .exact big h
  exact h.2
 .exact h.2
 exact h.elim
theorem PS {st : St} {o : Oper} {l : LV} {e : Ds} (h : Cg P AD ops st o l e) (hc : BO o.op ≠ .w) : e = .keep \/ ∃ x, e = .new x := by
 have big : B1 P AD st o.op l e -> e = .keep \/ ∃ x, e = .new x := by
  intro h
  generalize o.op = op at *
  cases op <;> simp only [B1] at h <;> (try exact .inl h.1)
  case store => exact absurd rfl hc
  case mapUpdate => exact absurd rfl hc
  case mapEntry => exact absurd rfl hc
  case entryStore => exact absurd rfl hc
  case alloc => obtain ⟨_, _, _, h⟩ := h; exact .inr ⟨_, h⟩
  case box => obtain ⟨_, _, _, h⟩ := h; exact .inr ⟨_, h⟩
  case buildSlice => obtain ⟨_, _, _, _, _, _, _, _, _, _, _, ⟨_, h⟩ | ⟨_, h⟩⟩ := h; exact .inr ⟨_, h⟩; exact .inl h
  case makeSlice => obtain ⟨_, _, _, _, _, _, _, _, _, _, _, _, _, _, ⟨_, h⟩ | ⟨_, h⟩⟩ := h; exact .inr ⟨_, h⟩; exact .inl h
  case makeMap => exact .inr ⟨_, h.2.2⟩
  case call c =>
   obtain ⟨callee, args, ats⟩ := c
   cases callee with
   | builtin b =>
    cases b with
    | append => exact absurd rfl hc
    | _ => exact .inl h.1
   | value f =>
    have hnd : ¬ Dn f = true := fun hd => hc (by simp [BO, hd])
    simp only [if_neg hnd] at h
    rcases h with h | ⟨_, _, _, _, _, _, _, _, _, _, _, _, h⟩
    .exact .inl h.1
    exact .inr ⟨_, h⟩
   | _ => exact .inl h.1
 unfold Cg at h
 split at h
 .exact big h
 split at h
 .split at h
  .exact big h
  exact .inl h.2
 .exact .inl h.2
 exact h.elim
theorem LQ {st : St} {o : Oper} {l : LV} {e : Ds} (h : Cg P AD ops st o l e) {k : Nat} (hk : k ≠ st.ctr) (hn : AJ k st.heap = none) : AJ k (e.ap st.ctr st.heap) = none := by
 by_cases hw : BO o.op = .w
 .have big : B1 P AD st o.op l e -> AJ k (e.ap st.ctr st.heap) = none := by
   intro h
   have : ∃ h1, e = .set h1 /\ wW P AD st o.op l h1 := by
    generalize hq : o.op = op at *
    cases op <;> simp only [BO, reduceCtorEq] at hw <;> simp only [B1] at h ⊢
    case store => exact h.2
    case mapUpdate => exact h
    case mapEntry => exact h
    case entryStore => exact h
    case call c =>
     obtain ⟨callee, args, ats⟩ := c
     cases callee with
     | builtin b =>
      cases b <;> simp only [reduceCtorEq] at hw
      exact h.2
     | value f =>
      have hd : Dn f = true := by simp only at hw; split at hw <;> first | assumption | cases hw
      simp only [hd, if_true] at h
      exact h
     | _ => simp only [reduceCtorEq] at hw
   obtain ⟨h1, rfl, g⟩ := this
   obtain ⟨_, _, _, g⟩ := WH (st' := st) hw (fun _ _ => rfl) rfl (fun _ => rfl) g
   exact g k hk hn
  unfold Cg at h
  split at h
  .exact big h
  split at h
  .split at h
   .exact big h
   rw [h.2]; exact hn
  .rw [h.2]; exact hn
  exact h.elim
 rcases PS h hw with rfl | ⟨x, rfl⟩
 .exact hn
 simp only [Ds.ap, AJ, hk, if_false]; exact hn
def Rk : Op -> Op -> Bool
 | .load .., .mapUpdate .. | .load .., .mapEntry .. | .load .., .entryStore .. => true
 | _, _ => false
def QI : Op -> Op -> Bool
 | .load .., .store .. => true
 | .load .., .call c => match c.callee with
  | .builtin .append => true
  | .value f => Dn f
  | _ => false
 | _, _ => false
def OP (q : Bool) (a b : Op) : Bool := Rk a b || (q && QI a b)
def Rl (q : Bool) (a b : Op) : Bool := OO (BO a) (BO b) || OP q a b
theorem WI {o : Op} (h : MQ o = true) : BO o = .r := by
 unfold MQ at h
 split at h
 .rename_i c
  unfold BO
  split at h
  .rename_i f e
   simp only [Bool.not_eq_true'] at h
   simp only [e, h, Bool.false_eq_true, if_false]
  cases h
 cases h
theorem Sy {a b : Op} (h : QI a b = true) : BO a = .r /\ BO b = .w /\ (∃ t x, a = .load t x) /\ ((∃ t x v, b = .store t x v) \/ ∃ c, b = .call c /\ (c.callee = .builtin .append \/ ∃ f, c.callee = .value f /\ Dn f = true)) := by
 unfold QI at h
 split at h
 .exact ⟨rfl, rfl, ⟨_, _, rfl⟩, .inl ⟨_, _, _, rfl⟩⟩
 .rename_i c
  split at h
  .rename_i e
   exact ⟨rfl, by simp [BO, e], ⟨_, _, rfl⟩, .inr ⟨_, rfl, .inl e⟩⟩
  .rename_i f e
   exact ⟨rfl, by simp [BO, e, h], ⟨_, _, rfl⟩, .inr ⟨_, rfl, .inr ⟨f, e, h⟩⟩⟩
  cases h
 cases h
theorem Tc {a b : Op} (h : Rk a b = true) : BO a = .r /\ BO b = .w /\ (∃ t x, a = .load t x) /\ ((∃ t x i v, b = .mapUpdate t x i v) \/ (∃ t x i, b = .mapEntry t x i) \/ ∃ t x i v, b = .entryStore t x i v) := by
 unfold Rk at h
 split at h
 .exact ⟨rfl, rfl, ⟨_, _, rfl⟩, .inl ⟨_, _, _, _, rfl⟩⟩
 .exact ⟨rfl, rfl, ⟨_, _, rfl⟩, .inr (.inl ⟨_, _, _, rfl⟩)⟩
 .exact ⟨rfl, rfl, ⟨_, _, rfl⟩, .inr (.inr ⟨_, _, _, _, rfl⟩)⟩
 cases h
theorem HV {q : Bool} {a b : Op} (h : OP q a b = true) : BO a = .r /\ BO b = .w /\ (∃ t x, a = .load t x) /\
  (((∃ t x i v, b = .mapUpdate t x i v) \/ (∃ t x i, b = .mapEntry t x i) \/ ∃ t x i v, b = .entryStore t x i v) \/ (q = true /\ ((∃ t x v, b = .store t x v) \/ ∃ c, b = .call c /\ (c.callee = .builtin .append \/ ∃ f, c.callee = .value f /\ Dn f = true)))) := by
 simp only [OP, Bool.or_eq_true, Bool.and_eq_true] at h
 rcases h with h | ⟨hq, h⟩
 .obtain ⟨h1, h2, h3, h4⟩ := Tc h; exact ⟨h1, h2, h3, .inl h4⟩
 obtain ⟨h1, h2, h3, h4⟩ := Sy h; exact ⟨h1, h2, h3, .inr ⟨hq, h4⟩⟩
theorem Zi {st st' : St} {o : Oper} {l : LV} {e : Ds} (hld : ∃ t x, o.op = .load t x) (hnt : st.nt = st'.nt) (hs : ∀ t ∈ o.looksAt ops, BW st.slots t = BW st'.slots t)
  (hm : ∀ id x, AJ id st.heap = some x -> (∀ m, x ≠ .map m) -> AJ id st'.heap = some x) (h : Cg P AD ops st o l e) : Cg P AD ops st' o l e := by
 have hop := Ex hnt hs
 have key : B1 P AD st o.op l e -> B1 P AD st' o.op l e := by
  obtain ⟨t, x, ho⟩ := hld
  rw [ho] at hop ⊢
  simp only [B1]
  rintro ⟨h1, hc', ti, h2, h3⟩
  have he : st.eval x = st'.eval x := hop x (by simp [Op.operands])
  rw [<- he]
  refine ⟨h1, hc', ti, h2, ?_⟩
  unfold GB at h3 ⊢
  split at h3
  .rename_i hx; simp only [hx]; exact h3
  .rename_i id off hx
   obtain ⟨cells, r, g1, g2⟩ := h3
   simp only [hx]
   exact ⟨cells, r, hm _ _ g1 (by simp), g2⟩
  .rename_i id i off hx
   obtain ⟨e', sz, elems, y, r, g1, g2⟩ := h3
   simp only [hx]
   exact ⟨e', sz, elems, y, r, hm _ _ g1 (by simp), g2⟩
  exact h3.elim
 unfold Cg at *
 split at h
 .exact key h
 rename_i j want hg
 rw [<- HU hnt hs hg]
 split at h
 .rename_i hb
  split at h
  .rw [if_pos ‹_›]; exact key h
  rw [if_neg ‹_›]; exact h
 .exact h
 exact h.elim
theorem AAL {st : St} {o : Oper} {l : LV} {e : Ds} {c : Nat} (hmu : (∃ t x i v, o.op = .mapUpdate t x i v) \/ (∃ t x i, o.op = .mapEntry t x i) \/ ∃ t x i v, o.op = .entryStore t x i v) (h : Cg P AD ops st o l e) : ∀ id x, AJ id st.heap = some x -> (∀ m, x ≠ .map m) -> AJ id (e.ap c st.heap) = some x := by
 have key : B1 P AD st o.op l e -> ∀ id x, AJ id st.heap = some x -> (∀ m, x ≠ .map m) -> AJ id (e.ap c st.heap) = some x := by
  have fin : ∀ (id' : Nat) (m m' : List (DV × DV)), AJ id' st.heap = some (.map m) -> ∀ id y, AJ id st.heap = some y -> (∀ m, y ≠ .map m) -> AJ id (BR id' (.map m') st.heap) = some y := by
   intro id' m m' h4 id y hy hne
   by_cases hii : id = id'
   .subst hii; rw [h4] at hy; cases hy; exact absurd rfl (hne _)
   rw [DA hii]; exact hy
  rcases hmu with ⟨t, x, i, v, ho⟩ | ⟨t, x, i, ho⟩ | ⟨t, x, i, v, ho⟩
  .rw [ho]
   simp only [B1]
   rintro ⟨h', rfl, hmw⟩ id y hy hne
   obtain ⟨ti, kt, et, id', m, kd, vd, h1, h2, h3, h4, h5, h6, h7, h8, _, rfl⟩ := hmw
   exact fin id' m _ h4 id y hy hne
  .rw [ho]
   simp only [B1]
   rintro ⟨h', rfl, hmw⟩ id y hy hne
   obtain ⟨ti, kt, et, te, id', m, kd, h1, h2, h3, h4, h5, h6, h7, h8, _, rfl⟩ := hmw
   show AJ id (match CS kd m with | some _ => st.heap | none => _) = some y
   split
   .exact hy
   exact fin id' m _ h5 id y hy hne
  rw [ho]
  simp only [B1]
  rintro ⟨h', rfl, hmw⟩ id y hy hne
  obtain ⟨id', m, k1, n, vd, p, h1, h2, h3, h4, h5, h6, _, rfl⟩ := hmw
  exact fin id' m _ h2 id y hy hne
 unfold Cg at h
 split at h
 .exact key h
 split at h
 .split at h
  .exact key h
  obtain ⟨_, rfl⟩ := h; exact fun id x hx _ => hx
 .obtain ⟨_, rfl⟩ := h; exact fun id x hx _ => hx
 exact h.elim
theorem Ya {b : Nat -> Bool} (hb0 : AD.calm = some b) {st st' : St} {o : Oper} {l : LV} {e : Ds} (hld : ∃ t x, o.op = .load t x) (hnt : st.nt = st'.nt) (hs : ∀ t ∈ o.looksAt ops, BW st.slots t = BW st'.slots t)
  (hm : ∀ id o, (∀ m, o ≠ .map m) -> b id = false -> AJ id st.heap = some o -> AJ id st'.heap = some o) (h : Cg P AD ops st o l e) : Cg P AD ops st' o l e := by
 have hop := Ex hnt hs
 have key : B1 P AD st o.op l e -> B1 P AD st' o.op l e := by
  obtain ⟨t, x, ho⟩ := hld
  rw [ho] at hop ⊢
  simp only [B1]
  rintro ⟨h1, hc', ti, h2, h3⟩
  have he : st.eval x = st'.eval x := hop x (by simp [Op.operands])
  rw [<- he]
  refine ⟨h1, hc', ti, h2, ?_⟩
  rw [hb0] at hc'
  unfold GB at h3 ⊢
  split at h3
  .rename_i hx; simp only [hx]; exact h3
  .rename_i id off hx
   obtain ⟨cells, r, g1, g2⟩ := h3
   simp only [hx]
   simp only [hx, MM] at hc'
   exact ⟨cells, r, hm _ _ (by simp) (by simpa using hc') g1, g2⟩
  .rename_i id i off hx
   obtain ⟨e', sz, elems, y, r, g1, g2⟩ := h3
   simp only [hx]
   simp only [hx, MM] at hc'
   exact ⟨e', sz, elems, y, r, hm _ _ (by simp) (by simpa using hc') g1, g2⟩
  exact h3.elim
 unfold Cg at *
 split at h
 .exact key h
 rename_i j want hg
 rw [<- HU hnt hs hg]
 split at h
 .rename_i hb
  split at h
  .rw [if_pos ‹_›]; exact key h
  rw [if_neg ‹_›]; exact h
 .exact h
 exact h.elim
theorem Zj {b : Nat -> Bool} (hb0 : AD.calm = some b) {st : St} {o : Oper} {l : LV} {e : Ds} (hfr : AJ st.ctr st.heap = none) (hmu : (∃ t x v, o.op = .store t x v) \/ ∃ c, o.op = .call c /\ (c.callee = .builtin .append \/ ∃ f, c.callee = .value f /\ Dn f = true)) (h : Cg P AD ops st o l e) :
  ∀ id x, (∀ m, x ≠ .map m) -> b id = false -> AJ id st.heap = some x -> AJ id (e.ap st.ctr st.heap) = some x := by
 have key : B1 P AD st o.op l e -> ∀ id x, (∀ m, x ≠ .map m) -> b id = false -> AJ id st.heap = some x -> AJ id (e.ap st.ctr st.heap) = some x := by
  intro h id y hnm hid hl
  rcases hmu with ⟨t, x, v, ho⟩ | ⟨c, ho, hcal⟩
  .rw [ho] at h
   simp only [B1] at h
   obtain ⟨hc', h', rfl, ti, h1, hs⟩ := h
   rw [hb0] at hc'
   unfold Jd at hs
   obtain ⟨ls, g1, g2, g3, hs⟩ := hs
   split at hs
   .rename_i id' off hx
    obtain ⟨cells', q1, q2, _, rfl⟩ := hs
    rw [hx] at hc'
    simp only [Ki] at hc'
    show AJ id (BR id' _ st.heap) = _
    rw [DA (fun e2 => by rw [e2, hc'] at hid; cases hid)]; exact hl
   .rename_i hx
    first
    | exact hs.elim
    | (simp only [hx, Ki, Bool.false_eq_true] at hc')
   all_goals first
    | exact hs.elim
    | (rename_i hx; simp only [hx, Ki, Bool.false_eq_true] at hc')
  obtain ⟨callee, args, ats⟩ := c
  simp only at hcal
  rcases hcal with hcal | ⟨f, hcal, hd⟩
  rotate_left
  .subst hcal
   rw [ho] at h
   simp only [B1, hd, if_true] at h
   obtain ⟨h', rfl, f', k, caps, _, _, _, _, g5⟩ := h
   have hne : id ≠ st.ctr := fun e2 => by rw [e2, hfr] at hl; cases hl
   exact g5 b hb0 id y hnm hne hid hl
  subst hcal
  rw [ho] at h
  simp only [B1, mW] at h
  obtain ⟨hap, h', rfl, _, s, x, t, g1, g2, ti, e', te, q1, q2, q3, q4, new, q5, q6, hs⟩ := h
  have hne : id ≠ st.ctr := fun e2 => by rw [e2, hfr] at hl; cases hl
  show AJ id h' = _
  split at hs
  .obtain ⟨_, _, _, rfl⟩ := hs
   simp only [AJ, if_neg hne]; exact hl
  .rename_i id' sz off len hx
   obtain ⟨elems, _, hrow, _, _, _, _, rfl⟩ := hs
   have hne2 : id ≠ id' := fun e2 => by
    have := hap s (by rw [g1]; rfl)
    rw [hb0, hx] at this
    simp only [Qm] at this
    rw [e2, this] at hid; cases hid
   simp only [AJ, if_neg hne]
   rw [Eu hne2]; exact hl
  exact hs.elim
 unfold Cg at h
 split at h
 .exact key h
 split at h
 .split at h
  .exact key h
  obtain ⟨_, rfl⟩ := h; exact fun id x _ _ hx => hx
 .obtain ⟨_, rfl⟩ := h; exact fun id x _ _ hx => hx
 exact h.elim
theorem Qp (q : Bool) (hq : q = true -> ∃ b, AD.calm = some b) {i : Nat} {oi : Oper} {l : LV} {e : Ds} (hi : ops[i]? = some oi) (B : Nat -> Bool)
  (hB : ∀ j, B j = true -> j ≠ i /\ ∀ oj, ops[j]? = some oj -> ∃ x ∈ oj.after, Region.binds md x = true /\ (x.on = i \/ B x.on = true)) :
  ∀ (fuel : Nat) (listed : Array Bool) (st : St), (∀ j, B j = true -> listed.getD j false = false) ->
   (∀ j oj, ops[j]? = some oj -> j ≠ i -> listed.getD j true = false -> B j = false -> oi.apart ops oj = true /\ Rl q oi.op oj.op = true /\ (AD.own = true -> Rj oi.op oj.op = true)) ->
   (∀ k, listed.getD k true = false -> AJ (base + k) st.heap = none) ->
   i ∈ Region.ready md ops listed -> Cg P AD ops (st.at (base + i)) oi l e ->
   Hx P AD md ops base Q fuel (listed.setIfInBounds i true) (apS st (base + i) oi l e) -> Hx P AD md ops base Q (fuel + 1) listed st := by
 intro fuel
 induction fuel with
 | zero =>
  intro listed st _ _ _ hr hy H
  refine ⟨fun h => (by rw [h] at hr; cases hr), fun j hj => ?_⟩
  by_cases hji : j = i
  .subst hji; exact ⟨oi, l, e, hi, hy, H⟩
  have := ready_mono hj hji
  rw [H.1] at this
  cases this
 | succ fuel ih =>
  intro listed st hBl hfree hfresh hr hy H
  refine ⟨fun h => (by rw [h] at hr; cases hr), fun j hj => ?_⟩
  by_cases hji : j = i
  .subst hji; exact ⟨oi, l, e, hi, hy, H⟩
  obtain ⟨oj, lj, ej, hoj, h1, h2⟩ := H.2 j (ready_mono hj hji)
  obtain ⟨hjun, oj', hoj', hall⟩ := mem_ready.1 hj
  rw [hoj] at hoj'; cases hoj'
  have hiun : listed.getD i true = false := (mem_ready.1 hr).1
  have hiF : listed.getD i false = false := by
   rcases Nat.lt_or_ge i listed.size with h' | h'
   .simp [h'] at hiun ⊢; exact hiun
   simp [Array.getElem?_eq_none h']
  have hjB : B j = false := by
   rcases hb : B j with _ | _
   .rfl
   obtain ⟨_, hb2⟩ := hB j hb
   obtain ⟨x, hx, hxb, hxo⟩ := hb2 oj hoj
   have := hall x hx hxb
   rcases hxo with hxo | hxo
   .rw [hxo, hiF] at this; cases this
   rw [hBl _ hxo] at this; cases this
  obtain ⟨hap, hcp, hwp⟩ := hfree j oj hoj hji hjun hjB
  obtain ⟨a1, a2, a3⟩ := Oper.apart_spec hap
  simp only [Rl, Bool.or_eq_true] at hcp
  have hwi : BO oi.op ≠ .w := by
   rcases hcp with hcp | hcp
   .intro e; rw [e] at hcp; simp [OO] at hcp
   rw [(HV hcp).1]; simp
  have hwj : BO oj.op = .w -> BO oi.op = .n \/ OP q oi.op oj.op = true := by
   intro e
   rcases hcp with hcp | hcp
   .rw [e] at hcp; cases hq : BO oi.op <;> rw [hq] at hcp <;> simp [OO] at hcp ⊢
   exact .inr hcp
  have hnr : BO oj.op = .w -> BO oi.op = .n \/ BO oi.op = .r := fun e => (hwj e).imp id fun h => (HV h).1
  have hcp : BO oj.op ≠ .w -> OO (BO oi.op) (BO oj.op) = true := fun e => hcp.resolve_right fun h => e (HV h).2.1
  have hkp : BO oi.op = .n \/ BO oi.op = .r -> BO oj.op = .r \/ BO oj.op = .w -> e = .keep := fun hc hj => YZ hy hc fun ho => by
   rcases hj with hj | hj
   .have := hwp ho
    simp only [Rj, hj, ne_eq, not_true_eq_false, decide_false, Bool.or_false, Bool.not_eq_true'] at this
    exact this
   rcases hwj hj with h | h
   .cases hq : MQ oi.op with
    | false => rfl
    | true =>
     rw [WI hq] at h
     cases h
   obtain ⟨_, _, ⟨t, x, h⟩, _⟩ := HV h
   rw [h]; rfl
  have back : ∃ ej', Cg P AD ops (st.at (base + j)) oj lj ej' /\ (∀ id, AJ id (ej.ap (base + j) (apS st (base + i) oi l e).heap) = AJ id (ej'.ap (base + j) (apS st (base + i) oi l e).heap)) /\ (BO oj.op ≠ .w -> ej' = ej) := by
   have hsl : ∀ t ∈ oj.looksAt ops, BW ((apS st (base + i) oi l e).at (base + j)).slots t = BW (st.at (base + j)).slots t := fun t ht => by
    show BW (apS st (base + i) oi l e).slots t = BW st.slots t
    rw [CT, if_neg]
    intro e'; exact a1 t e' ht
   by_cases hcw : BO oj.op = .w
   .have : e = .keep := hkp (hnr hcw) (.inr hcw)
    subst this
    have heq : Fd ((apS st (base + i) oi l .keep).at (base + j)) { (st.at (base + j)) with slots := (apS st (base + i) oi l .keep).slots } := ⟨by simp [St.at, Fe], fun _ => rfl, fun id => by simp [St.at, Ba, Ds.ap]⟩
    obtain ⟨ej', k1, k2⟩ := Xb heq rfl h1
    have h3 : ∃ e3, Cg P AD ops (st.at (base + j)) oj lj e3 /\ ∀ id, AJ id (ej'.ap (base + j) st.heap) = AJ id (e3.ap (base + j) st.heap) :=
     Xc (st := { (st.at (base + j)) with slots := (apS st (base + i) oi l .keep).slots }) (st' := st.at (base + j)) hcw rfl hsl rfl (fun _ => rfl) k1
    obtain ⟨e3, g1, g2⟩ := h3
    refine ⟨e3, g1, fun id => ?_, fun hne => absurd hcw hne⟩
    have e1 : (apS st (base + i) oi l .keep).heap = st.heap := by rw [Ba]; rfl
    have k : AJ id (ej.ap (base + j) (apS st (base + i) oi l .keep).heap) = AJ id (ej'.ap (base + j) st.heap) := k2 id
    rw [k, e1]; exact g2 id
   refine ⟨ej, ?_, fun _ => rfl, fun _ => rfl⟩
   refine M8 (st := (apS st (base + i) oi l e).at (base + j)) (st' := st.at (base + j)) hcw (by simp [St.at, Fe]) hsl rfl (fun hcr => ?_) h1
   have : e = .keep := by
    refine hkp ?_ (.inl hcr)
    have hcp := hcp hcw
    rw [hcr] at hcp
    cases hq : BO oi.op <;> rw [hq] at hcp <;> simp [OO] at hcp ⊢
   subst this
   intro id o ho
   have ho' : AJ id (apS st (base + i) oi l .keep).heap = some o := ho
   rw [Ba] at ho'; exact ho'
  obtain ⟨ej', back, hej, hsame⟩ := back
  have keep : Cg P AD ops ((apS st (base + j) oj lj ej').at (base + i)) oi l e := by
   by_cases hsp : OP q oi.op oj.op = true
   .obtain ⟨_, _, hld, hmu⟩ := HV hsp
    rcases hmu with hmu | ⟨hqt, hmu⟩
    rotate_left
    .obtain ⟨b, hb0⟩ := hq hqt
     refine Ya hb0 (st := st.at (base + i)) (st' := (apS st (base + j) oj lj ej').at (base + i)) hld (by simp [St.at, Fe]) (fun t ht => ?_) (fun id cells hnm hid hx => ?_) hy
     .show BW st.slots t = BW (apS st (base + j) oj lj ej').slots t
      rw [CT, if_neg]
      intro e'; exact a3 t e' ht
     show AJ id (apS st (base + j) oj lj ej').heap = some _
     rw [Ba]
     exact Zj hb0 (hfresh j hjun) hmu back id cells hnm hid hx
    refine Zi (st := st.at (base + i)) (st' := (apS st (base + j) oj lj ej').at (base + i)) hld (by simp [St.at, Fe]) (fun t ht => ?_) (fun id x hx hne => ?_) hy
    .show BW st.slots t = BW (apS st (base + j) oj lj ej').slots t
     rw [CT, if_neg]
     intro e'; exact a3 t e' ht
    show AJ id (apS st (base + j) oj lj ej').heap = some x
    rw [Ba]
    exact AAL hmu back id x hx hne
   refine M8 (st := st.at (base + i)) (st' := (apS st (base + j) oj lj ej').at (base + i)) hwi (by simp [St.at, Fe]) (fun t ht => ?_) rfl (fun hcr => ?_) hy
   .show BW st.slots t = BW (apS st (base + j) oj lj ej').slots t
    rw [CT, if_neg]
    intro e'; exact a3 t e' ht
   intro id o ho
   show AJ id (apS st (base + j) oj lj ej').heap = some o
   rw [Ba]
   have hnw : BO oj.op ≠ .w := fun hc => by rw [(hwj hc).resolve_right hsp] at hcr; cases hcr
   rcases PS back hnw with rfl | ⟨x, rfl⟩
   .exact ho
   simp only [Ds.ap, AJ]
   rw [if_neg]
   .exact ho
   intro e'; subst e'
   have := hfresh j hjun
   have ho' : AJ (base + j) st.heap = some o := ho
   rw [this] at ho'; cases ho'
  have swap : Fd (apS (apS st (base + i) oi l e) (base + j) oj lj ej) (apS (apS st (base + j) oj lj ej') (base + i) oi l e) := by
   refine ⟨by simp [Fe], fun t => ?_, fun id => ?_⟩
   .rw [CT, CT, CT, CT]
    by_cases c1 : oi.dst = some t
    .have := a2 t c1
     simp [c1, this]
    rw [if_neg c1]; split <;> simp [c1]
   by_cases hcw : BO oj.op = .w
   .have : e = .keep := hkp (hnr hcw) (.inr hcw)
    subst this
    have := hej id
    rw [Ba] at this
    rw [Ba, Ba, Ba, Ba]
    exact this
   have hs2 := hsame hcw
   subst hs2
   rw [Ba, Ba, Ba, Ba]
   rcases PS back hcw with rfl | ⟨x, rfl⟩ <;> rcases PS hy hwi with rfl | ⟨y, rfl⟩ <;> simp only [Ds.ap, AJ]
   by_cases c1 : id = base + j
   .subst c1; simp [hji]
   simp [c1]
  refine ⟨oj, lj, ej', hoj, back, ?_⟩
  refine ih (listed.setIfInBounds j true) _ (fun k hk => ?_) (fun k ok hk hki hun hkB => ?_) (fun k hk => ?_) (ready_mono hr (Ne.symm hji)) keep ?_
  .rw [getD_set_ne false (fun e' => by subst e'; rw [hjB] at hk; cases hk)]; exact hBl k hk
  .refine hfree k ok hk hki ?_ hkB
   by_cases hjk : j = k
   .subst hjk; exact hjun
   rw [getD_set_ne true hjk] at hun; exact hun
  .have hjk : j ≠ k := by
    rintro rfl
    rcases Nat.lt_or_ge j listed.size with h' | h'
    .simp [h'] at hk
    simp [Array.getElem?_eq_none h'] at hk
   rw [Ba]
   have hk' : listed.getD k true = false := by rw [getD_set_ne true hjk] at hk; exact hk
   exact LQ back (by simp only [St.at]; omega) (hfresh k hk')
  rw [Array.setIfInBounds_comm _ _ hji]
  exact NB fuel _ _ _ swap h2
end
end Go.E
/- Drawn regions, the rule (Iz). Condition: the checks IE and mixedOrders, by kernel. -/
namespace Go.E
open Go Go.RowKit
def NC (md : Region.Mode) (ops : Array Oper) (listed : Array Bool) (i : Nat) : List Nat :=
 (List.range ops.size).foldl (fun acc j => if !(j == i) && !(listed.getD j false) && (match ops[j]? with
  | some oj => oj.after.any fun x => Region.binds md x && (x.on == i || acc.contains x.on)
  | none => false) then j :: acc else acc) []
def PT (q w : Bool) (md : Region.Mode) (ops : Array Oper) (listed : Array Bool) (i : Nat) (oi : Oper) (B : List Nat) : Bool :=
  (B.all fun j => !(j == i) && !(listed.getD j false) && match ops[j]? with
    | some oj => oj.after.any fun x => Region.binds md x && (x.on == i || B.contains x.on)
    | none => false) &&
  ((List.range ops.size).all fun j => j == i || listed.getD j true || B.contains j || match ops[j]? with
    | some oj => oi.apart ops oj && (Rl q oi.op oj.op && (!w || Rj oi.op oj.op))
    | none => true)
def IE (q w : Bool) (md : Region.Mode) (ops : Array Oper) : List Nat -> Array Bool -> Bool
 | [], listed => (Region.ready md ops listed).isEmpty
 | i :: rest, listed => (match ops[i]? with
  | none => false
  | some oi => (Region.ready md ops listed == [i]) || ((Region.ready md ops listed).contains i && PT q w md ops listed i oi (NC md ops listed i))) &&
  IE q w md ops rest (listed.setIfInBounds i true)
def GC (P : Program) (AD : A3) (ops : Array Oper) (base : Nat) (K : St -> Prop) : List Nat -> St -> Prop
 | [], st => K st
 | i :: rest, st => match ops[i]? with
  | none => False
  | some o => match o.guard with
   | none => ∃ l e, B1 P AD (st.at (base + i)) o.op l e /\ GC P AD ops base K rest (apS st (base + i) o l e)
   | some (j, want) => match C9 st ops j with
    | .p (.bool b) => (b = want -> ∃ l e, B1 P AD (st.at (base + i)) o.op l e /\ GC P AD ops base K rest (apS st (base + i) o l e)) /\
      (b = !want -> GC P AD ops base K rest (apS st (base + i) o .und .keep))
    | .und => GC P AD ops base K rest (apS st (base + i) o .und .keep)
    | _ => False
section
variable {P : Program} {A : BB} {AD : A3} {md : Region.Mode} {ops : Array Oper} {base : Nat} {K : St -> Prop}
theorem ND {i : Nat} {rest : List Nat} {st : St} (h : GC P AD ops base K (i :: rest) st) :
  ∃ o l e, ops[i]? = some o /\ Cg P AD ops (st.at (base + i)) o l e /\ GC P AD ops base K rest (apS st (base + i) o l e) := by
 simp only [GC] at h
 split at h
 .exact h.elim
 rename_i o ho
 split at h
 .rename_i hg
  obtain ⟨l, e, h1, h2⟩ := h
  exact ⟨o, l, e, ho, by unfold Cg; rw [hg]; exact h1, h2⟩
 rename_i j want hg
 have hgl : C9 (st.at (base + i)) ops j = C9 st ops j := rfl
 split at h
 .rename_i b hb
  by_cases e : b = want
  .obtain ⟨l, e', h1, h2⟩ := h.1 e
   exact ⟨o, l, e', ho, by unfold Cg; rw [hg]; simp only [hgl, hb]; rw [if_pos e]; exact h1, h2⟩
  exact ⟨o, .und, .keep, ho, by unfold Cg; rw [hg]; simp only [hgl, hb]; rw [if_neg e]; simp, h.2 (by cases b <;> cases want <;> simp_all)⟩
 .rename_i hb
  exact ⟨o, .und, .keep, ho, by unfold Cg; rw [hg]; simp [hgl, hb], h⟩
 exact h.elim
theorem J5 (q : Bool) (hq : q = true -> ∃ b, AD.calm = some b) : ∀ (order : List Nat) (listed : Array Bool) (st : St), IE q AD.own md ops order listed = true -> (∀ k, listed.getD k true = false -> AJ (base + k) st.heap = none) ->
  GC P AD ops base K order st -> Hx P AD md ops base K order.length listed st
 | [], listed, st, hok, _, h => ⟨by simpa [IE] using hok, st, Fd.refl st, h⟩
 | i :: rest, listed, st, hok, hfresh, h => by
  obtain ⟨o, l, e, ho, hd, hrest⟩ := ND h
  simp only [IE, ho, Bool.and_eq_true, Bool.or_eq_true] at hok
  have hrec : Hx P AD md ops base K rest.length (listed.setIfInBounds i true) (apS st (base + i) o l e) := by
   refine J5 q hq rest _ _ hok.2 (fun k hk => ?_) hrest
   have hik : i ≠ k := by
    rintro rfl
    rcases Nat.lt_or_ge i listed.size with h' | h'
    .simp [h'] at hk
    simp [Array.getElem?_eq_none h'] at hk
   rw [Ba]
   exact LQ hd (by simp only [St.at]; omega) (hfresh k (by rw [getD_set_ne true hik] at hk; exact hk))
  rcases hok.1 with h1 | h1
  .have hr : Region.ready md ops listed = [i] := by simpa using h1
   refine ⟨fun h0 => (by rw [hr] at h0; cases h0), fun j hj => ?_⟩
   rw [hr] at hj
   simp at hj
   subst hj
   exact ⟨o, l, e, ho, hd, hrec⟩
  obtain ⟨h1, h2⟩ := h1
  simp only [PT, Bool.and_eq_true, List.all_eq_true, List.mem_range] at h2
  obtain ⟨h2, h3⟩ := h2
  generalize hBe : NC md ops listed i = B at h2 h3
  refine Qp q hq ho (fun j => B.contains j) (fun j hj => ?_) rest.length listed st (fun j hj => ?_) (fun j oj hoj hji hun hBj => ?_) hfresh (by simpa using h1) hd hrec
  .have := h2 j (by simpa using hj)
   obtain ⟨⟨a1, a2⟩, a3⟩ := this
   refine ⟨by simpa using a1, fun oj hoj => ?_⟩
   rw [hoj] at a3
   obtain ⟨x, hx, hx2⟩ := Array.any_eq_true'.1 a3
   simp only [Bool.and_eq_true, Bool.or_eq_true, beq_iff_eq] at hx2
   exact ⟨x, hx, hx2.1, hx2.2⟩
  .have := (h2 j (by simpa using hj)).1.2
   simpa using this
  have := h3 j (Array.getElem?_eq_some_iff.1 hoj).1
  simp only [Bool.or_eq_true, beq_iff_eq, hji, false_or, hun, Bool.false_eq_true] at this
  rw [hBj] at this
  simp only [Bool.false_eq_true, false_or, hoj, Bool.and_eq_true] at this
  refine ⟨this.1, this.2.1, fun ho => ?_⟩
  have := this.2.2
  rw [ho] at this; simpa using this
theorem Yb {μ : Nat -> Option BQ} {h h' : AP} (he : ∀ id, AJ id h = AJ id h') : Bk μ h = Bk μ h' := by
 funext b; simp only [Bk, he]
theorem RF.eqv {F : Nat -> Prop} {st st' : St} {a : Act} {w : World} (h : RF A F st a w) (he : Fd st st') : RF A F st' a w := by
 obtain ⟨⟨μ, hh, hs⟩, hnt, hdef⟩ := h
 have hm : Bk μ st.heap = Bk μ st'.heap := Yb he.heap
 have ho : Ag A μ st.heap = Ag A μ st'.heap := by funext b; simp only [Ag, hm]
 refine ⟨⟨μ, ⟨?_, ?_, hh.fresh, ?_, hh.size, hh.block, hh.os, hh.tape, hh.output, hh.ext⟩, fun t ht => ?_⟩, by rw [<- he.nt]; exact hnt, hdef⟩
 .rw [<- ho]; intro id o; rw [<- he.heap]; exact hh.obj id o
 .intro id id' o o' loc loc'; rw [<- he.heap, <- he.heap]; exact hh.inj id id' o o' loc loc'
 .intro id o loc; rw [<- he.heap]; exact hh.base id o loc
 rw [<- ho, <- he.slots]; exact hs t (by rw [he.nt]; exact ht)
def Fl (base n : Nat) (listed : Array Bool) (id : Nat) : Prop := base + n <= id \/ ∃ i, i < n /\ listed.getD i true = false /\ id = base + i
theorem J6 (hE : BA P AD) {n : Nat} (hn : n = ops.size) {Q' : Exit -> Act -> World -> Prop} (hQ : ∀ st a w listed, K st -> RF A (Fl base n listed) st a w -> Q' .normal a w) :
  ∀ (fuel : Nat) (listed : Array Bool) (st : St) (a : Act) (w : World), listed.size = n -> Hx P AD md ops base K fuel listed st -> RF A (Fl base n listed) st a w -> wpAny P md ops Q' fuel listed a w
 | 0, listed, st, a, w, _, ⟨h1, st', he, hk⟩, hR => ⟨h1, hQ st' a w listed hk (hR.eqv he)⟩
 | fuel + 1, listed, st, a, w, hsz, ⟨h1, h2⟩, hR => by
  refine ⟨fun h0 => ?_, fun i hi => ?_⟩
  .obtain ⟨st', he, hk⟩ := h1 h0
   exact hQ st' a w listed hk (hR.eqv he)
  obtain ⟨o, l, e, ho, hd, hrec⟩ := h2 i hi
  have hun := (mem_ready.1 hi).1
  have hlt : i < n := by rw [hn]; exact (Array.getElem?_eq_some_iff.1 ho).1
  refine QH (st := st.at (base + i)) hE ho ⟨hR.ex, hR.nt, hR.defers⟩ (.inr ⟨i, hlt, hun, rfl⟩) ⟨base + n, fun q hq => .inl hq⟩ hd fun a' w' hR' => ?_
  refine J6 hE hn hQ fuel _ _ _ _ (by simpa using hsz) hrec ?_
  have hR'' : RF A (fun id => Fl base n listed id /\ id ≠ base + i) (apS st (base + i) o l e) a' w' := by
   obtain ⟨⟨μ, x1, x2⟩, x3, x4⟩ := hR'
   refine ⟨⟨μ, ?_, fun t ht => ?_⟩, ?_, x4⟩
   .rw [Ba] at x1 ⊢; exact x1
   .have := x2 t (by rw [Fe] at ht ⊢; exact ht)
    rw [Ba, CT] at this
    rw [Ba, CT]; exact this
   rw [Fe] at x3 ⊢; exact x3
  obtain ⟨⟨μ, x1, x2⟩, x3, x4⟩ := hR''
  refine ⟨⟨μ, x1.less fun id hid => ?_, x2⟩, x3, x4⟩
  rcases hid with hid | ⟨k, hk1, hk2, rfl⟩
  .exact ⟨.inl hid, by omega⟩
  have hik : i ≠ k := by
   rintro rfl
   simp [show i < listed.size by omega] at hk2
  exact ⟨.inr ⟨k, hk1, by rw [getD_set_ne true hik] at hk2; exact hk2, rfl⟩, by omega⟩
theorem AZ.drawn {O : Nat -> Prop} {μ : Nat -> Option BQ} {w : World} {v : Value} {l : LV} (n : Nat) (h : AZ O μ w v l) : AZ O μ { w with drawn := n } v l :=
 AZ.mono (w := w) (w' := { w with drawn := n }) ⟨Nat.le_refl _, fun _ _ _ => rfl⟩ (fun _ _ hb => hb) (fun _ _ h => h) h
theorem R.drawn {st : St} {a : Act} {w : World} (n : Nat) (h : R A st a w) : R A st a { w with drawn := n } := by
 obtain ⟨⟨μ, hh, hs⟩, hnt, hdef⟩ := h
 refine ⟨⟨μ, ⟨fun id o ho => ?_, hh.inj, hh.fresh, hh.base, hh.size, hh.block, hh.os, hh.tape, hh.output, hh.ext⟩, fun t ht => (hs t ht).drawn n⟩, hnt, hdef⟩
 obtain ⟨loc, h1, h2⟩ := hh.obj id o ho
 exact ⟨loc, h1, Co.mono (w := w) (w' := { w with drawn := n }) ⟨Nat.le_refl _, fun _ _ _ => rfl⟩ (fun _ _ hb => hb) (fun _ _ h => h) (fun _ => rfl) h2⟩
theorem Iz (q : Bool) (hq : q = true -> ∃ b, AD.calm = some b) (hE : BA P AD) (hm : P.follows .mixedOrders = true) {id : Nat} {l : List Oper} {order : List Nat} (hok : IE q AD.own .any l.toArray order (Array.replicate l.length false) = true)
  (hlen : order.length = l.length) {st : St} {Q : Exit -> St -> Prop} (h : GC P AD l.toArray st.ctr (fun st' => Q .normal { st' with ctr := st.ctr + l.length }) order st) :
  B0 P A (.region id l.toArray true) Q st := fun a w hR => by
 refine wp_region_any hm ?_
 have hR' := (hR.drawn (w.drawn + 1)).toRF
 have hfr : ∀ k, AJ (st.ctr + k) st.heap = none := by
  intro k
  cases hx : AJ (st.ctr + k) st.heap with
  | none => rfl
  | some o =>
   obtain ⟨⟨μ, hh, _⟩, _, _⟩ := hR
   obtain ⟨loc, h1, _⟩ := hh.obj _ _ hx
   rw [hh.fresh _ (by simp [Fr])] at h1; cases h1
 have hD := J5 q hq order (Array.replicate l.length false) st hok (fun k _ => hfr k) h
 have hsz : l.toArray.size = order.length := by simp [hlen]
 rw [hsz]
 have hrep : Array.replicate order.length false = Array.replicate l.length false := by rw [hlen]
 rw [hrep]
 refine J6 (A := A) (n := l.length) hE (by simp) (fun st' a' w' listed hk hR'' => ?_) order.length _ st a _ (by simp) hD ?_
 .refine ⟨_, ?_, hk⟩
  obtain ⟨⟨μ, x1, x2⟩, x3, x4⟩ := hR''
  exact ⟨⟨μ, x1.less fun id hid => .inl hid, x2⟩, x3, x4⟩
 obtain ⟨⟨μ, x1, x2⟩, x3, x4⟩ := hR'
 refine ⟨⟨μ, x1.less fun id hid => ?_, x2⟩, x3, x4⟩
 rcases hid with hid | ⟨k, _, _, rfl⟩
 .simp only [Fr]; omega
 simp [Fr]
end
end Go.E
/- Equality and keys of flat structs; operations in a short form, for the walk of a function. No condition. -/
namespace Go.E
open Go Go.RowKit
def Ei : Option TypeDesc -> Sh -> Bool
 | some (.int j), .int j' => j == j'
 | some .string, .str => true
 | some .bool, .bool => true
 | _, _ => false
def Dw (P : Program) : List Field -> Nat -> List Sh -> Bool
 | [], _, [] => true
 | f :: fs, off, k :: ks => f.name != "_" && f.offset == off && Ei (P.underlying f.type) k && Dw P fs (off + 1) ks
 | _, _, _ => false
section
variable {P : Program}
theorem Ff {t : TypeId} {k : Sh} (h : Ei (P.underlying t) k = true) {xs : Array Value} {off : Nat} {v : Value} (hx : xs[off]? = some v) (w : World) : (part t xs off).run P w = .ok v w := by
 cases hu : P.underlying t with
 | none => rw [hu] at h; simp [Ei] at h
 | some d =>
  rw [hu] at h
  cases d <;> simp [Ei] at h <;> simp [part, isAgg, run_underlying hu, hx]
theorem MR {t : TypeId} {k : Sh} {a b : DV} (h : Ei (P.underlying t) k = true) (ha : CP k a = true) (hb : CP k b = true) (d : Nat) (w : World) :
  (Op.equalIn (d + 1) t (flatV a) (flatV b)).run P w = .ok (DO a b) w := by
 cases hu : P.underlying t with
 | none => rw [hu] at h; simp [Ei] at h
 | some dd =>
  rw [hu] at h
  cases dd <;> cases k <;> simp [Ei] at h <;> cases a <;> simp only [CP, Bool.false_eq_true] at ha <;> cases b <;> simp only [CP, Bool.false_eq_true] at hb
  .simp [flatV, DO, Op.equalIn, run_underlying hu]
  .simp only [beq_iff_eq] at ha hb
   subst ha; subst hb
   simp [flatV, DO, Op.equalIn, run_underlying hu]
  simp [flatV, DO, Op.equalIn, run_underlying hu, beq_toListBytes]
theorem HM (d : Nat) (w : World) (xs ys : List DV) : ∀ (fs : List Field) (off : Nat) (ks : List Sh) (xa bs : List DV), Dw P fs off ks = true -> xs.drop off = xa -> ys.drop off = bs -> fits ks xa = true -> fits ks bs = true ->
  (Op.eqFields (d + 1) (xs.map flatV).toArray (ys.map flatV).toArray fs).run P w = .ok (Be xa bs) w
 | [], off, [], [], [], _, _, _, _, _ => by simp [Op.eqFields, Be]
 | f :: fs, off, k :: ks, a :: xa, b :: bs, hB, hx, hy, ha, hb => by
  simp only [Dw, Bool.and_eq_true, bne_iff_ne, ne_eq, beq_iff_eq] at hB
  simp only [fits, Bool.and_eq_true] at ha hb
  obtain ⟨⟨⟨h1, h2⟩, h3⟩, h4⟩ := hB
  have ex : xs[off]? = some a := by
   have := congrArg List.head? hx
   rw [List.head?_drop] at this; exact this
  have ey : ys[off]? = some b := by
   have := congrArg List.head? hy
   rw [List.head?_drop] at this; exact this
  have hx' : xs.drop (off + 1) = xa := by rw [<- List.tail_drop, hx]; rfl
  have hy' : ys.drop (off + 1) = bs := by rw [<- List.tail_drop, hy]; rfl
  have ih := HM d w xs ys fs (off + 1) ks xa bs h4 hx' hy' ha.2 hb.2
  have px := Ff (w := w) h3 (xs := (xs.map flatV).toArray) (off := off) (v := flatV a) (by simp [ex])
  have py := Ff (w := w) h3 (xs := (ys.map flatV).toArray) (off := off) (v := flatV b) (by simp [ey])
  have pe := MR h3 ha.1 hb.1 d w
  simp only [Op.eqFields, h1, h2, ne_eq, not_false_eq_true, if_true, Sem.run_bind, px, py, pe, Result.andThen_ok, Be]
  cases DO a b with
  | true => simpa using ih
  | false => simp
 | [], _, _ :: _, _, _, hB, _, _, _, _ => by simp [Dw] at hB
 | _ :: _, _, [], _, _, hB, _, _, _, _ => by simp [Dw] at hB
 | [], _, [], _ :: _, _, _, _, _, ha, _ => by simp [fits] at ha
 | [], _, [], [], _ :: _, _, _, _, _, hb => by simp [fits] at hb
 | _ :: _, _, _ :: _, [], _, _, _, _, ha, _ => by simp [fits] at ha
 | _ :: _, _, _ :: _, _ :: _, [], _, _, _, _, hb => by simp [fits] at hb
theorem SG {t : TypeId} {ks : List Sh} (hu : P.underlying t = some (.struct (P.fieldsOf t))) (hp : P.stoodInHeld t = false) (hg : P.eqGuardType P.depth t = false)
  (hf : Dw P (P.fieldsOf t).toList 0 ks = true) : OQ P t ks :=
 ⟨hg, fun w ds es h1 h2 => by
  show (Op.equalIn (9999 + 1) t _ _).run P w = _
  rw [run_equalIn_struct w 9999 t _ _ hu hp]
  exact HM 9998 w ds es _ 0 ks ds es hf rfl rfl h1 h2⟩
theorem Kj (em : Bool) (d : Nat) (w : World) (xs : List DV) : ∀ (fs : List Field) (off : Nat) (ks : List Sh) (xa : List DV), Dw P fs off ks = true -> xs.drop off = xa -> fits ks xa = true ->
  (forIn fs PUnit.unit fun f (_ : PUnit) => (do
   if f.name ≠ "_" then Instr.checkKey em (d + 1) f.type (<- part f.type (xs.map flatV).toArray f.offset)
   pure (ForInStep.yield PUnit.unit) : Sem (ForInStep PUnit))).run P w = .ok PUnit.unit w
 | [], off, [], [], _, _, _ => by simp
 | f :: fs, off, k :: ks, a :: xa, hB, hx, ha => by
  simp only [Dw, Bool.and_eq_true, bne_iff_ne, ne_eq, beq_iff_eq] at hB
  simp only [fits, Bool.and_eq_true] at ha
  obtain ⟨⟨⟨h1, h2⟩, h3⟩, h4⟩ := hB
  have ex : xs[off]? = some a := by
   have := congrArg List.head? hx
   rw [List.head?_drop] at this; exact this
  have hx' : xs.drop (off + 1) = xa := by rw [<- List.tail_drop, hx]; rfl
  have ih := Kj em d w xs fs (off + 1) ks xa h4 hx' ha.2
  have px := Ff (w := w) h3 (xs := (xs.map flatV).toArray) (off := off) (v := flatV a) (by simp [ex])
  have pc : (Instr.checkKey em (d + 1) f.type (flatV a)).run P w = .ok () w := by
   cases hu : P.underlying f.type with
   | none => rw [hu] at h3; simp [Ei] at h3
   | some dd =>
    rw [hu] at h3
    cases dd <;> simp [Ei] at h3 <;> simp [Instr.checkKey, run_underlying hu]
  simp only [List.forIn_cons, Sem.run_bind, h1, ne_eq, not_false_eq_true, if_true, h2, px, pc, Result.andThen_ok, Sem.run_pure]
  exact ih
 | [], _, _ :: _, _, hB, _, _ => by simp [Dw] at hB
 | _ :: _, _, [], _, hB, _, _ => by simp [Dw] at hB
 | [], _, [], _ :: _, _, _, ha => by simp [fits] at ha
 | _ :: _, _, _ :: _, [], _, _, ha => by simp [fits] at ha
theorem WJ {t : TypeId} {ks : List Sh} (hu : P.underlying t = some (.struct (P.fieldsOf t))) (he : OQ P t ks) (hf : Dw P (P.fieldsOf t).toList 0 ks = true) : Qq P t ks := by
 refine ⟨he, by rw [hu]; trivial, fun em w ds h => ?_⟩
 show (Instr.checkKey em (9999 + 1) t _).run P w = _
 unfold Instr.checkKey
 simp only [Sem.run_bind, run_underlying hu, Result.andThen_ok]
 have := Kj (P := P) em 9998 w ds (P.fieldsOf t).toList 0 ks ds hf rfl h
 simp only [Array.forIn_toList] at this
 simp at this ⊢
 rw [this]; rfl
end
def St.keep (ts : List Nat) (st : St) : St := { st with slots := ts.map fun t => (t, BW st.slots t) }
theorem SH {st : St} {t : Nat} : ∀ (ts : List Nat), AJ t (ts.map fun t => (t, BW st.slots t)) = if t ∈ ts then some (BW st.slots t) else none
 | [] => by simp [AJ]
 | u :: ts => by
  simp only [List.map_cons, AJ]
  by_cases e : t = u
  .subst e; simp
  rw [if_neg e, SH ts]; simp [e]
theorem R.keep {A : BB} {st : St} {a : Act} {w : World} (ts : List Nat) (h : R A st a w) : R A (st.keep ts) a w := by
 obtain ⟨⟨μ, hh, hs⟩, hnt, hdef⟩ := h
 refine ⟨⟨μ, hh, fun t ht => ?_⟩, hnt, hdef⟩
 have : BW (st.keep ts).slots t = if t ∈ ts then BW st.slots t else .any := by
  show (match AJ t (ts.map fun t => (t, BW st.slots t)) with | some v => v | none => LV.any) = _
  rw [SH]
  by_cases e : t ∈ ts <;> simp [e]
 rw [this]
 split
 .exact hs t ht
 exact .any _
end Go.E
/- Equality of structs that hold flat structs. No condition. -/
namespace Go.E
open Go Go.RowKit
def Il (P : Program) (t : TypeId) (ks : List Sh) : Bool :=
 (match P.underlying t with | some (.struct _) => true | _ => false) && !(P.stoodInHeld t) && (match P.info? t with | some i => i.size == ks.length | none => false) && Dw P (P.fieldsOf t).toList 0 ks
def Kc (P : Program) : List Field -> Nat -> List (Bool × List Sh) -> Bool
 | [], _, [] => true
 | f :: fs, off, (b, ks) :: gs => f.name != "_" && f.offset == off && (match b, ks with
  | true, ks => Il P f.type ks
  | false, [k] => Ei (P.underlying f.type) k
  | false, _ => false) && Kc P fs (off + ks.length) gs
 | _, _, _ => false
theorem QQ : ∀ (ks ls : List Sh) (ds : List DV), fits (ks ++ ls) ds = true -> ∃ a b, ds = a ++ b /\ a.length = ks.length /\ fits ks a = true /\ fits ls b = true
 | [], ls, ds, h => ⟨[], ds, rfl, rfl, rfl, h⟩
 | k :: ks, ls, [], h => by simp [fits] at h
 | k :: ks, ls, d :: ds, h => by
  simp only [List.cons_append, fits, Bool.and_eq_true] at h
  obtain ⟨a, b, rfl, h1, h2, h3⟩ := QQ ks ls ds h.2
  exact ⟨d :: a, b, rfl, by simp [h1], by simp [fits, h.1, h2], h3⟩
theorem P5 : ∀ (a b c d : List DV), a.length = c.length -> Be (a ++ b) (c ++ d) = (Be a c && Be b d)
 | [], _, [], _, _ => by simp [Be]
 | x :: a, b, y :: c, d, h => by
  simp only [List.cons_append, Be, P5 a b c d (by simpa using h), Bool.and_assoc]
 | [], _, _ :: _, _, h => by simp at h
 | _ :: _, _, [], _, h => by simp at h
section
variable {P : Program}
theorem Ms {t : TypeId} {ks : List Sh} (h : Il P t ks = true) : P.underlying t = some (.struct (P.fieldsOf t)) /\ P.stoodInHeld t = false /\ (∃ i, P.info? t = some i /\ i.size = ks.length) /\ Dw P (P.fieldsOf t).toList 0 ks = true := by
 simp only [Il, Bool.and_eq_true, Bool.not_eq_true'] at h
 obtain ⟨⟨⟨h1, h2⟩, h3⟩, h4⟩ := h
 refine ⟨?_, h2, ?_, h4⟩
 .unfold Program.fieldsOf
  cases hu : P.underlying t with
  | none => rw [hu] at h1; cases h1
  | some d => rw [hu] at h1; cases d <;> first | rfl | cases h1
 cases hi : P.info? t with
 | none => rw [hi] at h3; cases h3
 | some i => rw [hi] at h3; exact ⟨i, rfl, by simpa using h3⟩
theorem Lk {t : TypeId} {ks : List Sh} (h : Il P t ks = true) {xs : List DV} {off : Nat} {a b : List DV} (hx : xs.drop off = a ++ b) (hl : a.length = ks.length) (w : World) :
  (part t (xs.map flatV).toArray off).run P w = .ok (.agg (a.map flatV).toArray) w := by
 obtain ⟨h1, _, ⟨i, hi, hs⟩, _⟩ := Ms h
 have e' : List.take i.size (List.drop off (List.map flatV xs)) = List.map flatV a := by
  rw [<- List.map_drop, hx, hs, <- hl, List.map_append, <- List.length_map (f := flatV) (as := a), List.take_left]
 simp [part, isAgg, run_underlying h1, sizeOf, run_typeInfo w hi, e']
theorem QR {t : TypeId} {ks : List Sh} {a b : List DV} (h : Il P t ks = true) (ha : fits ks a = true) (hb : fits ks b = true) (d : Nat) (w : World) :
  (Op.equalIn (d + 2) t (.agg (a.map flatV).toArray) (.agg (b.map flatV).toArray)).run P w = .ok (Be a b) w := by
 obtain ⟨h1, h2, _, h4⟩ := Ms h
 rw [run_equalIn_struct w (d + 1) t _ _ h1 h2]
 exact HM d w a b _ 0 ks a b h4 rfl rfl ha hb
theorem Iw (d : Nat) (w : World) (xs ys : List DV) : ∀ (fs : List Field) (off : Nat) (gs : List (Bool × List Sh)) (xa bs : List DV), Kc P fs off gs = true -> xs.drop off = xa -> ys.drop off = bs -> fits (gs.flatMap (·.2)) xa = true -> fits (gs.flatMap (·.2)) bs = true ->
  (Op.eqFields (d + 2) (xs.map flatV).toArray (ys.map flatV).toArray fs).run P w = .ok (Be xa bs) w
 | [], off, [], xa, bs, _, _, _, h1, h2 => by
  cases xa <;> cases bs <;> simp [fits] at h1 h2
  simp [Op.eqFields, Be]
 | f :: fs, off, (b, ks) :: gs, xa, bs, hB, hx, hy, ha, hb => by
  simp only [Kc, Bool.and_eq_true, bne_iff_ne, ne_eq, beq_iff_eq] at hB
  obtain ⟨⟨⟨h1, h2⟩, h3⟩, h4⟩ := hB
  simp only [List.flatMap_cons] at ha hb
  obtain ⟨a1, a2, rfl, la, fa, fa2⟩ := QQ _ _ _ ha
  obtain ⟨b1, b2, rfl, lb, fb, fb2⟩ := QQ _ _ _ hb
  have hx' : xs.drop (off + ks.length) = a2 := by rw [<- List.drop_drop, hx, <- la, List.drop_left]
  have hy' : ys.drop (off + ks.length) = b2 := by rw [<- List.drop_drop, hy, <- lb, List.drop_left]
  have ih := Iw d w xs ys fs (off + ks.length) gs a2 b2 h4 hx' hy' fa2 fb2
  rw [P5 _ _ _ _ (la.trans lb.symm)]
  cases b with
  | true =>
   have px := Lk h3 hx la w
   have py := Lk h3 hy lb w
   have pe := QR h3 fa fb d w
   simp only [Op.eqFields, h1, h2, ne_eq, not_false_eq_true, if_true, Sem.run_bind, px, py, pe, Result.andThen_ok]
   cases Be a1 b1 with
   | true => simpa using ih
   | false => simp
  | false =>
   match ks, h3, a1, b1, la, lb, fa, fb with
   | [k], h3, [a], [b], la, lb, fa, fb =>
    simp only [fits, Bool.and_true] at fa fb
    have ex : xs[off]? = some a := by
     have := congrArg List.head? hx
     rw [List.head?_drop] at this; exact this
    have ey : ys[off]? = some b := by
     have := congrArg List.head? hy
     rw [List.head?_drop] at this; exact this
    have px := Ff (w := w) h3 (xs := (xs.map flatV).toArray) (off := off) (v := flatV a) (by simp [ex])
    have py := Ff (w := w) h3 (xs := (ys.map flatV).toArray) (off := off) (v := flatV b) (by simp [ey])
    have pe := MR h3 fa fb (d + 1) w
    simp only [Op.eqFields, h1, h2, ne_eq, not_false_eq_true, if_true, Sem.run_bind, px, py, pe, Result.andThen_ok, Be, Bool.and_true]
    cases DO a b with
    | true => simpa using ih
    | false => simp
 | [], _, _ :: _, _, _, hB, _, _, _, _ => by simp [Kc] at hB
 | _ :: _, _, [], _, _, hB, _, _, _, _ => by simp [Kc] at hB
theorem Xm {t : TypeId} (gs : List (Bool × List Sh)) (hu : P.underlying t = some (.struct (P.fieldsOf t))) (hp : P.stoodInHeld t = false) (hg : P.eqGuardType P.depth t = false)
  (hf : Kc P (P.fieldsOf t).toList 0 gs = true) : OQ P t (gs.flatMap (·.2)) :=
 ⟨hg, fun w ds es h1 h2 => by
  show (Op.equalIn (9999 + 1) t _ _).run P w = _
  rw [run_equalIn_struct w 9999 t _ _ hu hp]
  exact Iw 9997 w ds es _ 0 gs ds es hf rfl rfl h1 h2⟩
end
end Go.E
/- The walk of a function: operations in a short form (Ey), rules for the parts of a body, states made weaker (A8). No condition. -/
namespace Go.E
open Go Go.RowKit
structure HW where
 dst : Option Tmp
 op : Op
 g : Option (Option Tmp × Bool)
def WL (ops : List Oper) (j : Nat) : Option Tmp :=
 match ops[j]? with
 | some o => o.dst
 | none => none
def OR (ops : List Oper) (o : Oper) : HW :=
 ⟨o.dst, o.op, match o.guard with
  | none => none
  | some (j, w) => some (WL ops j, w)⟩
structure HT {α : Sort _} (a : α) : Type where
structure A5 (α : Type) where
 f : α -> Prop
 h : HT f
def B6 {α : Type} (o : Option α) (k : A5 α) : Prop :=
 match o with
 | some a => k.f a
 | none => False
def TC (x : LV) (k : A5 Bool) : Prop :=
 match x with
 | .p (.bool b) => k.f b
 | _ => False
def NE (x : LV) (k : A5 (IntKind × Int)) : Prop :=
 match x with
 | .p (.int kk n) => k.f (kk, n)
 | _ => False
def SI (x : LV) (k : A5 DV) : Prop :=
 match x with
 | .p d => k.f d
 | _ => False
def Kk (s : Sh) (k : A5 Nat) : Prop :=
 match s with
 | .slc e => k.f e
 | _ => False
def PV (s : Sh) (k : A5 (List (Nat × Nat))) : Prop :=
 match s with
 | .struct fs => k.f fs
 | _ => False
def Td (s : Sh) (k : A5 (Nat × Nat)) : Prop :=
 match s with
 | .mp a b => k.f (a, b)
 | _ => False
def CH (AD : A3) (t : Nat) (k : A5 TI) : Prop := B6 (AD.tt t) k
def Yc (x : LV) (k : A5 LV) : Prop :=
 match x with
 | .lpb i o => k.f (.lpb i o)
 | .lpe i j o => k.f (.lpe i j o)
 | .p (.place l o) => k.f (.p (.place l o))
 | _ => False
def MS (op : BinOp) (kk : IntKind) (a b : Int) (k : A5 LV) : Prop :=
 match op with
 | .quo | .rem => b ≠ 0 /\ B6 (Je op kk a b) ⟨fun v => k.f (.p v), ⟨⟩⟩
 | _ => B6 (Je op kk a b) ⟨fun v => k.f (.p v), ⟨⟩⟩
def Xd (neg : Bool) (empty : Prop) (k : A5 LV) : Prop := ∀ r, (¬ empty -> r = false) -> k.f (IF neg r)
def Vg (AD : A3) (neg : Bool) (t : Nat) (x y : LV) (k : A5 LV) : Prop :=
 match x, y with
 | .p (.str a), .p (.str b) => k.f (IF neg (a.toList == b.toList))
 | .p (.bool a), .p (.bool b) => CH AD t ⟨fun ti => ti.sh = .bool /\ k.f (IF neg (a == b)), ⟨⟩⟩
 | .p (.agg xs), .p (.agg ys) => B6 (AD.eqk t) ⟨fun ks => fits ks xs = true /\ fits ks ys = true /\ k.f (IF neg (Be xs ys)), ⟨⟩⟩
 | .p (.slice _ l), .p .nils => CH AD t ⟨fun ti => Kk ti.sh ⟨fun _ => Xd neg (l = []) k, ⟨⟩⟩, ⟨⟩⟩
 | .p .nils, .p .nils => CH AD t ⟨fun ti => Kk ti.sh ⟨fun _ => k.f (IF neg true), ⟨⟩⟩, ⟨⟩⟩
 | .lsl _ _ _ len, .p .nils => CH AD t ⟨fun ti => Kk ti.sh ⟨fun _ => Xd neg (len = 0) k, ⟨⟩⟩, ⟨⟩⟩
 | .p (.place _ _), .p .nilp => AD.ptr t = true /\ k.f (IF neg false)
 | .p .nilp, .p .nilp => AD.ptr t = true /\ k.f (IF neg true)
 | .lpb _ _, .p .nilp => AD.ptr t = true /\ k.f (IF neg false)
 | _, _ => False
def Rm (AD : A3) (op : BinOp) (t : Nat) (x y : LV) (k : A5 LV) : Prop :=
 match x, y with
 | .p (.int k1 a), .p (.int k2 b) => k1 = k2 /\ MS op k1 a b k
 | x, y => match op with
  | .eql => Vg AD false t x y k
  | .neq => Vg AD true t x y k
  | _ => False
def Yd (x : LV) (i : Nat) (k : A5 LV) : Prop :=
 match x with
 | .tup l => B6 l[i]? k
 | .p (.tup l) => B6 l[i]? ⟨fun v => k.f (.p v), ⟨⟩⟩
 | _ => False
def Ye (x : LV) (k : A5 (List LV)) : Prop :=
 match x with
 | .agg l => k.f l
 | .p (.agg l) => k.f (l.map .p)
 | _ => False
def WM (off : Nat) (x : LV) (k : A5 LV) : Prop :=
 match x with
 | .lpb id o => k.f (.lpb id (o + off))
 | .lpe id j o => k.f (.lpe id j (o + off))
 | .p (.place l o) => k.f (.p (.place l (o + off)))
 | _ => False
def Kl (AD : A3) (place : Nat -> Option (Nat × Nat)) : List LV -> List (Nat × LV) -> A5 (List LV) -> Prop
 | cells, [], k => k.f cells
 | cells, (i, v) :: rest, k => B6 (place i) ⟨fun p => CH AD p.2 ⟨fun ti => B6 v.cells ⟨fun ls => (ls.length = ti.size /\ p.1 + ls.length <= cells.length) /\
   Kl AD place (CN cells p.1 ls) rest k, ⟨⟩⟩, ⟨⟩⟩, ⟨⟩⟩
def OT (AD : A3) (sh : Sh) (zero : List LV) (ps : List (Nat × LV)) (k : A5 (List LV)) : Prop :=
 match sh with
 | .struct fs => (fs.all fun p => (AD.tt p.2).isSome) = true /\ Kl AD (fun i => fs[i]?) zero ps k
 | .arr _ e => CH AD e ⟨fun te => Kl AD (fun i => some (i * te.size, e)) zero ps k, ⟨⟩⟩
 | _ => False
def iaS (AD : A3) (sh : Sh) (x : LV) (n : Int) (k : A5 LV) : Prop :=
 match sh, x with
 | .slc e, .p (.slice sz l) => CH AD e ⟨fun te => te.size = sz /\ 0 <= n /\ B6 l[n.toNat]? ⟨fun c => k.f (.p (.place c 0)), ⟨⟩⟩, ⟨⟩⟩
 | .slc e, .lsl id sz off len => CH AD e ⟨fun te => te.size = sz /\ (0 <= n /\ n < len) /\ k.f (.lpe id (off + n.toNat) 0), ⟨⟩⟩
 | .arr m e, .lpb id o => CH AD e ⟨fun te => (0 <= n /\ n < m) /\ k.f (.lpb id (o + n.toNat * te.size)), ⟨⟩⟩
 | .arr m e, .p (.place l o) => CH AD e ⟨fun te => (0 <= n /\ n < m) /\ k.f (.p (.place l (o + n.toNat * te.size))), ⟨⟩⟩
 | _, _ => False
def ixS (AD : A3) (sh : Sh) (x : LV) (n : Int) (k : A5 LV) : Prop :=
 match sh, x with
 | .arr m e, .agg l => CH AD e ⟨fun te => n < m /\ B6 (Cr te (n.toNat * te.size) l) k, ⟨⟩⟩
 | .arr m e, .p (.agg l) => CH AD e ⟨fun te => n < m /\ B6 (Cr te (n.toNat * te.size) (l.map .p)) k, ⟨⟩⟩
 | .str, .p (.str s) => B6 s[n.toNat]? ⟨fun c => k.f (.p (.int .u8 c.toNat)), ⟨⟩⟩
 | _, _ => False
def Km (dflt : Int) (x : Option LV) (k : A5 Int) : Prop :=
 match x with
 | none => k.f dflt
 | some (.p (.int _ n)) => k.f n
 | some _ => False
def Kn (AD : A3) (t : Nat) (x : LV) (lo hi : Option LV) (k : A5 LV) : Prop :=
 match x with
 | .p (.slice sz l) => CH AD t ⟨fun ti => Kk ti.sh ⟨fun e => CH AD e ⟨fun te => te.size = sz /\ Km l.length hi ⟨fun h => Km 0 lo ⟨fun lw => (0 <= lw /\ lw <= h /\ h <= l.length) /\ k.f (.p (.slice sz ((l.take h.toNat).drop lw.toNat))), ⟨⟩⟩, ⟨⟩⟩, ⟨⟩⟩, ⟨⟩⟩, ⟨⟩⟩
 | .lsl id sz off len => CH AD t ⟨fun ti => Kk ti.sh ⟨fun e => CH AD e ⟨fun te => te.size = sz /\ (len ≠ 0 \/ off = 0) /\ Km len hi ⟨fun h => Km 0 lo ⟨fun lw => (0 <= lw /\ lw <= h /\ h <= len) /\ k.f (.lsl id sz (off + lw.toNat) (h - lw).toNat), ⟨⟩⟩, ⟨⟩⟩, ⟨⟩⟩, ⟨⟩⟩, ⟨⟩⟩
 | .p (.str s) => CH AD t ⟨fun ti => ti.sh = .str /\ Km s.size hi ⟨fun h => Km 0 lo ⟨fun lw => (0 <= lw /\ lw <= h /\ h <= s.size) /\ k.f (.p (.str (s.extract lw.toNat h.toNat))), ⟨⟩⟩, ⟨⟩⟩, ⟨⟩⟩
 | _ => False
def Yf (sh : Sh) (x : LV) (k : A5 LV) : Prop :=
 match sh, x with
 | .arr n _, _ => k.f (.p (.int .i64 n))
 | .slc _, .p (.slice _ l) => l.length <= maxLen -> k.f (.p (.int .i64 l.length))
 | .slc _, .p .nils => k.f (.p (.int .i64 0))
 | .slc _, .lsl _ _ _ len => k.f (.p (.int .i64 len))
 | .str, .p (.str s) => k.f (.p (.int .i64 s.size))
 | _, _ => False
def WN (o : A9) (k : A5 (List LV)) : Prop :=
 match o with
 | .box cells => k.f cells
 | _ => False
def Rn (o : A9) (k : A5 (Nat × Nat × List (List DV))) : Prop :=
 match o with
 | .row e sz l => k.f (e, sz, l)
 | _ => False
def Ro (o : A9) (k : A5 (List (DV × DV))) : Prop :=
 match o with
 | .map m => k.f m
 | _ => False
def Qs (h : AP) (ti : TI) (p : LV) (k : A5 LV) : Prop :=
 match p with
 | .p (.place l off) => B6 (Cr ti off (l.map .p)) k
 | .lpb id off => B6 (AJ id h) ⟨fun o => WN o ⟨fun cells => B6 (Cr ti off cells) k, ⟨⟩⟩, ⟨⟩⟩
 | .lpe id i off => B6 (AJ id h) ⟨fun o => Rn o ⟨fun r => B6 r.2.2[i]? ⟨fun x => B6 (Cr ti off (x.map .p)) k, ⟨⟩⟩, ⟨⟩⟩, ⟨⟩⟩
 | _ => False
def Te (h : AP) (ti : TI) (p : LV) (ls : List LV) (k : A5 AP) : Prop :=
 match p with
 | .lpb id off => B6 (AJ id h) ⟨fun o => WN o ⟨fun cells => off + ls.length <= cells.length /\ k.f (BR id (.box (CN cells off ls)) h), ⟨⟩⟩, ⟨⟩⟩
 | .lpe id i off => B6 (AJ id h) ⟨fun o => Rn o ⟨fun r => B6 r.2.2[i]? ⟨fun x => B6 (GR ls) ⟨fun ds => off + ls.length <= x.length /\ k.f (BR id (.row r.1 r.2.1 (r.2.2.set i (CN x off ds))) h), ⟨⟩⟩, ⟨⟩⟩, ⟨⟩⟩, ⟨⟩⟩
 | _ => False
def St.go (st : St) (dst : Option Tmp) (l : LV) (h : AP) (c : Nat) : St := ({ st with heap := h, ctr := c } : St).put dst l
def WO (st : St) (dst : Option Tmp) (e : Nat) (te : TI) (s : LV) (new : List (List DV)) (K : A5 St) : Prop :=
  match s with
  | .p .nils => (new.length * te.bytes <= 140737488355328 /\ new.length <= maxLen) /\ K.f (st.go dst (.lsl st.ctr te.size 0 new.length) ((st.ctr, .row e te.size new) :: st.heap) (st.ctr + 1))
  | .lsl id sz off len => sz = te.size /\ B6 (AJ id st.heap) ⟨fun o => Rn o ⟨fun r => (r.1 = e /\ r.2.1 = te.size /\ off + len <= r.2.2.length /\
        (len + new.length) * te.bytes <= 140737488355328 /\ len + new.length <= maxLen) /\ K.f (st.go dst (.lsl st.ctr te.size 0 (len + new.length)) ((st.ctr, .row e te.size ((r.2.2.drop off).take len ++ new)) :: F9 id st.heap) (st.ctr + 1)), ⟨⟩⟩, ⟨⟩⟩
  | _ => False
def PW (x : LV) (k : A5 Nat) : Prop :=
 match x with
 | .lmap id => k.f id
 | _ => False
def Nx (x : LV) (k : A5 (FuncId × List LV)) : Prop :=
 match x with
 | .fn f caps => k.f (f, caps)
 | _ => False
def JM (P : Program) (A : BB) (h : AP) (ctr k : Nat) (args : List LV) (K : A5 (LV × AP × Nat)) : Prop := Cq P A h ctr k args fun l h c => K.f (l, h, c)
def Yg (st : St) (e : Nat) (te : TI) (x : LV) (K : A5 St) : Prop :=
 match x with
 | .lsl id sz off len => te.sh.isAgg = false /\ sz = 1 /\ len ≠ 0 /\ te.zero.all DV.cell = true /\ B6 (AJ id st.heap) ⟨fun o => Rn o ⟨fun r => (r.1 = e /\ r.2.1 = 1 /\ off + len = r.2.2.length) /\
   K.f ({ st with heap := BR id (.row e 1 (r.2.2.take off ++ List.replicate len te.zero)) st.heap } : St), ⟨⟩⟩, ⟨⟩⟩
 | _ => False
def IG (P : Program) (A : BB) (AD : A3) (st : St) (dst : Option Tmp) (c : Call) (K : A5 St) : Prop :=
 match c.callee, c.args.toList, c.argTypes.toList with
 | .value f, args, _ => Nx (st.eval f) ⟨fun g => JM P A st.heap st.ctr g.1 (args.map st.eval ++ g.2) ⟨fun r => K.f (st.go dst r.1 r.2.1 r.2.2), ⟨⟩⟩, ⟨⟩⟩
 | .builtin .append, [s, x], [t, t'] => t' = t /\ CH AD t ⟨fun ti => Kk ti.sh ⟨fun e => CH AD e ⟨fun te => 0 < te.size /\ B6 (LN st.heap (st.eval x)) ⟨fun new =>
   (∀ y ∈ new, y.length = te.size /\ y.all DV.cell = true) /\ WO st dst e te (st.eval s) new K, ⟨⟩⟩, ⟨⟩⟩, ⟨⟩⟩, ⟨⟩⟩
 | .builtin .delete, [x, i], t :: _ => CH AD t ⟨fun ti => Td ti.sh ⟨fun m => PW (st.eval x) ⟨fun id => B6 (AJ id st.heap) ⟨fun o => Ro o ⟨fun l => SI (st.eval i) ⟨fun kd =>
   (BV AD m.1 kd = true /\ (l.all fun p => BV AD m.1 p.1) = true) /\ K.f (st.go dst (.tup []) (BR id (.mapd (NF kd l)) st.heap) st.ctr), ⟨⟩⟩, ⟨⟩⟩, ⟨⟩⟩, ⟨⟩⟩, ⟨⟩⟩, ⟨⟩⟩
 | .builtin .clear, [x], t :: _ => CH AD t ⟨fun ti => Kk ti.sh ⟨fun e => CH AD e ⟨fun te => Yg st e te (st.eval x) K, ⟨⟩⟩, ⟨⟩⟩, ⟨⟩⟩ /\ dst = none
 | .builtin .len, [x], [t] => CH AD t ⟨fun ti => Yf ti.sh (st.eval x) ⟨fun l => K.f (st.put dst l), ⟨⟩⟩, ⟨⟩⟩
 | .builtin .max, args, _ => B6 (Bn (fun x y => if y > x then y else x) (args.map st.eval)) ⟨fun r => K.f (st.put dst (.p (.int r.1 r.2))), ⟨⟩⟩
 | .builtin .min, args, _ => B6 (Bn (fun x y => if y < x then y else x) (args.map st.eval)) ⟨fun r => K.f (st.put dst (.p (.int r.1 r.2))), ⟨⟩⟩
 | _, _, _ => False
def WP : Sh -> Option IntKind
 | .int k => some k
 | _ => none
def AAO (l : LV) (k : A5 (List (DV × DV))) : Prop := match l with
 | .p .nilm => k.f []
 | .p (.map m) => k.f m
 | _ => False
def AAP (h : AP) (l : LV) (k0 : Unit -> Prop) (k : Nat -> List (DV × DV) -> Nat -> DV × DV -> Prop) : Prop := match l with
 | .lpb id 0 => match AJ id h with
  | some (.iter _ left) => (left = [] -> k0 ()) /\ ∀ j p, left[j]? = some p -> k id left j p
  | _ => False
 | _ => False
def AAQ (h : AP) (l : LV) (k : Nat -> DV × DV -> List (DV × DV) -> Prop) : Prop := match l with
 | .lpb id 0 => match AJ id h with
  | some (.iter (some p) left) => k id p left
  | _ => False
 | _ => False
def BC (P : Program) (A : BB) (AD : A3) (st : St) (dst : Option Tmp) (op : Op) (K : A5 St) : Prop :=
 match op with
 | .move x | .assign x => K.f (st.put dst (st.eval x))
 | .pick c a b => TC (st.eval c) ⟨fun t => K.f (st.put dst (if t then st.eval a else st.eval b)), ⟨⟩⟩
 | .nilCheck x => Yc (st.eval x) ⟨fun l => K.f (st.put dst l), ⟨⟩⟩
 | .binOp op t x y _ => Rm AD op t (st.eval x) (st.eval y) ⟨fun l => K.f (st.put dst l), ⟨⟩⟩
 | .unOp .neg _ x => NE (st.eval x) ⟨fun n => K.f (st.put dst (.p (.int n.1 (n.1.wrap (0 - n.2))))), ⟨⟩⟩
 | .unOp .not _ x => TC (st.eval x) ⟨fun b => K.f (st.put dst (.p (.bool !b))), ⟨⟩⟩
 | .convert s d x => NE (st.eval x) ⟨fun n => CH AD s ⟨fun _ => CH AD d ⟨fun ti => B6 (WP ti.sh) ⟨fun kd => K.f (st.put dst (.p (.int kd (kd.wrap n.2)))), ⟨⟩⟩, ⟨⟩⟩, ⟨⟩⟩, ⟨⟩⟩
 | .extract t i => Yd (st.eval t) i ⟨fun l => K.f (st.put dst l), ⟨⟩⟩
 | .field t x i => CH AD t ⟨fun ti => PV ti.sh ⟨fun fs => B6 fs[i]? ⟨fun f => CH AD f.2 ⟨fun tf => Ye (st.eval x) ⟨fun ls => B6 (Cr tf f.1 ls) ⟨fun l => K.f (st.put dst l), ⟨⟩⟩, ⟨⟩⟩, ⟨⟩⟩, ⟨⟩⟩, ⟨⟩⟩, ⟨⟩⟩
 | .build t ps => CH AD t ⟨fun ti => OT AD ti.sh (ti.zero.map .p) (ps.toList.map fun p => (p.1, st.eval p.2)) ⟨fun cells => K.f (st.put dst (Er cells)), ⟨⟩⟩, ⟨⟩⟩
 | .fieldAddr t x i => CH AD t ⟨fun ti => PV ti.sh ⟨fun fs => B6 fs[i]? ⟨fun f => CH AD f.2 ⟨fun tf => tf.size ≠ 0 /\ WM f.1 (st.eval x) ⟨fun l => K.f (st.put dst l), ⟨⟩⟩, ⟨⟩⟩, ⟨⟩⟩, ⟨⟩⟩, ⟨⟩⟩
 | .indexAddr t x i => NE (st.eval i) ⟨fun n => CH AD t ⟨fun ti => iaS AD ti.sh (st.eval x) n.2 ⟨fun l => K.f (st.put dst l), ⟨⟩⟩, ⟨⟩⟩, ⟨⟩⟩
 | .index t x i => NE (st.eval i) ⟨fun n => CH AD t ⟨fun ti => 0 <= n.2 /\ ixS AD ti.sh (st.eval x) n.2 ⟨fun l => K.f (st.put dst l), ⟨⟩⟩, ⟨⟩⟩, ⟨⟩⟩
 | .makeFunc (.func f) first caps => first.toList = [] /\ K.f (st.put dst (.fn f (caps.toList.map st.eval)))
 | .slice t x lo hi none => Kn AD t (st.eval x) (lo.map st.eval) (hi.map st.eval) ⟨fun l => K.f (st.put dst l), ⟨⟩⟩
 | .load t x => CH AD t ⟨fun ti => Qs st.heap ti (st.eval x) ⟨fun l => K.f (st.put dst l), ⟨⟩⟩, ⟨⟩⟩
 | .store t x v => CH AD t ⟨fun ti => B6 (st.eval v).cells ⟨fun ls => (ls.length = ti.size /\ ls.all LV.one = true) /\ Te st.heap ti (st.eval x) ls ⟨fun h => K.f (st.go dst .any h st.ctr), ⟨⟩⟩, ⟨⟩⟩, ⟨⟩⟩
 | .alloc t => CH AD t ⟨fun ti => K.f (st.go dst (.lpb st.ctr 0) ((st.ctr, .box (ti.zero.map .p)) :: st.heap) (st.ctr + 1)), ⟨⟩⟩
 | .box _ x => B6 (st.eval x).cells ⟨fun ls => K.f (st.go dst (.lpb st.ctr 0) ((st.ctr, .box ls) :: st.heap) (st.ctr + 1)), ⟨⟩⟩
 | .buildSlice t n ps => CH AD t ⟨fun ti => Kk ti.sh ⟨fun e => CH AD e ⟨fun te => (0 < te.size /\ n * te.size <= 16777216) /\ B6 (GL te.size 0 (ps.toList.map fun p => (p.1, st.eval p.2))) ⟨fun l =>
   l.length = n /\ (K.f (st.go dst (.lsl st.ctr te.size 0 n) ((st.ctr, .row e te.size l) :: st.heap) (st.ctr + 1)) \/ K.f (st.put dst (.p (.slice te.size l)))), ⟨⟩⟩, ⟨⟩⟩, ⟨⟩⟩, ⟨⟩⟩
 | .makeSlice t l c => CH AD t ⟨fun ti => Kk ti.sh ⟨fun e => CH AD e ⟨fun te => NE (st.eval l) ⟨fun n => NE (st.eval c) ⟨fun n' => (n'.2 = n.2 /\ 0 <= n.2 /\ te.bytes * n.2.toNat <= 281474976710656 /\ n.2.toNat <= maxLen) /\
   (K.f (st.go dst (.lsl st.ctr te.size 0 n.2.toNat) ((st.ctr, .row e te.size (List.replicate n.2.toNat te.zero)) :: st.heap) (st.ctr + 1)) \/ K.f (st.put dst (.p (.slice te.size (List.replicate n.2.toNat te.zero))))), ⟨⟩⟩, ⟨⟩⟩, ⟨⟩⟩, ⟨⟩⟩, ⟨⟩⟩
 | .makeMap _ none => K.f (st.go dst (.lmap st.ctr) ((st.ctr, .map []) :: st.heap) (st.ctr + 1))
 | .lookup t x i ok => CH AD t ⟨fun ti => Td ti.sh ⟨fun m => CH AD m.2 ⟨fun te => B6 (KR st.heap (st.eval x)) ⟨fun l => SI (st.eval i) ⟨fun kd => (BV AD m.1 kd = true /\ (l.all fun p => BV AD m.1 p.1) = true) /\
   K.f (st.put dst (if ok then .tup [.p ((Ez kd l).getD (zV AD te)), .p (.bool (Ez kd l).isSome)] else .p ((Ez kd l).getD (zV AD te)))), ⟨⟩⟩, ⟨⟩⟩, ⟨⟩⟩, ⟨⟩⟩, ⟨⟩⟩
 | .mapUpdate t x i v => CH AD t ⟨fun ti => Td ti.sh ⟨fun m => PW (st.eval x) ⟨fun id => B6 (AJ id st.heap) ⟨fun o => Ro o ⟨fun l => SI (st.eval i) ⟨fun kd => SI (st.eval v) ⟨fun vd =>
   (BV AD m.1 kd = true /\ (l.all fun p => BV AD m.1 p.1) = true) /\ K.f (st.go dst .any (BR id (.map (Lz kd vd l)) st.heap) st.ctr), ⟨⟩⟩, ⟨⟩⟩, ⟨⟩⟩, ⟨⟩⟩, ⟨⟩⟩, ⟨⟩⟩, ⟨⟩⟩
 | .mapEntry t x i => CH AD t ⟨fun ti => Td ti.sh ⟨fun m => CH AD m.2 ⟨fun te => PW (st.eval x) ⟨fun id => B6 (AJ id st.heap) ⟨fun o => Ro o ⟨fun l => SI (st.eval i) ⟨fun kd =>
   (BV AD m.1 kd = true /\ (l.all fun p => BV AD m.1 p.1) = true) /\
   K.f (st.go dst (.tup [.p ((Ez kd l).getD te.zeroDV), .p (.int .i64 (((CS kd l).map (·.1)).getD l.length))]) (match CS kd l with
    | some _ => st.heap
    | none => BR id (.map (l ++ [(kd, te.zeroDV)])) st.heap) st.ctr), ⟨⟩⟩, ⟨⟩⟩, ⟨⟩⟩, ⟨⟩⟩, ⟨⟩⟩, ⟨⟩⟩, ⟨⟩⟩
 | .entryStore _ x s v => PW (st.eval x) ⟨fun id => B6 (AJ id st.heap) ⟨fun o => Ro o ⟨fun m => NE (st.eval s) ⟨fun n => SI (st.eval v) ⟨fun vd => 0 <= n.2 /\ B6 m[n.2.toNat]? ⟨fun p =>
   K.f (st.go dst .any (BR id (.map (m.set n.2.toNat (p.1, vd))) st.heap) st.ctr), ⟨⟩⟩, ⟨⟩⟩, ⟨⟩⟩, ⟨⟩⟩, ⟨⟩⟩, ⟨⟩⟩
 | .range t x => CH AD t ⟨fun ti => Td ti.sh ⟨fun _ => AAO (st.eval x) ⟨fun m => K.f (st.go dst (.lpb st.ctr 0) ((st.ctr, .iter none m) :: st.heap) (st.ctr + 1)), ⟨⟩⟩, ⟨⟩⟩, ⟨⟩⟩
 | .next x false => AAP st.heap (st.eval x) (fun _ => K.f (st.go dst (.tup [.p (.bool false)]) st.heap st.ctr)) fun id left j p => ∃ cur', (cur' = none \/ cur' = some p) /\ K.f (st.go dst (.tup [.p (.bool true), .p p.1, .p p.2]) (BR id (.iter cur' (left.eraseIdx j)) st.heap) st.ctr)
 | .entry x => AAQ st.heap (st.eval x) fun id p left => K.f (st.go dst (.tup [.p p.1, .p p.2]) (BR id (.iter none left) st.heap) st.ctr)
 | .call c => IG P A AD st dst c K
 | _ => False
def gW (b want : Bool) (X Y : A5 Unit) : Prop := (b = want -> X.f ()) /\ (b = !want -> Y.f ())
def gM (v : LV) (want : Bool) (X Y : A5 Unit) : Prop :=
 match v with
 | .p (.bool b) => gW b want X Y
 | .und => Y.f ()
 | _ => False
def Fg (st : St) (d : Option Tmp) : LV :=
 match d with
 | some t => st.eval (.tmp t)
 | none => .any
structure AAR (K : A5 St) (st : St) : Prop where
 h : K.f st
def Ey (P : Program) (A : BB) (AD : A3) (K : A5 St) : List HW -> St -> Prop
 | [], st => AAR K st
 | ⟨dst, op, none⟩ :: rest, st => BC P A AD st dst op ⟨Ey P A AD K rest, ⟨⟩⟩
 | ⟨dst, op, some (d, want)⟩ :: rest, st => gM (Fg st d) want ⟨fun _ => BC P A AD st dst op ⟨Ey P A AD K rest, ⟨⟩⟩, ⟨⟩⟩ ⟨fun _ => Ey P A AD K rest (st.put dst .und), ⟨⟩⟩
section
variable {P : Program} {A : BB} {AD : A3}
theorem AR {α : Type} {o : Option α} {k : A5 α} : B6 o k ↔ ∃ a, o = some a /\ k.f a := by cases o <;> simp [B6]
theorem AQ {t : Nat} {k : A5 TI} : CH AD t k ↔ ∃ a, AD.tt t = some a /\ k.f a := AR
theorem LR {x : LV} {k : A5 Bool} : TC x k ↔ ∃ b, x = .p (.bool b) /\ k.f b := by
 unfold TC; split <;> simp_all
theorem B7 {x : LV} {k : A5 (IntKind × Int)} : NE x k ↔ ∃ kk n, x = .p (.int kk n) /\ k.f (kk, n) := by
 unfold NE; split
 .exact ⟨fun h => ⟨_, _, rfl, h⟩, fun ⟨_, _, e, h⟩ => by cases e; exact h⟩
 simp_all
theorem CX {x : LV} {k : A5 DV} : SI x k ↔ ∃ d, x = .p d /\ k.f d := by
 unfold SI; split <;> simp_all
theorem B2 {x : Sh} {k : A5 Nat} : Kk x k ↔ ∃ e, x = .slc e /\ k.f e := by
 unfold Kk; split <;> simp_all
theorem Ej {x : Sh} {k : A5 (List (Nat × Nat))} : PV x k ↔ ∃ e, x = .struct e /\ k.f e := by
 unfold PV; split <;> simp_all
theorem Dx {x : Sh} {k : A5 (Nat × Nat)} : Td x k ↔ ∃ a b, x = .mp a b /\ k.f (a, b) := by
 unfold Td; split
 .exact ⟨fun h => ⟨_, _, rfl, h⟩, fun ⟨_, _, e, h⟩ => by cases e; exact h⟩
 simp_all
theorem DP {x : LV} {k : A5 Nat} : PW x k ↔ ∃ id, x = .lmap id /\ k.f id := by
 unfold PW; split <;> simp_all
theorem Vh {x : LV} {k : A5 (FuncId × List LV)} : Nx x k ↔ ∃ f c, x = .fn f c /\ k.f (f, c) := by
 unfold Nx; split
 .exact ⟨fun h => ⟨_, _, rfl, h⟩, fun ⟨_, _, e, h⟩ => by cases e; exact h⟩
 simp_all
theorem D6 {x : A9} {k : A5 (List (DV × DV))} : Ro x k ↔ ∃ m, x = .map m /\ k.f m := by
 unfold Ro; split <;> simp_all
theorem Hy {x : A9} {k : A5 (List LV)} : WN x k ↔ ∃ m, x = .box m /\ k.f m := by
 unfold WN; split <;> simp_all
theorem D7 {x : A9} {k : A5 (Nat × Nat × List (List DV))} : Rn x k ↔ ∃ a b c, x = .row a b c /\ k.f (a, b, c) := by
 unfold Rn; split
 .exact ⟨fun h => ⟨_, _, _, rfl, h⟩, fun ⟨_, _, _, e, h⟩ => by cases e; exact h⟩
 simp_all
theorem I0 {d : Int} {x : Option LV} {k : A5 Int} {k' : Int -> Prop} (hk : ∀ n, k.f n -> k' n) (h : Km d x k) : Fh d x k' := by
 unfold Km at h; unfold Fh
 split at h <;> first | exact hk _ h | exact h.elim
theorem Vi {neg : Bool} {t : Nat} {x y : LV} {k : A5 LV} (h : Vg AD neg t x y k) : SJ AD neg t x y k.f := by
 unfold Vg at h
 unfold SJ
 split at h
 .exact h
 .obtain ⟨ti, h1, h2, h3⟩ := AQ.1 h; exact ⟨⟨ti, h1, h2⟩, h3⟩
 .obtain ⟨ks, h1, h2⟩ := AR.1 h; exact ⟨ks, h1, h2⟩
 .obtain ⟨ti, h1, h2⟩ := AQ.1 h
  obtain ⟨e, h3, h4⟩ := B2.1 h2
  exact ⟨⟨ti, e, h1, h3⟩, h4⟩
 .obtain ⟨ti, h1, h2⟩ := AQ.1 h
  obtain ⟨e, h3, h4⟩ := B2.1 h2
  exact ⟨⟨ti, e, h1, h3⟩, h4⟩
 .obtain ⟨ti, h1, h2⟩ := AQ.1 h
  obtain ⟨e, h3, h4⟩ := B2.1 h2
  exact ⟨⟨ti, e, h1, h3⟩, h4⟩
 .exact h
 .exact h
 .exact h
 exact h.elim
theorem Pu {op : BinOp} {kk : IntKind} {a b : Int} {k : A5 LV} (h : MS op kk a b k) : ∃ v, Je op kk a b = some v /\ k.f (.p v) := by
 unfold MS at h
 split at h
 .exact AR.1 h.2
 .exact AR.1 h.2
 exact AR.1 h
theorem Yh {op : BinOp} {t : Nat} {x y : LV} {k : A5 LV} (h : Rm AD op t x y k) : Rp AD op t x y k.f := by
 unfold Rm at h
 unfold Rp
 split at h
 .exact ⟨h.1, Pu h.2⟩
 rename_i hne
 split
 .exact absurd rfl (hne _ _ _ _ rfl)
 split at h
 .exact Vi h
 .exact Vi h
 exact h.elim
theorem NG {place : Nat -> Option (Nat × Nat)} {k : A5 (List LV)} : ∀ {ps : List (Nat × LV)} {cells : List LV}, Kl AD place cells ps k -> IH AD place cells ps k.f
 | [], _, h => h
 | (i, v) :: rest, cells, h => by
  obtain ⟨p, h1, h⟩ := AR.1 h
  obtain ⟨ti, h2, h⟩ := AQ.1 h
  obtain ⟨ls, h3, ⟨h4, h5⟩, h⟩ := AR.1 h
  exact ⟨p.1, p.2, ti, ls, h1, h2, h3, h4, h5, NG h⟩
theorem Xe {h : AP} {ti : TI} {p : LV} {k : A5 LV} (hl : Qs h ti p k) : GB h ti p k.f := by
 unfold Qs at hl
 unfold GB
 split at hl
 .exact AR.1 hl
 .obtain ⟨o, h1, hl⟩ := AR.1 hl
  obtain ⟨cells, rfl, hl⟩ := Hy.1 hl
  obtain ⟨r, h2, h3⟩ := AR.1 hl
  exact ⟨cells, r, h1, h2, h3⟩
 .obtain ⟨o, h1, hl⟩ := AR.1 hl
  obtain ⟨e, sz, elems, rfl, hl⟩ := D7.1 hl
  obtain ⟨x, h2, hl⟩ := AR.1 hl
  obtain ⟨r, h3, h4⟩ := AR.1 hl
  exact ⟨e, sz, elems, x, r, h1, h2, h3, h4⟩
 exact hl.elim
theorem Yi {a b c d : Prop} (h : (a /\ b /\ c) /\ d) : a /\ b /\ c /\ d := ⟨h.1.1, h.1.2.1, h.1.2.2, h.2⟩
theorem WQ {t : Nat} {x : LV} {lo hi : Option LV} {k : A5 LV} (h : Kn AD t x lo hi k) : Ko AD t x lo hi k.f := by
 unfold Kn at h
 unfold Ko
 split at h
 .obtain ⟨ti, h1, h⟩ := AQ.1 h
  obtain ⟨e, h2, h⟩ := B2.1 h
  obtain ⟨te, h3, h4, h⟩ := AQ.1 h
  exact ⟨⟨ti, e, h1, h2, te, h3, h4⟩, I0 (fun n hn => I0 (fun m hm => Yi hm) hn) h⟩
 .obtain ⟨ti, h1, h⟩ := AQ.1 h
  obtain ⟨e, h2, h⟩ := B2.1 h
  obtain ⟨te, h3, h4, h5, h⟩ := AQ.1 h
  exact ⟨⟨ti, e, h1, h2, te, h3, h4⟩, h5, I0 (fun n hn => I0 (fun m hm => Yi hm) hn) h⟩
 .obtain ⟨ti, h1, h2, h⟩ := AQ.1 h
  exact ⟨⟨ti, h1, h2⟩, I0 (fun n hn => I0 (fun m hm => Yi hm) hn) h⟩
 exact h.elim
end
end Go.E
/- The walk of a function: the short form holds what the long one says (Rq); rules for the parts of a body, states made weaker (A8). No condition. -/
namespace Go.E
open Go Go.RowKit
section
variable {P : Program} {A : BB} {AD : A3} {K : St -> Prop}
theorem Rq {st : St} {o : Oper} {K : A5 St} (h : BC P A AD st o.dst o.op K) : ZN P A AD st o K.f := by
 obtain ⟨dst, op, type, pos, after, guard⟩ := o
 simp only at h
 cases op <;> simp only [BC] at h <;> simp only [ZN]
 case move x => exact h
 case assign x => exact h
 case pick c a b => obtain ⟨t, h1, h2⟩ := LR.1 h; exact ⟨t, h1, h2⟩
 case nilCheck x =>
  try dsimp only at h
  unfold Yc at h
  simp only [nW]
  split at h <;> first | (rename_i e; simp only [e]; exact ⟨trivial, h⟩) | exact h.elim
 case binOp op t x y z => exact Yh h
 case unOp op t x =>
  cases op <;> simp only [BC] at h
  case neg => obtain ⟨kk, n, h1, h2⟩ := B7.1 h; simp only [nW, Vj, h1]; exact h2
  case not => obtain ⟨b, h1, h2⟩ := LR.1 h; simp only [nW, Vj, h1]; exact h2
 case convert s d x =>
  obtain ⟨kk, n, h1, h⟩ := B7.1 h
  obtain ⟨tj, h2, h⟩ := AQ.1 h
  obtain ⟨ti, h3, h⟩ := AQ.1 h
  obtain ⟨kd, h4, h⟩ := AR.1 h
  refine ⟨kk, n, ti, tj, h1, h2, h3, kd, ?_, h⟩
  generalize ti.sh = q at h4
  cases q <;> simp [WP] at h4
  rw [h4]
 case extract t i =>
  try dsimp only at h
  unfold Yd at h
  simp only [nW]
  split at h
  .rename_i l hl; simp only [hl]; exact AR.1 h
  .rename_i l hl; simp only [hl]; exact AR.1 h
  exact h.elim
 case field t x i =>
  obtain ⟨ti, h1, h⟩ := AQ.1 h
  obtain ⟨fs, h2, h⟩ := Ej.1 h
  obtain ⟨f, h3, h⟩ := AR.1 h
  obtain ⟨tf, h4, h⟩ := AQ.1 h
  try dsimp only at h
  unfold Ye at h
  split at h
  .rename_i l hl
   obtain ⟨v, h5, h6⟩ := AR.1 h
   exact ⟨ti, fs, f.1, f.2, tf, l, v, h1, h2, h3, h4, by rw [hl]; rfl, by rw [hl]; trivial, h5, h6⟩
  .rename_i l hl
   obtain ⟨v, h5, h6⟩ := AR.1 h
   exact ⟨ti, fs, f.1, f.2, tf, l.map .p, v, h1, h2, h3, h4, by rw [hl]; rfl, by rw [hl]; trivial, h5, h6⟩
  exact h.elim
 case build t ps =>
  obtain ⟨ti, h1, h⟩ := AQ.1 h
  refine ⟨ti, h1, ?_⟩
  try dsimp only at h
  unfold OT at h
  split at h
  .rename_i fs hsh; simp only [hsh]; exact ⟨h.1, NG h.2⟩
  .rename_i n e hsh
   obtain ⟨te, h2, h⟩ := AQ.1 h
   simp only [hsh]
   exact ⟨te, h2, NG h⟩
  exact h.elim
 case fieldAddr t x i =>
  obtain ⟨ti, h1, h⟩ := AQ.1 h
  obtain ⟨fs, h2, h⟩ := Ej.1 h
  obtain ⟨f, h3, h⟩ := AR.1 h
  obtain ⟨tf, h4, h5, h⟩ := AQ.1 h
  refine ⟨ti, fs, f.1, f.2, tf, h1, h2, h3, h4, h5, ?_⟩
  try dsimp only at h
  unfold WM at h
  split at h <;> first | (rename_i e; simp only [e]; exact h) | exact h.elim
 case indexAddr t x i =>
  obtain ⟨kk, n, h1, h⟩ := B7.1 h
  obtain ⟨ti, h2, h⟩ := AQ.1 h
  refine ⟨kk, n, ti, h1, h2, ?_⟩
  try dsimp only at h
  unfold iaS at h
  split at h
  .rename_i e1 e2
   obtain ⟨te, g1, g2, g3, h⟩ := AQ.1 h
   simp only [e1, e2]
   exact ⟨⟨te, g1, g2⟩, g3, AR.1 h⟩
  .rename_i e1 e2
   obtain ⟨te, g1, g2, ⟨g3, g4⟩, h⟩ := AQ.1 h
   simp only [e1, e2]
   exact ⟨⟨te, g1, g2⟩, g3, g4, h⟩
  .rename_i e1 e2
   obtain ⟨te, g1, ⟨g2, g3⟩, h⟩ := AQ.1 h
   simp only [e1, e2]
   exact ⟨te, g1, g2, g3, h⟩
  .rename_i e1 e2
   obtain ⟨te, g1, ⟨g2, g3⟩, h⟩ := AQ.1 h
   simp only [e1, e2]
   exact ⟨te, g1, g2, g3, h⟩
  exact h.elim
 case index t x i =>
  obtain ⟨kk, n, h1, h⟩ := B7.1 h
  obtain ⟨ti, h2, h0, h⟩ := AQ.1 h
  refine ⟨kk, n, ti, h1, h2, h0, ?_⟩
  try dsimp only at h
  unfold ixS at h
  split at h
  .rename_i e1 e2
   obtain ⟨te, g1, g2, h⟩ := AQ.1 h
   obtain ⟨v, g3, g4⟩ := AR.1 h
   simp only [e1, e2]
   exact ⟨te, v, g1, g2, g3, g4⟩
  .rename_i e1 e2
   obtain ⟨te, g1, g2, h⟩ := AQ.1 h
   obtain ⟨v, g3, g4⟩ := AR.1 h
   simp only [e1, e2]
   exact ⟨te, v, g1, g2, g3, g4⟩
  .rename_i e1 e2
   simp only [e1, e2]
   exact AR.1 h
  exact h.elim
 case makeFunc fn first caps =>
  cases fn <;> simp only [BC] at h
  rename_i f
  exact ⟨by simpa using h.1, f, rfl, h.2⟩
 case slice t x lo hi mx =>
  cases mx with
  | some m => exact h.elim
  | none => exact ⟨rfl, WQ h⟩
 case load t x => obtain ⟨ti, h1, h2⟩ := AQ.1 h; exact ⟨ti, h1, Xe h2⟩
 case store t x v =>
  obtain ⟨ti, h1, h⟩ := AQ.1 h
  obtain ⟨ls, h2, ⟨h3, h4⟩, h⟩ := AR.1 h
  refine ⟨ti, h1, ls, h2, h3, h4, ?_⟩
  try dsimp only at h
  unfold Te at h
  split at h
  .rename_i id off e
   obtain ⟨o, g1, h⟩ := AR.1 h
   obtain ⟨cells, rfl, g2, h⟩ := Hy.1 h
   try simp only [e]
   exact ⟨cells, g1, g2, h⟩
  .rename_i id i off e
   obtain ⟨o, g1, h⟩ := AR.1 h
   obtain ⟨e', sz, elems, rfl, h⟩ := D7.1 h
   obtain ⟨x, g2, h⟩ := AR.1 h
   obtain ⟨ds, g3, g4, h⟩ := AR.1 h
   try simp only [e]
   exact ⟨e', sz, elems, x, ds, g1, g2, g4, g3, h⟩
  exact h.elim
 case alloc t => obtain ⟨ti, h1, h2⟩ := AQ.1 h; exact ⟨ti, h1, h2⟩
 case box t x => obtain ⟨ls, h1, h2⟩ := AR.1 h; exact ⟨ls, h1, h2⟩
 case buildSlice t n ps =>
  obtain ⟨ti, h1, h⟩ := AQ.1 h
  obtain ⟨e, h2, h⟩ := B2.1 h
  obtain ⟨te, h3, ⟨h4, h5⟩, h⟩ := AQ.1 h
  obtain ⟨l, h6, h7, h⟩ := AR.1 h
  exact ⟨ti, e, te, l, h1, h2, h3, h4, h5, h6, h7, h⟩
 case makeSlice t l c =>
  obtain ⟨ti, h1, h⟩ := AQ.1 h
  obtain ⟨e, h2, h⟩ := B2.1 h
  obtain ⟨te, h3, h⟩ := AQ.1 h
  obtain ⟨k1, n, h4, h⟩ := B7.1 h
  obtain ⟨k2, n', h5, ⟨h9, h6, h7, h8⟩, h⟩ := B7.1 h
  simp only at h9
  subst h9
  exact ⟨ti, e, te, n', k1, k2, h1, h2, h3, h4, h5, h6, h7, h8, h⟩
 case makeMap t r =>
  cases r with
  | some r => exact h.elim
  | none => exact ⟨rfl, h⟩
 case lookup t x i ok =>
  obtain ⟨ti, h1, h⟩ := AQ.1 h
  obtain ⟨kt, et, h2, h⟩ := Dx.1 h
  obtain ⟨te, h3, h⟩ := AQ.1 h
  obtain ⟨m, h4, h⟩ := AR.1 h
  obtain ⟨kd, h5, ⟨h6, h7⟩, h⟩ := CX.1 h
  exact ⟨ti, kt, et, te, m, kd, h1, h2, h3, h4, h5, h6, h7, h⟩
 case mapUpdate t x i v =>
  obtain ⟨ti, h1, h⟩ := AQ.1 h
  obtain ⟨kt, et, h2, h⟩ := Dx.1 h
  obtain ⟨id, h3, h⟩ := DP.1 h
  obtain ⟨o, h4, h⟩ := AR.1 h
  obtain ⟨m, rfl, h⟩ := D6.1 h
  obtain ⟨kd, h5, h⟩ := CX.1 h
  obtain ⟨vd, h6, ⟨h7, h8⟩, h⟩ := CX.1 h
  exact ⟨ti, kt, et, id, m, kd, vd, h1, h2, h3, h4, h5, h6, h7, h8, h⟩
 case mapEntry t x i =>
  obtain ⟨ti, h1, h⟩ := AQ.1 h
  obtain ⟨kt, et, h2, h⟩ := Dx.1 h
  obtain ⟨te, h3, h⟩ := AQ.1 h
  obtain ⟨id, h4, h⟩ := DP.1 h
  obtain ⟨o, h5, h⟩ := AR.1 h
  obtain ⟨m, rfl, h⟩ := D6.1 h
  obtain ⟨kd, h6, ⟨h7, h8⟩, h⟩ := CX.1 h
  exact ⟨ti, kt, et, te, id, m, kd, h1, h2, h3, h4, h5, h6, h7, h8, h⟩
 case entryStore t x s v =>
  obtain ⟨id, h1, h⟩ := DP.1 h
  obtain ⟨o, h2, h⟩ := AR.1 h
  obtain ⟨m, rfl, h⟩ := D6.1 h
  obtain ⟨kk, n, h3, h⟩ := B7.1 h
  obtain ⟨vd, h4, h0, h⟩ := CX.1 h
  obtain ⟨p, h5, h⟩ := AR.1 h
  exact ⟨id, m, kk, n, vd, p, h1, h2, h3, h0, h5, h4, h⟩
 case range t x =>
  obtain ⟨ti, h1, h⟩ := AQ.1 h
  obtain ⟨kt, et, h2, h⟩ := Dx.1 h
  try dsimp only at h
  unfold AAO at h
  split at h
  .rename_i e; exact ⟨ti, kt, et, [], h1, h2, .inl ⟨e, rfl⟩, h⟩
  .rename_i m e; exact ⟨ti, kt, et, m, h1, h2, .inr e, h⟩
  exact h.elim
 case next x s =>
  cases s with
  | true => exact h.elim
  | false =>
   simp only [BC] at h
   unfold AAP at h
   split at h
   .rename_i id e
    split at h
    .rename_i cur left hl
     exact ⟨rfl, id, cur, left, e, hl, h.1, h.2⟩
    exact h.elim
   exact h.elim
 case entry x =>
  unfold AAQ at h
  split at h
  .rename_i id e
   split at h
   .rename_i p left hl
    exact ⟨id, p, left, e, hl, h⟩
   exact h.elim
  exact h.elim
 case call c =>
  obtain ⟨callee, args, ats⟩ := c
  try dsimp only at h
  unfold IG at h
  simp only at h
  split at h
  .rename_i f
   obtain ⟨k, caps, g1, g2⟩ := Vh.1 h
   simp only [g1]
   exact g2
  .rename_i s x t t' e2 e3
   obtain ⟨rfl, h⟩ := h
   obtain ⟨ti, h1, h⟩ := AQ.1 h
   obtain ⟨e, h2, h⟩ := B2.1 h
   obtain ⟨te, h3, h4, h⟩ := AQ.1 h
   obtain ⟨new, h5, h6, h⟩ := AR.1 h
   have ha : args = #[s, x] := by rw [<- Array.toList_inj, e2]
   have hb : ats = #[t', t'] := by rw [<- Array.toList_inj, e3]
   simp only [mW]
   refine ⟨trivial, s, x, t', ha, hb, ti, e, te, h1, h2, h3, h4, new, h5, h6, ?_⟩
   try dsimp only at h
   unfold WO at h
   split at h
   .rename_i e; simp only [e]; exact ⟨h.1.1, h.1.2, h.2⟩
   .rename_i id sz off len e
    obtain ⟨hsz, h⟩ := h
    obtain ⟨o, g1, h⟩ := AR.1 h
    obtain ⟨e', sz', elems, rfl, ⟨k1, k2, g2, g3, g4⟩, h9⟩ := D7.1 h
    subst k1; subst k2
    try simp only [e]
    exact ⟨elems, hsz, g1, g2, g3, g4, h9⟩
   exact h.elim
  .rename_i x i t r e2 e3
   obtain ⟨ti, h1, h⟩ := AQ.1 h
   obtain ⟨kt, et, h2, h⟩ := Dx.1 h
   obtain ⟨id, h3, h⟩ := DP.1 h
   obtain ⟨o, h4, h⟩ := AR.1 h
   obtain ⟨m, rfl, h⟩ := D6.1 h
   obtain ⟨kd, h5, ⟨h6, h7⟩, h⟩ := CX.1 h
   exact ⟨x, i, t, r, by rw [<- Array.toList_inj, e2], e3, ti, kt, et, id, m, kd, h1, h2, h3, h4, h5, h6, h7, h⟩
  .rename_i x t r e2 e3
   obtain ⟨h, hd⟩ := h
   obtain ⟨ti, h1, h⟩ := AQ.1 h
   obtain ⟨e, h2, h⟩ := B2.1 h
   obtain ⟨te, h3, h⟩ := AQ.1 h
   have h : Yg st e te (st.eval x) K := h
   generalize hx : st.eval x = v at h
   cases v <;> try exact False.elim h
   rename_i id sz off len
   obtain ⟨k1, rfl, k3, k4, h⟩ := h
   obtain ⟨o', g1, h⟩ := AR.1 h
   obtain ⟨e', sz', elems, rfl, ⟨g2, g3, g4⟩, h9⟩ := D7.1 h
   subst g2; subst g3
   refine ⟨x, t, r, by rw [<- Array.toList_inj, e2], e3, ti, e', te, id, off, len, elems, h1, h2, h3, k1, hx, k3, g1, g4, k4, ?_⟩
   subst hd; exact h9
  .rename_i x t e2 e3
   obtain ⟨ti, h1, h⟩ := AQ.1 h
   have ha : args = #[x] := by rw [<- Array.toList_inj, e2]
   have hb : ats = #[t] := by rw [<- Array.toList_inj, e3]
   simp only [nW]
   refine ⟨x, t, ti, ha, hb, h1, ?_⟩
   try dsimp only at h
   unfold Yf at h
   split at h
   .rename_i g; simp only [g]; exact h
   .rename_i g1 g2; simp only [g1, g2, Kp]; exact h
   .rename_i g1 g2; simp only [g1, g2, Kp]; exact h
   .rename_i g1 g2; simp only [g1, g2, Kp]; exact h
   .rename_i g1 g2; simp only [g1, g2, Kp]; exact h
   exact h.elim
  .obtain ⟨r, h1, h⟩ := AR.1 h
   simp only [nW]
   exact ⟨r, h1, h⟩
  .obtain ⟨r, h1, h⟩ := AR.1 h
   simp only [nW]
   exact ⟨r, h1, h⟩
  exact h.elim
 all_goals exact h.elim
theorem SK (st : St) (ops : List Oper) (j : Nat) : Fg st (WL ops j) = C9 st ops.toArray j := by
 unfold Fg C9 WL
 simp only [List.getElem?_toArray]
 cases ops[j]? with
 | none => rfl
 | some o => cases hd : o.dst <;> simp [hd]
theorem LS (hE : BA P AD) {ops : List Oper} {K : A5 St} {Q : Exit -> Act -> World -> Prop} (hQ : ∀ st a w, K.f st -> R A st a w -> Q .normal a w) :
  ∀ (l : List Oper) (st : St) (a : Act) (w : World), Ey P A AD K (l.map (OR ops)) st -> R A st a w -> wpList P ops.toArray Q l a w
 | [], st, a, w, h, hR => hQ st a w h.h hR
 | o :: rest, st, a, w, h, hR => by
  have run : BC P A AD st o.dst o.op ⟨Ey P A AD K (rest.map (OR ops)), ⟨⟩⟩ -> o.wp P a w (wpList P ops.toArray Q rest) Q := fun h =>
   SE hE (Rq h) hR fun st' a' w' hk hR' => LS hE hQ rest st' a' w' hk hR'
  have skip : Ey P A AD K (rest.map (OR ops)) (st.put o.dst .und) -> wpList P ops.toArray Q rest (a.put o.dst undef) w := fun h => by
   obtain ⟨μ, hh, hs⟩ := hR.ex
   exact LS hE hQ rest _ _ _ h (hR.put hs hh .und)
  unfold wpList
  simp only [List.map_cons, OR] at h
  cases hg : o.guard with
  | none =>
   rw [hg] at h
   rw [if_pos (by simp [Region.wanted, hg])]
   exact .inl (run h)
  | some g =>
   obtain ⟨j, want⟩ := g
   rw [hg] at h
   simp only [Ey, SK] at h
   obtain ⟨μ, hh, hs⟩ := hR.ex
   obtain ⟨g1, g2⟩ := OI (ops := ops.toArray) (j := j) (fun x => GO hs x)
   unfold gM at h
   split at h
   .rename_i b hb
    have hy := g1 b hb
    by_cases e : b = want
    .rw [if_pos (by simp [Region.wanted, hg, hy, e])]
     exact .inl (run (h.1 e))
    rw [if_neg (by simp [Region.wanted, hg, hy, e])]
    exact skip (h.2 (by cases b <;> cases want <;> simp_all))
   .rename_i hb
    have hy := g2 hb
    rw [if_neg (by simp [Region.wanted, hg, hy])]
    exact skip h
   exact h.elim
theorem Zk (hE : BA P AD) {id : Nat} {ops : List Oper} {ms : List HW} {y : Code} {Q : Exit -> St -> Prop} {st : St} (hm : ops.map (OR ops) = ms) (h : Ey P A AD ⟨fun st' => B0 P A y Q st', ⟨⟩⟩ ms st) :
  B0 P A (.seq (.region id ops.toArray false) y) Q st :=
 AB fun a w hR => wp_region_lit (LS hE (fun st' _ _ hk hR' => ⟨st', hR', hk⟩) ops st a w (by rw [hm]; exact h) hR)
theorem Yj (hE : BA P AD) {id : Nat} {ops : List Oper} {ms : List HW} {Q : Exit -> St -> Prop} {st : St} (hm : ops.map (OR ops) = ms) (h : Ey P A AD ⟨fun st' => Q .normal st', ⟨⟩⟩ ms st) :
  B0 P A (.region id ops.toArray false) Q st :=
 fun a w hR => wp_region_lit (LS hE (fun st' _ _ hk hR' => ⟨st', hR', hk⟩) ops st a w (by rw [hm]; exact h) hR)
def A8 (A : BB) (st st' : St) : Prop := ∀ a w, R A st a w -> R A st' a w
theorem A8.refl (st : St) : A8 A st st := fun _ _ h => h
theorem A8.trans {a b c : St} (h : A8 A a b) (h' : A8 A b c) : A8 A a c := fun x w hR => h' x w (h x w hR)
theorem NH {c : Code} {Q : Exit -> St -> Prop} {st st' : St} (hw : A8 A st st') (h : B0 P A c Q st') : B0 P A c Q st := fun a w hR => h a w (hw a w hR)
def Ek (gl : List (Nat × Nat)) : LV -> LV
 | .lsl id sz off len => .lsl ((AJ id gl).getD 0) sz off len
 | .lpb id off => .lpb ((AJ id gl).getD 0) off
 | .lpe id i off => .lpe ((AJ id gl).getD 0) i off
 | .lmap id => .lmap ((AJ id gl).getD 0)
 | .agg l => .agg (renLs gl l)
 | .tup l => .tup (renLs gl l)
 | .fn f l => .fn f (renLs gl l)
 | l => l
where renLs (gl : List (Nat × Nat)) : List LV -> List LV
 | [] => []
 | x :: l => Ek gl x :: renLs gl l
def DQ (gl : List (Nat × Nat)) : LV -> Bool
 | .lsl id _ _ _ | .lpb id _ | .lpe id _ _ | .lmap id => (AJ id gl).isSome
 | .agg l | .tup l | .fn _ l => namesLs gl l
 | _ => true
where namesLs (gl : List (Nat × Nat)) : List LV -> Bool
 | [] => true
 | x :: l => DQ gl x && namesLs gl l
theorem Jf {gl : List (Nat × Nat)} : ∀ {ls : List LV} {i : Nat}, (Ek.renLs gl ls)[i]? = (ls[i]?).map (Ek gl)
 | [], i => by simp [Ek.renLs]
 | x :: l, 0 => by simp [Ek.renLs]
 | x :: l, i + 1 => by simpa [Ek.renLs] using Jf (ls := l)
theorem Jg {gl : List (Nat × Nat)} : ∀ {ls : List LV}, (Ek.renLs gl ls).length = ls.length
 | [] => rfl
 | x :: l => by simp [Ek.renLs, Jg (ls := l)]
theorem HX {gl : List (Nat × Nat)} : ∀ {ls : List LV} {i : Nat} {x : LV}, DQ.namesLs gl ls = true -> ls[i]? = some x -> DQ gl x = true
 | [], i, x, _, h => by simp at h
 | y :: l, 0, x, hn, h => by simp at h; subst h; simp only [DQ.namesLs, Bool.and_eq_true] at hn; exact hn.1
 | y :: l, i + 1, x, hn, h => by simp only [DQ.namesLs, Bool.and_eq_true] at hn; exact HX hn.2 (by simpa using h)
def FM (gl : List (Nat × Nat)) (μ : Nat -> Option BQ) (id : Nat) : Option BQ :=
 match AJ id gl with
 | some old => μ old
 | none => none
theorem Kq {O O' : Nat -> Prop} {μ : Nat -> Option BQ} {w : World} {gl : List (Nat × Nat)} (hO : ∀ b, b < w.heap.size -> O' b -> O b) :
  ∀ (l : LV) (v : Value), DQ gl l = true -> AZ O μ w v (Ek gl l) -> AZ O' (FM gl μ) w v l
 | .p d, v, _, h => .p _ _ (h.p_inv.mono (BH.refl _ _) hO)
 | .und, v, _, h => by cases h; exact .und
 | .any, v, _, h => .any _
 | .lsl id sz off len, v, hn, h => by
  simp only [DQ] at hn
  cases hl : AJ id gl with
  | none => rw [hl] at hn; cases hn
  | some old =>
   simp only [Ek, hl, Option.getD_some] at h
   have hm : ∀ loc, μ old = some loc -> FM gl μ id = some loc := fun loc h => by simp [FM, hl, h]
   cases h with
   | lsln _ loc h1 h2 => exact .lsln id loc (hm _ h1) h2
   | lsl _ _ _ cap a loc h1 h2 h3 h4 h5 h6 h7 => exact .lsl id _ _ cap a loc (hm _ h1) h2 h3 h4 h5 h6 h7
 | .lpb id off, v, hn, h => by
  simp only [DQ] at hn
  cases hl : AJ id gl with
  | none => rw [hl] at hn; cases hn
  | some old =>
   simp only [Ek, hl, Option.getD_some] at h
   have hm : ∀ loc, μ old = some loc -> FM gl μ id = some loc := fun loc h => by simp [FM, hl, h]
   cases h with
   | lpb _ _ loc h1 h2 => exact .lpb id _ loc (hm _ h1) h2
 | .lpe id i off, v, hn, h => by
  simp only [DQ] at hn
  cases hl : AJ id gl with
  | none => rw [hl] at hn; cases hn
  | some old =>
   simp only [Ek, hl, Option.getD_some] at h
   have hm : ∀ loc, μ old = some loc -> FM gl μ id = some loc := fun loc h => by simp [FM, hl, h]
   cases h with
   | lpe _ _ _ loc h1 h2 => exact .lpe id _ _ loc (hm _ h1) h2
 | .lmap id, v, hn, h => by
  simp only [DQ] at hn
  cases hl : AJ id gl with
  | none => rw [hl] at hn; cases hn
  | some old =>
   simp only [Ek, hl, Option.getD_some] at h
   have hm : ∀ loc, μ old = some loc -> FM gl μ id = some loc := fun loc h => by simp [FM, hl, h]
   cases h with
   | lmap _ loc h1 h2 => exact .lmap id loc (hm _ h1) h2
 | .agg ls, v, hn, h => by
  simp only [Ek] at h
  simp only [DQ] at hn
  cases h with
  | agg vs _ hsz hr =>
   rw [Jg] at hsz
   refine .agg vs ls hsz fun i u x h1 h2 => ?_
   have : SizeOf.sizeOf x < SizeOf.sizeOf ls := List.sizeOf_lt_of_mem (List.mem_of_getElem? h2)
   exact Kq hO x u (HX hn h2) (hr i u _ h1 (by rw [Jf, h2]; rfl))
 | .tup ls, v, hn, h => by
  simp only [Ek] at h
  simp only [DQ] at hn
  cases h with
  | tup vs _ hsz hr =>
   rw [Jg] at hsz
   refine .tup vs ls hsz fun i u x h1 h2 => ?_
   have : SizeOf.sizeOf x < SizeOf.sizeOf ls := List.sizeOf_lt_of_mem (List.mem_of_getElem? h2)
   exact Kq hO x u (HX hn h2) (hr i u _ h1 (by rw [Jf, h2]; rfl))
 | .fn f ls, v, hn, h => by
  simp only [Ek] at h
  simp only [DQ] at hn
  cases h with
  | fn _ vs _ hsz hr =>
   rw [Jg] at hsz
   refine .fn f vs ls hsz fun i u x h1 h2 => ?_
   have : SizeOf.sizeOf x < SizeOf.sizeOf ls := List.sizeOf_lt_of_mem (List.mem_of_getElem? h2)
   exact Kq hO x u (HX hn h2) (hr i u _ h1 (by rw [Jf, h2]; rfl))
def WR (gl : List (Nat × Nat)) : A9 -> A9
 | .box cells => .box (Ek.renLs gl cells)
 | o => o
def Tf (gl : List (Nat × Nat)) : A9 -> Bool
 | .box cells => DQ.namesLs gl cells
 | _ => true
def TD (gl : List (Nat × Nat)) (sl : List (Nat × LV)) : List (Nat × LV) -> Prop
 | [] => True
 | (t, l) :: rest => (DQ gl l = true /\ BW sl t = Ek gl l) /\ TD gl sl rest
def TE (gl : List (Nat × Nat)) (h : AP) : AP -> Prop
 | [] => True
 | (id, o) :: rest => (Tf gl o = true /\ ∃ old, AJ id gl = some old /\ AJ old h = some (WR gl o)) /\ TE gl h rest
theorem Qt {gl : List (Nat × Nat)} {sl : List (Nat × LV)} : ∀ {sl' : List (Nat × LV)}, TD gl sl sl' -> ∀ t l, AJ t sl' = some l -> DQ gl l = true /\ BW sl t = Ek gl l
 | [], _, t, l, h => by simp [AJ] at h
 | (u, x) :: rest, ⟨h1, h2⟩, t, l, h => by
  simp only [AJ] at h
  split at h
  .cases h; subst_vars; exact h1
  exact Qt h2 t l h
theorem Gv {gl : List (Nat × Nat)} {hp : AP} : ∀ {h' : AP}, TE gl hp h' -> ∀ id o, AJ id h' = some o -> Tf gl o = true /\ ∃ old, AJ id gl = some old /\ AJ old hp = some (WR gl o)
 | [], _, id, o, h => by simp [AJ] at h
 | (u, x) :: rest, ⟨h1, h2⟩, id, o, h => by
  simp only [AJ] at h
  split at h
  .cases h; subst_vars; exact h1
  exact Gv h2 id o h
theorem NI {α : Type} {t : Nat} {v : α} : ∀ {l : List (Nat × α)}, AJ t l = some v -> (t, v) ∈ l
 | [], h => by simp [AJ] at h
 | (k, u) :: l, h => by
  simp only [AJ] at h
  split at h
  .cases h; subst_vars; simp
  exact List.mem_cons_of_mem _ (NI h)
def Qu (gl : List (Nat × Nat)) (h : AP) (c : Nat) : Bool := decide (h.map fun p => (AJ p.1 gl).getD 0).Nodup && gl.all fun p => decide (p.1 < c)
theorem Yk {gl : List (Nat × Nat)} {h : AP} (hn : (h.map fun p => (AJ p.1 gl).getD 0).Nodup) {a b : Nat × A9} (ha : a ∈ h) (hb : b ∈ h) (e : (AJ a.1 gl).getD 0 = (AJ b.1 gl).getD 0) : a = b := by
 induction h with
 | nil => simp at ha
 | cons x l ih =>
  simp only [List.map_cons, List.nodup_cons, List.mem_map, not_exists, not_and] at hn
  rcases List.mem_cons.1 ha with e1 | ha' <;> rcases List.mem_cons.1 hb with e2 | hb'
  .rw [e1, e2]
  .subst e1; exact absurd e.symm (hn.1 b hb')
  .subst e2; exact absurd e (hn.1 a ha')
  exact ih hn.2 ha' hb'
theorem Yl (gl : List (Nat × Nat)) {nt : Nat} {sl sl' : List (Nat × LV)} {h h' : AP} {c c' : Nat} (hext : ∀ id, A.μ0 id ≠ none -> AJ id gl = some id) (ho : Qu gl h' c' = true)
  (hs : TD gl sl sl') (hh' : TE gl h h') : A8 A ⟨nt, sl, h, c⟩ ⟨nt, sl', h', c'⟩ := fun a w ⟨⟨μ, hh, hr⟩, hnt, hdef⟩ => by
 simp only [Qu, Bool.and_eq_true, decide_eq_true_eq, List.all_eq_true] at ho
 have hmine : ∀ b, Bk (FM gl μ) h' b -> Bk μ h b := by
  rintro b ⟨id, o, loc, h1, h2, h3, h4⟩
  obtain ⟨_, old, g1, g2⟩ := Gv hh' id o h1
  simp only [FM, g1] at h2
  exact ⟨old, _, loc, g2, h2, h3, h4⟩
 have hown : ∀ b, b < w.heap.size -> Ag A (FM gl μ) h' b -> Ag A μ h b := fun b _ hb => hb.imp id (hmine b)
 refine ⟨⟨FM gl μ, ⟨?_, ?_, ?_, ?_, hh.size, hh.block, hh.os, hh.tape, hh.output, ?_⟩, fun t ht => ?_⟩, hnt, hdef⟩
 .intro id o hid
  obtain ⟨hn, old, g1, g2⟩ := Gv hh' id o hid
  obtain ⟨loc, k1, k2⟩ := hh.obj old _ g2
  refine ⟨loc, by simp only [FM, g1]; exact k1, ?_⟩
  cases o with
  | box cells =>
   obtain ⟨a1, cs, ty, a2, a3, a4⟩ := k2
   rw [Jg] at a3
   refine ⟨a1, cs, ty, a2, a3, fun i v l hv hl => Kq hown l v (HX hn hl) (a4 i v _ hv (by rw [Jf, hl]; rfl))⟩
  | row e sz elems =>
   obtain ⟨a1, a2, a3⟩ := k2
   refine ⟨a1, a2, ?_⟩
   rcases a3 with a3 | ⟨b1, cs, b2, b3, b4, b5, b6⟩
   .exact .inl a3
   exact .inr ⟨b1, cs, b2, b3, b4, b5, fun i j x d v hx hd hv => (b6 i j x d v hx hd hv).mono (BH.refl _ _) hown⟩
  | map m =>
   obtain ⟨a1, es, a2, a3, a4, a5⟩ := k2
   exact ⟨a1, es, a2, a3, a4, fun i e p he hp => ⟨(a5 i e p he hp).1.mono (BH.refl _ _) hown, (a5 i e p he hp).2.mono (BH.refl _ _) hown⟩⟩
  | mapd m =>
   obtain ⟨a1, es, clock, a2, a3, a4, a5⟩ := k2
   exact ⟨a1, es, clock, a2, a3, a4, fun i e p he hp => ⟨(a5 i e p he hp).1.mono (BH.refl _ _) hown, (a5 i e p he hp).2.mono (BH.refl _ _) hown⟩⟩
  | iter cur left => exact ⟨k2.1, k2.2.mono (BH.refl _ _) hown rfl⟩
 .intro id id' o o' loc loc' h1 h2 m1 m2 n1 n2 hb
  obtain ⟨_, old, g1, g2⟩ := Gv hh' id o h1
  obtain ⟨_, old', g1', g2'⟩ := Gv hh' id' o' h2
  simp only [FM, g1] at m1
  simp only [FM, g1'] at m2
  have := hh.inj _ _ _ _ _ _ g2 g2' m1 m2 n1 n2 hb
  have := Yk ho.1 (NI h1) (NI h2) (by simp only [g1, g1', Option.getD_some]; exact this)
  exact congrArg (·.1) this
 .intro id hid
  simp only [FM]
  cases hl : AJ id gl with
  | none => rfl
  | some old =>
   have := ho.2 _ (NI hl)
   simp only [Fr] at hid
   omega
 .intro id o loc h1 m1 n1
  obtain ⟨_, old, g1, g2⟩ := Gv hh' id o h1
  simp only [FM, g1] at m1
  exact hh.base _ _ _ g2 m1 n1
 .intro id loc hm
  have := hext id (by rw [hm]; simp)
  simp only [FM, this]
  exact hh.ext _ _ hm
 show AZ _ _ _ _ (match AJ t sl' with | some v => v | none => .any)
 cases hl : AJ t sl' with
 | none => exact .any _
 | some l =>
  obtain ⟨g1, g2⟩ := Qt hs t l hl
  have := hr t ht
  simp only at this
  rw [g2] at this
  exact Kq hown l _ g1 this
theorem Cf {nt : Nat} {sl : List (Nat × LV)} {h : AP} {c : Nat} (t e sz : Nat) (ht : BW sl t = .p .nils) : A8 A ⟨nt, sl, h, c⟩ ⟨nt, (t, .lsl c sz 0 0) :: sl, (c, .row e sz []) :: h, c + 1⟩ := fun a w ⟨⟨μ, hh, hr⟩, hnt, hdef⟩ => by
 have hno := hh.fresh c (Nat.le_refl _)
 let loc : BQ := ⟨true, 0, 0, sz, 0⟩
 have hsub : ∀ id x, AJ id ((c, A9.row e sz []) :: h) = some x -> (id = c /\ x = .row e sz []) \/ AJ id h = some x := by
  intro id x hx
  simp only [AJ] at hx
  split at hx
  .cases hx; exact .inl ⟨‹_›, rfl⟩
  exact .inr hx
 have hadd := hh.add hno loc (.row e sz []) ((c, .row e sz []) :: h) (fun hn => by cases hn) (fun hn => by cases hn) hsub (BH.refl _ _) (fun _ _ _ _ _ _ _ => rfl) rfl rfl rfl ⟨rfl, by simp, .inl ⟨rfl, rfl⟩⟩
 have hown := hh.sub_add loc (.row e sz []) ((c, .row e sz []) :: h) (fun hn => by cases hn) hsub
 refine ⟨⟨_, hadd.less (F' := Fr (c + 1)) fun id hid => ?_, fun u hu => ?_⟩, hnt, hdef⟩
 .simp only [Fr] at hid ⊢; omega
 show AZ _ _ _ _ (match AJ u ((t, LV.lsl c sz 0 0) :: sl) with | some v => v | none => .any)
 simp only [AJ]
 by_cases hut : u = t
 .subst hut
  rw [if_pos rfl]
  have := hr u hu
  simp only at this
  rw [ht] at this
  rw [this.nils_inv]
  exact .lsln c loc (by simp [Bl]) rfl
 rw [if_neg hut]
 exact (hr u hu).mono (BH.refl _ _) hown (JH hno loc)
end
end Go.E
/- Loops whose states are told outright; parts of a body. No condition. -/
namespace Go.E
open Go Go.RowKit
section
variable {P : Program} {A : BB} {AD : A3} {Q : Exit -> St -> Prop} {st : St}
theorem AC {next : St -> Prop} (h : next st) : Qk next Q .normal st := h
theorem AG {next : St -> Prop} (h : Q .ret st) : Qk next Q .ret st := h
theorem AW {next : St -> Prop} {id : Nat} (h : Q (.exit id) st) : Qk next Q (.exit id) st := h
theorem Af {id : Nat} (h : Q .normal st) : GP id Q .normal st := h
theorem AN {id : Nat} (h : Q .ret st) : GP id Q .ret st := h
theorem Ap {id : Nat} (h : Q .normal st) : GP id Q (.exit id) st := by simp only [GP, if_true]; exact h
theorem LU {id id' : Nat} (hne : (id' == id) = false) (h : Q (.exit id') st) : GP id Q (.exit id') st := by
 simp only [GP]
 rw [if_neg (by simpa using hne)]; exact h
theorem AAS {P : Program} {AD : A3} (hE : BA P AD) {k : Nat} {fn : Func} {c : Code} (hf : P.funcs[k]? = some fn) (hb : fn.body = some c) (hn : (fn.name == "runtime.NumGoroutine") = false) (nt : Nat) (hnt : fn.ntmps = nt)
  (rs : List ResultVar) (hrs : fn.results.toList = rs) {ds : List DV} (hlen : ds.length <= nt) {Q : DV -> Prop}
  (h : ∀ A : BB, (∀ id, A.μ0 id = none) -> B0 P A c (M7 fun st => ∃ r, FL AD.tt rs st = some r /\ Q r) ⟨nt, C0 0 ds, [], 0⟩) : Ax P k ds Q := by
 subst hnt hrs
 exact Ql hE hf hb hn hlen h
theorem ABO {h : AP} {c k : Nat} {args : List LV} {ds : List DV} {r : DV} {f : LV × AP × Nat -> Prop} {hf : HT f} (hds : Bs h args = some ds) (hF : Ax P k ds (· = r))
  (hs : r.scalar = true \/ args.flatMap (D5 h) = []) (hK : f (.p r, h, c)) : JM P A h c k args ⟨f, hf⟩ :=
 Cq.pure hds hF fun q hq => by
  subst hq
  split
  .exact hK
  rcases hs with hs | hs
  .exact absurd hs ‹_›
  rw [hs]; exact hK
def Le (r d : DV) : Prop := ∀ (O : Nat -> Prop) (w : World) (v : Value), Av O w v r -> Av O w v d
theorem Le.of_eq {r d : DV} (h : r = d) : Le r d := fun _ _ _ hv => h ▸ hv
theorem Le.nil (sz : Nat) : Le .nils (.slice sz []) := fun _ _ _ hv => by cases hv; exact .snil sz
theorem Le.tup {l m : List DV} (hl : l.length = m.length) (h : ∀ (i : Nat) (a b : DV), l[i]? = some a -> m[i]? = some b -> Le a b) : Le (.tup l) (.tup m) := fun O w v hv => by
 cases hv with
 | tup vs _ hsz hr =>
  refine .tup vs m (by omega) fun i u d h1 h2 => ?_
  have hi := (List.getElem?_eq_some_iff.1 h2).1
  have hx : l[i]? = some (l[i]'(by omega)) := List.getElem?_eq_getElem _
  exact h i _ d hx h2 O w u (hr i u _ h1 hx)
theorem Le.agg {l m : List DV} (hl : l.length = m.length) (h : ∀ (i : Nat) (a b : DV), l[i]? = some a -> m[i]? = some b -> Le a b) : Le (.agg l) (.agg m) := fun O w v hv => by
 cases hv with
 | agg vs _ hsz hr =>
  refine .agg vs m (by omega) fun i u d h1 h2 => ?_
  have hi := (List.getElem?_eq_some_iff.1 h2).1
  have hx : l[i]? = some (l[i]'(by omega)) := List.getElem?_eq_getElem _
  exact h i _ d hx h2 O w u (hr i u _ h1 hx)
theorem Le.cons {a b : DV} {l m : List DV} (h : Le a b) (hr : ∀ (i : Nat) (a b : DV), l[i]? = some a -> m[i]? = some b -> Le a b) : ∀ (i : Nat) (x y : DV), (a :: l)[i]? = some x -> (b :: m)[i]? = some y -> Le x y := fun i x y h1 h2 => by
 cases i with
 | zero => simp at h1 h2; subst h1 h2; exact h
 | succ i => exact hr i x y (by simpa using h1) (by simpa using h2)
theorem AAT {P : Program} {AD : A3} (hE : BA P AD) {k : Nat} {fn : Func} {c : Code} (hf : P.funcs[k]? = some fn) (hb : fn.body = some c) (hn : (fn.name == "runtime.NumGoroutine") = false) (nt : Nat) (hnt : fn.ntmps = nt)
  (rs : List ResultVar) (hrs : fn.results.toList = rs) {ds : List DV} (hlen : ds.length <= nt) {d : DV}
  (h : ∀ A : BB, (∀ id, A.μ0 id = none) -> B0 P A c (M7 fun st => ∃ r, FL AD.tt rs st = some r /\ Le r d) ⟨nt, C0 0 ds, [], 0⟩) : Ax P k ds (· = d) := by
 have := AAS hE hf hb hn nt hnt rs hrs hlen h
 exact ⟨this.enters, fun O w vs h1 h2 h3 => (this.run O w vs h1 h2 h3).mono fun _ _ ⟨v, r, e, hr, q, hb⟩ => ⟨v, d, e, q _ _ _ hr, rfl, hb⟩⟩
end
end Go.E
/- The equations by which a walk is reckoned. Written by a program (mkev.py). No condition. -/
namespace Go.E
open Go Go.RowKit
theorem Tg : ∀ l : List DV, GR (l.map .p) = some l
 | [] => rfl
 | x :: l => by simp [GR, Tg l]
end Go.E
/- Drawn regions in short form. Conditions: IE and mixedOrders, by kernel. -/
namespace Go.E
open Go Go.RowKit
def Ym (P : Program) (h : AP) (k : Nat) (args : List LV) (K : A5 DV) : Prop :=
 ∃ ds r, Bs h args = some ds /\ Ax P k ds (· = r) /\ (r.scalar = true \/ args.flatMap (D5 h) = []) /\ K.f r
def ABw (P : Program) (AD : A3) (h : AP) (k : Nat) (args : List LV) (K : A5 (Nat × Nat × List (List DV))) : Prop :=
 AD.own = true /\ ∃ ds t sz elems, Bs h args = some ds /\ GQ P k ds t sz elems /\ ZO (args.flatMap (D5 h)) elems /\ K.f (t, sz, elems)
def ZP (AD : A3) (neg : Bool) (t : Nat) (x y : LV) (k : A5 LV) : Prop :=
 match y with
 | .p .nils => False
 | y => Vg AD neg t x y k
def Th (AD : A3) (op : BinOp) (t : Nat) (x y : LV) (k : A5 LV) : Prop :=
 match x, y with
 | .p (.int k1 a), .p (.int k2 b) => k1 = k2 /\ MS op k1 a b k
 | x, y => match op with
  | .eql => ZP AD false t x y k
  | .neq => ZP AD true t x y k
  | _ => False
def WS (sh : Sh) (x : LV) (k : A5 LV) : Prop :=
 match sh, x with
 | .arr n _, _ => k.f (.p (.int .i64 n))
 | .slc _, .p (.slice _ l) => k.f (.p (.int .i64 l.length))
 | .slc _, .p .nils => k.f (.p (.int .i64 0))
 | .slc _, .lsl _ _ _ len => k.f (.p (.int .i64 len))
 | .str, .p (.str s) => k.f (.p (.int .i64 s.size))
 | _, _ => False
def Jh (P : Program) (A : BB) (AD : A3) (st : St) (dst : Option Tmp) (op : Op) (K : A5 St) : Prop :=
 match op with
 | .binOp op t x y _ => Th AD op t (st.eval x) (st.eval y) ⟨fun l => K.f (st.put dst l), ⟨⟩⟩
 | .call c => match c.callee, c.args.toList, c.argTypes.toList with
  | .builtin .len, [x], [t] => CH AD t ⟨fun ti => WS ti.sh (st.eval x) ⟨fun l => K.f (st.put dst l), ⟨⟩⟩, ⟨⟩⟩
  | .builtin .len, _, _ => False
  | .builtin .delete, _, _ => False
  | .builtin .clear, _, _ => False
  | .builtin .append, s :: _, _ => Qm AD.calm (st.eval s) = true /\ BC P A AD st dst (.call c) K
  | .value f, args, _ => if Dn f = true then ∃ l h', TB P AD st c l h' /\ K.f (st.go dst l h' (st.ctr + 1)) else Nx (st.eval f) ⟨fun g => Ym P st.heap g.1 (args.map st.eval ++ g.2) ⟨fun r => K.f (st.put dst (.p r)), ⟨⟩⟩ \/
    ABw P AD st.heap g.1 (args.map st.eval ++ g.2) ⟨fun r => K.f (({ st with heap := (st.ctr, .row r.1 r.2.1 r.2.2) :: st.heap, ctr := st.ctr + 1 } : St).put dst (.lsl st.ctr r.2.1 0 r.2.2.length)), ⟨⟩⟩, ⟨⟩⟩
  | _, _, _ => BC P A AD st dst (.call c) K
 | .range _ _ => False
 | .next _ _ => False
 | .entry _ => False
 | .load t x => MM AD.calm (st.eval x) = true /\ BC P A AD st dst (.load t x) K
 | .store t x v => Ki AD.calm (st.eval x) = true /\ BC P A AD st dst (.store t x v) K
 | op => BC P A AD st dst op K
def C8 (P : Program) (A : BB) (AD : A3) (base n : Nat) (K : A5 St) : List (Nat × HW) -> St -> Prop
 | [], st => AAR K (st.at (base + n))
 | (i, ⟨dst, op, none⟩) :: rest, st => Jh P A AD (st.at (base + i)) dst op ⟨C8 P A AD base n K rest, ⟨⟩⟩
 | (i, ⟨dst, op, some (d, want)⟩) :: rest, st => gM (Fg st d) want ⟨fun _ => Jh P A AD (st.at (base + i)) dst op ⟨C8 P A AD base n K rest, ⟨⟩⟩, ⟨⟩⟩ ⟨fun _ => C8 P A AD base n K rest (st.put dst .und), ⟨⟩⟩
section
variable {P : Program} {A : BB} {AD : A3}
theorem St.at_at (st : St) (c d : Nat) : (st.at c).at d = st.at d := rfl
theorem Zl {v : LV} {want : Bool} {f f' g g' : Unit -> Prop} (h1 : f () = f' ()) (h2 : g () = g' ()) : gM v want ⟨f, ⟨⟩⟩ ⟨g, ⟨⟩⟩ = gM v want ⟨f', ⟨⟩⟩ ⟨g', ⟨⟩⟩ := by
 unfold gM
 split
 .simp only [gW, h1, h2]
 .exact h2
 rfl
theorem Qv (base n : Nat) (K : A5 St) (l : List (Nat × HW)) : ∀ (st : St) (c : Nat), C8 P A AD base n K l (st.at c) = C8 P A AD base n K l st := by
 induction l with
 | nil => intro st c; rfl
 | cons p l ih =>
  intro st c
  obtain ⟨i, dst, op, g⟩ := p
  cases g with
  | none => rfl
  | some g =>
   obtain ⟨d, want⟩ := g
   have e1 : Fg (st.at c) d = Fg st d := by cases d <;> rfl
   have e2 : C8 P A AD base n K l ((st.at c).put dst .und) = C8 P A AD base n K l (st.put dst .und) := by
    have : (st.at c).put dst .und = (st.put dst .und).at c := by cases dst <;> rfl
    rw [this, ih]
   simp only [C8, e1, St.at_at]
   exact Zl rfl e2
theorem Vk {neg : Bool} {t : Nat} {x y : LV} {k : A5 LV} (h : ZP AD neg t x y k) : ∃ l, SJ AD neg t x y (· = l) /\ k.f l := by
 unfold ZP at h
 split at h
 .exact h.elim
 rename_i hne
 unfold Vg at h
 unfold SJ
 split at h
 .exact ⟨_, rfl, h⟩
 .obtain ⟨ti, h1, h2, h3⟩ := AQ.1 h; exact ⟨_, ⟨⟨ti, h1, h2⟩, rfl⟩, h3⟩
 .obtain ⟨ks, h1, h2, h3, h4⟩ := AR.1 h; exact ⟨_, ⟨ks, h1, h2, h3, rfl⟩, h4⟩
 .exact absurd rfl hne
 .exact absurd rfl hne
 .exact absurd rfl hne
 .exact ⟨_, ⟨h.1, rfl⟩, h.2⟩
 .exact ⟨_, ⟨h.1, rfl⟩, h.2⟩
 .exact ⟨_, ⟨h.1, rfl⟩, h.2⟩
 exact h.elim
theorem Yn {op : BinOp} {t : Nat} {x y : LV} {k : A5 LV} (h : Th AD op t x y k) : ∃ l, Rp AD op t x y (· = l) /\ k.f l := by
 unfold Th at h
 unfold Rp
 split at h
 .obtain ⟨v, h1, h2⟩ := Pu h.2
  exact ⟨_, ⟨h.1, v, h1, rfl⟩, h2⟩
 rename_i hne
 split
 .exact absurd rfl (hne _ _ _ _ rfl)
 split at h
 .exact Vk h
 .exact Vk h
 exact h.elim
theorem NJ {place : Nat -> Option (Nat × Nat)} {k : A5 (List LV)} : ∀ {ps : List (Nat × LV)} {cells : List LV}, Kl AD place cells ps k -> ∃ l, IH AD place cells ps (· = l) /\ k.f l
 | [], _, h => ⟨_, rfl, h⟩
 | (i, v) :: rest, cells, h => by
  obtain ⟨p, h1, h⟩ := AR.1 h
  obtain ⟨ti, h2, h⟩ := AQ.1 h
  obtain ⟨ls, h3, ⟨h4, h5⟩, h⟩ := AR.1 h
  obtain ⟨l, h6, h7⟩ := NJ h
  exact ⟨l, ⟨p.1, p.2, ti, ls, h1, h2, h3, h4, h5, h6⟩, h7⟩
theorem NK {place : Nat -> Option (Nat × Nat)} {f : List LV -> LV} {l : List LV} : ∀ {ps : List (Nat × LV)} {cells : List LV}, IH AD place cells ps (· = l) -> IH AD place cells ps fun c => f c = f l
 | [], _, h => congrArg f h
 | (i, v) :: rest, cells, ⟨off, t, ti, ls, h1, h2, h3, h4, h5, h6⟩ => ⟨off, t, ti, ls, h1, h2, h3, h4, h5, NK h6⟩
theorem I1 {d : Int} {x : Option LV} {k : A5 Int} (h : Km d x k) : ∃ n, (∀ k' : Int -> Prop, k' n -> Fh d x k') /\ k.f n := by
 unfold Km at h; unfold Fh
 split at h
 .exact ⟨_, fun _ h => h, h⟩
 .exact ⟨_, fun _ h => h, h⟩
 exact h.elim
theorem Xf {h : AP} {ti : TI} {p : LV} {k : A5 LV} (hl : Qs h ti p k) : ∃ l, GB h ti p (· = l) /\ k.f l := by
 unfold Qs at hl
 unfold GB
 split at hl
 .obtain ⟨r, h1, h2⟩ := AR.1 hl
  exact ⟨r, ⟨r, h1, rfl⟩, h2⟩
 .obtain ⟨o, h1, hl⟩ := AR.1 hl
  obtain ⟨cells, rfl, hl⟩ := Hy.1 hl
  obtain ⟨r, h2, h3⟩ := AR.1 hl
  exact ⟨r, ⟨cells, r, h1, h2, rfl⟩, h3⟩
 .obtain ⟨o, h1, hl⟩ := AR.1 hl
  obtain ⟨e, sz, elems, rfl, hl⟩ := D7.1 hl
  obtain ⟨x, h2, hl⟩ := AR.1 hl
  obtain ⟨r, h3, h4⟩ := AR.1 hl
  exact ⟨r, ⟨e, sz, elems, x, r, h1, h2, h3, rfl⟩, h4⟩
 exact hl.elim
theorem WT {t : Nat} {x : LV} {lo hi : Option LV} {k : A5 LV} (h : Kn AD t x lo hi k) : ∃ l, Ko AD t x lo hi (· = l) /\ k.f l := by
 unfold Kn at h
 unfold Ko
 split at h
 .obtain ⟨ti, h1, h⟩ := AQ.1 h
  obtain ⟨e, h2, h⟩ := B2.1 h
  obtain ⟨te, h3, h4, h⟩ := AQ.1 h
  obtain ⟨a, ka, h⟩ := I1 h
  obtain ⟨b, kb, h5, h⟩ := I1 h
  exact ⟨_, ⟨⟨ti, e, h1, h2, te, h3, h4⟩, ka _ (kb _ ⟨h5.1, h5.2.1, h5.2.2, rfl⟩)⟩, h⟩
 .obtain ⟨ti, h1, h⟩ := AQ.1 h
  obtain ⟨e, h2, h⟩ := B2.1 h
  obtain ⟨te, h3, h4, h6, h⟩ := AQ.1 h
  obtain ⟨a, ka, h⟩ := I1 h
  obtain ⟨b, kb, h5, h⟩ := I1 h
  exact ⟨_, ⟨⟨ti, e, h1, h2, te, h3, h4⟩, h6, ka _ (kb _ ⟨h5.1, h5.2.1, h5.2.2, rfl⟩)⟩, h⟩
 .obtain ⟨ti, h1, h2, h⟩ := AQ.1 h
  obtain ⟨a, ka, h⟩ := I1 h
  obtain ⟨b, kb, h5, h⟩ := I1 h
  exact ⟨_, ⟨⟨ti, h1, h2⟩, ka _ (kb _ ⟨h5.1, h5.2.1, h5.2.2, rfl⟩)⟩, h⟩
 exact h.elim
theorem Zm {st : St} {dst : Option Tmp} {op : Op} {K : A5 St} (hK : ∀ (s : St) (c : Nat), K.f (s.at c) -> K.f s) (h : Jh P A AD st dst op K) {o : Oper} (ho : o.dst = dst) :
  ∃ l e, B1 P AD st op l e /\ K.f (apS st st.ctr o l e) := by
 subst ho
 have keep : ∀ l, K.f (st.put o.dst l) -> K.f (apS st st.ctr o l .keep) := fun l h => by
  have : apS st st.ctr o l .keep = st.put o.dst l := rfl
  rw [this]; exact h
 have goes : ∀ l e h' c, e.ap st.ctr st.heap = h' -> K.f (st.go o.dst l h' c) -> K.f (apS st st.ctr o l e) := fun l e h' c he hk => by
  refine hK _ c ?_
  have : (apS st st.ctr o l e).at c = st.go o.dst l h' c := by
   unfold apS St.go St.at St.put
   rw [he]
   cases o.dst <;> rfl
  rw [this]; exact hk
 have nC : ∀ l, nW AD st op (· = l) -> (B1 P AD st op l .keep ↔ (Ds.keep = Ds.keep /\ nW AD st op (· = l))) -> K.f (st.put o.dst l) -> ∃ l e, B1 P AD st op l e /\ K.f (apS st st.ctr o l e) :=
  fun l h1 h2 h3 => ⟨l, .keep, h2.2 ⟨rfl, h1⟩, keep l h3⟩
 cases op <;> simp only [Jh, BC] at h
 case move x => exact nC _ rfl Iff.rfl h
 case assign x => exact nC _ rfl Iff.rfl h
 case pick c a b => obtain ⟨t, h1, h2⟩ := LR.1 h; exact nC _ ⟨t, h1, rfl⟩ Iff.rfl h2
 case nilCheck x =>
  unfold Yc at h
  split at h <;> first | exact h.elim | (rename_i e; refine nC _ ?_ Iff.rfl h; simp only [nW, e]; exact ⟨trivial, trivial⟩)
 case binOp op t x y z => obtain ⟨l, h1, h2⟩ := Yn h; exact nC l h1 Iff.rfl h2
 case unOp op t x =>
  cases op <;> simp only at h
  case neg => obtain ⟨kk, n, h1, h2⟩ := B7.1 h; exact nC _ (by simp only [nW, Vj, h1]) Iff.rfl h2
  case not => obtain ⟨b, h1, h2⟩ := LR.1 h; exact nC _ (by simp only [nW, Vj, h1]) Iff.rfl h2
 case convert s d x =>
  obtain ⟨kk, n, h1, h⟩ := B7.1 h
  obtain ⟨tj, h2, h⟩ := AQ.1 h
  obtain ⟨ti, h3, h⟩ := AQ.1 h
  obtain ⟨kd, h4, h⟩ := AR.1 h
  refine nC _ ⟨kk, n, ti, tj, h1, h2, h3, kd, ?_, rfl⟩ Iff.rfl h
  generalize ti.sh = q at h4
  cases q <;> simp [WP] at h4
  rw [h4]
 case extract t i =>
  unfold Yd at h
  split at h
  .rename_i l hl; obtain ⟨v, h1, h2⟩ := AR.1 h; exact nC v (by simp only [nW, hl]; exact ⟨v, h1, rfl⟩) Iff.rfl h2
  .rename_i l hl; obtain ⟨v, h1, h2⟩ := AR.1 h; exact nC _ (by simp only [nW, hl]; exact ⟨v, h1, rfl⟩) Iff.rfl h2
  exact h.elim
 case field t x i =>
  obtain ⟨ti, h1, h⟩ := AQ.1 h
  obtain ⟨fs, h2, h⟩ := Ej.1 h
  obtain ⟨f, h3, h⟩ := AR.1 h
  obtain ⟨tf, h4, h⟩ := AQ.1 h
  try dsimp only at h
  unfold Ye at h
  split at h
  .rename_i l hl
   obtain ⟨v, h5, h6⟩ := AR.1 h
   exact nC v ⟨ti, fs, f.1, f.2, tf, l, v, h1, h2, h3, h4, by rw [hl]; rfl, by rw [hl]; trivial, h5, rfl⟩ Iff.rfl h6
  .rename_i l hl
   obtain ⟨v, h5, h6⟩ := AR.1 h
   exact nC v ⟨ti, fs, f.1, f.2, tf, l.map .p, v, h1, h2, h3, h4, by rw [hl]; rfl, by rw [hl]; trivial, h5, rfl⟩ Iff.rfl h6
  exact h.elim
 case build t ps =>
  obtain ⟨ti, h1, h⟩ := AQ.1 h
  try dsimp only at h
  unfold OT at h
  split at h
  .rename_i fs hsh
   obtain ⟨l, h2, h3⟩ := NJ h.2
   exact nC _ ⟨ti, h1, by simp only [hsh]; exact ⟨h.1, NK h2⟩⟩ Iff.rfl h3
  .rename_i n e hsh
   obtain ⟨te, h2, h⟩ := AQ.1 h
   obtain ⟨l, h3, h4⟩ := NJ h
   exact nC _ ⟨ti, h1, by simp only [hsh]; exact ⟨te, h2, NK h3⟩⟩ Iff.rfl h4
  exact h.elim
 case fieldAddr t x i =>
  obtain ⟨ti, h1, h⟩ := AQ.1 h
  obtain ⟨fs, h2, h⟩ := Ej.1 h
  obtain ⟨f, h3, h⟩ := AR.1 h
  obtain ⟨tf, h4, h5, h⟩ := AQ.1 h
  try dsimp only at h
  unfold WM at h
  split at h <;> first | exact h.elim | (rename_i e; exact nC _ ⟨ti, fs, f.1, f.2, tf, h1, h2, h3, h4, h5, by simp only [e]⟩ Iff.rfl h)
 case indexAddr t x i =>
  obtain ⟨kk, n, h1, h⟩ := B7.1 h
  obtain ⟨ti, h2, h⟩ := AQ.1 h
  try dsimp only at h
  unfold iaS at h
  split at h
  .rename_i e1 e2
   obtain ⟨te, g1, g2, g3, h⟩ := AQ.1 h
   obtain ⟨c, g4, g5⟩ := AR.1 h
   exact nC _ ⟨kk, n, ti, h1, h2, by simp only [e1, e2]; exact ⟨⟨te, g1, g2⟩, g3, c, g4, rfl⟩⟩ Iff.rfl g5
  .rename_i e1 e2
   obtain ⟨te, g1, g2, ⟨g3, g4⟩, h⟩ := AQ.1 h
   exact nC _ ⟨kk, n, ti, h1, h2, by simp only [e1, e2]; exact ⟨⟨te, g1, g2⟩, g3, g4, trivial⟩⟩ Iff.rfl h
  .rename_i e1 e2
   obtain ⟨te, g1, ⟨g2, g3⟩, h⟩ := AQ.1 h
   exact nC _ ⟨kk, n, ti, h1, h2, by simp only [e1, e2]; exact ⟨te, g1, g2, g3, rfl⟩⟩ Iff.rfl h
  .rename_i e1 e2
   obtain ⟨te, g1, ⟨g2, g3⟩, h⟩ := AQ.1 h
   exact nC _ ⟨kk, n, ti, h1, h2, by simp only [e1, e2]; exact ⟨te, g1, g2, g3, rfl⟩⟩ Iff.rfl h
  exact h.elim
 case index t x i =>
  obtain ⟨kk, n, h1, h⟩ := B7.1 h
  obtain ⟨ti, h2, h0, h⟩ := AQ.1 h
  try dsimp only at h
  unfold ixS at h
  split at h
  .rename_i e1 e2
   obtain ⟨te, g1, g2, h⟩ := AQ.1 h
   obtain ⟨v, g3, g4⟩ := AR.1 h
   exact nC v ⟨kk, n, ti, h1, h2, h0, by simp only [e1, e2]; exact ⟨te, v, g1, g2, g3, rfl⟩⟩ Iff.rfl g4
  .rename_i e1 e2
   obtain ⟨te, g1, g2, h⟩ := AQ.1 h
   obtain ⟨v, g3, g4⟩ := AR.1 h
   exact nC v ⟨kk, n, ti, h1, h2, h0, by simp only [e1, e2]; exact ⟨te, v, g1, g2, g3, rfl⟩⟩ Iff.rfl g4
  .rename_i e1 e2
   obtain ⟨c, g1, g2⟩ := AR.1 h
   exact nC _ ⟨kk, n, ti, h1, h2, h0, by simp only [e1, e2]; exact ⟨c, g1, rfl⟩⟩ Iff.rfl g2
  exact h.elim
 case makeFunc fn first caps =>
  cases fn <;> simp only at h
  rename_i f
  exact nC _ ⟨by simpa using h.1, f, rfl, rfl⟩ Iff.rfl h.2
 case slice t x lo hi mx =>
  cases mx with
  | some m => exact h.elim
  | none => obtain ⟨l, h1, h2⟩ := WT h; exact nC l ⟨rfl, h1⟩ Iff.rfl h2
 case load t x =>
  obtain ⟨hc', h⟩ := h
  obtain ⟨ti, h1, h2⟩ := AQ.1 h
  obtain ⟨l, h3, h4⟩ := Xf h2
  exact ⟨l, .keep, ⟨rfl, hc', ti, h1, h3⟩, keep l h4⟩
 case store t x v =>
  obtain ⟨hc', h⟩ := h
  obtain ⟨ti, h1, h⟩ := AQ.1 h
  obtain ⟨ls, h2, ⟨h3, h4⟩, h⟩ := AR.1 h
  try dsimp only at h
  unfold Te at h
  split at h
  .rename_i id off e
   obtain ⟨o', g1, h⟩ := AR.1 h
   obtain ⟨cells, rfl, g2, h⟩ := Hy.1 h
   refine ⟨.any, .set _, ⟨hc', _, rfl, ?_⟩, goes _ _ _ _ rfl h⟩
   simp only [mW, Jd]
   exact ⟨ti, h1, ls, h2, h3, h4, by simp only [e]; exact ⟨cells, g1, g2, trivial, rfl⟩⟩
  .rename_i id i off e
   obtain ⟨o', g1, h⟩ := AR.1 h
   obtain ⟨e', sz, elems, rfl, h⟩ := D7.1 h
   obtain ⟨x, g2, h⟩ := AR.1 h
   obtain ⟨ds, g3, g4, h⟩ := AR.1 h
   refine ⟨.any, .set _, ⟨hc', _, rfl, ?_⟩, goes _ _ _ _ rfl h⟩
   simp only [mW, Jd]
   exact ⟨ti, h1, ls, h2, h3, h4, by simp only [e]; exact ⟨e', sz, elems, x, ds, g1, g2, g4, g3, trivial, rfl⟩⟩
  exact h.elim
 case alloc t => obtain ⟨ti, h1, h2⟩ := AQ.1 h; exact ⟨_, .new _, ⟨ti, h1, rfl, rfl⟩, goes _ _ _ _ rfl h2⟩
 case box t x => obtain ⟨ls, h1, h2⟩ := AR.1 h; exact ⟨_, .new _, ⟨ls, h1, rfl, rfl⟩, goes _ _ _ _ rfl h2⟩
 case buildSlice t n ps =>
  obtain ⟨ti, h1, h⟩ := AQ.1 h
  obtain ⟨e, h2, h⟩ := B2.1 h
  obtain ⟨te, h3, ⟨h4, h5⟩, h⟩ := AQ.1 h
  obtain ⟨l, h6, h7, h⟩ := AR.1 h
  rcases h with h | h
  .exact ⟨_, .new _, ⟨ti, e, te, l, h1, h2, h3, h4, h5, h6, h7, .inl ⟨rfl, rfl⟩⟩, goes _ _ _ _ rfl h⟩
  exact ⟨_, .keep, ⟨ti, e, te, l, h1, h2, h3, h4, h5, h6, h7, .inr ⟨rfl, rfl⟩⟩, keep _ h⟩
 case makeSlice t l c =>
  obtain ⟨ti, h1, h⟩ := AQ.1 h
  obtain ⟨e, h2, h⟩ := B2.1 h
  obtain ⟨te, h3, h⟩ := AQ.1 h
  obtain ⟨k1, n, h4, h⟩ := B7.1 h
  obtain ⟨k2, n', h5, ⟨h9, h6, h7, h8⟩, h⟩ := B7.1 h
  simp only at h9
  subst h9
  rcases h with h | h
  .exact ⟨_, .new _, ⟨ti, e, te, n', k1, k2, h1, h2, h3, h4, h5, h6, h7, h8, .inl ⟨rfl, rfl⟩⟩, goes _ _ _ _ rfl h⟩
  exact ⟨_, .keep, ⟨ti, e, te, n', k1, k2, h1, h2, h3, h4, h5, h6, h7, h8, .inr ⟨rfl, rfl⟩⟩, keep _ h⟩
 case makeMap t r =>
  cases r with
  | some r => exact h.elim
  | none => exact ⟨_, .new _, ⟨rfl, rfl, rfl⟩, goes _ _ _ _ rfl h⟩
 case lookup t x i ok =>
  obtain ⟨ti, h1, h⟩ := AQ.1 h
  obtain ⟨kt, et, h2, h⟩ := Dx.1 h
  obtain ⟨te, h3, h⟩ := AQ.1 h
  obtain ⟨m, h4, h⟩ := AR.1 h
  obtain ⟨kd, h5, ⟨h6, h7⟩, h⟩ := CX.1 h
  exact ⟨_, .keep, ⟨rfl, ti, kt, et, te, m, kd, h1, h2, h3, h4, h5, h6, h7, rfl⟩, keep _ h⟩
 case mapUpdate t x i v =>
  obtain ⟨ti, h1, h⟩ := AQ.1 h
  obtain ⟨kt, et, h2, h⟩ := Dx.1 h
  obtain ⟨id, h3, h⟩ := DP.1 h
  obtain ⟨o', h4, h⟩ := AR.1 h
  obtain ⟨m, rfl, h⟩ := D6.1 h
  obtain ⟨kd, h5, h⟩ := CX.1 h
  obtain ⟨vd, h6, ⟨h7, h8⟩, h⟩ := CX.1 h
  refine ⟨.any, .set _, ⟨_, rfl, ?_⟩, goes _ _ _ _ rfl h⟩
  simp only [mW, MO]
  exact ⟨ti, kt, et, id, m, kd, vd, h1, h2, h3, h4, h5, h6, h7, h8, trivial, rfl⟩
 case mapEntry t x i =>
  obtain ⟨ti, h1, h⟩ := AQ.1 h
  obtain ⟨kt, et, h2, h⟩ := Dx.1 h
  obtain ⟨te, h3, h⟩ := AQ.1 h
  obtain ⟨id, h4, h⟩ := DP.1 h
  obtain ⟨o', h5, h⟩ := AR.1 h
  obtain ⟨m, rfl, h⟩ := D6.1 h
  obtain ⟨kd, h6, ⟨h7, h8⟩, h⟩ := CX.1 h
  refine ⟨_, .set _, ⟨_, rfl, ?_⟩, goes _ _ _ _ rfl h⟩
  simp only [mW, MP]
  exact ⟨ti, kt, et, te, id, m, kd, h1, h2, h3, h4, h5, h6, h7, h8, rfl, rfl⟩
 case entryStore t x s v =>
  obtain ⟨id, h1, h⟩ := DP.1 h
  obtain ⟨o', h2, h⟩ := AR.1 h
  obtain ⟨m, rfl, h⟩ := D6.1 h
  obtain ⟨kk, n, h3, h⟩ := B7.1 h
  obtain ⟨vd, h4, h0, h⟩ := CX.1 h
  obtain ⟨p, h5, h⟩ := AR.1 h
  refine ⟨.any, .set _, ⟨_, rfl, ?_⟩, goes _ _ _ _ rfl h⟩
  simp only [mW, ON]
  exact ⟨id, m, kk, n, vd, p, h1, h2, h3, h0, h5, h4, trivial, rfl⟩
 case call c =>
  obtain ⟨callee, args, ats⟩ := c
  simp only at h
  split at h
  .rename_i x t e2 e3
   obtain ⟨ti, h1, h⟩ := AQ.1 h
   have ha : args = #[x] := by rw [<- Array.toList_inj, e2]
   have hb : ats = #[t] := by rw [<- Array.toList_inj, e3]
   try dsimp only at h
   unfold WS at h
   split at h
   .rename_i g; exact nC _ (by simp only [nW]; exact ⟨x, t, ti, ha, hb, h1, by simp only [g]⟩) Iff.rfl h
   .rename_i g1 g2; exact nC _ (by simp only [nW]; exact ⟨x, t, ti, ha, hb, h1, by simp only [g1, g2, Kp]; try (intros; trivial)⟩) Iff.rfl h
   .rename_i g1 g2; exact nC _ (by simp only [nW]; exact ⟨x, t, ti, ha, hb, h1, by simp only [g1, g2, Kp]; try (intros; trivial)⟩) Iff.rfl h
   .rename_i g1 g2; exact nC _ (by simp only [nW]; exact ⟨x, t, ti, ha, hb, h1, by simp only [g1, g2, Kp]; try (intros; trivial)⟩) Iff.rfl h
   .rename_i g1 g2; exact nC _ (by simp only [nW]; exact ⟨x, t, ti, ha, hb, h1, by simp only [g1, g2, Kp]; try (intros; trivial)⟩) Iff.rfl h
   exact h.elim
  .exact h.elim
  .exact h.elim
  .exact h.elim
  .rename_i s0 r0 e20
   obtain ⟨hap, h⟩ := h
   have h : IG P A AD st o.dst ⟨.builtin .append, args, ats⟩ K := h
   unfold IG at h
   simp only at h
   split at h
   .simp_all
   .rename_i s x t t' _ e2 e3
    obtain ⟨rfl, h⟩ := h
    obtain ⟨ti, h1, h⟩ := AQ.1 h
    obtain ⟨e, h2, h⟩ := B2.1 h
    obtain ⟨te, h3, h4, h⟩ := AQ.1 h
    obtain ⟨new, h5, h6, h⟩ := AR.1 h
    have ha : args = #[s, x] := by rw [<- Array.toList_inj, e2]
    have hap : XX AD st ⟨.builtin .append, args, ats⟩ := fun s' hs' => by
     rw [ha] at hs'; cases hs'
     have : s0 = s := by rw [e20] at e2; injection e2
     rw [<- this]; exact hap
    have hb : ats = #[t', t'] := by rw [<- Array.toList_inj, e3]
    try dsimp only at h
    unfold WO at h
    split at h
    .rename_i e9
     refine ⟨_, .set _, ⟨hap, _, rfl, ?_⟩, goes _ _ _ _ rfl h.2⟩
     simp only [mW]
     exact ⟨trivial, s, x, t', ha, hb, ti, e, te, h1, h2, h3, h4, new, h5, h6, by simp only [e9]; exact ⟨h.1.1, h.1.2, trivial, trivial⟩⟩
    .rename_i id sz off len e9
     obtain ⟨hsz, h⟩ := h
     obtain ⟨o', g1, h⟩ := AR.1 h
     obtain ⟨e', sz', elems, rfl, ⟨k1, k2, g2, g3, g4⟩, h9⟩ := D7.1 h
     subst k1; subst k2
     refine ⟨_, .set _, ⟨hap, _, rfl, ?_⟩, goes _ _ _ _ rfl h9⟩
     simp only [mW]
     exact ⟨trivial, s, x, t', ha, hb, ti, e', te, h1, h2, h3, h4, new, h5, h6, by simp only [e9]; exact ⟨elems, hsz, g1, g2, g3, g4, trivial, rfl⟩⟩
    exact h.elim
   all_goals simp_all
  .rename_i f
   split at h
   .rename_i hd
    obtain ⟨l, h', g1, g2⟩ := h
    exact ⟨l, .set h', by show (if Dn f = true then _ else _); rw [if_pos hd]; exact ⟨h', rfl, g1⟩, goes _ _ _ _ rfl g2⟩
   rename_i hnd
   obtain ⟨k, caps, g1, g2⟩ := Vh.1 h
   rcases g2 with ⟨ds, r, g3, g4, g5, g6⟩ | ⟨g0, ds, t, sz, elems, g3, g4, g5, g6⟩
   .exact ⟨_, .keep, by show (if Dn f = true then _ else _); rw [if_neg hnd]; exact .inl ⟨rfl, k, caps, ds, r, g1, g3, g4, g5, rfl⟩, keep _ g6⟩
   exact ⟨_, .new _, by show (if Dn f = true then _ else _); rw [if_neg hnd]; exact .inr ⟨g0, k, caps, ds, t, sz, elems, g1, g3, g4, g5, rfl, rfl⟩, goes _ _ _ _ rfl g6⟩
  rename_i hne
  unfold IG at h
  simp only at h
  split at h
  .simp_all
  .simp_all
  .simp_all
  .simp_all
  .rename_i x t e2 e3
   simp_all
  .obtain ⟨r, h1, h⟩ := AR.1 h
   exact nC _ (by simp only [nW]; exact ⟨r, h1, rfl⟩) Iff.rfl h
  .obtain ⟨r, h1, h⟩ := AR.1 h
   exact nC _ (by simp only [nW]; exact ⟨r, h1, rfl⟩) Iff.rfl h
  exact h.elim
 all_goals exact h.elim
def GD (ops : List Oper) (order : List Nat) : List (Nat × HW) :=
 match order with
 | [] => []
 | i :: rest => match ops[i]? with
  | some o => (i, OR ops o) :: GD ops rest
  | none => []
theorem Ji {ops : List Oper} {base : Nat} {K : A5 St} : ∀ (order : List Nat) (st : St), (order.all fun i => decide (i < ops.length)) = true -> C8 P A AD base ops.length K (GD ops order) st ->
  GC P AD ops.toArray base (fun st' => K.f { st' with ctr := base + ops.length }) order st
 | [], st, _, h => h.h
 | i :: rest, st, hb, h => by
  simp only [List.all_cons, Bool.and_eq_true, decide_eq_true_eq] at hb
  obtain ⟨o, ho⟩ : ∃ o, ops[i]? = some o := ⟨_, List.getElem?_eq_getElem hb.1⟩
  have ih := Ji (ops := ops) (base := base) (K := K) rest
  have hp : GD ops (i :: rest) = (i, OR ops o) :: GD ops rest := by simp [GD, ho]
  rw [hp] at h
  have ho' : ops.toArray[i]? = some o := by simpa using ho
  have step : Jh P A AD (st.at (base + i)) o.dst o.op ⟨C8 P A AD base ops.length K (GD ops rest), ⟨⟩⟩ ->
    ∃ l e, B1 P AD (st.at (base + i)) o.op l e /\ GC P AD ops.toArray base (fun st' => K.f { st' with ctr := base + ops.length }) rest (apS st (base + i) o l e) := fun h => by
   obtain ⟨l, e, h1, h2⟩ := Zm (fun s c hk => by
    have := Qv (P := P) (A := A) (AD := AD) base ops.length K (GD ops rest) s c
    simp only at hk ⊢
    rw [<- this]; exact hk) h (o := o) rfl
   refine ⟨l, e, h1, ih _ hb.2 ?_⟩
   have e1 : apS (st.at (base + i)) (st.at (base + i)).ctr o l e = (apS st (base + i) o l e).at (base + i) := by
    unfold apS St.at St.put
    cases o.dst <;> rfl
   simp only at h2
   rw [e1, Qv] at h2
   exact h2
  simp only [GC, ho']
  simp only [OR] at h
  cases hg : o.guard with
  | none =>
   rw [hg] at h
   exact step h
  | some g =>
   obtain ⟨j, want⟩ := g
   rw [hg] at h
   simp only [C8, SK] at h
   unfold gM at h
   have sk : C8 P A AD base ops.length K (GD ops rest) (st.put o.dst .und) -> GC P AD ops.toArray base (fun st' => K.f { st' with ctr := base + ops.length }) rest (apS st (base + i) o .und .keep) := fun h => by
    have e1 : apS st (base + i) o .und .keep = st.put o.dst .und := rfl
    rw [e1]; exact ih _ hb.2 h
   simp only
   split at h
   .rename_i b e
    try simp only [e]
    exact ⟨fun hb => step (h.1 hb), fun hb => sk (h.2 hb)⟩
   .rename_i e
    try simp only [e]
    exact sk h
   exact h.elim
end
end Go.E
/- The equations by which a drawn region is reckoned. Written by a program (mkev.py). No condition. -/
namespace Go.E
open Go Go.RowKit
section
variable {P : Program}
theorem ABx {h : AP} {k : Nat} {args : List LV} {ds : List DV} {r : DV} {f : DV -> Prop} {hf : HT f} (hds : Bs h args = some ds) (hF : Ax P k ds (· = r))
  (hs : r.scalar = true \/ args.flatMap (D5 h) = []) (hK : f r) : Ym P h k args ⟨f, hf⟩ := ⟨ds, r, hds, hF, hs, hK⟩
end
end Go.E
/- Functions that hand back a slice of their own: the caller may write into it. No condition. -/
namespace Go.E
open Go Go.RowKit
section
variable {P : Program} {A : BB} {AD : A3}
theorem Cq.own {h : AP} {ctr k : Nat} {args : List LV} {ds : List DV} {e sz : Nat} {elems : List (List DV)} {K : LV -> AP -> Nat -> Prop} (hds : Bs h args = some ds) (hf : GQ P k ds e sz elems)
  (hl : args.flatMap (D5 h) = []) (hK : K (.lsl ctr sz 0 elems.length) ((ctr, .row e sz elems) :: h) (ctr + 1)) : Cq P A h ctr k args K := by
 refine ⟨hf.enters, fun μ w vs hh hsz hr => ?_⟩
 obtain ⟨g1, g2⟩ := Eh hh (l := args.flatMap (D5 h)) hds (fun id hid => hid)
 rw [hl] at g2
 have hO : ∀ b, Ag A μ h b -> b < w.heap.size := by
  rintro b (hb | ⟨id, x, lc, h1, h2, h3, rfl⟩)
  .exact Nat.lt_of_lt_of_le (A.hO b hb).1 hh.size
  exact (hh.base id x lc h1 h2 h3).1
 refine (hf.run (Ag A μ h) w vs hO (by omega) fun i v d hv hd => ?_).mono fun en w' ⟨v, he, hn, hb⟩ => ?_
 .have hi := (List.getElem?_eq_some_iff.1 hd).1
  have hx : args[i]? = some (args[i]'(by omega)) := List.getElem?_eq_getElem _
  exact g2 i v _ d hx hd (hr i v _ hv hx)
 have hno : μ ctr = none := hh.fresh ctr (Nat.le_refl _)
 obtain ⟨hlen, hn⟩ := hn
 have hkm : BH (Bk μ h) w w' := ⟨hb.size, fun b hb' _ => hb.block b hb'⟩
 have hsub : ∀ id x, AJ id ((ctr, A9.row e sz elems) :: h) = some x -> (id = ctr /\ x = .row e sz elems) \/ AJ id h = some x := by
  intro id x hx
  simp only [AJ] at hx
  split at hx
  .cases hx; exact .inl ⟨‹_›, rfl⟩
  exact .inr hx
 have hold : ∀ id x lc, AJ id ((ctr, A9.row e sz elems) :: h) = some x -> id ≠ ctr -> μ id = some lc -> lc.nil = false -> w'.heap[lc.b]? = w.heap[lc.b]? := by
  intro id x lc hx hne hm hnl
  rcases hsub id x hx with ⟨rfl, _⟩ | hx
  .exact absurd rfl hne
  exact hb.block _ (hh.base id x lc hx hm hnl).1
 have fin : ∀ (loc : BQ), (loc.nil = false -> loc.b < w'.heap.size /\ w.heap.size <= loc.b) ->
   (∀ O' : Nat -> Prop, (∀ b, O' b -> Ag A μ h b \/ (loc.nil = false /\ b = loc.b)) -> Co O' (Bl μ ctr loc) w' loc (.row e sz elems)) ->
   (∀ O', AZ O' (Bl μ ctr loc) w' v (.lsl ctr sz 0 elems.length)) ->
   ∃ u l h' c' μ', en = .returned u /\ K l h' c' /\ HRel A μ' h' (Fr c') w' /\ AZ (Ag A μ' h') μ' w' u l /\ ∀ v x, AZ (Ag A μ h) μ w v x -> AZ (Ag A μ' h') μ' w' v x := by
  intro loc hloc ho hu
  have hfr : M4 μ h ((ctr, A9.row e sz elems) :: h) w loc := fun hn => .inl (hloc hn).2
  have hown := hh.sub_add loc (.row e sz elems) ((ctr, .row e sz elems) :: h) hfr hsub
  have hcov : ∀ b, Ag A (Bl μ ctr loc) ((ctr, .row e sz elems) :: h) b -> Ag A μ h b \/ (loc.nil = false /\ b = loc.b) := by
   rintro b (hb' | ⟨id, x, lc, h1, h2, h3, h4⟩)
   .exact .inl (.inl hb')
   by_cases e' : id = ctr
   .subst e'
    simp only [Bl, if_true, Option.some.injEq] at h2
    subst h2; exact .inr ⟨h3, h4.symm⟩
   rcases hsub id x h1 with ⟨e'', _⟩ | h1
   .exact absurd e'' e'
   simp only [Bl, e', if_false] at h2
   exact .inl (.inr ⟨id, x, lc, h1, h2, h3, h4⟩)
  have hadd := hh.add (w' := w') hno loc (.row e sz elems) ((ctr, .row e sz elems) :: h) (fun hn => (hloc hn).1) hfr hsub hkm hold hb.os hb.tape hb.output (ho _ hcov)
  exact ⟨v, _, _, _, _, he, hK, hadd.less (fun id hid => by simp only [Fr] at hid ⊢; omega), hu _, fun v x hv => hv.mono hkm.own hown (JH hno loc)⟩
 rcases hn with ⟨rfl, rfl⟩ | ⟨a, b, o, cap, c, rfl, h1, h2, h3, h4, h5, h6, h7, h8, h9, h10⟩
 .exact fin ⟨true, 0, 0, sz, 0⟩ (fun hn => by cases hn) (fun O' _ => ⟨rfl, hlen, .inl ⟨rfl, rfl⟩⟩) (fun O' => .lsln ctr ⟨true, 0, 0, sz, 0⟩ (by simp [Bl]) rfl)
 refine fin ⟨false, b, o, sz, cap⟩ (fun _ => ⟨h2, h1⟩) (fun O' hO' => ⟨rfl, hlen, .inr ⟨rfl, c, h6, h7, h8, h9, fun i j x d u hx hd hu => ?_⟩⟩) (fun O' => ?_)
 .refine (h10 i j x d u hx hd hu).mono (BH.refl _ _) fun q _ hq => ?_
  rcases hO' q hq with hq | ⟨_, hq⟩
  .exact .inl hq
  exact .inr hq
 exact .lsl ctr 0 elems.length cap a ⟨false, b, o, sz, cap⟩ (by simp [Bl]) rfl (by simp) h8 (fun hc => by rw [h3 hc]; simp) h4 h5
def WU (t e sz : Nat) (elems : List (List DV)) : Exit -> St -> Prop := M7 fun st =>
 (∃ id, st.eval (.tmp t) = .lsl id sz 0 elems.length /\ AJ id st.heap = some (.row e sz elems)) \/ (st.eval (.tmp t) = .p .nils /\ elems = [])
theorem Zn {k : Nat} {fn : Func} {c : Code} (hf : P.funcs[k]? = some fn) (hb : fn.body = some c) (hn : (fn.name == "runtime.NumGoroutine") = false) (nt : Nat) (hnt : fn.ntmps = nt) (t : Nat) (hrs : fn.results.toList = [.tmp t]) {ds : List DV} (hlen : ds.length <= nt)
  {e sz : Nat} {elems : List (List DV)} (hel : ∀ x ∈ elems, x.length = sz)
  (h : ∀ A : BB, (∀ id, A.μ0 id = none) -> B0 P A c (WU t e sz elems) ⟨nt, C0 0 ds, [], 0⟩) : GQ P k ds e sz elems := by
 subst hnt
 refine ⟨Dr hf hb hn, fun O w vs hO hsz hrel => ?_⟩
 let A : BB := ⟨w, O, fun _ => False, fun _ => none, fun b hb => ⟨hO b hb, id⟩⟩
 have hR : R A ⟨fn.ntmps, C0 0 ds, [], 0⟩ { tmps := vs ++ Array.replicate (fn.ntmps - vs.size) undef, defers := [] } w := by
  refine ⟨⟨fun _ => none, ⟨by simp [AJ], by simp [AJ], fun _ _ => rfl, by simp [AJ], Nat.le_refl _, fun _ _ _ => rfl, rfl, rfl, rfl, by simp [A]⟩, fun t ht => ?_⟩, by simp; omega, rfl⟩
  have hown : ∀ b, Ag A (fun _ => none) [] b -> O b := by
   rintro b (hb | ⟨id, x, lc, h1, _⟩)
   .exact hb
   simp [AJ] at h1
  simp only [BW, OJ, Nat.zero_le, if_true, Nat.sub_zero]
  by_cases hlt : t < ds.length
  .have hv : t < vs.size := by omega
   have e : ds[t]? = some ds[t] := by simp [hlt]
   rw [e]
   simp only [Option.map_some]
   have e2 : (vs ++ Array.replicate (fn.ntmps - vs.size) undef).getD t undef = vs[t] := by
    rw [Array.getD_eq_getD_getElem?, Array.getElem?_append_left hv]; simp [hv]
   rw [e2]
   exact .p _ _ ((hrel t _ _ (by simp [hv]) e).mono (BH.refl _ _) (fun b _ hb => hown b hb))
  have e : ds[t]? = none := by simp; omega
  rw [e]; exact .any _
 refine calls_of_wp hf hb (wp_mono (h A (fun _ => rfl) _ _ hR) ?_)
 rintro en a' w' ⟨st', ⟨⟨μ, hh, hs⟩, hnt, hdef⟩, hq⟩
 have hres : (results fn a'.tmps).run P w' = .ok (a'.eval (.tmp t)) w' := by
  have : (fn.results.toList.mapM (Lv P a'.tmps)).run P w' = .ok [a'.eval (.tmp t)] w' := by
   rw [hrs]; simp [List.mapM_cons, Lv, Act.eval]
  exact Lx this
 have hbel : Below w.heap.size w w' := ⟨hh.os, hh.tape, hh.output, hh.size, fun b hb => hh.block b hb id⟩
 have fin : ((∃ id, st'.eval (.tmp t) = .lsl id sz 0 elems.length /\ AJ id st'.heap = some (.row e sz elems)) \/ (st'.eval (.tmp t) = .p .nils /\ elems = [])) ->
   a'.defers = [] /\ ∃ v, (results fn a'.tmps).run P w' = .ok v w' /\ ∃ u, Ending.returned v = .returned u /\ Kh w w' O u e sz elems /\ Below w.heap.size w w' := by
  intro hc
  refine ⟨hdef, _, hres, _, rfl, ?_, hbel⟩
  have hv := GO hs (.tmp t)
  rcases hc with ⟨id, h1, h2⟩ | ⟨h1, rfl⟩
  .rw [h1] at hv
   generalize a'.eval (.tmp t) = v at hv
   obtain ⟨loc, m1, ⟨_, m2, m3⟩⟩ := hh.obj id _ h2
   refine ⟨hel, ?_⟩
   generalize hq0 : (0 : Nat) = off at hv
   generalize hq1 : elems.length = n at hv
   cases hv with
   | lsln _ loc' k1 k2 => exact .inl ⟨rfl, by cases elems <;> simp_all⟩
   | lsl _ _ _ cap ad loc' k1 k2 k3 k4 k5 k6 k7 =>
    subst hq0; subst hq1
    rw [m1] at k1; cases k1
    rcases m3 with ⟨m4, _⟩ | ⟨m4, c, m5, m6, m7, m8, m9⟩
    .rw [k2] at m4; cases m4
    have hbase := hh.base id _ loc h2 m1 k2
    refine .inr ⟨ad, loc.b, loc.o, cap, c, rfl, ?_, hbase.1, fun hc => by simpa using k5 hc, k6, k7, m5, by rw [show cap = loc.cap by omega]; exact m6, k4, by omega, fun i j x d u hx hd hu => ?_⟩
    .rcases hbase.2.2 with hb | hb
     .exact hb
     exact hb.elim
    refine (m9 i j x d u hx hd hu).mono (BH.refl _ _) fun q _ hq => ?_
    rcases hq with hq | rfl
    .exact .inl hq
    exact .inr ⟨id, _, loc, h2, m1, k2, rfl⟩
  rw [h1] at hv
  exact ⟨by simp, .inl ⟨hv.nils_inv, rfl⟩⟩
 cases en with
 | normal => exact fin hq
 | ret => exact fin hq
 | _ => exact hq.elim
theorem ABP {h : AP} {c k : Nat} {args : List LV} {ds : List DV} {e sz : Nat} {elems : List (List DV)} {f : LV × AP × Nat -> Prop} {hf : HT f} (hds : Bs h args = some ds) (hF : GQ P k ds e sz elems)
  (hs : args.flatMap (D5 h) = []) (hK : f (.lsl c sz 0 elems.length, (c, .row e sz elems) :: h, c + 1)) : JM P A h c k args ⟨f, hf⟩ :=
 Cq.own hds hF hs hK
end
end Go.E
/- Operations reckoned by unfolding alone (FN, FO, FP): a run of operations of which each gives its value at once. No condition. -/
namespace Go.E
open Go Go.RowKit
def Bc {α : Type} (t : Nat) : List (Nat × α) -> Option α
 | [] => none
 | p :: l => match Nat.beq t p.1 with
  | true => some p.2
  | false => Bc t l
theorem BN {α : Type} {t : Nat} : ∀ {l : List (Nat × α)}, Bc t l = AJ t l
 | [] => rfl
 | (k, v) :: l => by
  simp only [Bc, AJ]
  by_cases h : t = k
  .subst h; simp
  rw [if_neg h]
  have : Nat.beq t k = false := by
   cases hb : Nat.beq t k with
   | false => rfl
   | true => exact absurd (Nat.eq_of_beq_eq_true hb) h
  rw [this]
  exact BN
def BD (nt : Nat) (sl : List (Nat × LV)) (x : Operand) : LV :=
 match x with
 | .tmp t => match Nat.blt t nt with
  | true => match Bc t sl with
   | some v => v
   | none => .any
  | false => .any
 | .const v => PU v
 | .func f => .fn f []
 | .global _ => .any
theorem BE {nt : Nat} {sl : List (Nat × LV)} {h : AP} {c : Nat} {x : Operand} : BD nt sl x = (⟨nt, sl, h, c⟩ : St).eval x := by
 cases x with
 | tmp t =>
  simp only [BD, St.eval, BW, BN]
  by_cases hb : t < nt
  .rw [if_pos hb]
   have : Nat.blt t nt = true := Nat.ble_eq_true_of_le hb
   rw [this]; rfl
  rw [if_neg hb]
  have : Nat.blt t nt = false := by
   cases hq : Nat.blt t nt with
   | false => rfl
   | true => exact absurd (Nat.le_of_ble_eq_true hq) hb
  rw [this]
 | const v => rfl
 | func f => rfl
 | global g => rfl
section
variable {α β γ : Type}
def EG : List α -> Nat -> List α
 | l, 0 => l
 | [], _ + 1 => []
 | _ :: l, n + 1 => EG l n
theorem I2 : ∀ {l : List α} {n : Nat}, EG l n = l.drop n
 | l, 0 => by simp [EG]
 | [], _ + 1 => by simp [EG]
 | _ :: l, n + 1 => by simp only [EG, List.drop_succ_cons]; exact I2
def KS : List α -> Nat -> (List α -> Option β) -> Option β
 | _, 0, k => k []
 | x :: l, n + 1, k => KS l n (fun r => k (x :: r))
 | [], _ + 1, _ => none
theorem QJ : ∀ {l : List α} {n : Nat} {k : List α -> Option β}, KS l n k = (DH l n).bind k
 | _, 0, k => by simp [KS, DH]
 | x :: l, n + 1, k => by
  simp only [KS, DH]
  rw [QJ]
  cases DH l n <;> rfl
 | [], _ + 1, _ => by simp [KS, DH]
def Rr : List LV -> (List DV -> Option β) -> Option β -> Option β
 | [], k, _ => k []
 | .p d :: l, k, e => Rr l (fun ds => k (d :: ds)) e
 | _ :: _, _, e => e
theorem Rs : ∀ {l : List LV} {k : List DV -> Option β} {e : Option β}, Rr l k e = match GR l with | some ds => k ds | none => e
 | [], k, e => by simp [Rr, GR]
 | x :: l, k, e => by
  cases x with
  | p d =>
   simp only [Rr, GR]
   rw [Rs]
   cases GR l <;> rfl
  | _ => rfl
def Rt (l : List LV) (k : LV -> Option β) : Option β := Rr l (fun ds => k (.p (.agg ds))) (k (.agg l))
theorem Ru {l : List LV} {k : LV -> Option β} : Rt l k = k (Er l) := by
 unfold Rt Er
 rw [Rs]
 cases GR l <;> rfl
def TF (ti : TI) (off : Nat) (l : List LV) (k : LV -> Option β) : Option β :=
 match ti.sh with
 | .struct _ | .arr _ _ => KS (EG l off) ti.size (fun r => Rt r k)
 | _ => match EG l off with
  | v :: _ => k v
  | [] => none
theorem Tj {ti : TI} {off : Nat} {l : List LV} {k : LV -> Option β} : TF ti off l k = (Cr ti off l).bind k := by
 have hd : (match EG l off with
  | v :: _ => k v
  | [] => none) = l[off]?.bind k := by
  rw [I2]
  cases hq : l.drop off with
  | nil => simp at hq; simp [List.getElem?_eq_none hq]
  | cons v r =>
   have : l[off]? = some v := by
    have := congrArg (·[0]?) hq
    simpa [List.getElem?_drop] using this
   simp [this]
 have ha : KS (EG l off) ti.size (fun r => Rt r k) = ((DH (l.drop off) ti.size).map Er).bind k := by
  rw [QJ, I2]
  cases DH (l.drop off) ti.size with
  | none => rfl
  | some r => simp [Ru]
 unfold TF Cr
 cases hsh : ti.sh <;> simp only [Sh.isAgg] <;> first | exact ha | exact hd
def Qw (ti : TI) (off : Nat) (l : List DV) (k : LV -> Option β) : Option β :=
 match ti.sh with
 | .struct _ | .arr _ _ => KS (EG l off) ti.size (fun r => k (.p (.agg r)))
 | _ => match EG l off with
  | v :: _ => k (.p v)
  | [] => none
theorem SL {f : α -> γ} : ∀ {l : List α} {n : Nat}, DH (l.map f) n = (DH l n).map (List.map f)
 | _, 0 => by simp [DH]
 | x :: l, n + 1 => by
  simp only [List.map_cons, DH]
  rw [SL]
  cases DH l n <;> rfl
 | [], _ + 1 => by simp [DH]
theorem Xg {l : List DV} : Er (l.map .p) = .p (.agg l) := by simp [Er, Tg]
theorem QK {ti : TI} {off : Nat} {l : List DV} {k : LV -> Option β} : Qw ti off l k = (Cr ti off (l.map .p)).bind k := by
 have hd : (match EG l off with
  | v :: _ => k (.p v)
  | [] => none) = (l.map LV.p)[off]?.bind k := by
  rw [I2, List.getElem?_map]
  cases hq : l.drop off with
  | nil => simp at hq; simp [List.getElem?_eq_none hq]
  | cons v r =>
   have : l[off]? = some v := by
    have := congrArg (·[0]?) hq
    simpa [List.getElem?_drop] using this
   simp [this]
 have ha : KS (EG l off) ti.size (fun r => k (.p (.agg r))) = ((DH ((l.map LV.p).drop off) ti.size).map Er).bind k := by
  rw [QJ, I2, <- List.map_drop, SL]
  cases DH (l.drop off) ti.size with
  | none => rfl
  | some r => simp [Xg]
 unfold Qw Cr
 cases hsh : ti.sh <;> simp only [Sh.isAgg] <;> first | exact ha | exact hd
def NM : List DV -> (List LV -> Option β) -> Option β
 | [], k => k []
 | d :: l, k => NM l (fun r => k (.p d :: r))
theorem Kr : ∀ {l : List DV} {k : List LV -> Option β}, NM l k = k (l.map .p)
 | [], k => rfl
 | d :: l, k => by simp only [NM, List.map_cons]; rw [Kr]
def Ks (v : LV) (k : List LV -> Option β) : Option β :=
 match v with
 | .p (.agg l) => NM l k
 | .agg l => k l
 | .p (.tup _) | .tup _ | .any | .und => none
 | v => k [v]
theorem Jk {v : LV} {k : List LV -> Option β} : Ks v k = v.cells.bind k := by
 cases v with
 | p d => cases d <;> first | rfl | (simp only [Ks, LV.cells]; rw [Kr]; rfl)
 | _ => rfl
def PX : List LV -> List LV -> (List LV -> Option β) -> Option β
 | l, [], k => k l
 | [], _ :: _, _ => none
 | _ :: l, v :: vs, k => PX l vs (fun r => k (v :: r))
def QL : List LV -> Nat -> List LV -> (List LV -> Option β) -> Option β
 | l, 0, vs, k => PX l vs k
 | [], _ + 1, _, _ => none
 | x :: l, n + 1, vs, k => QL l n vs (fun r => k (x :: r))
theorem Tk : ∀ {l vs : List LV} {k : List LV -> Option β} {y : β}, PX l vs k = some y -> vs.length <= l.length /\ k (CN.over l vs) = some y
 | l, [], k, y, h => by simp only [PX] at h; exact ⟨by simp, by simpa [CN.over] using h⟩
 | [], _ :: _, _, _, h => by simp [PX] at h
 | _ :: l, v :: vs, k, y, h => by
  simp only [PX] at h
  obtain ⟨h1, h2⟩ := Tk h
  exact ⟨by simpa using h1, h2⟩
theorem Rv : ∀ {l : List LV} {n : Nat} {vs : List LV} {k : List LV -> Option β} {y : β}, QL l n vs k = some y -> n + vs.length <= l.length /\ k (CN l n vs) = some y
 | l, 0, vs, k, y, h => by
  obtain ⟨h1, h2⟩ := Tk (by simpa only [QL] using h)
  cases l <;> exact ⟨by simpa using h1, h2⟩
 | [], _ + 1, _, _, _, h => by simp [QL] at h
 | x :: l, n + 1, vs, k, y, h => by
  simp only [QL] at h
  obtain ⟨h1, h2⟩ := Rv h
  exact ⟨by simp only [List.length_cons]; omega, h2⟩
def J7 (t : Nat) (v : A9) : AP -> (AP -> Option β) -> Option β
 | [], k => k []
 | (q, u) :: l, k => match Nat.beq t q with
  | true => k ((q, v) :: l)
  | false => J7 t v l (fun r => k ((q, u) :: r))
theorem Fy {t : Nat} {v : A9} : ∀ {l : AP} {k : AP -> Option β}, J7 t v l k = k (BR t v l)
 | [], k => rfl
 | (q, u) :: l, k => by
  simp only [J7, BR]
  by_cases h : t = q
  .subst h; simp
  have : Nat.beq t q = false := by
   cases hb : Nat.beq t q with
   | false => rfl
   | true => exact absurd (Nat.eq_of_beq_eq_true hb) h
  rw [this, if_neg h]
  exact Fy
def OW : List LV -> Bool
 | [] => true
 | v :: l => match v.one with
  | true => OW l
  | false => false
theorem OX : ∀ {l : List LV}, OW l = l.all LV.one
 | [] => rfl
 | v :: l => by
  simp only [OW, List.all_cons]
  cases v.one with
  | true => rw [OX]; rfl
  | false => rfl
def OY (sz : Nat) : Nat -> List (Nat × LV) -> (List (List DV) -> Option β) -> Option β
 | _, [], k => k []
 | n, p :: rest, k => match Nat.beq p.1 n with
  | true => Ks p.2 fun ls => Rr ls (fun ds => match Nat.beq ds.length sz with
   | true => OY sz (n + 1) rest (fun r => k (ds :: r))
   | false => none) none
  | false => none
theorem OZ {sz : Nat} : ∀ {ps : List (Nat × LV)} {n : Nat} {k : List (List DV) -> Option β} {y : β}, OY sz n ps k = some y -> ∃ l, GL sz n ps = some l /\ k l = some y
 | [], n, k, y, h => ⟨[], by simp [GL], h⟩
 | (i, v) :: rest, n, k, y, h => by
  simp only [OY] at h
  split at h
  .rename_i hb
   have hi : i = n := Nat.eq_of_beq_eq_true hb
   subst hi
   rw [Jk] at h
   cases hc : v.cells with
   | none => rw [hc] at h; simp at h
   | some ls =>
    rw [hc] at h
    simp only [Option.bind_some] at h
    rw [Rs] at h
    cases ha : GR ls with
    | none => rw [ha] at h; simp at h
    | some ds =>
     rw [ha] at h
     simp only at h
     split at h
     .rename_i hl
      obtain ⟨r, h1, h2⟩ := OZ h
      refine ⟨ds :: r, ?_, h2⟩
      simp only [GL, if_true, hc, ha, h1]
      rw [if_pos (Nat.eq_of_beq_eq_true hl)]
     cases h
  cases h
def Rw (v : LV) (k : LV -> Option β) : Option β :=
 match v with
 | .p d => k (.p d)
 | .lsl a b c d => k (.lsl a b c d)
 | .lpb a b => k (.lpb a b)
 | .lpe a b c => k (.lpe a b c)
 | .lmap a => k (.lmap a)
 | .agg l => k (.agg l)
 | .tup l => k (.tup l)
 | .fn g l => k (.fn g l)
 | .und => k .und
 | .any => k .any
theorem MT {v : LV} {k : LV -> Option β} : Rw v k = k v := by cases v <;> rfl
def NN (nt : Nat) (sl : List (Nat × LV)) : List (Nat × Operand) -> (List (Nat × LV) -> Option β) -> Option β
 | [], k => k []
 | (i, x) :: l, k => Rw (BD nt sl x) fun v => NN nt sl l (fun r => k ((i, v) :: r))
theorem Kt {nt : Nat} {sl : List (Nat × LV)} : ∀ {l : List (Nat × Operand)} {k : List (Nat × LV) -> Option β}, NN nt sl l k = k (l.map fun p => (p.1, BD nt sl p.2))
 | [], k => rfl
 | (i, x) :: l, k => by simp only [NN, List.map_cons]; rw [MT, Kt]
def D8 (nt : Nat) (sl : List (Nat × LV)) : List Operand -> (List LV -> Option β) -> Option β
 | [], k => k []
 | p :: l, k => Rw (BD nt sl p) fun v => D8 nt sl l (fun r => k (v :: r))
theorem Jl {nt : Nat} {sl : List (Nat × LV)} : ∀ {l : List Operand} {k : List LV -> Option β}, D8 nt sl l k = k (l.map fun p => BD nt sl p)
 | [], k => rfl
 | p :: l, k => by simp only [D8, List.map_cons]; rw [MT, Jl]
def Oa (AD : A3) (pl : Nat -> Option (Nat × Nat)) : List LV -> List (Nat × LV) -> (List LV -> Option β) -> Option β
 | cells, [], k => k cells
 | cells, (i, v) :: rest, k => match pl i with
  | some (o, ft) => match AD.tt ft with
   | some ti => Ks v fun ls => match Nat.beq ls.length ti.size with
    | true => QL cells o ls fun cells' => Oa AD pl cells' rest k
    | false => none
   | none => none
  | none => none
theorem Ob {AD : A3} {pl : Nat -> Option (Nat × Nat)} : ∀ {ps : List (Nat × LV)} {cells : List LV} {k : List LV -> Option β} {y : β}, Oa AD pl cells ps k = some y ->
  ∃ l, k l = some y /\ ∀ K : A5 (List LV), K.f l -> Kl AD pl cells ps K
 | [], cells, k, y, h => ⟨cells, h, fun _ => id⟩
 | (i, v) :: rest, cells, k, y, h => by
  simp only [Oa] at h
  split at h
  .rename_i o ft hq
   split at h
   .rename_i ti hti
    rw [Jk] at h
    cases hc : v.cells with
    | none => rw [hc] at h; simp at h
    | some ls =>
     rw [hc] at h
     simp only [Option.bind_some] at h
     split at h
     .rename_i hl
      obtain ⟨h1, h2⟩ := Rv h
      obtain ⟨l, h3, h4⟩ := Ob h2
      refine ⟨l, h3, fun K hk => ?_⟩
      simp only [Kl]
      exact AR.2 ⟨(o, ft), hq, AQ.2 ⟨ti, hti, AR.2 ⟨ls, hc, ⟨Nat.eq_of_beq_eq_true hl, h1⟩, h4 K hk⟩⟩⟩
     cases h
   cases h
  cases h
def TG (AD : A3) : List (Nat × Nat) -> Bool
 | [] => true
 | p :: l => match AD.tt p.2 with
  | some _ => TG AD l
  | none => false
theorem Tl {AD : A3} : ∀ {l : List (Nat × Nat)}, TG AD l = l.all fun p => (AD.tt p.2).isSome
 | [] => rfl
 | p :: l => by
  simp only [TG, List.all_cons]
  cases AD.tt p.2 with
  | some _ => simp [Tl]
  | none => simp
def Yo (op : BinOp) (kk : IntKind) (a b : Int) (k : LV -> Option β) : Option β :=
 match op with
 | .add => k (.p (.int kk (kk.wrap (a + b))))
 | .sub => k (.p (.int kk (kk.wrap (a - b))))
 | .mul => k (.p (.int kk (kk.wrap (a * b))))
 | .eql => k (.p (.bool (a == b)))
 | .neq => k (.p (.bool (a != b)))
 | .lss => k (.p (.bool (decide (a < b))))
 | .leq => k (.p (.bool (decide (a <= b))))
 | .gtr => k (.p (.bool (decide (b < a))))
 | .geq => k (.p (.bool (decide (b <= a))))
 | .xor => k (.p (.int kk (kk.wrap (BitVec.ofInt kk.bits a ^^^ BitVec.ofInt kk.bits b).toNat)))
 | .or => k (.p (.int kk (kk.wrap (BitVec.ofInt kk.bits a ||| BitVec.ofInt kk.bits b).toNat)))
 | _ => none
def Rx (AD : A3) (t : Nat) : Bool :=
 match AD.tt t with
 | some ti => match ti.sh with
  | .bool => true
  | _ => false
 | none => false
def Oc : IntKind -> IntKind -> Bool
 | .i8, .i8 | .i16, .i16 | .i32, .i32 | .i64, .i64 | .u8, .u8 | .u16, .u16 | .u32, .u32 | .u64, .u64 => true
 | _, _ => false
theorem Od {a b : IntKind} (h : Oc a b = true) : a = b := by cases a <;> cases b <;> first | rfl | simp [Oc] at h
def Yp (AD : A3) (op : BinOp) (t : Nat) (x y : LV) (k : LV -> Option β) : Option β :=
 match x, y with
 | .p (.int k1 a), .p (.int k2 b) => match Oc k1 k2 with
  | true => Yo op k1 a b k
  | false => none
 | .p (.str a), .p (.str b) => match op with
  | .eql => k (.p (.bool (a.toList == b.toList)))
  | .neq => k (.p (.bool (!(a.toList == b.toList))))
  | _ => none
 | .p (.bool a), .p (.bool b) => match Rx AD t with
  | true => match op with
   | .eql => k (.p (.bool (a == b)))
   | .neq => k (.p (.bool (!(a == b))))
   | _ => none
  | false => none
 | .p (.place _ _), .p .nilp => match AD.ptr t with
  | true => match op with
   | .eql => k (.p (.bool false))
   | .neq => k (.p (.bool true))
   | _ => none
  | false => none
 | .lpb _ _, .p .nilp => match AD.ptr t with
  | true => match op with
   | .eql => k (.p (.bool false))
   | .neq => k (.p (.bool true))
   | _ => none
  | false => none
 | .p .nilp, .p .nilp => match AD.ptr t with
  | true => match op with
   | .eql => k (.p (.bool true))
   | .neq => k (.p (.bool false))
   | _ => none
  | false => none
 | _, _ => none
def Yq (off : Nat) (x : LV) (k : LV -> Option β) : Option β :=
 match x with
 | .lpb id o => k (.lpb id (o + off))
 | .lpe id j o => k (.lpe id j (o + off))
 | .p (.place l o) => k (.p (.place l (o + off)))
 | _ => none
def Tm : IntKind -> Int -> List LV -> (Int -> Option β) -> Option β
 | _, n, [], k => k n
 | kk, n, .p (.int j m) :: rest, k => match Oc j kk with
  | true => Tm kk (if m > n then m else n) rest k
  | false => none
 | _, _, _ :: _, _ => none
def Tn : IntKind -> Int -> List LV -> (Int -> Option β) -> Option β
 | _, n, [], k => k n
 | kk, n, .p (.int j m) :: rest, k => match Oc j kk with
  | true => Tn kk (if m < n then m else n) rest k
  | false => none
 | _, _, _ :: _, _ => none
def FN (AD : A3) (nt : Nat) (sl : List (Nat × LV)) (h : AP) (c : Nat) (op : Op) (k : LV -> AP -> Nat -> Option β) : Option β :=
  match op with
  | .move x | .assign x => Rw (BD nt sl x) fun v => k v h c
  | .pick b x y => match BD nt sl b with
    | .p (.bool b) => match b with
      | true => Rw (BD nt sl x) fun v => k v h c
      | false => Rw (BD nt sl y) fun v => k v h c
    | _ => none
  | .nilCheck x => match BD nt sl x with
    | .lpb i o => k (.lpb i o) h c
    | .lpe i j o => k (.lpe i j o) h c
    | .p (.place l o) => k (.p (.place l o)) h c
    | _ => none
  | .binOp op t x y _ => Yp AD op t (BD nt sl x) (BD nt sl y) fun l => k l h c
  | .unOp op _ x => match op with
    | .not => match BD nt sl x with
      | .p (.bool b) => k (.p (.bool !b)) h c
      | _ => none
    | .neg => match BD nt sl x with
      | .p (.int kk n) => k (.p (.int kk (kk.wrap (0 - n)))) h c
      | _ => none
    | _ => none
  | .convert s d x => match BD nt sl x with
    | .p (.int _ n) => match AD.tt s with
      | some _ => match AD.tt d with
        | some ti => match ti.sh with
          | .int kd => k (.p (.int kd (kd.wrap n))) h c
          | _ => none
        | none => none
      | none => none
    | _ => none
  | .extract t i => match BD nt sl t with
    | .tup l => match EG l i with
      | v :: _ => k v h c
      | [] => none
    | .p (.tup l) => match EG l i with
      | v :: _ => k (.p v) h c
      | [] => none
    | _ => none
  | .field t x i => match AD.tt t with
    | some ti => match ti.sh with
      | .struct fs => match EG fs i with
        | (o, ft) :: _ => match AD.tt ft with
          | some tf => match BD nt sl x with
            | .agg ls => TF tf o ls fun l => k l h c
            | .p (.agg ds) => Qw tf o ds fun l => k l h c
            | _ => none
          | none => none
        | [] => none
      | _ => none
    | none => none
  | .build t ps => match AD.tt t with
    | some ti => match ti.sh with
      | .struct fs => match TG AD fs with
        | true => NM ti.zero fun z => NN nt sl ps.toList fun ps' => Oa AD (fun i => fs[i]?) z ps' fun cells => Rt cells fun l => k l h c
        | false => none
      | .arr _ e => match AD.tt e with
        | some te => NM ti.zero fun z => NN nt sl ps.toList fun ps' => Oa AD (fun i => some (i * te.size, e)) z ps' fun cells => Rt cells fun l => k l h c
        | none => none
      | _ => none
    | none => none
  | .fieldAddr t x i => match AD.tt t with
    | some ti => match ti.sh with
      | .struct fs => match EG fs i with
        | (o, ft) :: _ => match AD.tt ft with
          | some tf => match Nat.blt 0 tf.size with
            | true => Yq o (BD nt sl x) fun l => k l h c
            | false => none
          | none => none
        | [] => none
      | _ => none
    | none => none
  | .makeFunc (.func f) first caps => match first.toList with
    | [] => D8 nt sl caps.toList fun l => k (.fn f l) h c
    | _ => none
  | .load t x => match MM AD.calm (BD nt sl x) with
   | false => none
   | true => match AD.tt t with
    | some ti => match BD nt sl x with
      | .p (.place l off) => Qw ti off l fun v => k v h c
      | .lpb id off => match Bc id h with
        | some (.box cells) => TF ti off cells fun v => k v h c
        | _ => none
      | _ => none
    | none => none
  | .store t x v => match Ki AD.calm (BD nt sl x) with
   | false => none
   | true => match AD.tt t with
    | some ti => match BD nt sl x with
      | .lpb id off => Ks (BD nt sl v) fun ls => match Nat.beq ls.length ti.size with
        | true => match OW ls with
          | true => match Bc id h with
            | some (.box cells) => QL cells off ls fun cells' => J7 id (.box cells') h fun h' => k .any h' c
            | _ => none
          | false => none
        | false => none
      | _ => none
    | none => none
  | .alloc t => match AD.tt t with
    | some ti => NM ti.zero fun z => k (.lpb c 0) ((c, .box z) :: h) (c + 1)
    | none => none
  | .box _ x => Ks (BD nt sl x) fun ls => k (.lpb c 0) ((c, .box ls) :: h) (c + 1)
  | .buildSlice t n ps => match AD.tt t with
    | some ti => match ti.sh with
      | .slc e => match AD.tt e with
        | some te => match Nat.blt 0 te.size && Nat.ble (n * te.size) 16777216 with
          | true => NN nt sl ps.toList fun ps' => OY te.size 0 ps' fun l => match Nat.beq l.length n with
            | true => k (.lsl c te.size 0 n) ((c, .row e te.size l) :: h) (c + 1)
            | false => none
          | false => none
        | none => none
      | _ => none
    | none => none
  | .makeMap _ none => k (.lmap c) ((c, .map []) :: h) (c + 1)
  | .call ⟨.builtin .len, args, ts⟩ => match args.toList, ts.toList with
    | [x], [t] => match AD.tt t with
      | some ti => match ti.sh, BD nt sl x with
        | .arr n _, _ => k (.p (.int .i64 n)) h c
        | .slc _, .p .nils => k (.p (.int .i64 0)) h c
        | .slc _, .lsl _ _ _ len => k (.p (.int .i64 len)) h c
        | .str, .p (.str s) => k (.p (.int .i64 s.size)) h c
        | _, _ => none
      | none => none
    | _, _ => none
  | .call ⟨.builtin .max, args, _⟩ => D8 nt sl args.toList fun l => match l with
    | .p (.int kk n) :: rest => Tm kk n rest fun m => k (.p (.int kk m)) h c
    | _ => none
  | .call ⟨.builtin .min, args, _⟩ => D8 nt sl args.toList fun l => match l with
    | .p (.int kk n) :: rest => Tn kk n rest fun m => k (.p (.int kk m)) h c
    | _ => none
  | _ => none
end
end Go.E
/- Operations reckoned by unfolding alone: they are sound (HY); runs of operations (FO, FP). No condition. -/
namespace Go.E
open Go Go.RowKit
section
variable {β : Type} {AD : A3} {nt : Nat} {sl : List (Nat × LV)} {hp : AP} {c : Nat}
theorem Zp {op : BinOp} {kk : IntKind} {a b : Int} {k : LV -> Option β} {y : β} (h : Yo op kk a b k = some y) : ∃ l, k l = some y /\ ∀ K : A5 LV, K.f l -> MS op kk a b K := by
 cases op <;> simp only [Yo] at h <;> first | cases h | exact ⟨_, h, fun K hk => hk⟩
theorem WW {t : Nat} (h : Rx AD t = true) : ∃ ti, AD.tt t = some ti /\ ti.sh = .bool := by
 unfold Rx at h
 split at h
 .rename_i ti hti
  split at h
  .exact ⟨ti, hti, ‹_›⟩
  cases h
 cases h
theorem Zq {op : BinOp} {t : Nat} {x y : LV} {k : LV -> Option β} {z : β} (h : Yp AD op t x y k = some z) : ∃ l, k l = some z /\ ∀ K : A5 LV, K.f l -> Rm AD op t x y K /\ Th AD op t x y K := by
 unfold Yp at h
 split at h
 .rename_i k1 a k2 b
  split at h
  .rename_i hk
   have := Od hk
   subst this
   obtain ⟨l, h1, h2⟩ := Zp h
   exact ⟨l, h1, fun K hk => ⟨⟨rfl, h2 K hk⟩, ⟨rfl, h2 K hk⟩⟩⟩
  cases h
 .rename_i a b
  split at h
  .exact ⟨_, h, fun K hk => ⟨hk, hk⟩⟩
  .exact ⟨_, h, fun K hk => ⟨hk, hk⟩⟩
  cases h
 .rename_i a b
  split at h
  .rename_i hb
   obtain ⟨ti, hti, hsh⟩ := WW hb
   split at h
   .exact ⟨_, h, fun K hk => ⟨AQ.2 ⟨ti, hti, hsh, hk⟩, AQ.2 ⟨ti, hti, hsh, hk⟩⟩⟩
   .exact ⟨_, h, fun K hk => ⟨AQ.2 ⟨ti, hti, hsh, hk⟩, AQ.2 ⟨ti, hti, hsh, hk⟩⟩⟩
   cases h
  cases h
 .split at h
  .rename_i hb
   split at h
   .exact ⟨_, h, fun K hk => ⟨⟨hb, hk⟩, ⟨hb, hk⟩⟩⟩
   .exact ⟨_, h, fun K hk => ⟨⟨hb, hk⟩, ⟨hb, hk⟩⟩⟩
   cases h
  cases h
 .split at h
  .rename_i hb
   split at h
   .exact ⟨_, h, fun K hk => ⟨⟨hb, hk⟩, ⟨hb, hk⟩⟩⟩
   .exact ⟨_, h, fun K hk => ⟨⟨hb, hk⟩, ⟨hb, hk⟩⟩⟩
   cases h
  cases h
 .split at h
  .rename_i hb
   split at h
   .exact ⟨_, h, fun K hk => ⟨⟨hb, hk⟩, ⟨hb, hk⟩⟩⟩
   .exact ⟨_, h, fun K hk => ⟨⟨hb, hk⟩, ⟨hb, hk⟩⟩⟩
   cases h
  cases h
 cases h
theorem Zr {off : Nat} {x : LV} {k : LV -> Option β} {y : β} (h : Yq off x k = some y) : ∃ l, k l = some y /\ ∀ K : A5 LV, K.f l -> WM off x K := by
 unfold Yq at h
 split at h
 .exact ⟨_, h, fun K hk => hk⟩
 .exact ⟨_, h, fun K hk => hk⟩
 .exact ⟨_, h, fun K hk => hk⟩
 cases h
theorem II {α : Type} {l r : List α} {n : Nat} {x : α} (h : EG l n = x :: r) : l[n]? = some x := by
 rw [I2] at h
 have := congrArg (·[0]?) h
 simpa [List.getElem?_drop] using this
theorem Vl {kk : IntKind} : ∀ {l : List LV} {n : Int} {k : Int -> Option β} {y : β}, Tm kk n l k = some y -> ∃ m, k m = some y /\ Bn.go (fun x y => if y > x then y else x) kk n l = some m
 | [], n, k, y, h => ⟨n, h, rfl⟩
 | .p (.int j m) :: rest, n, k, y, h => by
  simp only [Tm] at h
  split at h
  .rename_i hj
   have := Od hj
   subst this
   obtain ⟨r, h1, h2⟩ := Vl h
   exact ⟨r, h1, by simp only [Bn.go, if_true]; exact h2⟩
  cases h
 | .p .nils :: _, _, _, _, h | .p .nilp :: _, _, _, _, h | .p .nilm :: _, _, _, _, h | .p (.bool _) :: _, _, _, _, h | .p (.str _) :: _, _, _, _, h | .p (.agg _) :: _, _, _, _, h | .p (.tup _) :: _, _, _, _, h
 | .p (.slice _ _) :: _, _, _, _, h | .p (.place _ _) :: _, _, _, _, h | .p (.map _) :: _, _, _, _, h | .lsl .. :: _, _, _, _, h | .lpb .. :: _, _, _, _, h | .lpe .. :: _, _, _, _, h | .lmap _ :: _, _, _, _, h | .p (.fn _ _) :: _, _, _, _, h
 | .agg _ :: _, _, _, _, h | .tup _ :: _, _, _, _, h | .fn .. :: _, _, _, _, h | .und :: _, _, _, _, h | .any :: _, _, _, _, h => by simp [Tm] at h
theorem Vm {kk : IntKind} : ∀ {l : List LV} {n : Int} {k : Int -> Option β} {y : β}, Tn kk n l k = some y -> ∃ m, k m = some y /\ Bn.go (fun x y => if y < x then y else x) kk n l = some m
 | [], n, k, y, h => ⟨n, h, rfl⟩
 | .p (.int j m) :: rest, n, k, y, h => by
  simp only [Tn] at h
  split at h
  .rename_i hj
   have := Od hj
   subst this
   obtain ⟨r, h1, h2⟩ := Vm h
   exact ⟨r, h1, by simp only [Bn.go, if_true]; exact h2⟩
  cases h
 | .p .nils :: _, _, _, _, h | .p .nilp :: _, _, _, _, h | .p .nilm :: _, _, _, _, h | .p (.bool _) :: _, _, _, _, h | .p (.str _) :: _, _, _, _, h | .p (.agg _) :: _, _, _, _, h | .p (.tup _) :: _, _, _, _, h
 | .p (.slice _ _) :: _, _, _, _, h | .p (.place _ _) :: _, _, _, _, h | .p (.map _) :: _, _, _, _, h | .lsl .. :: _, _, _, _, h | .lpb .. :: _, _, _, _, h | .lpe .. :: _, _, _, _, h | .lmap _ :: _, _, _, _, h | .p (.fn _ _) :: _, _, _, _, h
 | .agg _ :: _, _, _, _, h | .tup _ :: _, _, _, _, h | .fn .. :: _, _, _, _, h | .und :: _, _, _, _, h | .any :: _, _, _, _, h => by simp [Tn] at h
def Xh (AD : A3) (st : St) (op : Op) (l : LV) (h' : AP) (c' : Nat) : Prop :=
 ∀ (P : Program) (A : BB) (dst : Option Tmp) (K : A5 St), K.f (st.go dst l h' c') -> BC P A AD st dst op K /\ Jh P A AD st dst op K
theorem HY {op : Op} {k : LV -> AP -> Nat -> Option β} {y : β} (h : FN AD nt sl hp c op k = some y) : ∃ l h' c', k l h' c' = some y /\ Xh AD ⟨nt, sl, hp, c⟩ op l h' c' := by
 have hev : ∀ x, BD nt sl x = (⟨nt, sl, hp, c⟩ : St).eval x := fun x => BE
 cases op <;> simp only [FN] at h <;> try (cases h; done)
 case move x => rw [MT] at h; exact ⟨_, _, _, h, fun P A dst K hk => by rw [hev] at hk; exact ⟨hk, hk⟩⟩
 case assign x => rw [MT] at h; exact ⟨_, _, _, h, fun P A dst K hk => by rw [hev] at hk; exact ⟨hk, hk⟩⟩
 case pick b x z =>
  split at h
  .rename_i b' hb
   rw [hev] at hb
   simp only [MT] at h
   split at h
   .exact ⟨_, _, _, h, fun P A dst K hk => by
     rw [hev] at hk
     have : BC P A AD ⟨nt, sl, hp, c⟩ dst (.pick b x z) K := by simp only [BC]; rw [hb]; exact hk
     exact ⟨this, this⟩⟩
   exact ⟨_, _, _, h, fun P A dst K hk => by
    rw [hev] at hk
    have : BC P A AD ⟨nt, sl, hp, c⟩ dst (.pick b x z) K := by simp only [BC]; rw [hb]; exact hk
    exact ⟨this, this⟩⟩
  cases h
 case nilCheck x =>
  split at h
  .rename_i hx; rw [hev] at hx
   exact ⟨_, _, _, h, fun P A dst K hk => by
    have : BC P A AD ⟨nt, sl, hp, c⟩ dst (.nilCheck x) K := by simp only [BC]; rw [hx]; exact hk
    exact ⟨this, this⟩⟩
  .rename_i hx; rw [hev] at hx
   exact ⟨_, _, _, h, fun P A dst K hk => by
    have : BC P A AD ⟨nt, sl, hp, c⟩ dst (.nilCheck x) K := by simp only [BC]; rw [hx]; exact hk
    exact ⟨this, this⟩⟩
  .rename_i hx; rw [hev] at hx
   exact ⟨_, _, _, h, fun P A dst K hk => by
    have : BC P A AD ⟨nt, sl, hp, c⟩ dst (.nilCheck x) K := by simp only [BC]; rw [hx]; exact hk
    exact ⟨this, this⟩⟩
  cases h
 case binOp op t x z w =>
  obtain ⟨l, h1, h2⟩ := Zq h
  refine ⟨l, _, _, h1, fun P A dst K hk => ?_⟩
  rw [hev, hev] at h2
  exact ⟨(h2 ⟨fun l => K.f (St.put ⟨nt, sl, hp, c⟩ dst l), ⟨⟩⟩ hk).1, (h2 ⟨fun l => K.f (St.put ⟨nt, sl, hp, c⟩ dst l), ⟨⟩⟩ hk).2⟩
 case unOp op t x =>
  split at h
  .split at h
   .rename_i hx; rw [hev] at hx
    exact ⟨_, _, _, h, fun P A dst K hk => by
     have : BC P A AD ⟨nt, sl, hp, c⟩ dst (.unOp .not t x) K := by simp only [BC]; rw [hx]; exact hk
     exact ⟨this, this⟩⟩
   cases h
  .split at h
   .rename_i hx; rw [hev] at hx
    exact ⟨_, _, _, h, fun P A dst K hk => by
     have : BC P A AD ⟨nt, sl, hp, c⟩ dst (.unOp .neg t x) K := by simp only [BC]; rw [hx]; exact hk
     exact ⟨this, this⟩⟩
   cases h
  cases h
 case convert s d x =>
  split at h
  .rename_i kk n hx; rw [hev] at hx
   split at h
   .rename_i ts hs
    split at h
    .rename_i ti ht
     split at h
     .rename_i kd hsh
      exact ⟨_, _, _, h, fun P A dst K hk => by
       have : BC P A AD ⟨nt, sl, hp, c⟩ dst (.convert s d x) K := by
        simp only [BC]; rw [hx]
        exact AQ.2 ⟨ts, hs, AQ.2 ⟨ti, ht, AR.2 ⟨kd, by rw [hsh]; rfl, hk⟩⟩⟩
       exact ⟨this, this⟩⟩
     cases h
    cases h
   cases h
  cases h
 case extract t i =>
  split at h
  .rename_i l hx; rw [hev] at hx
   split at h
   .rename_i v r hd
    exact ⟨_, _, _, h, fun P A dst K hk => by
     have : BC P A AD ⟨nt, sl, hp, c⟩ dst (.extract t i) K := by
      simp only [BC]; rw [hx]
      exact AR.2 ⟨v, II hd, hk⟩
     exact ⟨this, this⟩⟩
   cases h
  .rename_i l hx; rw [hev] at hx
   split at h
   .rename_i v r hd
    exact ⟨_, _, _, h, fun P A dst K hk => by
     have : BC P A AD ⟨nt, sl, hp, c⟩ dst (.extract t i) K := by
      simp only [BC]; rw [hx]
      exact AR.2 ⟨v, II hd, hk⟩
     exact ⟨this, this⟩⟩
   cases h
  cases h
 case field t x i =>
  split at h
  .rename_i ti ht
   split at h
   .rename_i fs hsh
    split at h
    .rename_i o ft r hd
     split at h
     .rename_i tf htf
      split at h
      .rename_i ls hx; rw [hev] at hx
       rw [Tj, Option.bind_eq_some_iff] at h
       obtain ⟨v, hv, h⟩ := h
       exact ⟨_, _, _, h, fun P A dst K hk => by
        have : BC P A AD ⟨nt, sl, hp, c⟩ dst (.field t x i) K := by
         simp only [BC]; rw [hx]
         exact AQ.2 ⟨ti, ht, Ej.2 ⟨fs, hsh, AR.2 ⟨(o, ft), II hd, AQ.2 ⟨tf, htf, AR.2 ⟨v, hv, hk⟩⟩⟩⟩⟩
        exact ⟨this, this⟩⟩
      .rename_i ds hx; rw [hev] at hx
       rw [QK, Option.bind_eq_some_iff] at h
       obtain ⟨v, hv, h⟩ := h
       exact ⟨_, _, _, h, fun P A dst K hk => by
        have : BC P A AD ⟨nt, sl, hp, c⟩ dst (.field t x i) K := by
         simp only [BC]; rw [hx]
         exact AQ.2 ⟨ti, ht, Ej.2 ⟨fs, hsh, AR.2 ⟨(o, ft), II hd, AQ.2 ⟨tf, htf, AR.2 ⟨v, hv, hk⟩⟩⟩⟩⟩
        exact ⟨this, this⟩⟩
      cases h
     cases h
    cases h
   cases h
  cases h
 case build t ps =>
  split at h
  .rename_i ti ht
   split at h
   .rename_i fs hsh
    split at h
    .rename_i hall
     rw [Kr, Kt] at h
     obtain ⟨l, h1, h2⟩ := Ob h
     rw [Ru] at h1
     exact ⟨_, _, _, h1, fun P A dst K hk => by
      have : BC P A AD ⟨nt, sl, hp, c⟩ dst (.build t ps) K := by
       simp only [BC]
       refine AQ.2 ⟨ti, ht, ?_⟩
       simp only [OT, hsh]
       rw [Tl] at hall
       refine ⟨hall, ?_⟩
       have := h2 ⟨fun cells => K.f (St.put ⟨nt, sl, hp, c⟩ dst (Er cells)), ⟨⟩⟩ hk
       simpa only [hev] using this
      exact ⟨this, this⟩⟩
    cases h
   .rename_i n e hsh
    split at h
    .rename_i te hte
     rw [Kr, Kt] at h
     obtain ⟨l, h1, h2⟩ := Ob h
     rw [Ru] at h1
     exact ⟨_, _, _, h1, fun P A dst K hk => by
      have : BC P A AD ⟨nt, sl, hp, c⟩ dst (.build t ps) K := by
       simp only [BC]
       refine AQ.2 ⟨ti, ht, ?_⟩
       simp only [OT, hsh]
       refine AQ.2 ⟨te, hte, ?_⟩
       have := h2 ⟨fun cells => K.f (St.put ⟨nt, sl, hp, c⟩ dst (Er cells)), ⟨⟩⟩ hk
       simpa only [hev] using this
      exact ⟨this, this⟩⟩
    cases h
   cases h
  cases h
 case fieldAddr t x i =>
  split at h
  .rename_i ti ht
   split at h
   .rename_i fs hsh
    split at h
    .rename_i o ft r hd
     split at h
     .rename_i tf htf
      split at h
      .rename_i hsz
       obtain ⟨l, h1, h2⟩ := Zr h
       rw [hev] at h2
       exact ⟨_, _, _, h1, fun P A dst K hk => by
        have : BC P A AD ⟨nt, sl, hp, c⟩ dst (.fieldAddr t x i) K := by
         simp only [BC]
         refine AQ.2 ⟨ti, ht, Ej.2 ⟨fs, hsh, AR.2 ⟨(o, ft), II hd, AQ.2 ⟨tf, htf, ?_, h2 ⟨fun l => K.f (St.put ⟨nt, sl, hp, c⟩ dst l), ⟨⟩⟩ hk⟩⟩⟩⟩
         have := Nat.le_of_ble_eq_true hsz
         omega
        exact ⟨this, this⟩⟩
      cases h
     cases h
    cases h
   cases h
  cases h
 case makeFunc fn first caps =>
  cases fn <;> simp only at h <;> try (cases h; done)
  rename_i f
  split at h
  .rename_i hf
   rw [Jl] at h
   exact ⟨_, _, _, h, fun P A dst K hk => by
    have : BC P A AD ⟨nt, sl, hp, c⟩ dst (.makeFunc (.func f) first caps) K := by
     simp only [BC]
     refine ⟨hf, ?_⟩
     have e : (caps.toList.map fun p => BD nt sl p) = caps.toList.map (St.eval ⟨nt, sl, hp, c⟩) := List.map_congr_left fun x _ => hev x
     rw [e] at hk
     exact hk
    exact ⟨this, this⟩⟩
  cases h
 case load t x =>
  split at h
  .cases h
  rename_i hc'
  rw [hev] at hc'
  split at h
  .rename_i ti ht
   split at h
   .rename_i l off hx; rw [hev] at hx
    rw [QK, Option.bind_eq_some_iff] at h
    obtain ⟨v, hv, h⟩ := h
    exact ⟨_, _, _, h, fun P A dst K hk => by
     have : BC P A AD ⟨nt, sl, hp, c⟩ dst (.load t x) K := by
      simp only [BC]; rw [hx]
      exact AQ.2 ⟨ti, ht, AR.2 ⟨v, hv, hk⟩⟩
     exact ⟨this, hc', this⟩⟩
   .rename_i id off hx; rw [hev] at hx
    split at h
    .rename_i cells hl
     rw [BN] at hl
     rw [Tj, Option.bind_eq_some_iff] at h
     obtain ⟨v, hv, h⟩ := h
     exact ⟨_, _, _, h, fun P A dst K hk => by
      have : BC P A AD ⟨nt, sl, hp, c⟩ dst (.load t x) K := by
       simp only [BC]; rw [hx]
       exact AQ.2 ⟨ti, ht, AR.2 ⟨_, hl, by dsimp only; refine Hy.2 ⟨cells, rfl, ?_⟩; exact AR.2 ⟨v, hv, hk⟩⟩⟩
      exact ⟨this, hc', this⟩⟩
    cases h
   cases h
  cases h
 case store t x v =>
  split at h
  .cases h
  rename_i hc'
  rw [hev] at hc'
  split at h
  .rename_i ti ht
   split at h
   .rename_i id off hx; rw [hev] at hx
    rw [Jk, Option.bind_eq_some_iff] at h
    obtain ⟨ls, hls, h⟩ := h
    rw [hev] at hls
    split at h
    .rename_i hlen
     split at h
     .rename_i hone
      rw [OX] at hone
      split at h
      .rename_i cells hl
       rw [BN] at hl
       obtain ⟨h1, h2⟩ := Rv h
       rw [Fy] at h2
       exact ⟨_, _, _, h2, fun P A dst K hk => by
        have : BC P A AD ⟨nt, sl, hp, c⟩ dst (.store t x v) K := by
         simp only [BC]; rw [hx]
         exact AQ.2 ⟨ti, ht, AR.2 ⟨ls, hls, ⟨Nat.eq_of_beq_eq_true hlen, hone⟩, AR.2 ⟨_, hl, by dsimp only; refine Hy.2 ⟨cells, rfl, ?_⟩; exact ⟨h1, hk⟩⟩⟩⟩
        exact ⟨this, hc', this⟩⟩
      cases h
     cases h
    cases h
   cases h
  cases h
 case alloc t =>
  split at h
  .rename_i ti ht
   rw [Kr] at h
   exact ⟨_, _, _, h, fun P A dst K hk => by
    have : BC P A AD ⟨nt, sl, hp, c⟩ dst (.alloc t) K := by
     simp only [BC]
     exact AQ.2 ⟨ti, ht, hk⟩
    exact ⟨this, this⟩⟩
  cases h
 case box t x =>
  rw [Jk, Option.bind_eq_some_iff] at h
  obtain ⟨ls, hls, h⟩ := h
  rw [hev] at hls
  exact ⟨_, _, _, h, fun P A dst K hk => by
   have : BC P A AD ⟨nt, sl, hp, c⟩ dst (.box t x) K := by
    simp only [BC]
    exact AR.2 ⟨ls, hls, hk⟩
   exact ⟨this, this⟩⟩
 case buildSlice t n ps =>
  split at h
  .rename_i ti ht
   split at h
   .rename_i e hsh
    split at h
    .rename_i te hte
     split at h
     .rename_i hb
      rw [Kt] at h
      obtain ⟨l, h1, h2⟩ := OZ h
      split at h2
      .rename_i hlen
       simp only [Bool.and_eq_true] at hb
       exact ⟨_, _, _, h2, fun P A dst K hk => by
        have : BC P A AD ⟨nt, sl, hp, c⟩ dst (.buildSlice t n ps) K := by
         simp only [BC]
         simp only [hev] at h1
         exact AQ.2 ⟨ti, ht, B2.2 ⟨e, hsh, AQ.2 ⟨te, hte, ⟨Nat.le_of_ble_eq_true hb.1, Nat.le_of_ble_eq_true hb.2⟩, AR.2 ⟨l, h1, Nat.eq_of_beq_eq_true hlen, .inl hk⟩⟩⟩⟩
        exact ⟨this, this⟩⟩
      cases h2
     cases h
    cases h
   cases h
  cases h
 case makeMap t r =>
  cases r with
  | some r => cases h
  | none => exact ⟨_, _, _, h, fun P A dst K hk => ⟨hk, hk⟩⟩
 case call cl =>
  obtain ⟨callee, args, ts⟩ := cl
  cases callee with
  | value f => cases h
  | invoke r m => cases h
  | builtin b =>
   cases b <;> simp only at h <;> try (cases h; done)
   case len =>
    split at h
    .rename_i x t hargs hts
     split at h
     .rename_i ti ht
      have ha : args = #[x] := by cases args; simpa using hargs
      have ht' : ts = #[t] := by cases ts; simpa using hts
      subst ha ht'
      have fin : ∀ l, k l hp c = some y -> (∀ K : A5 LV, K.f l -> Yf ti.sh ((⟨nt, sl, hp, c⟩ : St).eval x) K /\ WS ti.sh ((⟨nt, sl, hp, c⟩ : St).eval x) K) ->
        ∃ l h' c', k l h' c' = some y /\ Xh AD ⟨nt, sl, hp, c⟩ (.call ⟨.builtin .len, #[x], #[t]⟩) l h' c' := fun l h1 h2 => ⟨l, hp, c, h1, fun P A dst K hk => by
       have := h2 ⟨fun l => K.f (St.put ⟨nt, sl, hp, c⟩ dst l), ⟨⟩⟩ hk
       exact ⟨AQ.2 ⟨ti, ht, this.1⟩, AQ.2 ⟨ti, ht, this.2⟩⟩⟩
      split at h
      .rename_i hsh
       exact fin _ h fun K hk => by rw [hsh]; exact ⟨hk, hk⟩
      .rename_i hsh hx; rw [hev] at hx
       exact fin _ h fun K hk => by rw [hsh, hx]; exact ⟨hk, hk⟩
      .rename_i hsh hx; rw [hev] at hx
       exact fin _ h fun K hk => by rw [hsh, hx]; exact ⟨hk, hk⟩
      .rename_i hsh hx; rw [hev] at hx
       exact fin _ h fun K hk => by rw [hsh, hx]; exact ⟨hk, hk⟩
      cases h
     cases h
    cases h
   case max =>
    rw [Jl] at h
    split at h
    .rename_i kk n rest hl
     obtain ⟨m, h1, h2⟩ := Vl h
     exact ⟨_, _, _, h1, fun P A dst K hk => by
      have : BC P A AD ⟨nt, sl, hp, c⟩ dst (.call ⟨.builtin .max, args, ts⟩) K := by
       simp only [BC, IG]
       simp only [hev] at hl
       refine AR.2 ⟨(kk, m), ?_, hk⟩
       show Bn _ (args.toList.map fun x => St.eval _ x) = _
       rw [hl]
       simp only [Bn, h2]; rfl
      exact ⟨this, this⟩⟩
    cases h
   case min =>
    rw [Jl] at h
    split at h
    .rename_i kk n rest hl
     obtain ⟨m, h1, h2⟩ := Vm h
     exact ⟨_, _, _, h1, fun P A dst K hk => by
      have : BC P A AD ⟨nt, sl, hp, c⟩ dst (.call ⟨.builtin .min, args, ts⟩) K := by
       simp only [BC, IG]
       simp only [hev] at hl
       refine AR.2 ⟨(kk, m), ?_, hk⟩
       show Bn _ (args.toList.map fun x => St.eval _ x) = _
       rw [hl]
       simp only [Bn, h2]; rfl
      exact ⟨this, this⟩⟩
    cases h
end
end Go.E
/- Runs of operations (FO, FP), loops and joins told by plain Lean (AT, EH), rules for a walk in step with a plain function. No condition. -/
namespace Go.E
open Go Go.RowKit
section
variable {β : Type}
def Ku : Bool -> Bool -> Bool
 | true, true | false, false => true
 | _, _ => false
theorem Kv {a b : Bool} (h : Ku a b = true) : a = b := by cases a <;> cases b <;> first | rfl | cases h
theorem NO {a b : Bool} (h : Ku a b = false) : a = !b := by cases a <;> cases b <;> first | rfl | cases h
def FO (AD : A3) : Nat -> List HW -> Nat -> List (Nat × LV) -> AP -> Nat -> Option (List HW × St)
 | 0, ms, nt, sl, h, c => some (ms, ⟨nt, sl, h, c⟩)
 | _ + 1, [], _, _, _, _ => none
 | n + 1, m :: ms, nt, sl, h, c => match m with
  | ⟨dst, op, g⟩ => match g with
   | none => FN AD nt sl h c op fun l h' c' => match dst with
    | some t => FO AD n ms nt ((t, l) :: sl) h' c'
    | none => FO AD n ms nt sl h' c'
   | some (some d, want) => match BD nt sl (.tmp d) with
    | .p (.bool b) => match Ku b want with
     | true => FN AD nt sl h c op fun l h' c' => match dst with
      | some t => FO AD n ms nt ((t, l) :: sl) h' c'
      | none => FO AD n ms nt sl h' c'
     | false => match dst with
      | some t => FO AD n ms nt ((t, .und) :: sl) h c
      | none => FO AD n ms nt sl h c
    | .und => match dst with
     | some t => FO AD n ms nt ((t, .und) :: sl) h c
     | none => FO AD n ms nt sl h c
    | _ => none
   | some (none, _) => none
def Hz (AD : A3) : List HW -> Nat -> List (Nat × LV) -> AP -> Nat -> Option St
 | [], nt, sl, h, c => some ⟨nt, sl, h, c⟩
 | m :: ms, nt, sl, h, c => match m with
  | ⟨dst, op, g⟩ => match g with
   | none => FN AD nt sl h c op fun l h' c' => match dst with
    | some t => Hz AD ms nt ((t, l) :: sl) h' c'
    | none => Hz AD ms nt sl h' c'
   | some (some d, want) => match BD nt sl (.tmp d) with
    | .p (.bool b) => match Ku b want with
     | true => FN AD nt sl h c op fun l h' c' => match dst with
      | some t => Hz AD ms nt ((t, l) :: sl) h' c'
      | none => Hz AD ms nt sl h' c'
     | false => match dst with
      | some t => Hz AD ms nt ((t, .und) :: sl) h c
      | none => Hz AD ms nt sl h c
    | .und => match dst with
     | some t => Hz AD ms nt ((t, .und) :: sl) h c
     | none => Hz AD ms nt sl h c
    | _ => none
   | some (none, _) => none
def FP (AD : A3) (base : Nat) : Nat -> List (Nat × HW) -> Nat -> List (Nat × LV) -> AP -> Option (List (Nat × HW) × List (Nat × LV) × AP)
 | 0, ms, _, sl, h => some (ms, sl, h)
 | _ + 1, [], _, _, _ => none
 | n + 1, m :: ms, nt, sl, h => match m with
  | (i, ⟨dst, op, g⟩) => match g with
   | none => FN AD nt sl h (base + i) op fun l h' _ => match dst with
    | some t => FP AD base n ms nt ((t, l) :: sl) h'
    | none => FP AD base n ms nt sl h'
   | some (some d, want) => match BD nt sl (.tmp d) with
    | .p (.bool b) => match Ku b want with
     | true => FN AD nt sl h (base + i) op fun l h' _ => match dst with
      | some t => FP AD base n ms nt ((t, l) :: sl) h'
      | none => FP AD base n ms nt sl h'
     | false => match dst with
      | some t => FP AD base n ms nt ((t, .und) :: sl) h
      | none => FP AD base n ms nt sl h
    | .und => match dst with
     | some t => FP AD base n ms nt ((t, .und) :: sl) h
     | none => FP AD base n ms nt sl h
    | _ => none
   | some (none, _) => none
def FQ (AD : A3) (base : Nat) : List (Nat × HW) -> Nat -> List (Nat × LV) -> AP -> Option (List (Nat × LV) × AP)
 | [], _, sl, h => some (sl, h)
 | m :: ms, nt, sl, h => match m with
  | (i, ⟨dst, op, g⟩) => match g with
   | none => FN AD nt sl h (base + i) op fun l h' _ => match dst with
    | some t => FQ AD base ms nt ((t, l) :: sl) h'
    | none => FQ AD base ms nt sl h'
   | some (some d, want) => match BD nt sl (.tmp d) with
    | .p (.bool b) => match Ku b want with
     | true => FN AD nt sl h (base + i) op fun l h' _ => match dst with
      | some t => FQ AD base ms nt ((t, l) :: sl) h'
      | none => FQ AD base ms nt sl h'
     | false => match dst with
      | some t => FQ AD base ms nt ((t, .und) :: sl) h
      | none => FQ AD base ms nt sl h
    | .und => match dst with
     | some t => FQ AD base ms nt ((t, .und) :: sl) h
     | none => FQ AD base ms nt sl h
    | _ => none
   | some (none, _) => none
end
section
variable {P : Program} {A : BB} {AD : A3} {f : St -> Prop} {hf : HT f} {nt : Nat} {sl : List (Nat × LV)} {h : AP} {c : Nat}
theorem PY {dst : Option Tmp} {l : LV} {h' : AP} {c' : Nat} : (⟨nt, sl, h, c⟩ : St).go dst l h' c' = match dst with | some t => ⟨nt, (t, l) :: sl, h', c'⟩ | none => ⟨nt, sl, h', c'⟩ := by
 cases dst <;> rfl
theorem rn (n : Nat) {ms ms' : List HW} {st' : St} (hr : FO AD n ms nt sl h c = some (ms', st')) (k : Ey P A AD ⟨f, hf⟩ ms' st') : Ey P A AD ⟨f, hf⟩ ms ⟨nt, sl, h, c⟩ := by
  induction n generalizing ms nt sl h c with
  | zero =>
    have : (ms, (⟨nt, sl, h, c⟩ : St)) = (ms', st') := by simpa [FO] using hr
    cases this; exact k
  | succ n ih =>
    cases ms with
    | nil => simp [FO] at hr
    | cons m ms =>
      obtain ⟨dst, op, g⟩ := m
      have run : (FN AD nt sl h c op fun l h' c' => match (generalizing := false) dst with
            | some t => FO AD n ms nt ((t, l) :: sl) h' c'
            | none => FO AD n ms nt sl h' c') = some (ms', st') -> BC P A AD ⟨nt, sl, h, c⟩ dst op ⟨Ey P A AD ⟨f, hf⟩ ms, ⟨⟩⟩ := fun hs => by
        obtain ⟨l, h', c', h1, h2⟩ := HY hs
        refine (h2 P A dst _ ?_).1
        rw [PY]
        cases dst with
        | some t => exact ih h1
        | none => exact ih h1
      have skip : (match (generalizing := false) dst with
          | some t => FO AD n ms nt ((t, .und) :: sl) h c
          | none => FO AD n ms nt sl h c) = some (ms', st') -> Ey P A AD ⟨f, hf⟩ ms ((⟨nt, sl, h, c⟩ : St).put dst .und) := fun hs => by
        cases dst with
        | some t => exact ih hs
        | none => exact ih hs
      simp only [FO] at hr
      cases g with
      | none => exact run hr
      | some g =>
        obtain ⟨d, want⟩ := g
        cases d with
        | none => simp at hr
        | some d =>
          simp only at hr
          simp only [Ey, Fg, <- BE (h := h) (c := c)]
          generalize BD nt sl (.tmp d) = v at hr ⊢
          split at hr
          . rename_i b
            split at hr
            . rename_i hb
              refine ⟨fun _ => run hr, fun e => ?_⟩
              rw [Kv hb] at e; cases want <;> cases e
            rename_i hb
            refine ⟨fun e => ?_, fun _ => skip hr⟩
            rw [NO hb] at e; cases want <;> cases e
          . exact skip hr
          cases hr
theorem rl {ms : List HW} {st' : St} (hr : Hz AD ms nt sl h c = some st') (k : f st') : Ey P A AD ⟨f, hf⟩ ms ⟨nt, sl, h, c⟩ := by
  induction ms generalizing nt sl h c with
  | nil =>
    have : (⟨nt, sl, h, c⟩ : St) = st' := by simpa [Hz] using hr
    subst this; exact ⟨k⟩
  | cons m ms ih =>
      obtain ⟨dst, op, g⟩ := m
      have run : (FN AD nt sl h c op fun l h' c' => match (generalizing := false) dst with
            | some t => Hz AD ms nt ((t, l) :: sl) h' c'
            | none => Hz AD ms nt sl h' c') = some st' -> BC P A AD ⟨nt, sl, h, c⟩ dst op ⟨Ey P A AD ⟨f, hf⟩ ms, ⟨⟩⟩ := fun hs => by
        obtain ⟨l, h', c', h1, h2⟩ := HY hs
        refine (h2 P A dst _ ?_).1
        rw [PY]
        cases dst with
        | some t => exact ih h1
        | none => exact ih h1
      have skip : (match (generalizing := false) dst with
          | some t => Hz AD ms nt ((t, .und) :: sl) h c
          | none => Hz AD ms nt sl h c) = some st' -> Ey P A AD ⟨f, hf⟩ ms ((⟨nt, sl, h, c⟩ : St).put dst .und) := fun hs => by
        cases dst with
        | some t => exact ih hs
        | none => exact ih hs
      simp only [Hz] at hr
      cases g with
      | none => exact run hr
      | some g =>
        obtain ⟨d, want⟩ := g
        cases d with
        | none => simp at hr
        | some d =>
          simp only at hr
          simp only [Ey, Fg, <- BE (h := h) (c := c)]
          generalize BD nt sl (.tmp d) = v at hr ⊢
          split at hr
          . rename_i b
            split at hr
            . rename_i hb
              refine ⟨fun _ => run hr, fun e => ?_⟩
              rw [Kv hb] at e; cases want <;> cases e
            rename_i hb
            refine ⟨fun e => ?_, fun _ => skip hr⟩
            rw [NO hb] at e; cases want <;> cases e
          . exact skip hr
          cases hr
theorem As (n : Nat) {base m : Nat} {ms ms' : List (Nat × HW)} {sl' : List (Nat × LV)} {h' : AP} (hr : FP AD base n ms nt sl h = some (ms', sl', h')) (k : C8 P A AD base m ⟨f, hf⟩ ms' ⟨nt, sl', h', c⟩) : C8 P A AD base m ⟨f, hf⟩ ms ⟨nt, sl, h, c⟩ := by
  induction n generalizing ms sl h with
  | zero =>
    have : (ms, sl, h) = (ms', sl', h') := by simpa [FP] using hr
    cases this; exact k
  | succ n ih =>
    cases ms with
    | nil => simp [FP] at hr
    | cons p ms =>
      obtain ⟨i, dst, op, g⟩ := p
      have at_ : ∀ {sl h c'} , C8 P A AD base m ⟨f, hf⟩ ms ⟨nt, sl, h, c⟩ -> C8 P A AD base m ⟨f, hf⟩ ms ⟨nt, sl, h, c'⟩ := fun {sl h c'} hd => by
        have := Qv (P := P) (A := A) (AD := AD) base m ⟨f, hf⟩ ms ⟨nt, sl, h, c⟩ c'
        rw [<- this] at hd; exact hd
      have run : (FN AD nt sl h (base + i) op fun l h' c' => match (generalizing := false) dst with
            | some t => FP AD base n ms nt ((t, l) :: sl) h'
            | none => FP AD base n ms nt sl h') = some (ms', sl', h') -> Jh P A AD ((⟨nt, sl, h, c⟩ : St).at (base + i)) dst op ⟨C8 P A AD base m ⟨f, hf⟩ ms, ⟨⟩⟩ := fun hs => by
        obtain ⟨l, h', c', h1, h2⟩ := HY hs
        refine (h2 P A dst _ ?_).2
        rw [PY]
        cases dst with
        | some t => exact at_ (ih h1)
        | none => exact at_ (ih h1)
      have skip : (match (generalizing := false) dst with
          | some t => FP AD base n ms nt ((t, .und) :: sl) h
          | none => FP AD base n ms nt sl h) = some (ms', sl', h') -> C8 P A AD base m ⟨f, hf⟩ ms ((⟨nt, sl, h, c⟩ : St).put dst .und) := fun hs => by
        cases dst with
        | some t => exact ih hs
        | none => exact ih hs
      simp only [FP] at hr
      cases g with
      | none => exact run hr
      | some g =>
        obtain ⟨d, want⟩ := g
        cases d with
        | none => simp at hr
        | some d =>
          simp only at hr
          simp only [C8, Fg, <- BE (h := h) (c := c)]
          generalize BD nt sl (.tmp d) = v at hr ⊢
          split at hr
          . rename_i b
            split at hr
            . rename_i hb
              refine ⟨fun _ => run hr, fun e => ?_⟩
              rw [Kv hb] at e; cases want <;> cases e
            rename_i hb
            refine ⟨fun e => ?_, fun _ => skip hr⟩
            rw [NO hb] at e; cases want <;> cases e
          . exact skip hr
          cases hr
theorem BG {base m : Nat} {ms : List (Nat × HW)} {sl' : List (Nat × LV)} {h' : AP} (hr : FQ AD base ms nt sl h = some (sl', h')) (k : f ⟨nt, sl', h', base + m⟩) : C8 P A AD base m ⟨f, hf⟩ ms ⟨nt, sl, h, c⟩ := by
  induction ms generalizing sl h with
  | nil =>
    have : (sl, h) = (sl', h') := by simpa [FQ] using hr
    cases this; exact ⟨k⟩
  | cons p ms ih =>
      obtain ⟨i, dst, op, g⟩ := p
      have at_ : ∀ {sl h c'} , C8 P A AD base m ⟨f, hf⟩ ms ⟨nt, sl, h, c⟩ -> C8 P A AD base m ⟨f, hf⟩ ms ⟨nt, sl, h, c'⟩ := fun {sl h c'} hd => by
        have := Qv (P := P) (A := A) (AD := AD) base m ⟨f, hf⟩ ms ⟨nt, sl, h, c⟩ c'
        rw [<- this] at hd; exact hd
      have run : (FN AD nt sl h (base + i) op fun l h' c' => match (generalizing := false) dst with
            | some t => FQ AD base ms nt ((t, l) :: sl) h'
            | none => FQ AD base ms nt sl h') = some (sl', h') -> Jh P A AD ((⟨nt, sl, h, c⟩ : St).at (base + i)) dst op ⟨C8 P A AD base m ⟨f, hf⟩ ms, ⟨⟩⟩ := fun hs => by
        obtain ⟨l, h', c', h1, h2⟩ := HY hs
        refine (h2 P A dst _ ?_).2
        rw [PY]
        cases dst with
        | some t => exact at_ (ih h1)
        | none => exact at_ (ih h1)
      have skip : (match (generalizing := false) dst with
          | some t => FQ AD base ms nt ((t, .und) :: sl) h
          | none => FQ AD base ms nt sl h) = some (sl', h') -> C8 P A AD base m ⟨f, hf⟩ ms ((⟨nt, sl, h, c⟩ : St).put dst .und) := fun hs => by
        cases dst with
        | some t => exact ih hs
        | none => exact ih hs
      simp only [FQ] at hr
      cases g with
      | none => exact run hr
      | some g =>
        obtain ⟨d, want⟩ := g
        cases d with
        | none => simp at hr
        | some d =>
          simp only at hr
          simp only [C8, Fg, <- BE (h := h) (c := c)]
          generalize BD nt sl (.tmp d) = v at hr ⊢
          split at hr
          . rename_i b
            split at hr
            . rename_i hb
              refine ⟨fun _ => run hr, fun e => ?_⟩
              rw [Kv hb] at e; cases want <;> cases e
            rename_i hb
            refine ⟨fun e => ?_, fun _ => skip hr⟩
            rw [NO hb] at e; cases want <;> cases e
          . exact skip hr
          cases hr
end
end Go.E
/- Rules for a walk in step with a plain function. No condition. -/
namespace Go.E
open Go Go.RowKit
def To : List Nat -> Nat -> Bool
 | [], _ => false
 | x :: l, t => match Nat.beq t x with
  | true => true
  | false => To l t
theorem Vn : ∀ {l : List Nat} {t : Nat}, To l t = true ↔ t ∈ l
 | [], t => by simp [To]
 | x :: l, t => by
  simp only [To, List.mem_cons]
  split
  .rename_i h; have := Nat.eq_of_beq_eq_true h; subst this; simp
  rename_i h
  have hne : t ≠ x := by rintro rfl; simp at h
  rw [Vn]; simp [hne]
theorem Yr {P : Program} {l : List (Nat × TI)} (h : (l.map fun p => WV P p.1) = l.map fun p => some p.2) : OV P (fun t => Bc t l) := by
 have := Ti h
 intro t ti ht
 exact this t ti (by simpa only [BN] using ht)
section
variable {α β γ : Type}
theorem bd {o : Option α} {f : α -> Option β} {b : β} (h : o.bind f = some b) : ∃ a, o = some a /\ f a = some b := Option.bind_eq_some_iff.1 h
def AX (l : List α) (n : Int) : Option α := match n with
 | .ofNat k => l[k]?
 | .negSucc _ => none
theorem FR {l : List α} {n : Int} {y : α} (h : AX l n = some y) : 0 <= n /\ n.toNat < l.length /\ l[n.toNat]? = some y := by
 cases n with
 | ofNat k => exact ⟨Int.natCast_nonneg k, (List.getElem?_eq_some_iff.1 h).1, h⟩
 | negSucc k => cases h
def J8 (s : ByteArray) (n : Int) : Option UInt8 := match n with
 | .ofNat k => s[k]?
 | .negSucc _ => none
def KN (l : List α) (lo hi : Int) : Option (List α) := if 0 <= lo /\ lo <= hi /\ hi <= l.length then some ((l.take hi.toNat).drop lo.toNat) else none
def Bt (l m : List α) : Option (List α) := if l.length + m.length <= 4294967296 then some (l ++ m) else none
def A6 (l : List α) (n : Int) (z : α) : List α := l.set n.toNat z
def Es (step : α -> Option (α ⊕ β)) : Nat -> α -> Option β
 | 0, _ => none
 | n + 1, s => match step s with
  | none => none
  | some (.inl s') => Es step n s'
  | some (.inr b) => some b
theorem Oe {step : α -> Option (α ⊕ β)} : ∀ {n m : Nat} {s : α} {b : β}, Es step n s = some b -> Es step (n + m) s = some b
 | 0, _, _, _, h => by cases h
 | n + 1, m, s, b, h => by
  rw [show n + 1 + m = (n + m) + 1 by omega]
  simp only [Es] at h ⊢
  split at h
  .cases h
  .exact Oe h
  exact h
open Classical in
noncomputable def Qx (step : α -> Option (α ⊕ β)) (s : α) : Option β := if h : ∃ b n, Es step n s = some b then some h.choose else none
noncomputable def AT (step : α -> Option (α ⊕ β)) (s : α) : Option β := match Es step 18446744073709551616 s with
 | some b => some b
 | none => Qx step s
theorem Tp {step : α -> Option (α ⊕ β)} {n : Nat} {s : α} {b : β} (h : Es step n s = some b) : Qx step s = some b := by
 have hex : ∃ b n, Es step n s = some b := ⟨b, n, h⟩
 unfold Qx
 rw [dif_pos hex]
 obtain ⟨m, hm⟩ := hex.choose_spec
 have h1 := Oe (m := m) h
 have h2 := Oe (m := n) hm
 rw [show m + n = n + m by omega, h1] at h2
 exact h2.symm
theorem Vo (step : α -> Option (α ⊕ β)) (s : α) : AT step s = Qx step s := by
 unfold AT
 split
 .rename_i h; exact (Tp h).symm
 rfl
theorem QM {step : α -> Option (α ⊕ β)} {n : Nat} {s : α} {b : β} (h : Es step n s = some b) : AT step s = some b := by
 rw [Vo]; exact Tp h
theorem KT {step : α -> Option (α ⊕ β)} {s : α} {b : β} (h : AT step s = some b) : ∃ n, Es step n s = some b := by
 rw [Vo] at h
 unfold Qx at h
 split at h
 .rename_i hex
  obtain ⟨m, hm⟩ := hex.choose_spec
  simp only [Option.some.injEq] at h
  rw [h] at hm
  exact ⟨m, hm⟩
 cases h
theorem GU (step : α -> Option (α ⊕ β)) (s : α) : AT step s = match step s with
  | none => none
  | some (.inl s') => AT step s'
  | some (.inr b) => some b := by
 cases hs : step s with
 | none =>
  cases hl : AT step s with
  | none => rfl
  | some b =>
   obtain ⟨n, hn⟩ := KT hl
   cases n with
   | zero => cases hn
   | succ n => simp [Es, hs] at hn
 | some r =>
  cases r with
  | inl s' =>
   simp only
   cases hl : AT step s' with
   | some b => obtain ⟨n, hn⟩ := KT hl; exact QM (n := n + 1) (by simp only [Es, hs]; exact hn)
   | none =>
    cases hl' : AT step s with
    | none => rfl
    | some b =>
     obtain ⟨n, hn⟩ := KT hl'
     cases n with
     | zero => cases hn
     | succ n =>
      simp only [Es, hs] at hn
      rw [QM hn] at hl; cases hl
  | inr b => exact QM (n := 1) (by simp [Es, hs])
def EH (sp : Option (α ⊕ β)) (rest : α -> Option β) : Option β := match sp with
 | none => none
 | some (.inl t) => rest t
 | some (.inr b) => some b
def I3 (o : Option α) (a : Option β) (b : α -> Option β) : Option β := match o with
 | none => a
 | some x => b x
theorem Tq {a : Option β} {b : α -> Option β} {r : Option β} (h : I3 none a b = r) : a = r := h
theorem Tr {x : α} {a : Option β} {b : α -> Option β} {r : Option β} (h : I3 (some x) a b = r) : b x = r := h
end
section
variable {P : Program} {A : BB} {AD : A3} {st : St} {σ Ans : Type}
def LP (A : BB) (S : σ -> St) (Q : Ans -> Exit -> St -> Prop) : σ ⊕ Ans -> Exit -> St -> Prop
 | .inl s, e, st => e = .normal /\ A8 A st (S s)
 | .inr a, e, st => e ≠ .normal /\ Q a e st
theorem lp {c : Code} {Q : Ans -> Exit -> St -> Prop} {a : Ans} (I : σ -> St) {step : σ -> Option (σ ⊕ Ans)} {s0 : σ} (h : AT step s0 = some a) (hw : A8 A st (I s0))
  (hb : ∀ s b, step s = some b -> B0 P A c (LP A I Q b) (I s)) : B0 P A (.loop c) (Q a) st := by
 obtain ⟨n, hn⟩ := KT h
 refine YU (ι := Nat × σ) (fun i s => Es step i.1 i.2 = some a /\ A8 A s (I i.2)) (fun i => i.1) (n, s0) ⟨hn, hw⟩ ?_
 rintro ⟨n, s⟩ st' ⟨hi, hws⟩
 refine NH hws ?_
 cases n with
 | zero => cases hi
 | succ n =>
  simp only [Es] at hi
  cases hs : step s with
  | none => rw [hs] at hi; cases hi
  | some r =>
   rw [hs] at hi
   refine Kg (hb s r hs) fun e st'' q => ?_
   cases r with
   | inl s' =>
    obtain ⟨he, hw'⟩ := q
    subst he
    exact ⟨(n, s'), ⟨hi, hw'⟩, Nat.lt_succ_self n⟩
   | inr a' =>
    obtain ⟨he, hq⟩ := q
    simp only [Option.some.injEq] at hi
    subst hi
    cases e <;> first | exact absurd rfl he | exact hq
theorem jn {x y : Code} {Q : Ans -> Exit -> St -> Prop} {a : Ans} (S : σ -> St) {sp : Option (σ ⊕ Ans)} {rest : σ -> Option Ans} (h : EH sp rest = some a)
  (hx : ∀ b, sp = some b -> B0 P A x (LP A S Q b) st) (hy : ∀ t, rest t = some a -> B0 P A y (Q a) (S t)) : B0 P A (.seq x y) (Q a) st := by
 refine AB ?_
 cases hs : sp with
 | none => rw [hs] at h; cases h
 | some r =>
  rw [hs] at h
  refine Kg (hx r hs) fun e st' q => ?_
  cases r with
  | inl t =>
   obtain ⟨he, hw⟩ := q
   subst he
   exact NH hw (hy t h)
  | inr a' =>
   obtain ⟨he, hq⟩ := q
   simp only [EH, Option.some.injEq] at h
   subst h
   cases e <;> first | exact absurd rfl he | exact hq
def NP (A : BB) (S : σ -> St) (s : σ) (e : Exit) (st : St) : Prop := e = .normal /\ A8 A st (S s)
theorem jb {x y : Code} {Q : Exit -> St -> Prop} {a : Ans} (S : σ -> St) {sp : Option σ} {rest : σ -> Option Ans} (h : sp.bind rest = some a)
  (hx : ∀ t, sp = some t -> B0 P A x (NP A S t) st) (hy : ∀ t, rest t = some a -> B0 P A y Q (S t)) : B0 P A (.seq x y) Q st := by
 obtain ⟨t, h1, h2⟩ := bd h
 refine AB (Kg (hx t h1) fun e st' q => ?_)
 obtain ⟨he, hw⟩ := q
 subst he
 exact NH hw (hy t h2)
theorem rg (hE : BA P AD) {id : Nat} {ops : List Oper} {Q : Exit -> St -> Prop} (k : Ey P A AD ⟨Q .normal, ⟨⟩⟩ (ops.map (OR ops)) st) : B0 P A (.region id ops.toArray false) Q st := Yj hE rfl k
theorem rs (hE : BA P AD) {id : Nat} {ops : List Oper} {y : Code} {Q : Exit -> St -> Prop} (k : Ey P A AD ⟨B0 P A y Q, ⟨⟩⟩ (ops.map (OR ops)) st) : B0 P A (.seq (.region id ops.toArray false) y) Q st := Zk hE rfl k
theorem Bu (hE : BA P AD) (hm : P.follows .mixedOrders = true) {id : Nat} {ops : List Oper} {Q : Exit -> St -> Prop} {nt : Nat} {sl : List (Nat × LV)} {h : AP} {c : Nat} (order : List Nat) (n : Nat)
  (hok : IE false AD.own .any ops.toArray order (Array.replicate ops.length false) = true) (hl : Nat.beq order.length ops.length = true) (hb : (order.all fun i => Nat.blt i ops.length) = true) (hn : Nat.beq ops.length n = true)
  (k : C8 P A AD c n ⟨Q .normal, ⟨⟩⟩ (GD ops order) ⟨nt, sl, h, c⟩) : B0 P A (.region id ops.toArray true) Q ⟨nt, sl, h, c⟩ := by
 have hb' : (order.all fun i => decide (i < ops.length)) = true := by
  rw [List.all_eq_true] at hb ⊢
  intro i hi
  have := Nat.le_of_ble_eq_true (hb i hi)
  simp only [decide_eq_true_eq]; omega
 have hn' := Nat.eq_of_beq_eq_true hn
 subst hn'
 exact Iz false (fun h => by cases h) hE hm hok (Nat.eq_of_beq_eq_true hl) (Ji order _ hb' k)
theorem cd {x : Operand} {cx cy : Code} {Q : Exit -> St -> Prop} {nt : Nat} {sl : List (Nat × LV)} {h : AP} {c : Nat} {b : Bool} {p q : Option Ans} {a : Ans} (hb : BD nt sl x = .p (.bool b)) (hh : cond b p q = some a)
  (hx : p = some a -> B0 P A cx Q ⟨nt, sl, h, c⟩) (hy : q = some a -> B0 P A cy Q ⟨nt, sl, h, c⟩) : B0 P A (.cond x cx cy) Q ⟨nt, sl, h, c⟩ := by
 refine QF (b := b) (by rw [<- BE]; exact hb) (fun e => ?_) (fun e => ?_)
 .subst e; exact hx hh
 subst e; exact hy hh
theorem Qy {x : Operand} {cx cy : Code} {Q : Exit -> St -> Prop} {nt : Nat} {sl : List (Nat × LV)} {h : AP} {c : Nat} (hb : BD nt sl x = .p (.bool true)) (hx : B0 P A cx Q ⟨nt, sl, h, c⟩) : B0 P A (.cond x cx cy) Q ⟨nt, sl, h, c⟩ :=
 QF (b := true) (by rw [<- BE]; exact hb) (fun _ => hx) (fun e => by cases e)
theorem SM {x : Operand} {cx cy : Code} {Q : Exit -> St -> Prop} {nt : Nat} {sl : List (Nat × LV)} {h : AP} {c : Nat} (hb : BD nt sl x = .p (.bool false)) (hx : B0 P A cy Q ⟨nt, sl, h, c⟩) : B0 P A (.cond x cx cy) Q ⟨nt, sl, h, c⟩ :=
 QF (b := false) (by rw [<- BE]; exact hb) (fun e => by cases e) (fun _ => hx)
end
end Go.E
/- Rules for single operations of a walk in step with a plain function. No condition. -/
namespace Go.E
open Go Go.RowKit
section
variable {β : Type}
def WX (t : Nat) (v : LV) : List (Nat × LV) -> (List (Nat × LV) -> Option β) -> Option β
 | [], _ => none
 | (q, u) :: l, k => match Nat.beq t q with
  | true => k ((q, v) :: l)
  | false => WX t v l (fun r => k ((q, u) :: r))
theorem Vp {t : Nat} {v : LV} : ∀ {l : List (Nat × LV)} {k : List (Nat × LV) -> Option β} {y : β}, Bc t l = some v -> WX t v l k = some y -> k l = some y
 | [], _, _, h, _ => by simp [Bc] at h
 | (q, u) :: l, k, y, h, hr => by
  simp only [Bc] at h
  simp only [WX] at hr
  split at h
  .rename_i hb
   rw [hb] at hr
   simp only [Option.some.injEq] at h
   subst h; exact hr
  rename_i hb
  rw [hb] at hr
  exact Vp (k := fun r => k ((q, u) :: r)) h hr
def Xi (t : Nat) (v : LV) (l : List (Nat × LV)) : Option (List (Nat × LV)) := WX t v l some
theorem Qz {t : Nat} {v : LV} {l l' : List (Nat × LV)} (h : Bc t l = some v) (hr : Xi t v l = some l') : l = l' := by
 have := Vp h hr
 simpa using this
theorem NQ {nt t : Nat} {sl : List (Nat × LV)} {d : DV} (h : BD nt sl (.tmp t) = .p d) : Bc t sl = some (.p d) := by
 simp only [BD] at h
 split at h
 .split at h
  .subst h; assumption
  cases h
 cases h
def ZQ (nt : Nat) (sl : List (Nat × LV)) : Option (Option Tmp × Bool) -> Bool
 | none => true
 | some (some d, want) => match BD nt sl (.tmp d) with
  | .p (.bool b) => Ku b want
  | _ => false
 | some (none, _) => false
theorem Ts {nt : Nat} {sl : List (Nat × LV)} {d : Tmp} {want : Bool} (h : ZQ nt sl (some (some d, want)) = true) : BD nt sl (.tmp d) = .p (.bool want) := by
 simp only [ZQ] at h
 split at h
 .rename_i b hb; rw [hb, Kv h]
 cases h
end
section
variable {P : Program} {A : BB} {AD : A3} {f : St -> Prop} {hf : HT f} {nt : Nat} {sl : List (Nat × LV)} {h : AP} {c : Nat} {Ans : Type}
theorem gs (t : Nat) {ms : List HW} {b : Bool} {p q : Option Ans} {a : Ans} {slT slF : List (Nat × LV)} (hh : cond b p q = some a) (hv : BD nt sl (.tmp t) = .p (.bool b))
  (hT : Xi t (.p (.bool true)) sl = some slT) (hF : Xi t (.p (.bool false)) sl = some slF)
  (hx : p = some a -> Ey P A AD ⟨f, hf⟩ ms ⟨nt, slT, h, c⟩) (hy : q = some a -> Ey P A AD ⟨f, hf⟩ ms ⟨nt, slF, h, c⟩) : Ey P A AD ⟨f, hf⟩ ms ⟨nt, sl, h, c⟩ := by
 cases b with
 | true => rw [Qz (NQ hv) hT]; exact hx hh
 | false => rw [Qz (NQ hv) hF]; exact hy hh
theorem DZ (t : Nat) {base m : Nat} {ms : List (Nat × HW)} {b : Bool} {p q : Option Ans} {a : Ans} {slT slF : List (Nat × LV)} (hh : cond b p q = some a) (hv : BD nt sl (.tmp t) = .p (.bool b))
  (hT : Xi t (.p (.bool true)) sl = some slT) (hF : Xi t (.p (.bool false)) sl = some slF)
  (hx : p = some a -> C8 P A AD base m ⟨f, hf⟩ ms ⟨nt, slT, h, c⟩) (hy : q = some a -> C8 P A AD base m ⟨f, hf⟩ ms ⟨nt, slF, h, c⟩) : C8 P A AD base m ⟨f, hf⟩ ms ⟨nt, sl, h, c⟩ := by
 cases b with
 | true => rw [Qz (NQ hv) hT]; exact hx hh
 | false => rw [Qz (NQ hv) hF]; exact hy hh
theorem sx {dst : Option Tmp} {op : Op} {g : Option (Option Tmp × Bool)} {rest : List HW} (hg : ZQ nt sl g = true) (k : BC P A AD ⟨nt, sl, h, c⟩ dst op ⟨Ey P A AD ⟨f, hf⟩ rest, ⟨⟩⟩) :
  Ey P A AD ⟨f, hf⟩ (⟨dst, op, g⟩ :: rest) ⟨nt, sl, h, c⟩ := by
 cases g with
 | none => exact k
 | some g =>
  obtain ⟨d, want⟩ := g
  cases d with
  | none => cases hg
  | some d =>
   have := Ts hg
   simp only [Ey, Fg, <- BE (h := h) (c := c), this, gM, gW]
   exact ⟨fun _ => k, fun e => by cases want <;> cases e⟩
theorem Au {base m i : Nat} {dst : Option Tmp} {op : Op} {g : Option (Option Tmp × Bool)} {rest : List (Nat × HW)} (hg : ZQ nt sl g = true) (k : Jh P A AD ⟨nt, sl, h, base + i⟩ dst op ⟨C8 P A AD base m ⟨f, hf⟩ rest, ⟨⟩⟩) :
  C8 P A AD base m ⟨f, hf⟩ ((i, ⟨dst, op, g⟩) :: rest) ⟨nt, sl, h, c⟩ := by
 cases g with
 | none => exact k
 | some g =>
  obtain ⟨d, want⟩ := g
  cases d with
  | none => cases hg
  | some d =>
   have := Ts hg
   simp only [C8, Fg, <- BE (h := h) (c := c), this, gM, gW]
   exact ⟨fun _ => k, fun e => by cases want <;> cases e⟩
def Zs : Op -> Bool
 | .binOp .. | .call _ | .range .. | .next .. | .entry .. | .load .. | .store .. => false
 | _ => true
theorem Ai {st : St} {dst : Option Tmp} {op : Op} {K : A5 St} (hp : Zs op = true) (k : BC P A AD st dst op K) : Jh P A AD st dst op K := by
 cases op <;> first | exact k | cases hp
theorem GV {nt : Nat} {sl : List (Nat × LV)} {h : AP} {c : Nat} {dst : Option Tmp} {t : TypeId} {x : Operand} {K : A5 St} (hc : MM AD.calm (BD nt sl x) = true) (k : BC P A AD ⟨nt, sl, h, c⟩ dst (.load t x) K) : Jh P A AD ⟨nt, sl, h, c⟩ dst (.load t x) K := ⟨by rw [<- BE (h := h) (c := c)]; exact hc, k⟩
theorem MU {nt : Nat} {sl : List (Nat × LV)} {h : AP} {c : Nat} {dst : Option Tmp} {t : TypeId} {x v : Operand} {K : A5 St} (hc : Ki AD.calm (BD nt sl x) = true) (k : BC P A AD ⟨nt, sl, h, c⟩ dst (.store t x v) K) : Jh P A AD ⟨nt, sl, h, c⟩ dst (.store t x v) K := ⟨by rw [<- BE (h := h) (c := c)]; exact hc, k⟩
theorem I4 {nt : Nat} {sl : List (Nat × LV)} {h : AP} {c : Nat} {dst : Option Tmp} {args : Array Operand} {ts : Array TypeId} {K : A5 St} (hc : (match args.toList with | s :: _ => Qm AD.calm (BD nt sl s) | [] => false) = true) (k : BC P A AD ⟨nt, sl, h, c⟩ dst (.call ⟨.builtin .append, args, ts⟩) K) : Jh P A AD ⟨nt, sl, h, c⟩ dst (.call ⟨.builtin .append, args, ts⟩) K := by
 unfold Jh
 simp only
 split
 all_goals simp_all
 rw [<- BE (h := h) (c := c)]; exact hc
def Q0 (AD : A3) (t : Nat) : Bool := match AD.tt t with
 | some ti => match ti.sh with
  | .slc _ => true
  | _ => false
 | none => false
def WY (AD : A3) (t : Nat) : Bool := match AD.tt t with
 | some ti => match ti.sh with
  | .str => true
  | _ => false
 | none => false
theorem Ys {t : Nat} (h : WY AD t = true) : ∃ ti, AD.tt t = some ti /\ ti.sh = .str := by
 unfold WY at h
 split at h
 .rename_i ti hti
  split at h
  .rename_i he; exact ⟨ti, hti, he⟩
  cases h
 cases h
theorem QN {t : Nat} (h : Q0 AD t = true) : ∃ ti e, AD.tt t = some ti /\ ti.sh = .slc e := by
 unfold Q0 at h
 split at h
 .rename_i ti hti
  split at h
  .rename_i e he; exact ⟨ti, e, hti, he⟩
  cases h
 cases h
def NR (AD : A3) (t sz : Nat) : Bool := match AD.tt t with
 | some ti => match ti.sh with
  | .slc e => match AD.tt e with
   | some te => Nat.beq te.size sz
   | none => false
  | _ => false
 | none => false
theorem NS {t sz : Nat} (h : NR AD t sz = true) : ∃ ti e te, AD.tt t = some ti /\ ti.sh = .slc e /\ AD.tt e = some te /\ te.size = sz := by
 unfold NR at h
 split at h
 .rename_i ti hti
  split at h
  .rename_i e he
   split at h
   .rename_i te hte; exact ⟨ti, e, te, hti, he, hte, Nat.eq_of_beq_eq_true h⟩
   cases h
  cases h
 cases h
variable {α : Type} {enc : α -> List DV} {l : List α} {d : Tmp} {t sz : Nat} {x : Operand}
theorem Ab (ht : Q0 AD t = true) (hx : BD nt sl x = .p (.slice sz (l.map enc))) (k : f ⟨nt, (d, .p (.int .i64 l.length)) :: sl, h, c⟩) : BC P A AD ⟨nt, sl, h, c⟩ (some d) (.call ⟨.builtin .len, #[x], #[t]⟩) ⟨f, hf⟩ := by
 obtain ⟨ti, e, h1, h2⟩ := QN ht
 refine AQ.2 ⟨ti, h1, ?_⟩
 rw [BE (h := h) (c := c)] at hx
 dsimp only
 rw [h2, hx]
 intro _
 simp only [List.length_map]
 exact k
theorem Jm (ht : Q0 AD t = true) (hx : BD nt sl x = .p (.slice sz (l.map enc))) (k : f ⟨nt, (d, .p (.int .i64 l.length)) :: sl, h, c⟩) : Jh P A AD ⟨nt, sl, h, c⟩ (some d) (.call ⟨.builtin .len, #[x], #[t]⟩) ⟨f, hf⟩ := by
 obtain ⟨ti, e, h1, h2⟩ := QN ht
 refine AQ.2 ⟨ti, h1, ?_⟩
 rw [BE (h := h) (c := c)] at hx
 dsimp only
 rw [h2, hx]
 simp only [WS, List.length_map]
 exact k
theorem Ac {i : Operand} {kk : IntKind} {n : Int} {y : α} (hy : AX l n = some y) (ht : NR AD t sz = true) (hx : BD nt sl x = .p (.slice sz (l.map enc))) (hi : BD nt sl i = .p (.int kk n))
  (k : f ⟨nt, (d, .p (.place (enc y) 0)) :: sl, h, c⟩) : BC P A AD ⟨nt, sl, h, c⟩ (some d) (.indexAddr t x i) ⟨f, hf⟩ := by
 obtain ⟨ti, e, te, h1, h2, h3, h4⟩ := NS ht
 obtain ⟨g1, g2, g3⟩ := FR hy
 rw [BE (h := h) (c := c)] at hx hi
 refine B7.2 ⟨kk, n, hi, AQ.2 ⟨ti, h1, ?_⟩⟩
 dsimp only
 rw [h2, hx]
 exact AQ.2 ⟨te, h3, h4, g1, AR.2 ⟨enc y, by rw [List.getElem?_map, g3]; rfl, k⟩⟩
theorem Of {s : ByteArray} {i : Operand} {kk : IntKind} {n : Int} {y : UInt8} (hy : J8 s n = some y) (ht : WY AD t = true) (hx : BD nt sl x = .p (.str s)) (hi : BD nt sl i = .p (.int kk n))
  (k : f ⟨nt, (d, .p (.int .u8 y.toNat)) :: sl, h, c⟩) : BC P A AD ⟨nt, sl, h, c⟩ (some d) (.index t x i) ⟨f, hf⟩ := by
 obtain ⟨ti, hti, hsh⟩ := Ys ht
 rw [BE (h := h) (c := c)] at hx hi
 cases n with
 | negSucc n => cases hy
 | ofNat n =>
  refine B7.2 ⟨kk, _, hi, AQ.2 ⟨ti, hti, Int.natCast_nonneg n, ?_⟩⟩
  dsimp only
  rw [hsh, hx]
  exact AR.2 ⟨y, hy, k⟩
def Og (nt : Nat) (sl : List (Nat × LV)) (d : Int) : Option Operand -> Option Int
 | none => some d
 | some o => match BD nt sl o with
  | .p (.int _ n) => some n
  | _ => none
theorem PZ {d n : Int} {x : Option Operand} {k : A5 Int} (hb : Og nt sl d x = some n) (hk : k.f n) : Km d (x.map (St.eval ⟨nt, sl, h, c⟩)) k := by
 cases x with
 | none => simp only [Og, Option.some.injEq] at hb; subst hb; exact hk
 | some o =>
  simp only [Og, BE (h := h) (c := c)] at hb
  simp only [Option.map_some]
  split at hb
  .rename_i kk m he
   simp only [Option.some.injEq] at hb
   subst hb
   rw [he]; exact hk
  cases hb
theorem TH {lo hi : Option Operand} {n m : Int} {r : List α} (hr : KN l n m = some r) (ht : NR AD t sz = true) (hx : BD nt sl x = .p (.slice sz (l.map enc)))
  (hlo : Og nt sl 0 lo = some n) (hhi : Og nt sl l.length hi = some m)
  (k : f ⟨nt, (d, .p (.slice sz (r.map enc))) :: sl, h, c⟩) : BC P A AD ⟨nt, sl, h, c⟩ (some d) (.slice t x lo hi none) ⟨f, hf⟩ := by
 obtain ⟨ti, e, te, h1, h2, h3, h4⟩ := NS ht
 rw [BE (h := h) (c := c)] at hx
 simp only [KN] at hr
 split at hr
 .rename_i hb
  simp only [Option.some.injEq] at hr
  subst hr
  show Kn AD t _ _ _ _
  rw [hx]
  refine AQ.2 ⟨ti, h1, B2.2 ⟨e, h2, AQ.2 ⟨te, h3, h4, ?_⟩⟩⟩
  rw [List.length_map]
  refine PZ hhi (PZ hlo ⟨hb, ?_⟩)
  rw [<- List.map_take, <- List.map_drop]; exact k
 cases hr
end
end Go.E
/- Rules for single operations: calls, what is appended, made, looked up, set against another. No condition. -/
namespace Go.E
open Go Go.RowKit
inductive LW : List DV -> List DV -> Prop where
 | nil : LW [] []
 | cons {a b : DV} {l m : List DV} (h : Le a b) (t : LW l m) : LW (a :: l) (b :: m)
theorem Le.rfl {d : DV} : Le d d := fun _ _ _ h => h
theorem LW.rfl : ∀ {l : List DV}, LW l l
 | [] => .nil
 | _ :: _ => .cons Le.rfl LW.rfl
theorem LW.len {l m : List DV} (h : LW l m) : l.length = m.length := by induction h with
 | nil => exact Eq.refl _
 | cons _ _ ih => simp [ih]
theorem LW.get {l m : List DV} (h : LW l m) : ∀ (i : Nat) (a b : DV), l[i]? = some a -> m[i]? = some b -> Le a b := by
 induction h with
 | nil => intro i a b h1; simp at h1
 | cons h _ ih =>
  intro i x y h1 h2
  cases i with
  | zero => simp at h1 h2; subst h1 h2; exact h
  | succ i => exact ih i x y (by simpa using h1) (by simpa using h2)
theorem Le.tup' {l m : List DV} (h : LW l m) : Le (.tup l) (.tup m) := Le.tup h.len h.get
theorem Le.agg' {l m : List DV} (h : LW l m) : Le (.agg l) (.agg m) := Le.agg h.len h.get
theorem Le.nilm : Le .nilm (.map []) := fun _ _ _ hv => by cases hv; exact .mnil
theorem Le.own {α : Type} {enc : α -> List DV} {l : List α} {sz : Nat} : Le (.slice sz (((l.map enc).drop 0).take l.length)) (.slice sz (l.map enc)) := Le.of_eq (by rw [List.drop_zero, List.take_of_length_le (by simp)])
theorem Ax.le {P : Program} {k : Nat} {ds ds' : List DV} {Q : DV -> Prop} (h : Ax P k ds Q) (hl : LW ds' ds) : Ax P k ds' Q :=
 ⟨h.enters, fun O w vs h1 h2 h3 => h.run O w vs h1 (by rw [h2, hl.len]) fun i v d hv hd => by
  have hi := (List.getElem?_eq_some_iff.1 hd).1
  have hlen := hl.len
  have hx : ds'[i]? = some (ds'[i]'(by omega)) := List.getElem?_eq_getElem _
  exact hl.get i _ d hx hd _ _ _ (h3 i v _ hv hx)⟩
theorem GQ.le {P : Program} {k : Nat} {ds ds' : List DV} {e sz : Nat} {el : List (List DV)} (h : GQ P k ds e sz el) (hl : LW ds' ds) : GQ P k ds' e sz el :=
 ⟨h.enters, fun O w vs h1 h2 h3 => h.run O w vs h1 (by rw [h2, hl.len]) fun i v d hv hd => by
  have hi := (List.getElem?_eq_some_iff.1 hd).1
  have hlen := hl.len
  have hx : ds'[i]? = some (ds'[i]'(by omega)) := List.getElem?_eq_getElem _
  exact hl.get i _ d hx hd _ _ _ (h3 i v _ hv hx)⟩
section
variable {κ υ : Type} [BEq κ]
def Ah (m : List (κ × υ)) (x : κ) : Option υ := match m with
 | [] => none
 | p :: m => if x == p.1 then some p.2 else Ah m x
def A2 (x : κ) (v : υ) : List (κ × υ) -> List (κ × υ)
 | [] => [(x, v)]
 | p :: m => if x == p.1 then (p.1, v) :: m else p :: A2 x v m
structure HN (AD : A3) (kt : Nat) (ke : κ -> DV) : Prop where
 eq : ∀ a b, DI (ke a) (ke b) = (a == b)
 fits : ∀ a, BV AD kt (ke a) = true
theorem HN.to {AD env' : A3} {kt : Nat} {ke : κ -> DV} (h : HN AD kt ke) (hf : ∀ a, BV env' kt (ke a) = BV AD kt (ke a)) : HN env' kt ke := ⟨h.eq, fun a => (hf a).trans (h.fits a)⟩
def An (ke : κ -> DV) (ve : υ -> DV) (m : List (κ × υ)) : List (DV × DV) := m.map fun p => (ke p.1, ve p.2)
variable {AD : A3} {kt : Nat} {ke : κ -> DV} {ve : υ -> DV}
theorem LX (hk : HN AD kt ke) (x : κ) : ∀ m : List (κ × υ), Ez (ke x) (An ke ve m) = (Ah m x).map ve
 | [] => by simp [An, Ez, CS, Ah]
 | p :: m => by
  have ih := LX hk x m
  simp only [An, Ez] at ih
  simp only [An, List.map_cons, Ez, CS, hk.eq, Ah]
  by_cases h : (x == p.1) = true
  .simp [h]
  simp only [h]
  simp only [Bool.false_eq_true, if_false, Option.map_map]
  rw [<- ih]
  cases CS (ke x) (m.map fun p => (ke p.1, ve p.2)) <;> simp
theorem SN (hk : HN AD kt ke) (x : κ) (v : υ) : ∀ m : List (κ × υ), Lz (ke x) (ve v) (An ke ve m) = An ke ve (A2 x v m)
 | [] => by simp [An, Lz, A2]
 | p :: m => by
  have ih := SN hk x v m
  simp only [An] at ih
  simp only [An, List.map_cons, Lz, hk.eq, A2]
  by_cases h : (x == p.1) = true
  .simp [h]
  simp only [h]
  simp only [Bool.false_eq_true, if_false, List.map_cons, ih]
theorem Jn (hk : HN AD kt ke) (m : List (κ × υ)) : ((An ke ve m).all fun p => BV AD kt p.1) = true := by
 simp only [An, List.all_map, List.all_eq_true, Function.comp]
 intro p _; exact hk.fits _
end
section
variable {β : Type}
def Ry (t : Nat) : AP -> (AP -> Option β) -> Option β
 | [], k => k []
 | (q, u) :: l, k => match Nat.beq t q with
  | true => Ry t l k
  | false => Ry t l (fun r => k ((q, u) :: r))
theorem Pa {t : Nat} : ∀ {l : AP} {k : AP -> Option β}, Ry t l k = k (F9 t l)
 | [], k => rfl
 | (q, u) :: l, k => by
  simp only [Ry, F9]
  by_cases h : t = q
  .subst h; simp only [Nat.beq_refl, if_true]; exact Pa
  have : Nat.beq t q = false := by
   cases hb : Nat.beq t q with
   | false => rfl
   | true => exact absurd (Nat.eq_of_beq_eq_true hb) h
  rw [this, if_neg h]
  exact Pa
end
section
variable {P : Program} {A : BB} {AD : A3} {f : St -> Prop} {hf : HT f} {nt : Nat} {sl : List (Nat × LV)} {h : AP} {c : Nat} {d : Tmp}
theorem H4 {args : List Operand} {ls : List LV} (hl : D8 nt sl args some = some ls) : args.map (St.eval ⟨nt, sl, h, c⟩) = ls := by
 rw [Jl, Option.some.injEq] at hl
 rw [<- hl]
 exact List.map_congr_left fun x _ => (BE (h := h) (c := c)).symm
theorem AM {fo : Operand} {args : Array Operand} {ts : Array TypeId} {k : Nat} {caps ls : List LV} {ds : List DV} {r : DV} (hF : Ax P k ds (· = r)) (hs : r.scalar = true \/ (ls ++ caps).flatMap (D5 h) = [])
  (hfn : BD nt sl fo = .fn k caps) (hl : D8 nt sl args.toList some = some ls) (hds : Bs h (ls ++ caps) = some ds) (kk : f ⟨nt, (d, .p r) :: sl, h, c⟩) : BC P A AD ⟨nt, sl, h, c⟩ (some d) (.call ⟨.value fo, args, ts⟩) ⟨f, hf⟩ := by
 rw [BE (h := h) (c := c)] at hfn
 show Nx _ _
 rw [hfn]
 show JM P A h c k (args.toList.map _ ++ caps) _
 rw [H4 hl]
 exact ABO hds hF hs kk
theorem A4 {fo : Operand} {args : Array Operand} {ts : Array TypeId} {k : Nat} {caps ls : List LV} {ds : List DV} {r : DV} (hF : Ax P k ds (· = r)) (hs : r.scalar = true \/ (ls ++ caps).flatMap (D5 h) = [])
  (hfn : (Dn fo, BD nt sl fo) = (false, .fn k caps)) (hl : D8 nt sl args.toList some = some ls) (hds : Bs h (ls ++ caps) = some ds) (kk : f ⟨nt, (d, .p r) :: sl, h, c⟩) : Jh P A AD ⟨nt, sl, h, c⟩ (some d) (.call ⟨.value fo, args, ts⟩) ⟨f, hf⟩ := by
 obtain ⟨hnd, hfn⟩ := Prod.mk.inj hfn
 rw [BE (h := h) (c := c)] at hfn
 show (if Dn fo = true then _ else Nx _ _)
 rw [if_neg (by rw [hnd]; decide)]
 rw [hfn]
 refine .inl ?_
 show Ym P h k (args.toList.map _ ++ caps) _
 rw [H4 hl]
 exact ABx hds hF hs kk
def Tt (AD : A3) (t e sz : Nat) : Bool := match AD.tt t with
 | some ti => match ti.sh with
  | .slc e' => match AD.tt e with
   | some te => Nat.beq e' e && (Nat.beq te.size sz && (Nat.blt 0 sz && Nat.ble te.bytes 32768))
   | none => false
  | _ => false
 | none => false
theorem Rz {t e sz : Nat} (h : Tt AD t e sz = true) : ∃ ti te, AD.tt t = some ti /\ ti.sh = .slc e /\ AD.tt e = some te /\ te.size = sz /\ 0 < sz /\ te.bytes <= 32768 := by
 unfold Tt at h
 split at h
 .rename_i ti hti
  split at h
  .rename_i e' he
   split at h
   .rename_i te hte
    simp only [Bool.and_eq_true] at h
    obtain ⟨h1, h2, h3, h4⟩ := h
    have := Nat.eq_of_beq_eq_true h1
    subst this
    exact ⟨ti, te, hti, he, hte, Nat.eq_of_beq_eq_true h2, Nat.le_of_ble_eq_true h3, Nat.le_of_ble_eq_true h4⟩
   cases h
  cases h
 cases h
variable {α : Type} {enc : α -> List DV} {l m r : List α} {t e sz : Nat} {s x : Operand}
def ZR (enc : α -> List DV) (sz : Nat) : Prop := ∀ a, (enc a).length = sz /\ (enc a).all DV.cell = true
theorem Xj (hr : Bt l m = some r) : r = l ++ m /\ l.length + m.length <= 4294967296 := by
 simp only [Bt] at hr
 split at hr
 .simp only [Option.some.injEq] at hr; exact ⟨hr.symm, ‹_›⟩
 cases hr
theorem Xk {n b : Nat} (hb : b <= 32768) (hn : n <= 4294967296) : n * b <= 140737488355328 :=
 Nat.le_trans (Nat.mul_le_mul hn hb) (by decide)
theorem Zt {n : Nat} (hn : n <= 4294967296) : n <= maxLen := by unfold maxLen; omega
theorem BX {id n : Nat} {h' : AP} (hr : Bt l m = some r) (hen : ZR enc sz) (hs : BD nt sl s = .lsl id sz 0 n) (hl : Bc id h = some (.row e sz (l.map enc))) (hn : n = l.length) (hd : Ry id h some = some h')
  (hx : LN h (BD nt sl x) = some (m.map enc)) (ht : Tt AD t e sz = true)
  (k : f ⟨nt, (d, .lsl c sz 0 r.length) :: sl, (c, .row e sz (r.map enc)) :: h', c + 1⟩) : BC P A AD ⟨nt, sl, h, c⟩ (some d) (.call ⟨.builtin .append, #[s, x], #[t, t]⟩) ⟨f, hf⟩ := by
 obtain ⟨ti, te, h1, h2, h3, h4, h5, h6⟩ := Rz ht
 obtain ⟨rfl, hb⟩ := Xj hr
 rw [BE (h := h) (c := c)] at hs hx
 rw [Pa, Option.some.injEq] at hd
 rw [BN] at hl
 subst h4 hn hd
 refine ⟨rfl, AQ.2 ⟨ti, h1, B2.2 ⟨e, h2, AQ.2 ⟨te, h3, h5, AR.2 ⟨_, hx, ?_, ?_⟩⟩⟩⟩⟩
 .intro y hy
  obtain ⟨a, _, rfl⟩ := List.mem_map.1 hy
  exact hen a
 rw [hs]
 simp only [WO]
 refine ⟨trivial, AR.2 ⟨_, hl, ?_⟩⟩
 dsimp only
 refine D7.2 ⟨e, te.size, l.map enc, rfl, ?_⟩
 refine ⟨⟨rfl, rfl, by simp, by rw [List.length_map]; exact Xk h6 hb, by rw [List.length_map]; exact Zt hb⟩, ?_⟩
 have e1 : ((l.map enc).drop 0).take l.length ++ m.map enc = (l ++ m).map enc := by rw [List.drop_zero, List.take_of_length_le (by simp), List.map_append]
 rw [List.length_append] at k
 simp only [e1, List.length_map]
 exact k
theorem By {i : Operand} {kk : IntKind} {n : Int} {id len : Nat} {y : α} (hy : AX l n = some y) (ht : NR AD t sz = true) (hx : BD nt sl x = .lsl id sz 0 len) (hi : BD nt sl i = .p (.int kk n)) (hn : len = l.length)
  (k : f ⟨nt, (d, .lpe id n.toNat 0) :: sl, h, c⟩) : BC P A AD ⟨nt, sl, h, c⟩ (some d) (.indexAddr t x i) ⟨f, hf⟩ := by
 obtain ⟨ti, e, te, h1, h2, h3, h4⟩ := NS ht
 obtain ⟨g1, g2, g3⟩ := FR hy
 rw [BE (h := h) (c := c)] at hx hi
 refine B7.2 ⟨kk, n, hi, AQ.2 ⟨ti, h1, ?_⟩⟩
 dsimp only
 rw [h2, hx]
 refine AQ.2 ⟨te, h3, h4, ⟨g1, by omega⟩, ?_⟩
 simp only [Nat.zero_add]
 exact k
theorem C5 {n : Int} {id o : Nat} {y : α} {v : LV} (hy : AX l n = some y) (hx : BD nt sl x = .lpe id n.toNat o) (hl : Bc id h = some (.row e sz (l.map enc)))
  (hv : (match AD.tt t with | some ti => Qw ti o (enc y) some | none => none) = some v) (k : f ⟨nt, (d, v) :: sl, h, c⟩) : BC P A AD ⟨nt, sl, h, c⟩ (some d) (.load t x) ⟨f, hf⟩ := by
 obtain ⟨g1, g2, g3⟩ := FR hy
 rw [BE (h := h) (c := c)] at hx
 rw [BN] at hl
 split at hv
 .rename_i ti hti
  rw [QK] at hv
  obtain ⟨u, h1, h2⟩ := Option.bind_eq_some_iff.1 hv
  simp only [Option.some.injEq] at h2
  subst h2
  refine AQ.2 ⟨ti, hti, ?_⟩
  rw [hx]
  refine AR.2 ⟨_, hl, ?_⟩
  dsimp only
  refine D7.2 ⟨e, sz, l.map enc, rfl, ?_⟩
  exact AR.2 ⟨enc y, by rw [List.getElem?_map, g3]; rfl, AR.2 ⟨u, h1, k⟩⟩
 cases hv
theorem LY {n : Int} {id o : Nat} {y z : α} {v : Operand} {ls : List LV} {ds : List DV} {h' : AP} (hy : AX l n = some y) (hx : BD nt sl x = .lpe id n.toNat o) (hl : Bc id h = some (.row e sz (l.map enc)))
  (hc : Ks (BD nt sl v) some = some ls) (hds : GR ls = some ds) (hsz : (match AD.tt t with | some ti => Nat.beq ls.length ti.size && OW ls | none => false) = true) (hz : CN (enc y) o ds = enc z) (hlen : Nat.ble (o + ls.length) (enc y).length = true)
  (hu : J7 id (.row e sz ((A6 l n z).map enc)) h some = some h') (k : f ⟨nt, sl, h', c⟩) : BC P A AD ⟨nt, sl, h, c⟩ none (.store t x v) ⟨f, hf⟩ := by
 obtain ⟨g1, g2, g3⟩ := FR hy
 rw [BE (h := h) (c := c)] at hx hc
 rw [BN] at hl
 rw [Fy, Option.some.injEq] at hu
 subst hu
 split at hsz
 .rename_i ti hti
  simp only [Bool.and_eq_true] at hsz
  rw [Jk, Option.bind_eq_some_iff] at hc
  obtain ⟨ls', h1, h2⟩ := hc
  simp only [Option.some.injEq] at h2
  subst h2
  refine AQ.2 ⟨ti, hti, AR.2 ⟨ls', h1, ⟨Nat.eq_of_beq_eq_true hsz.1, by rw [<- OX]; exact hsz.2⟩, ?_⟩⟩
  rw [hx]
  refine AR.2 ⟨_, hl, ?_⟩
  dsimp only
  refine D7.2 ⟨e, sz, l.map enc, rfl, ?_⟩
  refine AR.2 ⟨enc y, by rw [List.getElem?_map, g3]; rfl, AR.2 ⟨ds, hds, Nat.le_of_ble_eq_true hlen, ?_⟩⟩
  dsimp only
  rw [hz]
  simp only [A6, List.map_set] at k
  exact k
 cases hsz
def Tu (AD : A3) (t kt et : Nat) : Bool := match AD.tt t with
 | some ti => match ti.sh with
  | .mp k e => Nat.beq k kt && Nat.beq e et
  | _ => false
 | none => false
theorem Oh {kt et : Nat} (h : Tu AD t kt et = true) : ∃ ti, AD.tt t = some ti /\ ti.sh = .mp kt et := by
 unfold Tu at h
 split at h
 .rename_i ti hti
  split at h
  .rename_i k e he
   simp only [Bool.and_eq_true] at h
   have h1 := Nat.eq_of_beq_eq_true h.1; have h2 := Nat.eq_of_beq_eq_true h.2
   subst h1 h2
   exact ⟨ti, hti, he⟩
  cases h
 cases h
variable {κ υ : Type} [BEq κ] {ke : κ -> DV} {ve : υ -> DV} {mp : List (κ × υ)} {kt et : Nat} {i : Operand}
theorem QO {o : Option υ} {z : υ} : (o.map ve).getD (ve z) = ve (o.getD z) := by cases o <;> rfl
theorem JN {y : κ} (z : υ) (hk : HN AD kt ke) (hm : KR h (BD nt sl x) = some (An ke ve mp)) (hi : BD nt sl i = .p (ke y)) (ht : Tu AD t kt et = true) (hz : (AD.tt et).map (zV AD) = some (ve z))
  (k : f ⟨nt, (d, .tup [.p (ve ((Ah mp y).getD z)), .p (.bool (Ah mp y).isSome)]) :: sl, h, c⟩) : BC P A AD ⟨nt, sl, h, c⟩ (some d) (.lookup t x i true) ⟨f, hf⟩ := by
 obtain ⟨ti, h1, h2⟩ := Oh ht
 rw [BE (h := h) (c := c)] at hm hi
 obtain ⟨te, h3, h4⟩ := Option.map_eq_some_iff.1 hz
 refine AQ.2 ⟨ti, h1, Dx.2 ⟨kt, et, h2, AQ.2 ⟨te, h3, AR.2 ⟨_, hm, CX.2 ⟨_, hi, ⟨hk.fits y, Jn hk mp⟩, ?_⟩⟩⟩⟩⟩
 simp only [if_true, LX hk, h4, QO, Option.isSome_map]
 exact k
theorem KU {y : κ} (z : υ) (hk : HN AD kt ke) (hm : KR h (BD nt sl x) = some (An ke ve mp)) (hi : BD nt sl i = .p (ke y)) (ht : Tu AD t kt et = true) (hz : (AD.tt et).map (zV AD) = some (ve z))
  (k : f ⟨nt, (d, .p (ve ((Ah mp y).getD z))) :: sl, h, c⟩) : BC P A AD ⟨nt, sl, h, c⟩ (some d) (.lookup t x i false) ⟨f, hf⟩ := by
 obtain ⟨ti, h1, h2⟩ := Oh ht
 rw [BE (h := h) (c := c)] at hm hi
 obtain ⟨te, h3, h4⟩ := Option.map_eq_some_iff.1 hz
 refine AQ.2 ⟨ti, h1, Dx.2 ⟨kt, et, h2, AQ.2 ⟨te, h3, AR.2 ⟨_, hm, CX.2 ⟨_, hi, ⟨hk.fits y, Jn hk mp⟩, ?_⟩⟩⟩⟩⟩
 simp only [Bool.false_eq_true, if_false, LX hk, h4, QO]
 exact k
theorem GE {y : κ} {z : υ} {id : Nat} {v : Operand} {h' : AP} (hk : HN AD kt ke) (hx : BD nt sl x = .lmap id) (hm : Bc id h = some (.map (An ke ve mp))) (hi : BD nt sl i = .p (ke y)) (hv : BD nt sl v = .p (ve z)) (ht : Tu AD t kt et = true)
  (hu : J7 id (.map (An ke ve (A2 y z mp))) h some = some h') (k : f ⟨nt, sl, h', c⟩) : BC P A AD ⟨nt, sl, h, c⟩ none (.mapUpdate t x i v) ⟨f, hf⟩ := by
 obtain ⟨ti, h1, h2⟩ := Oh ht
 rw [BE (h := h) (c := c)] at hx hi hv
 rw [BN] at hm
 rw [Fy, Option.some.injEq] at hu
 subst hu
 refine AQ.2 ⟨ti, h1, Dx.2 ⟨kt, et, h2, DP.2 ⟨id, hx, AR.2 ⟨_, hm, ?_⟩⟩⟩⟩
 dsimp only
 refine D6.2 ⟨An ke ve mp, rfl, ?_⟩
 refine CX.2 ⟨_, hi, CX.2 ⟨_, hv, ⟨hk.fits y, Jn hk mp⟩, ?_⟩⟩
 rw [SN hk]
 exact k
def Kw (y : κ) : List (κ × υ) -> List (κ × υ)
 | [] => []
 | p :: m => if y == p.1 then m else p :: Kw y m
theorem SO (hk : HN AD kt ke) (x : κ) : ∀ m : List (κ × υ), NF (ke x) (An ke ve m) = An ke ve (Kw x m)
 | [] => by simp [An, NF, Kw]
 | p :: m => by
  have ih := SO hk x m
  simp only [An] at ih
  simp only [An, List.map_cons, NF, hk.eq, Kw]
  split
  .rfl
  simp only [List.map_cons, ih]
theorem ABQ {y : κ} {id t : Nat} {r : List TypeId} {c0 : Call} {h' : AP} (hk : HN AD kt ke) (hc : c0.callee = .builtin .delete) (ha : c0.args.toList = [x, i]) (hat : c0.argTypes.toList = t :: r) (hx : BD nt sl x = .lmap id) (hm : Bc id h = some (.map (An ke ve mp))) (hi : BD nt sl i = .p (ke y)) (ht : Tu AD t kt et = true)
  (hu : J7 id (.mapd (An ke ve (Kw y mp))) h some = some h') (k : f ⟨nt, sl, h', c⟩) : BC P A AD ⟨nt, sl, h, c⟩ none (.call c0) ⟨f, hf⟩ := by
 obtain ⟨ti, h1, h2⟩ := Oh ht
 rw [BE (h := h) (c := c)] at hx hi
 rw [BN] at hm
 rw [Fy, Option.some.injEq] at hu
 subst hu
 show IG P A AD ⟨nt, sl, h, c⟩ none c0 ⟨f, hf⟩
 unfold IG
 rw [hc, ha, hat]
 refine AQ.2 ⟨ti, h1, Dx.2 ⟨kt, et, h2, DP.2 ⟨id, hx, AR.2 ⟨_, hm, ?_⟩⟩⟩⟩
 dsimp only
 refine D6.2 ⟨An ke ve mp, rfl, ?_⟩
 refine CX.2 ⟨_, hi, ⟨hk.fits y, Jn hk mp⟩, ?_⟩
 rw [SO hk]
 exact k
theorem ABR {ks : List Sh} {xs ys : List DV} {b : Bool} {y : Operand} {t' : Nat} (hb : Be xs ys = b) (hx : BD nt sl x = .p (.agg xs)) (hy : BD nt sl y = .p (.agg ys)) (hk : AD.eqk t = some ks) (f1 : fits ks xs = true) (f2 : fits ks ys = true)
  (k : f ⟨nt, (d, .p (.bool b)) :: sl, h, c⟩) : BC P A AD ⟨nt, sl, h, c⟩ (some d) (.binOp .eql t x y t') ⟨f, hf⟩ := by
 rw [BE (h := h) (c := c)] at hx hy
 show Rm AD .eql t _ _ _
 rw [hx, hy]
 exact AR.2 ⟨ks, hk, f1, f2, by rw [hb]; exact k⟩
theorem Oi {ks : List Sh} {xs ys : List DV} {b : Bool} {y : Operand} {t' : Nat} (hb : Be xs ys = b) (hx : BD nt sl x = .p (.agg xs)) (hy : BD nt sl y = .p (.agg ys)) (hk : AD.eqk t = some ks) (f1 : fits ks xs = true) (f2 : fits ks ys = true)
  (k : f ⟨nt, (d, .p (.bool b)) :: sl, h, c⟩) : Jh P A AD ⟨nt, sl, h, c⟩ (some d) (.binOp .eql t x y t') ⟨f, hf⟩ := by
 rw [BE (h := h) (c := c)] at hx hy
 show Th AD .eql t _ _ _
 rw [hx, hy]
 exact AR.2 ⟨ks, hk, f1, f2, by rw [hb]; exact k⟩
end
end Go.E
/- Rules for a function's beginning and end, and for states that are made weaker, by unfolding alone. No condition. -/
namespace Go.E
open Go Go.RowKit
abbrev li (n : Int) : LV := .p (.int .i64 n)
abbrev lb (b : Bool) : LV := .p (.bool b)
abbrev lq (l : List DV) : LV := .p (.place l 0)
abbrev ls {α : Type} (sz : Nat) (enc : α -> List DV) (l : List α) : LV := .p (.slice sz (l.map enc))
section
variable {P : Program} {A : BB} {AD : A3}
theorem fn (hE : BA P AD) {k : Nat} {fn : Func} {c : Code} {ds : List DV} {d : DV} (hf : P.funcs[k]? = some fn) (hb : fn.body = some c) (hn : (fn.name == "runtime.NumGoroutine") = false) (nt : Nat) (hnt : Nat.beq fn.ntmps nt = true)
  (rs : List ResultVar) (hrs : fn.results.toList = rs) (sl : List (Nat × LV)) (hsl : C0 0 ds = sl) (hlen : Nat.ble ds.length nt = true)
  (h : ∀ A : BB, (∀ id, A.μ0 id = none) -> B0 P A c (M7 fun st => ∃ r, FL AD.tt rs st = some r /\ Le r d) ⟨nt, sl, [], 0⟩) : Ax P k ds (· = d) := by
 subst hsl
 exact AAT hE hf hb hn nt (Nat.eq_of_beq_eq_true hnt) rs hrs (Nat.le_of_ble_eq_true hlen) h
theorem er {rs : List ResultVar} {st : St} {r d : DV} (h : FL AD.tt rs st = some r) (hle : Le r d) : M7 (fun st => ∃ r, FL AD.tt rs st = some r /\ Le r d) .ret st := ⟨r, h, hle⟩
theorem en {rs : List ResultVar} {st : St} {r d : DV} (h : FL AD.tt rs st = some r) (hle : Le r d) : M7 (fun st => ∃ r, FL AD.tt rs st = some r /\ Le r d) .normal st := ⟨r, h, hle⟩
inductive KO (h : AP) : LV -> DV -> Prop where
 | p (d : DV) : KO h (.p d) d
 | own {α : Type} {enc : α -> List DV} (l : List α) {id e sz n : Nat} (hl : Bc id h = some (.row e sz (l.map enc))) (hn : n = l.length) : KO h (.lsl id sz 0 n) (.slice sz (l.map enc))
 | map {id : Nat} {m : List (DV × DV)} (hl : Bc id h = some (.map m)) : KO h (.lmap id) (.map m)
 | mapd {id : Nat} {m : List (DV × DV)} (hl : Bc id h = some (.mapd m)) : KO h (.lmap id) (.map m)
 | sub {α : Type} {enc : α -> List DV} (l r : List α) {id e sz off n : Nat} (hl : Bc id h = some (.row e sz (l.map enc))) (hr : off + n <= l.length /\ (l.drop off).take n = r) : KO h (.lsl id sz off n) (.slice sz (r.map enc))
inductive Q1 (h : AP) : List LV -> List DV -> Prop where
 | nil : Q1 h [] []
 | cons {v : LV} {d : DV} {vs : List LV} {ds : List DV} (k : KO h v d) (r : Q1 h vs ds) : Q1 h (v :: vs) (d :: ds)
inductive SP (h : AP) : List LV -> List DV -> Prop where
 | nil : SP h [] []
 | box {us : List LV} {es : List DV} {id off : Nat} {vs : List LV} {ds : List DV} (hl : Bc id h = some (.box us)) (k : Q1 h us es) (r : SP h vs ds) : SP h (.lpb id off :: vs) (.place es off :: ds)
 | cons {v : LV} {d : DV} {vs : List LV} {ds : List DV} (k : KO h v d) (r : SP h vs ds) : SP h (v :: vs) (d :: ds)
inductive Ld (h : AP) : LV -> DV -> Prop where
 | one {v : LV} {d : DV} (k : KO h v d) : Ld h v d
 | agg {vs : List LV} {ds : List DV} (k : Q1 h vs ds) : Ld h (.agg vs) (.agg ds)
 | tup {vs : List LV} {ds : List DV} (k : Q1 h vs ds) : Ld h (.tup vs) (.tup ds)
 | box {vs : List LV} {ds : List DV} {id off : Nat} (hl : Bc id h = some (.box vs)) (k : Q1 h vs ds) : Ld h (.lpb id off) (.place ds off)
 | fn {f : Nat} {vs : List LV} {ds : List DV} (k : SP h vs ds) : Ld h (.fn f vs) (.fn f ds)
inductive Dg (h : AP) : List LV -> List DV -> Prop where
 | nil : Dg h [] []
 | cons {v : LV} {d : DV} {vs : List LV} {ds : List DV} (k : Ld h v d) (r : Dg h vs ds) : Dg h (v :: vs) (d :: ds)
theorem KO.eq {h : AP} {v : LV} {d : DV} (k : KO h v d) : Ep h v = some d := by
 cases k with
 | p => rfl
 | own l hl hn =>
  rw [BN] at hl
  subst hn
  simp only [Ep, hl, Nat.zero_add, List.length_map, Nat.le_refl, and_self, if_true, List.drop_zero]
  rw [List.take_of_length_le (by simp)]
 | map hl => rw [BN] at hl; simp only [Ep, hl]
 | mapd hl => rw [BN] at hl; simp only [Ep, hl]
 | sub l r hl hr =>
  rw [BN] at hl
  simp only [Ep, hl, List.length_map]
  rw [if_pos ⟨trivial, hr.1⟩, <- List.map_drop, <- List.map_take, hr.2]
theorem Q1.eq {h : AP} {vs : List LV} {ds : List DV} (k : Q1 h vs ds) : GA h vs = some ds := by
 induction k with
 | nil => rfl
 | cons k _ ih => simp only [GA, k.eq, ih]
theorem KO.eqb {h : AP} {v : LV} {d : DV} (k : KO h v d) : JJ h v = some d := by
 have := k.eq
 cases k <;> exact this
theorem SP.eq {h : AP} {vs : List LV} {ds : List DV} (k : SP h vs ds) : Fc h vs = some ds := by
 induction k with
 | nil => rfl
 | box hl k _ ih => rw [BN] at hl; simp only [Fc, JJ, hl, k.eq, ih, Option.map_some]
 | cons k _ ih => simp only [Fc, k.eqb, ih]
theorem Ld.eq {h : AP} {v : LV} {d : DV} (k : Ld h v d) : Ew h v = some d := by
 cases k with
 | one k => cases k with
  | p => rfl
  | own l hl hn => exact KO.eq (.own l hl hn)
  | map hl => exact KO.eq (.map hl)
  | mapd hl => exact KO.eq (.mapd hl)
  | sub l r hl hr => exact KO.eq (.sub l r hl hr)
 | agg k => simp only [Ew, k.eq, Option.map_some]
 | tup k => simp only [Ew, k.eq, Option.map_some]
 | box hl k => rw [BN] at hl; simp only [Ew, hl, k.eq, Option.map_some]
 | fn k => simp only [Ew, k.eq, Option.map_some]
theorem Dg.eq {h : AP} {vs : List LV} {ds : List DV} (k : Dg h vs ds) : Bs h vs = some ds := by
 induction k with
 | nil => rfl
 | cons k _ ih => simp only [Bs, k.eq, ih]
theorem IJ {rs : List ResultVar} {st : St} {v : LV} {d : DV} (hr : JK AD.tt st rs = some [v]) (k : Ld st.heap v d) : FL AD.tt rs st = some d := by
 simp only [FL, hr, k.eq]
theorem Tv {rs : List ResultVar} {st : St} {v u : LV} {vs : List LV} {ds : List DV} (hr : JK AD.tt st rs = some (v :: u :: vs)) (k : Dg st.heap (v :: u :: vs) ds) : FL AD.tt rs st = some (.tup ds) := by
 simp only [FL, hr, k.eq, Option.map_some]
def WZ (sl : List (Nat × LV)) (t : Nat) : LV := match Bc t sl with
 | some v => v
 | none => .any
theorem Zu {sl : List (Nat × LV)} {t : Nat} : WZ sl t = BW sl t := by simp only [WZ, BW, BN]; rfl
inductive Vq (gl : List (Nat × Nat)) (sl : List (Nat × LV)) : List (Nat × LV) -> Prop where
 | nil : Vq gl sl []
 | cons {t : Nat} {l : LV} {r : List (Nat × LV)} (h : WZ sl t = Ek gl l) (k : Vq gl sl r) : Vq gl sl ((t, l) :: r)
inductive Vr (gl : List (Nat × Nat)) (h : AP) : AP -> Prop where
 | nil : Vr gl h []
 | cons {id old : Nat} {o : A9} {r : AP} (h1 : Bc id gl = some old) (h2 : Bc old h = some (WR gl o)) (k : Vr gl h r) : Vr gl h ((id, o) :: r)
def MV (gl : List (Nat × Nat)) : List (Nat × LV) -> Bool
 | [] => true
 | (_, l) :: r => match DQ gl l with
  | true => MV gl r
  | false => false
def MW (gl : List (Nat × Nat)) : AP -> Bool
 | [] => true
 | (_, o) :: r => match Tf gl o with
  | true => MW gl r
  | false => false
theorem Yt {gl : List (Nat × Nat)} {sl sl' : List (Nat × LV)} (h : Vq gl sl sl') : MV gl sl' = true -> TD gl sl sl' := by
 induction h with
 | nil => intro _; trivial
 | cons h _ ih =>
  intro hn
  simp only [MV] at hn
  split at hn
  .rename_i hq; exact ⟨⟨hq, by rw [<- Zu]; exact h⟩, ih hn⟩
  cases hn
theorem Yu {gl : List (Nat × Nat)} {h h' : AP} (k : Vr gl h h') : MW gl h' = true -> TE gl h h' := by
 induction k with
 | nil => intro _; trivial
 | cons h1 h2 _ ih =>
  intro hn
  simp only [MW] at hn
  split at hn
  .rename_i hq; exact ⟨⟨hq, _, by rw [<- BN]; exact h1, by rw [<- BN]; exact h2⟩, ih hn⟩
  cases hn
theorem wk (gl : List (Nat × Nat)) {nt : Nat} {sl sl' : List (Nat × LV)} {h h' : AP} {c c' : Nat} (hext : ∀ id, A.μ0 id ≠ none -> AJ id gl = some id) (ho : Qu gl h' c' = true) (hn : MV gl sl' = true) (hm : MW gl h' = true)
  (hs : Vq gl sl sl') (hh : Vr gl h h') : A8 A ⟨nt, sl, h, c⟩ ⟨nt, sl', h', c'⟩ := Yl gl hext ho (Yt hs hn) (Yu hh hm)
def TJ (sl : List (Nat × LV)) : List (Nat × LV) -> List LV
 | [] => []
 | (t, _) :: r => WZ sl t :: TJ sl r
def TK (gl : List (Nat × Nat)) : List (Nat × LV) -> List LV
 | [] => []
 | (_, l) :: r => Ek gl l :: TK gl r
def AAV (gl : List (Nat × Nat)) (h : AP) (id : Nat) : Option A9 := match Bc id gl with
 | some old => Bc old h
 | none => none
def TL (gl : List (Nat × Nat)) (h : AP) : AP -> List (Option A9)
 | [] => []
 | (id, _) :: r => AAV gl h id :: TL gl h r
def TM (gl : List (Nat × Nat)) : AP -> List (Option A9)
 | [] => []
 | (_, o) :: r => some (WR gl o) :: TM gl r
theorem Tw {gl : List (Nat × Nat)} {sl : List (Nat × LV)} : ∀ {sl' : List (Nat × LV)}, TJ sl sl' = TK gl sl' -> Vq gl sl sl'
 | [], _ => .nil
 | (_, _) :: _, h => .cons (List.cons.inj h).1 (Tw (List.cons.inj h).2)
theorem Tx {gl : List (Nat × Nat)} {h : AP} : ∀ {h' : AP}, TL gl h h' = TM gl h' -> Vr gl h h'
 | [], _ => .nil
 | (id, o) :: _, e => by
  have e1 := (List.cons.inj e).1
  unfold AAV at e1
  split at e1
  .rename_i old hl; exact .cons hl e1 (Tx (List.cons.inj e).2)
  cases e1
def Wa (gl : List (Nat × Nat)) (sl' : List (Nat × LV)) (h' : AP) (c' : Nat) : Bool := match Qu gl h' c' with
 | true => match MV gl sl' with
  | true => MW gl h'
  | false => false
 | false => false
theorem KZ {gl : List (Nat × Nat)} {sl' : List (Nat × LV)} {h' : AP} {c' : Nat} (h : Wa gl sl' h' c' = true) : Qu gl h' c' = true /\ MV gl sl' = true /\ MW gl h' = true := by
 unfold Wa at h
 split at h
 .split at h
  .exact ⟨‹_›, ‹_›, h⟩
  cases h
 cases h
def gi : Nat -> List (Nat × Nat) -> List (Nat × Nat)
 | 0, l => l
 | n + 1, l => gi n ((n, n) :: l)
theorem wf {nt : Nat} {sl sl' : List (Nat × LV)} {h h' : AP} {c c' : Nat} (hA : ∀ id, A.μ0 id = none) (gl : List (Nat × Nat)) (ha : Wa gl sl' h' c' = true) (hs : TJ sl sl' = TK gl sl') (hh : TL gl h h' = TM gl h') : A8 A ⟨nt, sl, h, c⟩ ⟨nt, sl', h', c'⟩ :=
 wk gl (fun id h => absurd (hA id) h) (KZ ha).1 (KZ ha).2.1 (KZ ha).2.2 (Tw hs) (Tx hh)
theorem free (hA : ∀ id, A.μ0 id = none) (gl : List (Nat × Nat)) : ∀ id, A.μ0 id ≠ none -> AJ id gl = some id := fun id h => absurd (hA id) h
section
variable {σ Ans : Type} {S : σ -> St} {Q : Ans -> Exit -> St -> Prop} {st : St}
theorem lpn {s : σ} (hw : A8 A st (S s)) : LP A S Q (.inl s) .normal st := ⟨rfl, hw⟩
theorem lpx {a : Ans} {id : Nat} (k : Q a (.exit id) st) : LP A S Q (.inr a) (.exit id) st := ⟨nofun, k⟩
theorem lpt {a : Ans} (k : Q a .ret st) : LP A S Q (.inr a) .ret st := ⟨nofun, k⟩
theorem npn {s : σ} (hw : A8 A st (S s)) : NP A S s .normal st := ⟨rfl, hw⟩
end
theorem mp {σ Ans : Type} {o : Option Ans} {b : σ ⊕ Ans} (h : o.map .inr = some b) : ∃ a, o = some a /\ b = .inr a := by
 cases o with
 | none => cases h
 | some a => exact ⟨a, rfl, (Option.some.inj h).symm⟩
theorem mps {σ Ans : Type} {x : Ans} {b : σ ⊕ Ans} (h : some (.inr x) = some b) : ∃ a, some x = some a /\ b = .inr a := ⟨x, rfl, (Option.some.inj h).symm⟩
end
end Go.E
