/- Operations of a drawn region: they are alike in data states alike (Na), and the real operation is in step (QZ). No condition. -/
import Derived.Test.YtlmjaeojocjhkaaGreatJ1
set_option linter.unusedVariables false
set_option linter.unusedSimpArgs false
namespace Go.E
open Go Go.RowKit
def OM (h h' : AP) : Prop := ∀ id o, AJ id h = some o -> AJ id h' = some o
theorem X2 {h h' : AP} {ti : TI} {p : LV} {k : LV -> Prop} (he : OM h h') (hl : Gm h ti p k) : Gm h' ti p k := by
 unfold Gm at *
 split at hl
 .exact hl
 .obtain ⟨cells, r, h1, h2⟩ := hl
  exact ⟨cells, r, he _ _ h1, h2⟩
 .obtain ⟨e, sz, elems, x, r, h1, h2⟩ := hl
  exact ⟨e, sz, elems, x, r, he _ _ h1, h2⟩
 exact hl.elim
theorem X3 {h h' : AP} (he : OM h h') {x : LV} {m : List (DV × DV)} (hm : K1 h x = some m) : K1 h' x = some m := by
 unfold K1 at *
 split at hm
 .exact hm
 .exact hm
 .split at hm
  .rename_i h1; rw [he _ _ h1]; exact hm
  cases hm
 cases hm
theorem VZ {AD : A5} {h h' : AP} {t : Nat} {x key : LV} {ok : Bool} {k : LV -> Prop} (he : OM h h') (hl : Ms AD h t x key ok k) : Ms AD h' t x key ok k := by
 obtain ⟨ti, kt, et, te, m, kd, h1, h2, h3, h4, h5⟩ := hl
 exact ⟨ti, kt, et, te, m, kd, h1, h2, h3, X3 he h4, h5⟩
theorem Ol {h h' : AP} (he : OM h h') {x : LV} {d : DV} (hx : FG h x = some d) : FG h' x = some d := by
 unfold FG at *
 split at hx
 .exact hx
 .split at hx
  .rename_i h1; rw [he _ _ h1]; exact hx
  cases hx
 .split at hx
  .rename_i h1; rw [he _ _ h1]; exact hx
  .rename_i h1; rw [he _ _ h1]; exact hx
  cases hx
 cases hx
theorem KJ {h h' : AP} (he : OM h h') : ∀ {ls : List LV} {ds : List DV}, Gl h ls = some ds -> Gl h' ls = some ds
 | [], _, hx => hx
 | x :: ls, ds, hx => by
  simp only [Gl] at hx
  split at hx
  .rename_i h1 h2
   simp only [Gl, Ol he h1, KJ he h2]; exact hx
  cases hx
theorem X4 {h h' : AP} (he : OM h h') {x : LV} {d : DV} (hx : Jv h x = some d) : Jv h' x = some d /\ NY h' x = NY h x := by
 cases x with
 | lpb id off =>
  simp only [Jv] at hx
  split at hx
  .rename_i cells h1
   simp only [Option.map_eq_some_iff] at hx
   obtain ⟨ds, h2, h3⟩ := hx
   simp only [Jv, he _ _ h1, KJ he h2, NY, h1, Option.map_some, Option.some.injEq]
   exact ⟨h3, trivial⟩
  cases hx
 | _ => simp only [Jv] at hx ⊢; exact ⟨Ol he hx, rfl⟩
theorem Q8 {h h' : AP} (he : OM h h') : ∀ {ls : List LV} {ds : List DV}, F9 h ls = some ds -> F9 h' ls = some ds /\ ls.flatMap (NY h') = ls.flatMap (NY h)
 | [], _, hx => ⟨hx, rfl⟩
 | x :: ls, ds, hx => by
  simp only [F9] at hx
  split at hx
  .rename_i h1 h2
   obtain ⟨a1, a2⟩ := X4 he h1
   obtain ⟨b1, b2⟩ := Q8 he h2
   simp only [F9, a1, b1, List.flatMap_cons, a2, b2]; exact ⟨hx, trivial⟩
  cases hx
theorem Yy {h h' : AP} (he : OM h h') {x : LV} {d : DV} (hx : FP h x = some d) : FP h' x = some d /\ ET h' x = ET h x := by
 cases x with
 | fn f l =>
  simp only [FP, Option.map_eq_some_iff] at hx ⊢
  obtain ⟨ds, h1, h2⟩ := hx
  obtain ⟨a1, a2⟩ := Q8 he h1
  exact ⟨⟨ds, a1, h2⟩, a2⟩
 | agg l =>
  simp only [FP, Option.map_eq_some_iff] at hx ⊢
  obtain ⟨ds, h1, h2⟩ := hx
  exact ⟨⟨ds, KJ he h1, h2⟩, rfl⟩
 | tup l =>
  simp only [FP, Option.map_eq_some_iff] at hx ⊢
  obtain ⟨ds, h1, h2⟩ := hx
  exact ⟨⟨ds, KJ he h1, h2⟩, rfl⟩
 | lpb id off =>
  simp only [FP] at hx
  split at hx
  .rename_i cells h1
   simp only [Option.map_eq_some_iff] at hx
   obtain ⟨ds, h2, h3⟩ := hx
   simp only [FP, he _ _ h1, KJ he h2, ET, h1, Option.map_some, Option.some.injEq]
   exact ⟨h3, trivial⟩
  cases hx
 | _ => simp only [FP] at hx ⊢; exact ⟨Ol he hx, rfl⟩
theorem MX {h h' : AP} (he : OM h h') : ∀ {ls : List LV} {ds : List DV}, By h ls = some ds -> By h' ls = some ds /\ ls.flatMap (ET h') = ls.flatMap (ET h)
 | [], _, hx => ⟨hx, rfl⟩
 | x :: ls, ds, hx => by
  simp only [By] at hx
  split at hx
  .rename_i h1 h2
   obtain ⟨a1, a2⟩ := Yy he h1
   obtain ⟨b1, b2⟩ := MX he h2
   simp only [By, a1, b1, List.flatMap_cons, a2, b2]; exact ⟨hx, trivial⟩
  cases hx
theorem Nb {id k : Nat} {o : BB} : ∀ {h : AP}, AJ id (BR k o h) = if id = k then (AJ k h).map (fun _ => o) else AJ id h
 | [] => by simp [AJ, BR]
 | (j, x) :: h => by
  unfold BR
  split
  .rename_i hk; subst hk
   by_cases e : id = k <;> simp [AJ, e]
  rename_i hk
  simp only [AJ]
  rw [Nb (h := h)]
  by_cases e : id = j
  .subst e; rw [if_pos rfl, if_neg (fun e => hk e.symm), if_pos rfl]
  simp only [e, if_false, hk]
theorem Nc {id k : Nat} : ∀ {h : AP}, AJ id (Gk k h) = if id = k then none else AJ id h
 | [] => by simp [AJ, Gk]
 | (j, x) :: h => by
  unfold Gk
  split
  .rename_i hk; subst hk
   rw [Nc (h := h)]
   by_cases e : id = k <;> simp [AJ, e]
  rename_i hk
  simp only [AJ]
  rw [Nc (h := h)]
  by_cases e : id = j
  .subst e; rw [if_pos rfl, if_neg (fun e => hk e.symm), if_pos rfl]
  simp only [e, if_false]
theorem Wn {P : Program} {AD : A5} {st st' : St} {op : Op} {l : LV} {h1 : AP} (hw : BO op = .w) (hev : ∀ x ∈ op.operands, st.eval x = st'.eval x) (hc : st.ctr = st'.ctr)
  (hh : ∀ id, AJ id st.heap = AJ id st'.heap) (h : wW P AD st op l h1) :
  ∃ h2, wW P AD st' op l h2 /\ (∀ id, AJ id h1 = AJ id h2) /\ ∀ k, k ≠ st.ctr -> AJ k st.heap = none -> AJ k h1 = none := by
 have key : ∀ (id : Nat) (o : BB), AJ id st.heap ≠ none -> (∀ q, AJ q (BR id o st.heap) = AJ q (BR id o st'.heap)) /\ ∀ k, k ≠ st.ctr -> AJ k st.heap = none -> AJ k (BR id o st.heap) = none := by
  refine fun id o hne => ⟨fun q => ?_, fun k _ hk => ?_⟩
  .rw [Nb, Nb, hh, hh]
  rw [Nb, hk]
  split
  .subst_vars; exact absurd hk hne
  rfl
 cases op with
 | store t x v =>
  simp only [wW, mW, KK] at h
  obtain ⟨ti, g1, ls, g2, g3, g4, g5⟩ := h
  have e1 := hev x (by simp [Op.operands])
  have e2 := hev v (by simp [Op.operands])
  split at g5
  .rename_i id off hp
   obtain ⟨cells, k1, k2, rfl, rfl⟩ := g5
   refine ⟨BR id (.box (CQ cells off ls)) st'.heap, ?_, key _ _ (by rw [k1]; simp)⟩
   simp only [wW, mW, KK]
   refine ⟨ti, g1, ls, by rw [<- e2]; exact g2, g3, g4, ?_⟩
   rw [<- e1, hp]
   exact ⟨cells, by rw [<- hh]; exact k1, k2, trivial, rfl⟩
  .rename_i id i off hp
   obtain ⟨e, sz, elems, y, ds, k1, k2, k3, k4, rfl, rfl⟩ := g5
   refine ⟨BR id (.row e sz (elems.set i (CQ y off ds))) st'.heap, ?_, key _ _ (by rw [k1]; simp)⟩
   simp only [wW, mW, KK]
   refine ⟨ti, g1, ls, by rw [<- e2]; exact g2, g3, g4, ?_⟩
   rw [<- e1, hp]
   exact ⟨e, sz, elems, y, ds, by rw [<- hh]; exact k1, k2, k3, k4, trivial, rfl⟩
  exact g5.elim
 | mapUpdate t x i v =>
  have e1 := hev x (by simp [Op.operands])
  have e2 := hev i (by simp [Op.operands])
  have e3 := hev v (by simp [Op.operands])
  simp only [wW, mW, Mt] at h
  obtain ⟨ti, kt, et, id, m, kd, vd, g1, g2, g3, g4, g5, g6, g7, g8, rfl, rfl⟩ := h
  refine ⟨BR id (.map (MY kd vd m)) st'.heap, ?_, key _ _ (by rw [g4]; simp)⟩
  simp only [wW, mW, Mt]
  exact ⟨ti, kt, et, id, m, kd, vd, g1, g2, by rw [<- e1]; exact g3, by rw [<- hh]; exact g4, by rw [<- e2]; exact g5, by rw [<- e3]; exact g6, g7, g8, trivial, rfl⟩
 | mapEntry t x i =>
  have e1 := hev x (by simp [Op.operands])
  have e2 := hev i (by simp [Op.operands])
  simp only [wW, mW, Mu] at h
  obtain ⟨ti, kt, et, te, id, m, kd, g1, g2, g3, g4, g5, g6, g7, g8, rfl, rfl⟩ := h
  refine ⟨match CU kd m with | some _ => st'.heap | none => BR id (.map (m ++ [(kd, te.zeroDV)])) st'.heap, ?_, ?_⟩
  .simp only [wW, mW, Mu]
   exact ⟨ti, kt, et, te, id, m, kd, g1, g2, g3, by rw [<- e1]; exact g4, by rw [<- hh]; exact g5, by rw [<- e2]; exact g6, g7, g8, rfl, rfl⟩
  cases CU kd m with
  | some r => exact ⟨hh, fun k _ hk => hk⟩
  | none => exact key _ _ (by rw [g5]; simp)
 | entryStore t x s v =>
  have e1 := hev x (by simp [Op.operands])
  have e2 := hev s (by simp [Op.operands])
  have e3 := hev v (by simp [Op.operands])
  simp only [wW, mW, Om] at h
  obtain ⟨id, m, kk, n, vd, p, g1, g2, g3, g4, g5, g6, rfl, rfl⟩ := h
  refine ⟨BR id (.map (m.set n.toNat (p.1, vd))) st'.heap, ?_, key _ _ (by rw [g2]; simp)⟩
  simp only [wW, mW, Om]
  exact ⟨id, m, kk, n, vd, p, by rw [<- e1]; exact g1, by rw [<- hh]; exact g2, by rw [<- e2]; exact g3, g4, g5, by rw [<- e3]; exact g6, trivial, rfl⟩
 | call c =>
  have hwv : ∀ f, c.callee = .value f -> ∃ h2, wW P AD st' (.call c) l h2 /\ (∀ id, AJ id h1 = AJ id h2) /\ ∀ k, k ≠ st.ctr -> AJ k st.heap = none -> AJ k h1 = none := by
   intro f0 hf0
   have h' : Ti P AD st c l h1 := by unfold wW at h; simp only [hf0] at h; exact h
   obtain ⟨f, k, caps, g1, g2, g3, g4, g5⟩ := h'
   have e0 := hev f (by simp [Op.operands, Call.operands, g1])
   have ha : c.args.toList.map st.eval = c.args.toList.map st'.eval := Hg fun x hx => hev x (by simp [Op.operands, Call.operands, g1, hx])
   refine ⟨h1, ?_, fun _ => rfl, g4⟩
   unfold wW
   simp only [hf0]
   exact ⟨f, k, caps, g1, by rw [<- e0]; exact g2, by rw [<- ha, <- hc]; exact g3.eqv hh, fun q hq hn => g4 q (by rw [hc]; exact hq) (by rw [hh]; exact hn), fun b hb id cells hm hi hbi hx => g5 b hb id cells hm (by rw [hc]; exact hi) hbi (by rw [hh]; exact hx)⟩
  have hwb : (∀ f, c.callee ≠ .value f) -> ∀ (s' : St) (q : AP), wW P AD s' (.call c) l q ↔ mW AD s' (.call c) fun r h _ => r = l /\ h = q := by
   intro hne s' q
   cases hcal : c.callee with
   | value f => exact absurd hcal (hne f)
   | builtin b => unfold wW; simp only [hcal]
   | invoke r m => unfold wW; simp only [hcal]
  by_cases hv : ∃ f, c.callee = .value f
  .obtain ⟨f, hf⟩ := hv; exact hwv f hf
  have hne : ∀ f, c.callee ≠ .value f := fun f hf => hv ⟨f, hf⟩
  have h := (hwb hne _ _).1 h
  suffices hs : ∃ h2, (mW AD st' (.call c) fun r h _ => r = l /\ h = h2) /\ (∀ id, AJ id h1 = AJ id h2) /\ ∀ k, k ≠ st.ctr -> AJ k st.heap = none -> AJ k h1 = none by
   obtain ⟨h2, a, b⟩ := hs
   exact ⟨h2, (hwb hne _ _).2 a, b⟩
  simp only [mW] at h
  obtain ⟨hcal, s, x, t, ha, hat, h⟩ := h
  have e1 := hev s (by simp [Op.operands, Call.operands, ha])
  have e2 := hev x (by simp [Op.operands, Call.operands, ha])
  simp only [Mp] at h
  obtain ⟨ti, e, te, g1, g2, g3, g4, new, g5, g6, g7⟩ := h
  have hrow : L2 st'.heap (st'.eval x) = some new := by
   rw [<- e2, <- g5]
   unfold L2
   split <;> first | rfl | (rw [hh])
  split at g7
  .rename_i hp
   obtain ⟨k1, k2, rfl, rfl⟩ := g7
   refine ⟨(st'.ctr, .row e te.size new) :: st'.heap, ?_, fun q => ?_, fun k hk hn => ?_⟩
   .simp only [mW, Mp]
    refine ⟨hcal, s, x, t, ha, hat, ti, e, te, g1, g2, g3, g4, new, hrow, g6, ?_⟩
    rw [<- e1, hp]
    exact ⟨k1, k2, by rw [hc], rfl⟩
   .simp only [AJ, hc, hh]
   simp only [AJ, hk, if_false]; exact hn
  .rename_i id sz off len hp
   obtain ⟨elems, k0, k1, k2, k3, k4, rfl, rfl⟩ := g7
   refine ⟨(st'.ctr, .row e te.size ((elems.drop off).take len ++ new)) :: Gk id st'.heap, ?_, fun q => ?_, fun k hk hn => ?_⟩
   .simp only [mW, Mp]
    refine ⟨hcal, s, x, t, ha, hat, ti, e, te, g1, g2, g3, g4, new, hrow, g6, ?_⟩
    rw [<- e1, hp]
    exact ⟨elems, k0, by rw [<- hh]; exact k1, k2, k3, k4, by rw [hc], rfl⟩
   .simp only [AJ, hc, Nc, hh]
   simp only [AJ, hk, if_false, Nc, hn]; split <;> rfl
  exact g7.elim
 | _ => simp [BO] at hw
theorem Oj {P : Program} {AD : A5} {st st' : St} {op : Op} {l : LV} {e : EE} (hw : BO op ≠ .w) (hev : ∀ x ∈ op.operands, st.eval x = st'.eval x) (hc : st.ctr = st'.ctr)
  (hr : BO op = .r -> OM st.heap st'.heap) (h : B4 P AD st op l e) : B4 P AD st' op l e := by
 cases op <;> simp only [B4] at h ⊢ <;> simp only [Op.operands] at hev <;> (try exact ⟨h.1, QY (by simpa only [Op.operands] using hev) h.2⟩)
 case load t x =>
  obtain ⟨h1, hc', ti, h2, h3⟩ := h
  rw [<- hev x (by simp)]
  refine ⟨h1, hc', ti, h2, ?_⟩
  exact X2 (hr rfl) h3
 case lookup t x i ok =>
  obtain ⟨h1, h2⟩ := h
  refine ⟨h1, ?_⟩
  rw [<- hev x (by simp), <- hev i (by simp)]
  exact VZ (hr rfl) h2
 case store => exact absurd rfl hw
 case mapUpdate => exact absurd rfl hw
 case mapEntry => exact absurd rfl hw
 case entryStore => exact absurd rfl hw
 case alloc => rw [<- hc]; exact h
 case box t x => rw [<- hev x (by simp), <- hc]; exact h
 case buildSlice t n ps => rw [<- Ok (by simpa using hev), <- hc]; exact h
 case makeSlice t x y => rw [<- hev x (by simp), <- hev y (by simp), <- hc]; exact h
 case makeMap => rw [<- hc]; exact h
 case call c =>
  obtain ⟨callee, args, ats⟩ := c
  have ha : args.toList.map st.eval = args.toList.map st'.eval := Hg fun x hx => hev x (by simp [Call.operands, hx])
  cases callee with
  | value f =>
   have hnd : ¬ D8 f = true := fun hd => hw (by simp [BO, hd])
   have hr' : OM st.heap st'.heap := hr (by simp [BO, hnd])
   simp only [if_neg hnd] at h ⊢
   rcases h with ⟨h1, k, caps, ds, r, h2, h3, h4, h5, h6⟩ | ⟨h1, k, caps, ds, t, sz, elems, h2, h3, h4, h5, h6⟩
   .obtain ⟨g1, g2⟩ := MX hr' h3
    refine .inl ⟨h1, k, caps, ds, r, by rw [<- hev f (by simp [Call.operands])]; exact h2, by rw [<- ha]; exact g1, h4, ?_, h6⟩
    rw [<- ha, g2]; exact h5
   obtain ⟨g1, g2⟩ := MX hr' h3
   refine .inr ⟨h1, k, caps, ds, t, sz, elems, by rw [<- hev f (by simp [Call.operands])]; exact h2, by rw [<- ha]; exact g1, h4, ?_, by rw [<- hc]; exact h6⟩
   rw [<- ha, g2]; exact h5
  | builtin b =>
   cases b with
   | append => exact absurd rfl hw
   | _ => exact ⟨h.1, QY (by simpa only [Op.operands] using hev) h.2⟩
  | invoke r m => exact ⟨h.1, QY (by simpa only [Op.operands] using hev) h.2⟩
theorem Q9 {st st' : St} (hnt : st.nt = st'.nt) {x : Operand} (h : ∀ t, x = .tmp t -> BZ st.slots t = BZ st'.slots t) : st.eval x = st'.eval x := by
 cases x with
 | tmp t => simp only [St.eval, hnt, h t rfl]
 | _ => rfl
theorem H6 {ops : Array Oper} {st st' : St} {o : Oper} (hnt : st.nt = st'.nt) (hs : ∀ t ∈ o.looksAt ops, BZ st.slots t = BZ st'.slots t) {j : Nat} {want : Bool} (hg : o.guard = some (j, want)) :
  DJ st ops j = DJ st' ops j := by
 unfold DJ
 cases ho : ops[j]? with
 | none => rfl
 | some p =>
  simp only
  cases hd : p.dst with
  | none => rfl
  | some d => exact Q9 hnt fun t ht => hs t (by cases ht; simp [Oper.looksAt, hg, ho, hd])
theorem FQ {ops : Array Oper} {st st' : St} {o : Oper} (hnt : st.nt = st'.nt) (hs : ∀ t ∈ o.looksAt ops, BZ st.slots t = BZ st'.slots t) : ∀ x ∈ o.op.operands, st.eval x = st'.eval x :=
 fun x hx => Q9 hnt fun t ht => hs t (by
  subst ht
  exact List.mem_append_left _ (List.mem_filterMap.2 ⟨.tmp t, by simpa using hx, rfl⟩))
theorem Na {P : Program} {AD : A5} {ops : Array Oper} {st st' : St} {o : Oper} {l : LV} {e : EE} (hw : BO o.op ≠ .w) (hnt : st.nt = st'.nt) (hs : ∀ t ∈ o.looksAt ops, BZ st.slots t = BZ st'.slots t) (hc : st.ctr = st'.ctr)
  (hr : BO o.op = .r -> OM st.heap st'.heap) (h : Cm P AD ops st o l e) : Cm P AD ops st' o l e := by
 have hop := FQ hnt hs
 unfold Cm at *
 split at h
 .exact Oj hw hop hc hr h
 rename_i j want hg
 rw [<- H6 hnt hs hg]
 split at h
 .rename_i hb
  split at h
  .rw [if_pos ‹_›]; exact Oj hw hop hc hr h
  rw [if_neg ‹_›]; exact h
 .exact h
 exact h.elim
theorem X1.to {AD : A5} {st st' : St} {args : Array Operand} {ts : Array TypeId} (h : X1 AD st ⟨.builtin .append, args, ts⟩) (hop : ∀ x ∈ (Op.call ⟨.builtin .append, args, ts⟩).operands, st.eval x = st'.eval x) : X1 AD st' ⟨.builtin .append, args, ts⟩ := fun s hs => by
 rw [<- hop s (by simp only [Op.operands, Call.operands]; simp; exact Array.mem_def.2 (List.mem_of_mem_head? hs))]
 exact h s hs
theorem X5 {P : Program} {AD : A5} {ops : Array Oper} {st st' : St} {o : Oper} {l : LV} {e : EE} (he : GA st st') (hc : st.ctr = st'.ctr) (h : Cm P AD ops st o l e) :
  ∃ e', Cm P AD ops st' o l e' /\ ∀ id, AJ id (e.ap st.ctr st.heap) = AJ id (e'.ap st'.ctr st'.heap) := by
 by_cases hw : BO o.op = .w
 .have hop := FQ (ops := ops) (o := o) he.nt fun t _ => he.slots t
  have big : B4 P AD st o.op l e -> ∃ e', B4 P AD st' o.op l e' /\ ∀ id, AJ id (e.ap st.ctr st.heap) = AJ id (e'.ap st'.ctr st'.heap) := by
   intro h
   have : ∃ h1, e = .set h1 /\ wW P AD st o.op l h1 /\ ∀ h2, wW P AD st' o.op l h2 -> B4 P AD st' o.op l (.set h2) := by
    generalize hq : o.op = op at *
    cases op <;> simp only [BO, reduceCtorEq] at hw <;> simp only [B4] at h ⊢
    case store t x v => obtain ⟨hc', h1, a, b⟩ := h; exact ⟨h1, a, b, fun h2 g => ⟨by rw [<- hop x (by simp [Op.operands])]; exact hc', h2, rfl, g⟩⟩
    case mapUpdate => obtain ⟨h1, a, b⟩ := h; exact ⟨h1, a, b, fun h2 g => ⟨h2, rfl, g⟩⟩
    case mapEntry => obtain ⟨h1, a, b⟩ := h; exact ⟨h1, a, b, fun h2 g => ⟨h2, rfl, g⟩⟩
    case entryStore => obtain ⟨h1, a, b⟩ := h; exact ⟨h1, a, b, fun h2 g => ⟨h2, rfl, g⟩⟩
    case call c =>
     obtain ⟨callee, args, ats⟩ := c
     cases callee with
     | builtin b =>
      cases b <;> simp only [reduceCtorEq] at hw
      obtain ⟨hap, h1, a, b⟩ := h; exact ⟨h1, a, b, fun h2 g => ⟨hap.to hop, h2, rfl, g⟩⟩
     | value f =>
      have hd : D8 f = true := by simp only at hw; split at hw <;> first | assumption | cases hw
      simp only [hd, if_true] at h ⊢
      obtain ⟨h1, a, b⟩ := h; exact ⟨h1, a, b, fun h2 g => ⟨h2, rfl, g⟩⟩
     | _ => simp only [reduceCtorEq] at hw
   obtain ⟨h1, rfl, g, g'⟩ := this
   obtain ⟨h2, k1, k2, _⟩ := Wn hw hop hc he.heap g
   exact ⟨.set h2, g' h2 k1, k2⟩
  unfold Cm at *
  split at h
  .exact big h
  rename_i j want hg
  rw [<- H6 he.nt (fun t _ => he.slots t) hg]
  split at h
  .split at h
   .obtain ⟨e', h1, h2⟩ := big h
    exact ⟨e', by rw [if_pos ‹_›]; exact h1, h2⟩
   obtain ⟨rfl, rfl⟩ := h
   exact ⟨.keep, by rw [if_neg ‹_›]; exact ⟨rfl, rfl⟩, he.heap⟩
  .obtain ⟨rfl, rfl⟩ := h
   exact ⟨.keep, ⟨rfl, rfl⟩, he.heap⟩
  exact h.elim
 refine ⟨e, Na hw he.nt (fun t _ => he.slots t) hc (fun _ id o ho => by rw [<- he.heap]; exact ho) h, fun id => ?_⟩
 cases e with
 | keep => exact he.heap id
 | new o => simp only [EE.ap, AJ, hc, he.heap]
 | set h => rfl
theorem X6 {P : Program} {AD : A5} {ops : Array Oper} {st st' : St} {o : Oper} {l : LV} {e : EE} (hw : BO o.op = .w) (hnt : st.nt = st'.nt) (hs : ∀ t ∈ o.looksAt ops, BZ st.slots t = BZ st'.slots t) (hc : st.ctr = st'.ctr)
  (hh : ∀ id, AJ id st.heap = AJ id st'.heap) (h : Cm P AD ops st o l e) : ∃ e', Cm P AD ops st' o l e' /\ ∀ id, AJ id (e.ap st.ctr st.heap) = AJ id (e'.ap st'.ctr st'.heap) := by
 have hop := FQ hnt hs
 have big : B4 P AD st o.op l e -> ∃ e', B4 P AD st' o.op l e' /\ ∀ id, AJ id (e.ap st.ctr st.heap) = AJ id (e'.ap st'.ctr st'.heap) := by
  intro h
  have : ∃ h1, e = .set h1 /\ wW P AD st o.op l h1 /\ ∀ h2, wW P AD st' o.op l h2 -> B4 P AD st' o.op l (.set h2) := by
   generalize hq : o.op = op at *
   cases op <;> simp only [BO, reduceCtorEq] at hw <;> simp only [B4] at h ⊢
   case store t x v => obtain ⟨hc', h1, a, b⟩ := h; exact ⟨h1, a, b, fun h2 g => ⟨by rw [<- hop x (by simp [Op.operands])]; exact hc', h2, rfl, g⟩⟩
   case mapUpdate => obtain ⟨h1, a, b⟩ := h; exact ⟨h1, a, b, fun h2 g => ⟨h2, rfl, g⟩⟩
   case mapEntry => obtain ⟨h1, a, b⟩ := h; exact ⟨h1, a, b, fun h2 g => ⟨h2, rfl, g⟩⟩
   case entryStore => obtain ⟨h1, a, b⟩ := h; exact ⟨h1, a, b, fun h2 g => ⟨h2, rfl, g⟩⟩
   case call c =>
    obtain ⟨callee, args, ats⟩ := c
    cases callee with
    | builtin b =>
     cases b <;> simp only [reduceCtorEq] at hw
     obtain ⟨hap, h1, a, b⟩ := h; exact ⟨h1, a, b, fun h2 g => ⟨hap.to hop, h2, rfl, g⟩⟩
    | value f =>
     have hd : D8 f = true := by simp only at hw; split at hw <;> first | assumption | cases hw
     simp only [hd, if_true] at h ⊢
     obtain ⟨h1, a, b⟩ := h; exact ⟨h1, a, b, fun h2 g => ⟨h2, rfl, g⟩⟩
    | _ => simp only [reduceCtorEq] at hw
  obtain ⟨h1, rfl, g, g'⟩ := this
  obtain ⟨h2, k1, k2, _⟩ := Wn hw hop hc hh g
  exact ⟨.set h2, g' h2 k1, k2⟩
 unfold Cm at *
 split at h
 .exact big h
 rename_i j want hg
 rw [<- H6 hnt hs hg]
 split at h
 .split at h
  .obtain ⟨e', h1, h2⟩ := big h
   exact ⟨e', by rw [if_pos ‹_›]; exact h1, h2⟩
  obtain ⟨rfl, rfl⟩ := h
  exact ⟨.keep, by rw [if_neg ‹_›]; exact ⟨rfl, rfl⟩, hh⟩
 .obtain ⟨rfl, rfl⟩ := h
  exact ⟨.keep, ⟨rfl, rfl⟩, hh⟩
 exact h.elim
end Go.E
/- Drawn regions: whatever order is drawn, the operations give what they give in one order that a check accepts (Jc). -/
namespace Go.E
open Go Go.RowKit
structure RF (A : BD) (F : Nat -> Prop) (st : St) (a : Act) (w : World) : Prop where
 ex : ∃ μ, HRel A μ st.heap F w /\ ∀ t, t < st.nt -> Aa (Af A μ st.heap) μ w (a.tmps.getD t undef) (BZ st.slots t)
 nt : a.tmps.size = st.nt
 defers : a.defers = []
theorem R.toRF {A : BD} {st : St} {a : Act} {w : World} (h : R A st a w) : RF A (Fr st.ctr) st a w := ⟨h.ex, h.nt, h.defers⟩
theorem RF.put' {A : BD} {F F' : Nat -> Prop} {st : St} {a : Act} {w w' : World} {h' : AP} {ctr' : Nat} {μ' : Nat -> Option BQ} (hR : RF A F st a w)
  (hs : ∀ t, t < st.nt -> Aa (Af A μ' h') μ' w' (a.tmps.getD t undef) (BZ st.slots t))
  (hh : HRel A μ' h' F' w') {dst : Option Tmp} {v : Value} {l : LV} (hv : Aa (Af A μ' h') μ' w' v l) :
  RF A F' (({ st with heap := h', ctr := ctr' } : St).put dst l) (a.put dst v) w' := by
 cases dst with
 | none => exact ⟨⟨μ', hh, hs⟩, hR.nt, hR.defers⟩
 | some d =>
  refine ⟨⟨μ', hh, fun t ht => ?_⟩, by simpa [Act.put, St.put] using hR.nt, hR.defers⟩
  have hn : t < a.tmps.size := by rw [hR.nt]; exact ht
  simp only [Act.put, St.put, BZ, AJ]
  by_cases e : t = d
  .subst e
   simp only [if_true]
   rw [Array.getD_eq_getD_getElem?, Array.getElem?_setIfInBounds_self_of_lt hn]
   exact hv
  simp only [e, if_false]
  rw [Array.getD_eq_getD_getElem?, Array.getElem?_setIfInBounds_ne (by omega), <- Array.getD_eq_getD_getElem?]
  exact hs t ht
section
variable {P : Program} {A : BD} {AD : A5} {F : Nat -> Prop} {st : St} {a : Act} {w : World}
theorem Yz {μ : Nat -> Option BQ} {h : AP} {F : Nat -> Prop} {w w' : World} {v : Value} {ctr e sz : Nat} {elems : List (List DV)} (hh : HRel A μ h F w) (hc : F ctr) (hn : LK w w' (Af A μ h) v e sz elems) (hb : Below w.heap.size w w') :
  ∃ μ', HRel A μ' ((ctr, .row e sz elems) :: h) (fun id => F id /\ id ≠ ctr) w' /\ Aa (Af A μ' ((ctr, .row e sz elems) :: h)) μ' w' v (.lsl ctr sz 0 elems.length) /\ ∀ v x, Aa (Af A μ h) μ w v x -> Aa (Af A μ' ((ctr, .row e sz elems) :: h)) μ' w' v x := by
 have hno : μ ctr = none := hh.fresh ctr hc
 obtain ⟨hlen, hn⟩ := hn
 have hkm : BJ (Bm μ h) w w' := ⟨hb.size, fun b hb' _ => hb.block b hb'⟩
 have hsub : ∀ id x, AJ id ((ctr, BB.row e sz elems) :: h) = some x -> (id = ctr /\ x = .row e sz elems) \/ AJ id h = some x := by
  intro id x hx
  simp only [AJ] at hx
  split at hx
  .cases hx; exact .inl ⟨‹_›, rfl⟩
  exact .inr hx
 have hold : ∀ id x lc, AJ id ((ctr, BB.row e sz elems) :: h) = some x -> id ≠ ctr -> μ id = some lc -> lc.nil = false -> w'.heap[lc.b]? = w.heap[lc.b]? := by
  intro id x lc hx hne hm hnl
  rcases hsub id x hx with ⟨rfl, _⟩ | hx
  .exact absurd rfl hne
  exact hb.block _ (hh.base id x lc hx hm hnl).1
 have fin : ∀ (loc : BQ), (loc.nil = false -> loc.b < w'.heap.size /\ w.heap.size <= loc.b) ->
   (∀ O' : Nat -> Prop, (∀ b, O' b -> Af A μ h b \/ (loc.nil = false /\ b = loc.b)) -> (∀ b, Af A μ h b -> b < w.heap.size -> O' b \/ True) -> (∀ b, Af A (Bn μ ctr loc) ((ctr, BB.row e sz elems) :: h) b ↔ O' b) -> Cv O' (Bn μ ctr loc) w' loc (.row e sz elems)) ->
   (∀ O', Aa O' (Bn μ ctr loc) w' v (.lsl ctr sz 0 elems.length)) ->
   ∃ μ', HRel A μ' ((ctr, .row e sz elems) :: h) (fun id => F id /\ id ≠ ctr) w' /\ Aa (Af A μ' ((ctr, .row e sz elems) :: h)) μ' w' v (.lsl ctr sz 0 elems.length) /\ ∀ v x, Aa (Af A μ h) μ w v x -> Aa (Af A μ' ((ctr, .row e sz elems) :: h)) μ' w' v x := by
  intro loc hloc ho hu
  have hfr : NW μ h ((ctr, BB.row e sz elems) :: h) w loc := fun hn => .inl (hloc hn).2
  have hown := hh.sub_add loc (.row e sz elems) ((ctr, .row e sz elems) :: h) hfr hsub
  have hcov : ∀ b, Af A (Bn μ ctr loc) ((ctr, .row e sz elems) :: h) b -> Af A μ h b \/ (loc.nil = false /\ b = loc.b) := by
   rintro b (hb' | ⟨id, x, lc, h1, h2, h3, h4⟩)
   .exact .inl (.inl hb')
   by_cases e' : id = ctr
   .subst e'
    simp only [Bn, if_true, Option.some.injEq] at h2
    subst h2; exact .inr ⟨h3, h4.symm⟩
   rcases hsub id x h1 with ⟨e'', _⟩ | h1
   .exact absurd e'' e'
   simp only [Bn, e', if_false] at h2
   exact .inl (.inr ⟨id, x, lc, h1, h2, h3, h4⟩)
  have hadd := hh.add (w' := w') hno loc (.row e sz elems) ((ctr, .row e sz elems) :: h) (fun hn => (hloc hn).1) hfr hsub hkm hold hb.os hb.tape hb.output (ho _ hcov (fun _ _ _ => .inr trivial) (fun _ => Iff.rfl))
  exact ⟨_, hadd, hu _, fun v x hv => hv.mono hkm.own hown (Jt hno loc)⟩
 rcases hn with ⟨rfl, rfl⟩ | ⟨a, b, o, cap, c, rfl, h1, h2, h3, h4, h5, h6, h7, h8, h9, h10⟩
 .exact fin ⟨true, 0, 0, sz, 0⟩ (fun hn => by cases hn) (fun O' _ _ _ => ⟨rfl, hlen, .inl ⟨rfl, rfl⟩⟩) (fun O' => .lsln ctr ⟨true, 0, 0, sz, 0⟩ (by simp [Bn]) rfl)
 refine fin ⟨false, b, o, sz, cap⟩ (fun _ => ⟨h2, h1⟩) (fun O' hO' _ _ => ⟨rfl, hlen, .inr ⟨rfl, c, h6, h7, h8, h9, fun i j x d u hx hd hu => ?_⟩⟩) (fun O' => ?_)
 .refine (h10 i j x d u hx hd hu).mono (BJ.refl _ _) fun q _ hq => ?_
  rcases hO' q hq with hq | ⟨_, hq⟩
  .exact .inl hq
  exact .inr hq
 exact .lsl ctr 0 elems.length cap a ⟨false, b, o, sz, cap⟩ (by simp [Bn]) rfl (by simp) h8 (fun hc => by rw [h3 hc]; simp) h4 h5
theorem Sk (hE : BC P AD) {o : Oper} {l : LV} {e : EE} (hR : RF A F st a w) (hc : F st.ctr) (hF : ∃ c0, ∀ q, c0 <= q -> F q) (h : B4 P AD st o.op l e) {next : Act -> World -> Prop} {Q : Exit -> Act -> World -> Prop}
  (hK : ∀ a' w', RF A (fun id => F id /\ id ≠ st.ctr) (apS st st.ctr o l e) a' w' -> next a' w') : o.wp P a w next Q := by
 obtain ⟨⟨μ, hh, hs0⟩, hnt, hdef⟩ := id hR
 have hs := fun x => G3 hs0 x
 have less : ∀ {μ h w} (c' : Nat), HRel A μ h (fun id => F id /\ (st.ctr < c' -> id ≠ st.ctr)) w -> HRel A μ h (fun id => F id /\ id ≠ st.ctr) w := fun _ h => h.less fun _ h => ⟨h.1, fun _ => h.2⟩
 have nCase : e = .keep -> nW AD st o.op (· = l) -> o.wp P a w next Q := by
  rintro rfl h
  obtain ⟨u, v, rfl, hv, hg⟩ := Jb hE hs h
  unfold Oper.wp
  rw [hg o rfl w]
  exact hK _ _ (hR.put' (ctr' := st.ctr) hs0 (hh.less fun _ h => h.1) hv)
 have mCase : mW AD st o.op (fun r h _ => r = l /\ h = e.ap st.ctr st.heap) -> o.wp P a w next Q := by
  intro h
  obtain ⟨l', h', c', u, w', μ', ⟨rfl, rfl⟩, ⟨_, hh'⟩, hl, hmono, hrun⟩ := QW (a := a) (F := F) hE hs ⟨hh, hc⟩ h
  have := hK _ _ (hR.put' (ctr' := st.ctr) (fun t ht => hmono _ _ (hs0 t ht)) (less c' hh') hl)
  unfold Oper.wp
  rcases hrun o rfl with hr | ⟨hr, rfl⟩ <;> rw [hr] <;> exact this
 obtain ⟨dst, op, type, pos, after, guard⟩ := o
 simp only at h nCase mCase
 cases op <;> simp only [B4] at h <;> (try exact nCase h.1 h.2)
 case load t x =>
  obtain ⟨rfl, _, ti, h1, h2⟩ := h
  refine mCase ?_
  simp only [mW, EE.ap]
  exact ⟨ti, h1, by
   unfold Gm at *
   split at h2
   .obtain ⟨r, g1, g2⟩ := h2; exact ⟨r, g1, g2, trivial⟩
   .obtain ⟨c, r, g1, g2, g3⟩ := h2; exact ⟨c, r, g1, g2, g3, trivial⟩
   .obtain ⟨c1, c2, c3, c4, r, g1, g2, g3, g4⟩ := h2; exact ⟨c1, c2, c3, c4, r, g1, g2, g3, g4, trivial⟩
   exact h2⟩
 case lookup t x i ok =>
  obtain ⟨rfl, ti, kt, et, te, m, kd, h1, h2, h3, h4, h5, h6, h7, h8⟩ := h
  refine mCase ?_
  simp only [mW, EE.ap]
  exact ⟨ti, kt, et, te, m, kd, h1, h2, h3, h4, h5, h6, h7, h8, trivial⟩
 case store => obtain ⟨_, h', rfl, h⟩ := h; exact mCase h
 case mapUpdate => obtain ⟨h', rfl, h⟩ := h; exact mCase h
 case mapEntry => obtain ⟨h', rfl, h⟩ := h; exact mCase h
 case entryStore => obtain ⟨h', rfl, h⟩ := h; exact mCase h
 case alloc t => obtain ⟨ti, h1, rfl, rfl⟩ := h; exact mCase (by simp only [mW]; exact ⟨ti, h1, trivial, rfl⟩)
 case box t x => obtain ⟨ls, h1, rfl, rfl⟩ := h; exact mCase (by simp only [mW]; exact ⟨ls, h1, trivial, rfl⟩)
 case buildSlice t n ps =>
  obtain ⟨ti, e', te, l', h1, h2, h3, h4, h5, h6, h7, ⟨rfl, rfl⟩ | ⟨rfl, rfl⟩⟩ := h
  .exact mCase (by simp only [mW]; exact ⟨ti, e', te, l', h1, h2, h3, h4, h5, h6, h7, .inl ⟨rfl, rfl⟩⟩)
  exact mCase (by simp only [mW]; exact ⟨ti, e', te, l', h1, h2, h3, h4, h5, h6, h7, .inr ⟨rfl, rfl⟩⟩)
 case makeSlice t x y =>
  obtain ⟨ti, e', te, n, k1, k2, h1, h2, h3, h4, h5, h6, h7, h8, ⟨rfl, rfl⟩ | ⟨rfl, rfl⟩⟩ := h
  .exact mCase (by simp only [mW]; exact ⟨ti, e', te, n, k1, k2, h1, h2, h3, h4, h5, h6, h7, h8, .inl ⟨rfl, rfl⟩⟩)
  exact mCase (by simp only [mW]; exact ⟨ti, e', te, n, k1, k2, h1, h2, h3, h4, h5, h6, h7, h8, .inr ⟨rfl, rfl⟩⟩)
 case makeMap t r => obtain ⟨rfl, rfl, rfl⟩ := h; exact mCase (by simp only [mW]; exact ⟨trivial, trivial, rfl⟩)
 case call c =>
  obtain ⟨callee, args, ats⟩ := c
  cases callee with
  | value f =>
   simp only at h
   split at h
   .obtain ⟨h', rfl, f', k, caps, g1, g2, g3, _, _⟩ := h
    simp only [Callee.value.injEq] at g1
    subst g1
    have hfv := hs f
    rw [g2] at hfv
    generalize hv : a.eval f = v at hfv
    cases hfv with
    | fn _ cs _ hsz hr =>
     have hx : (execOp a.eval ⟨dst, .call ⟨.value f, args, ats⟩, type, pos, after, guard⟩).run P w = .ok (.enter k (args.map a.eval ++ cs)) w := by
      simp [execOp, resolve, Deferred.ofValue, hv, invoke]
      exact g3.1 _ _
     unfold Oper.wp
     rw [hx, Oper.upon_enter]
     refine (g3.2 A F μ w _ hh hc hF (by simp [hsz]) fun i v x hvi hx => ?_).mono fun en w' ⟨u, μ', he, hh', hl, hmono⟩ => ?_
     .rw [List.getElem?_append] at hx
      rw [Array.getElem?_append] at hvi
      by_cases hi' : i < args.size
      .rw [if_pos (by simpa using hi')] at hvi hx
       exact Im hs args.toList i v _ (by simpa using hvi) hx
      rw [if_neg (by simpa using hi')] at hvi hx
      exact hr _ v _ (by simpa using hvi) (by simpa using hx)
     subst he
     exact hK _ _ (hR.put' (ctr' := st.ctr) (fun t ht => hmono _ _ (hs0 t ht)) hh' hl)
   rcases h with ⟨rfl, k, caps, ds, r, h1, h2, h3, h4, rfl⟩ | ⟨_, k, caps, ds, tt, sz, elems, h1, h2, h3, h4, rfl, rfl⟩
   .have hfv := hs f
    rw [h1] at hfv
    generalize hv : a.eval f = v at hfv
    cases hfv with
    | fn _ cs _ hsz hr =>
     have hx : (execOp a.eval ⟨dst, .call ⟨.value f, args, ats⟩, type, pos, after, guard⟩).run P w = .ok (.enter k (args.map a.eval ++ cs)) w := by
      simp [execOp, resolve, Deferred.ofValue, hv, invoke]
      exact h3.enters _ _
     unfold Oper.wp
     rw [hx, Oper.upon_enter]
     obtain ⟨g1, g2⟩ := E7 hh (l := (args.toList.map st.eval ++ caps).flatMap (ET st.heap)) h2 (fun id hid => hid)
     have hO : ∀ b, Af A μ (B6 ((args.toList.map st.eval ++ caps).flatMap (ET st.heap)) st.heap) b -> b < w.heap.size := by
      rintro b (hb | ⟨id, x, lc, h1, h2, h3, rfl⟩)
      .exact Nat.lt_of_lt_of_le (A.hO b hb).1 hh.size
      exact (hh.base id x lc (G1 h1).2 h2 h3).1
     refine (h3.run _ w _ hO (by rw [<- g1]; simp [hsz]) fun i v d hvi hdi => ?_).mono fun e w' ⟨v, r', he, hp, hq, hb⟩ => ?_
     .have hi := (List.getElem?_eq_some_iff.1 hdi).1
      have hx : (args.toList.map st.eval ++ caps)[i]? = some ((args.toList.map st.eval ++ caps)[i]'(by omega)) := List.getElem?_eq_getElem _
      refine g2 i v _ d hx hdi ?_
      rw [List.getElem?_append] at hx
      rw [Array.getElem?_append] at hvi
      by_cases hi' : i < args.size
      .rw [if_pos (by simpa using hi')] at hvi hx
       exact Im hs args.toList i v _ (by simpa using hvi) hx
      rw [if_neg (by simpa using hi')] at hvi hx
      exact hr _ v _ (by simpa using hvi) (by simpa using hx)
     subst he hq
     obtain ⟨hh', hown⟩ := hh.keep (w' := w') (h' := st.heap) (μ' := μ) (fun _ _ h => h) hh.fresh (fun _ _ h => h) hb.block hb.size hb.os hb.tape hb.output
     have hp' : As (Af A μ st.heap) w' v r' := by
      rcases h4 with h4 | h4
      .exact hp.scalar h4 _ _
      rw [h4] at hp; exact hp
     exact hK _ _ (hR.put' (ctr' := st.ctr) (fun t ht => (hs0 t ht).mono ⟨hb.size, fun b hb' _ => hb.block b hb'⟩ (fun b _ hb => hb) (fun _ _ h => h)) (hh'.less fun _ h => h.1) (.p _ _ hp'))
   have hfv := hs f
   rw [h1] at hfv
   generalize hv : a.eval f = v at hfv
   cases hfv with
   | fn _ cs _ hsz hr =>
    have hx : (execOp a.eval ⟨dst, .call ⟨.value f, args, ats⟩, type, pos, after, guard⟩).run P w = .ok (.enter k (args.map a.eval ++ cs)) w := by
     simp [execOp, resolve, Deferred.ofValue, hv, invoke]
     exact h3.enters _ _
    unfold Oper.wp
    rw [hx, Oper.upon_enter]
    obtain ⟨g1, g2⟩ := E7 hh (l := (args.toList.map st.eval ++ caps).flatMap (ET st.heap)) h2 (fun id hid => hid)
    have hO : ∀ b, Af A μ (B6 ((args.toList.map st.eval ++ caps).flatMap (ET st.heap)) st.heap) b -> b < w.heap.size := by
     rintro b (hb | ⟨id, x, lc, h1, h2, h3, rfl⟩)
     .exact Nat.lt_of_lt_of_le (A.hO b hb).1 hh.size
     exact (hh.base id x lc (G1 h1).2 h2 h3).1
    refine (h3.run _ w _ hO (by rw [<- g1]; simp [hsz]) fun i v d hvi hdi => ?_).mono fun e w' ⟨v, he, hn', hb⟩ => ?_
    .have hi := (List.getElem?_eq_some_iff.1 hdi).1
     have hx : (args.toList.map st.eval ++ caps)[i]? = some ((args.toList.map st.eval ++ caps)[i]'(by omega)) := List.getElem?_eq_getElem _
     refine g2 i v _ d hx hdi ?_
     rw [List.getElem?_append] at hx
     rw [Array.getElem?_append] at hvi
     by_cases hi' : i < args.size
     .rw [if_pos (by simpa using hi')] at hvi hx
      exact Im hs args.toList i v _ (by simpa using hvi) hx
     rw [if_neg (by simpa using hi')] at hvi hx
     exact hr _ v _ (by simpa using hvi) (by simpa using hx)
    subst he
    have hn2 : LK w w' (Af A μ st.heap) v tt sz elems := by
     rcases h4 with h4 | h4
     .rw [h4] at hn'; exact hn'
     exact hn'.flat h4 _
    obtain ⟨μ', k1, k2, k3⟩ := Yz hh hc hn2 hb
    exact hK _ _ (hR.put' (ctr' := st.ctr) (fun t ht => k3 _ _ (hs0 t ht)) k1 k2)
  | builtin b =>
   cases b with
   | append => obtain ⟨-, h', rfl, h⟩ := h; exact mCase h
   | _ => exact nCase h.1 h.2
  | invoke r m => exact nCase h.1 h.2
theorem QZ (hE : BC P AD) {ops : Array Oper} {i : Nat} {o : Oper} (ho : ops[i]? = some o) {l : LV} {e : EE} (hR : RF A F st a w) (hc : F st.ctr) (hF : ∃ c0, ∀ q, c0 <= q -> F q) (h : Cm P AD ops st o l e) {next : Act -> World -> Prop} {Q : Exit -> Act -> World -> Prop}
  (hK : ∀ a' w', RF A (fun id => F id /\ id ≠ st.ctr) (apS st st.ctr o l e) a' w' -> next a' w') : wpOp P ops Q i next a w := by
 obtain ⟨⟨μ, hh, hs0⟩, hnt, hdef⟩ := id hR
 have hs := fun x => G3 hs0 x
 unfold wpOp
 rw [ho]
 simp only
 unfold Cm at h
 have skip : l = .und /\ e = .keep -> next (a.put o.dst undef) w := by
  rintro ⟨rfl, rfl⟩
  exact hK _ _ (hR.put' (ctr' := st.ctr) hs0 (hh.less fun _ h => h.1) .und)
 split at h
 .rename_i hg
  rw [if_pos (by simp [Region.wanted, hg])]
  exact .inl (Sk hE hR hc hF h hK)
 rename_i j want hg
 obtain ⟨g1, g2⟩ := Oh (ops := ops) (j := j) hs
 split at h
 .rename_i b hb
  have hy := g1 b hb
  split at h
  .rename_i e
   rw [if_pos (by simp [Region.wanted, hg, hy, e])]
   exact .inl (Sk hE hR hc hF h hK)
  rename_i e
  rw [if_neg (by simp [Region.wanted, hg, hy, e])]
  exact skip h
 .rename_i hb
  have hy := g2 hb
  rw [if_neg (by simp [Region.wanted, hg, hy])]
  exact skip h
 exact h.elim
end
section
variable {P : Program} {AD : A5} {md : Region.Mode} {ops : Array Oper} {base : Nat} {Q : St -> Prop}
def Ih (P : Program) (AD : A5) (md : Region.Mode) (ops : Array Oper) (base : Nat) (Q : St -> Prop) : Nat -> Array Bool -> St -> Prop
 | 0, listed, st => Region.ready md ops listed = [] /\ ∃ st', GA st st' /\ Q st'
 | fuel + 1, listed, st => (Region.ready md ops listed = [] -> ∃ st', GA st st' /\ Q st') /\
  ∀ i ∈ Region.ready md ops listed, ∃ o l e, ops[i]? = some o /\ Cm P AD ops (st.at (base + i)) o l e /\ Ih P AD md ops base Q fuel (listed.setIfInBounds i true) (apS st (base + i) o l e)
theorem GA.trans {a b c : St} (h : GA a b) (h' : GA b c) : GA a c := ⟨h.nt.trans h'.nt, fun t => (h.slots t).trans (h'.slots t), fun i => (h.heap i).trans (h'.heap i)⟩
theorem GA.symm {a b : St} (h : GA a b) : GA b a := ⟨h.nt.symm, fun t => (h.slots t).symm, fun i => (h.heap i).symm⟩
theorem Y0 {st : St} {dst : Option Tmp} {l : LV} {t : Nat} : BZ (st.put dst l).slots t = if dst = some t then l else BZ st.slots t := by
 cases dst with
 | none => simp [St.put]
 | some d =>
  simp only [St.put, BZ, AJ, Option.some.injEq]
  by_cases e : t = d
  .subst e; simp
  rw [if_neg e, if_neg (fun h => e h.symm)]
theorem GB {st : St} {c : Nat} {o : Oper} {l : LV} {e : EE} : (apS st c o l e).nt = st.nt := by
 unfold apS St.put; split <;> rfl
theorem Bc {st : St} {c : Nat} {o : Oper} {l : LV} {e : EE} : (apS st c o l e).heap = e.ap c st.heap := by
 unfold apS St.put; split <;> rfl
theorem CV {st : St} {c : Nat} {o : Oper} {l : LV} {e : EE} {t : Nat} : BZ (apS st c o l e).slots t = if o.dst = some t then l else BZ st.slots t := by
 unfold apS; rw [Y0]
theorem GA.at {st st' : St} (h : GA st st') (c : Nat) : GA (st.at c) (st'.at c) := ⟨h.nt, h.slots, h.heap⟩
theorem GA.apS {st st' : St} (h : GA st st') {c : Nat} {o : Oper} {l : LV} {e e' : EE} (he : ∀ id, AJ id (e.ap c st.heap) = AJ id (e'.ap c st'.heap)) : GA (apS st c o l e) (apS st' c o l e') :=
 ⟨by rw [GB, GB]; exact h.nt, fun t => by rw [CV, CV, h.slots], fun id => by rw [Bc, Bc]; exact he id⟩
theorem Nd : ∀ (fuel : Nat) (listed : Array Bool) (st st' : St), GA st st' -> Ih P AD md ops base Q fuel listed st -> Ih P AD md ops base Q fuel listed st'
 | 0, _, _, _, he, ⟨h1, s, h2, h3⟩ => ⟨h1, s, he.symm.trans h2, h3⟩
 | fuel + 1, _, st, st', he, ⟨h1, h2⟩ => ⟨fun hr => by obtain ⟨s, a, b⟩ := h1 hr; exact ⟨s, he.symm.trans a, b⟩, fun i hi => by
   obtain ⟨o, l, e, g1, g2, g3⟩ := h2 i hi
   obtain ⟨e', k1, k2⟩ := X5 (he.at (base + i)) rfl g2
   exact ⟨o, l, e', g1, k1, Nd fuel _ _ _ (he.apS k2) g3⟩⟩
def Oo : Cls -> Cls -> Bool
 | .n, .w => true
 | .w, _ | _, .w => false
 | .a, .r => false
 | _, _ => true
def Mv : Op -> Bool
 | .call c => match c.callee with
  | .value f => !(D8 f)
  | _ => false
 | _ => false
def R9 (a b : Op) : Bool := !(Mv a) || decide (BO b ≠ .r)
theorem Y1 {st : St} {o : Oper} {l : LV} {e : EE} (h : Cm P AD ops st o l e) (hc : BO o.op = .n \/ BO o.op = .r) (hw : AD.own = true -> Mv o.op = false) : e = .keep := by
 have big : B4 P AD st o.op l e -> e = .keep := by
  intro h
  generalize o.op = op at *
  cases op <;> simp only [BO, reduceCtorEq, or_self] at hc <;> simp only [B4] at h <;> (try exact h.1)
  case call c =>
   obtain ⟨callee, args, ats⟩ := c
   cases callee with
   | builtin b => cases b <;> simp only [reduceCtorEq, or_self] at hc <;> exact h.1
   | value f =>
    have hnd : ¬ D8 f = true := fun hd => by simp [hd] at hc
    simp only [if_neg hnd] at h
    rcases h with h | ⟨h, _⟩
    .exact h.1
    have := hw h
    simp [Mv, hnd] at this
   | _ => exact h.1
 unfold Cm at h
 split at h
 .exact big h
 split at h
 .split at h
  .exact big h
  exact h.2
 .exact h.2
 exact h.elim
theorem Pm {st : St} {o : Oper} {l : LV} {e : EE} (h : Cm P AD ops st o l e) (hc : BO o.op ≠ .w) : e = .keep \/ ∃ x, e = .new x := by
 have big : B4 P AD st o.op l e -> e = .keep \/ ∃ x, e = .new x := by
  intro h
  generalize o.op = op at *
  cases op <;> simp only [B4] at h <;> (try exact .inl h.1)
  case store => exact absurd rfl hc
  case mapUpdate => exact absurd rfl hc
  case mapEntry => exact absurd rfl hc
  case entryStore => exact absurd rfl hc
  case alloc => obtain ⟨_, _, _, h⟩ := h; exact .inr ⟨_, h⟩
  case box => obtain ⟨_, _, _, h⟩ := h; exact .inr ⟨_, h⟩
  case buildSlice => obtain ⟨_, _, _, _, _, _, _, _, _, _, _, ⟨_, h⟩ | ⟨_, h⟩⟩ := h; exact .inr ⟨_, h⟩; exact .inl h
  case makeSlice => obtain ⟨_, _, _, _, _, _, _, _, _, _, _, _, _, _, ⟨_, h⟩ | ⟨_, h⟩⟩ := h; exact .inr ⟨_, h⟩; exact .inl h
  case makeMap => exact .inr ⟨_, h.2.2⟩
  case call c =>
   obtain ⟨callee, args, ats⟩ := c
   cases callee with
   | builtin b =>
    cases b with
    | append => exact absurd rfl hc
    | _ => exact .inl h.1
   | value f =>
    have hnd : ¬ D8 f = true := fun hd => hc (by simp [BO, hd])
    simp only [if_neg hnd] at h
    rcases h with h | ⟨_, _, _, _, _, _, _, _, _, _, _, _, h⟩
    .exact .inl h.1
    exact .inr ⟨_, h⟩
   | _ => exact .inl h.1
 unfold Cm at h
 split at h
 .exact big h
 split at h
 .split at h
  .exact big h
  exact .inl h.2
 .exact .inl h.2
 exact h.elim
theorem L4 {st : St} {o : Oper} {l : LV} {e : EE} (h : Cm P AD ops st o l e) {k : Nat} (hk : k ≠ st.ctr) (hn : AJ k st.heap = none) : AJ k (e.ap st.ctr st.heap) = none := by
 by_cases hw : BO o.op = .w
 .have big : B4 P AD st o.op l e -> AJ k (e.ap st.ctr st.heap) = none := by
   intro h
   have : ∃ h1, e = .set h1 /\ wW P AD st o.op l h1 := by
    generalize hq : o.op = op at *
    cases op <;> simp only [BO, reduceCtorEq] at hw <;> simp only [B4] at h ⊢
    case store => exact h.2
    case mapUpdate => exact h
    case mapEntry => exact h
    case entryStore => exact h
    case call c =>
     obtain ⟨callee, args, ats⟩ := c
     cases callee with
     | builtin b =>
      cases b <;> simp only [reduceCtorEq] at hw
      exact h.2
     | value f =>
      have hd : D8 f = true := by simp only at hw; split at hw <;> first | assumption | cases hw
      simp only [hd, if_true] at h
      exact h
     | _ => simp only [reduceCtorEq] at hw
   obtain ⟨h1, rfl, g⟩ := this
   obtain ⟨_, _, _, g⟩ := Wn (st' := st) hw (fun _ _ => rfl) rfl (fun _ => rfl) g
   exact g k hk hn
  unfold Cm at h
  split at h
  .exact big h
  split at h
  .split at h
   .exact big h
   rw [h.2]; exact hn
  .rw [h.2]; exact hn
  exact h.elim
 rcases Pm h hw with rfl | ⟨x, rfl⟩
 .exact hn
 simp only [EE.ap, AJ, hk, if_false]; exact hn
def SA : Op -> Op -> Bool
 | .load .., .mapUpdate .. | .load .., .mapEntry .. | .load .., .entryStore .. => true
 | _, _ => false
def Qa : Op -> Op -> Bool
 | .load .., .store .. => true
 | .load .., .call c => match c.callee with
  | .builtin .append => true
  | .value f => D8 f
  | _ => false
 | _, _ => false
def Oq (q : Bool) (a b : Op) : Bool := SA a b || (q && Qa a b)
def SB (q : Bool) (a b : Op) : Bool := Oo (BO a) (BO b) || Oq q a b
theorem Wo {o : Op} (h : Mv o = true) : BO o = .r := by
 unfold Mv at h
 split at h
 .rename_i c
  unfold BO
  split at h
  .rename_i f e
   simp only [Bool.not_eq_true'] at h
   simp only [e, h, Bool.false_eq_true, if_false]
  cases h
 cases h
theorem TU {a b : Op} (h : Qa a b = true) : BO a = .r /\ BO b = .w /\ (∃ t x, a = .load t x) /\ ((∃ t x v, b = .store t x v) \/ ∃ c, b = .call c /\ (c.callee = .builtin .append \/ ∃ f, c.callee = .value f /\ D8 f = true)) := by
 unfold Qa at h
 split at h
 .exact ⟨rfl, rfl, ⟨_, _, rfl⟩, .inl ⟨_, _, _, rfl⟩⟩
 .rename_i c
  split at h
  .rename_i e
   exact ⟨rfl, by simp [BO, e], ⟨_, _, rfl⟩, .inr ⟨_, rfl, .inl e⟩⟩
  .rename_i f e
   exact ⟨rfl, by simp [BO, e, h], ⟨_, _, rfl⟩, .inr ⟨_, rfl, .inr ⟨f, e, h⟩⟩⟩
  cases h
 cases h
theorem T8 {a b : Op} (h : SA a b = true) : BO a = .r /\ BO b = .w /\ (∃ t x, a = .load t x) /\ ((∃ t x i v, b = .mapUpdate t x i v) \/ (∃ t x i, b = .mapEntry t x i) \/ ∃ t x i v, b = .entryStore t x i v) := by
 unfold SA at h
 split at h
 .exact ⟨rfl, rfl, ⟨_, _, rfl⟩, .inl ⟨_, _, _, _, rfl⟩⟩
 .exact ⟨rfl, rfl, ⟨_, _, rfl⟩, .inr (.inl ⟨_, _, _, rfl⟩)⟩
 .exact ⟨rfl, rfl, ⟨_, _, rfl⟩, .inr (.inr ⟨_, _, _, _, rfl⟩)⟩
 cases h
theorem H7 {q : Bool} {a b : Op} (h : Oq q a b = true) : BO a = .r /\ BO b = .w /\ (∃ t x, a = .load t x) /\
  (((∃ t x i v, b = .mapUpdate t x i v) \/ (∃ t x i, b = .mapEntry t x i) \/ ∃ t x i v, b = .entryStore t x i v) \/ (q = true /\ ((∃ t x v, b = .store t x v) \/ ∃ c, b = .call c /\ (c.callee = .builtin .append \/ ∃ f, c.callee = .value f /\ D8 f = true)))) := by
 simp only [Oq, Bool.or_eq_true, Bool.and_eq_true] at h
 rcases h with h | ⟨hq, h⟩
 .obtain ⟨h1, h2, h3, h4⟩ := T8 h; exact ⟨h1, h2, h3, .inl h4⟩
 obtain ⟨h1, h2, h3, h4⟩ := TU h; exact ⟨h1, h2, h3, .inr ⟨hq, h4⟩⟩
theorem AAC {st st' : St} {o : Oper} {l : LV} {e : EE} (hld : ∃ t x, o.op = .load t x) (hnt : st.nt = st'.nt) (hs : ∀ t ∈ o.looksAt ops, BZ st.slots t = BZ st'.slots t)
  (hm : ∀ id x, AJ id st.heap = some x -> (∀ m, x ≠ .map m) -> AJ id st'.heap = some x) (h : Cm P AD ops st o l e) : Cm P AD ops st' o l e := by
 have hop := FQ hnt hs
 have key : B4 P AD st o.op l e -> B4 P AD st' o.op l e := by
  obtain ⟨t, x, ho⟩ := hld
  rw [ho] at hop ⊢
  simp only [B4]
  rintro ⟨h1, hc', ti, h2, h3⟩
  have he : st.eval x = st'.eval x := hop x (by simp [Op.operands])
  rw [<- he]
  refine ⟨h1, hc', ti, h2, ?_⟩
  unfold Gm at h3 ⊢
  split at h3
  .rename_i hx; simp only [hx]; exact h3
  .rename_i id off hx
   obtain ⟨cells, r, g1, g2⟩ := h3
   simp only [hx]
   exact ⟨cells, r, hm _ _ g1 (by simp), g2⟩
  .rename_i id i off hx
   obtain ⟨e', sz, elems, y, r, g1, g2⟩ := h3
   simp only [hx]
   exact ⟨e', sz, elems, y, r, hm _ _ g1 (by simp), g2⟩
  exact h3.elim
 unfold Cm at *
 split at h
 .exact key h
 rename_i j want hg
 rw [<- H6 hnt hs hg]
 split at h
 .rename_i hb
  split at h
  .rw [if_pos ‹_›]; exact key h
  rw [if_neg ‹_›]; exact h
 .exact h
 exact h.elim
theorem AAq {st : St} {o : Oper} {l : LV} {e : EE} {c : Nat} (hmu : (∃ t x i v, o.op = .mapUpdate t x i v) \/ (∃ t x i, o.op = .mapEntry t x i) \/ ∃ t x i v, o.op = .entryStore t x i v) (h : Cm P AD ops st o l e) : ∀ id x, AJ id st.heap = some x -> (∀ m, x ≠ .map m) -> AJ id (e.ap c st.heap) = some x := by
 have key : B4 P AD st o.op l e -> ∀ id x, AJ id st.heap = some x -> (∀ m, x ≠ .map m) -> AJ id (e.ap c st.heap) = some x := by
  have fin : ∀ (id' : Nat) (m m' : List (DV × DV)), AJ id' st.heap = some (.map m) -> ∀ id y, AJ id st.heap = some y -> (∀ m, y ≠ .map m) -> AJ id (BR id' (.map m') st.heap) = some y := by
   intro id' m m' h4 id y hy hne
   by_cases hii : id = id'
   .subst hii; rw [h4] at hy; cases hy; exact absurd rfl (hne _)
   rw [DK hii]; exact hy
  rcases hmu with ⟨t, x, i, v, ho⟩ | ⟨t, x, i, ho⟩ | ⟨t, x, i, v, ho⟩
  .rw [ho]
   simp only [B4]
   rintro ⟨h', rfl, hmw⟩ id y hy hne
   obtain ⟨ti, kt, et, id', m, kd, vd, h1, h2, h3, h4, h5, h6, h7, h8, _, rfl⟩ := hmw
   exact fin id' m _ h4 id y hy hne
  .rw [ho]
   simp only [B4]
   rintro ⟨h', rfl, hmw⟩ id y hy hne
   obtain ⟨ti, kt, et, te, id', m, kd, h1, h2, h3, h4, h5, h6, h7, h8, _, rfl⟩ := hmw
   show AJ id (match CU kd m with | some _ => st.heap | none => _) = some y
   split
   .exact hy
   exact fin id' m _ h5 id y hy hne
  rw [ho]
  simp only [B4]
  rintro ⟨h', rfl, hmw⟩ id y hy hne
  obtain ⟨id', m, k1, n, vd, p, h1, h2, h3, h4, h5, h6, _, rfl⟩ := hmw
  exact fin id' m _ h2 id y hy hne
 unfold Cm at h
 split at h
 .exact key h
 split at h
 .split at h
  .exact key h
  obtain ⟨_, rfl⟩ := h; exact fun id x hx _ => hx
 .obtain ⟨_, rfl⟩ := h; exact fun id x hx _ => hx
 exact h.elim
theorem Y2 {b : Nat -> Bool} (hb0 : AD.calm = some b) {st st' : St} {o : Oper} {l : LV} {e : EE} (hld : ∃ t x, o.op = .load t x) (hnt : st.nt = st'.nt) (hs : ∀ t ∈ o.looksAt ops, BZ st.slots t = BZ st'.slots t)
  (hm : ∀ id o, (∀ m, o ≠ .map m) -> b id = false -> AJ id st.heap = some o -> AJ id st'.heap = some o) (h : Cm P AD ops st o l e) : Cm P AD ops st' o l e := by
 have hop := FQ hnt hs
 have key : B4 P AD st o.op l e -> B4 P AD st' o.op l e := by
  obtain ⟨t, x, ho⟩ := hld
  rw [ho] at hop ⊢
  simp only [B4]
  rintro ⟨h1, hc', ti, h2, h3⟩
  have he : st.eval x = st'.eval x := hop x (by simp [Op.operands])
  rw [<- he]
  refine ⟨h1, hc', ti, h2, ?_⟩
  rw [hb0] at hc'
  unfold Gm at h3 ⊢
  split at h3
  .rename_i hx; simp only [hx]; exact h3
  .rename_i id off hx
   obtain ⟨cells, r, g1, g2⟩ := h3
   simp only [hx]
   simp only [hx, Mr] at hc'
   exact ⟨cells, r, hm _ _ (by simp) (by simpa using hc') g1, g2⟩
  .rename_i id i off hx
   obtain ⟨e', sz, elems, y, r, g1, g2⟩ := h3
   simp only [hx]
   simp only [hx, Mr] at hc'
   exact ⟨e', sz, elems, y, r, hm _ _ (by simp) (by simpa using hc') g1, g2⟩
  exact h3.elim
 unfold Cm at *
 split at h
 .exact key h
 rename_i j want hg
 rw [<- H6 hnt hs hg]
 split at h
 .rename_i hb
  split at h
  .rw [if_pos ‹_›]; exact key h
  rw [if_neg ‹_›]; exact h
 .exact h
 exact h.elim
theorem AAD {b : Nat -> Bool} (hb0 : AD.calm = some b) {st : St} {o : Oper} {l : LV} {e : EE} (hfr : AJ st.ctr st.heap = none) (hmu : (∃ t x v, o.op = .store t x v) \/ ∃ c, o.op = .call c /\ (c.callee = .builtin .append \/ ∃ f, c.callee = .value f /\ D8 f = true)) (h : Cm P AD ops st o l e) :
  ∀ id x, (∀ m, x ≠ .map m) -> b id = false -> AJ id st.heap = some x -> AJ id (e.ap st.ctr st.heap) = some x := by
 have key : B4 P AD st o.op l e -> ∀ id x, (∀ m, x ≠ .map m) -> b id = false -> AJ id st.heap = some x -> AJ id (e.ap st.ctr st.heap) = some x := by
  intro h id y hnm hid hl
  rcases hmu with ⟨t, x, v, ho⟩ | ⟨c, ho, hcal⟩
  .rw [ho] at h
   simp only [B4] at h
   obtain ⟨hc', h', rfl, ti, h1, hs⟩ := h
   rw [hb0] at hc'
   unfold KK at hs
   obtain ⟨ls, g1, g2, g3, hs⟩ := hs
   split at hs
   .rename_i id' off hx
    obtain ⟨cells', q1, q2, _, rfl⟩ := hs
    rw [hx] at hc'
    simp only [LL] at hc'
    show AJ id (BR id' _ st.heap) = _
    rw [DK (fun e2 => by rw [e2, hc'] at hid; cases hid)]; exact hl
   .rename_i hx
    first
    | exact hs.elim
    | (simp only [hx, LL, Bool.false_eq_true] at hc')
   all_goals first
    | exact hs.elim
    | (rename_i hx; simp only [hx, LL, Bool.false_eq_true] at hc')
  obtain ⟨callee, args, ats⟩ := c
  simp only at hcal
  rcases hcal with hcal | ⟨f, hcal, hd⟩
  rotate_left
  .subst hcal
   rw [ho] at h
   simp only [B4, hd, if_true] at h
   obtain ⟨h', rfl, f', k, caps, _, _, _, _, g5⟩ := h
   have hne : id ≠ st.ctr := fun e2 => by rw [e2, hfr] at hl; cases hl
   exact g5 b hb0 id y hnm hne hid hl
  subst hcal
  rw [ho] at h
  simp only [B4, mW] at h
  obtain ⟨hap, h', rfl, _, s, x, t, g1, g2, ti, e', te, q1, q2, q3, q4, new, q5, q6, hs⟩ := h
  have hne : id ≠ st.ctr := fun e2 => by rw [e2, hfr] at hl; cases hl
  show AJ id h' = _
  split at hs
  .obtain ⟨_, _, _, rfl⟩ := hs
   simp only [AJ, if_neg hne]; exact hl
  .rename_i id' sz off len hx
   obtain ⟨elems, _, hrow, _, _, _, _, rfl⟩ := hs
   have hne2 : id ≠ id' := fun e2 => by
    have := hap s (by rw [g1]; rfl)
    rw [hb0, hx] at this
    simp only [Q7] at this
    rw [e2, this] at hid; cases hid
   simp only [AJ, if_neg hne]
   rw [FN hne2]; exact hl
  exact hs.elim
 unfold Cm at h
 split at h
 .exact key h
 split at h
 .split at h
  .exact key h
  obtain ⟨_, rfl⟩ := h; exact fun id x _ _ hx => hx
 .obtain ⟨_, rfl⟩ := h; exact fun id x _ _ hx => hx
 exact h.elim
theorem RA (q : Bool) (hq : q = true -> ∃ b, AD.calm = some b) {i : Nat} {oi : Oper} {l : LV} {e : EE} (hi : ops[i]? = some oi) (B : Nat -> Bool)
  (hB : ∀ j, B j = true -> j ≠ i /\ ∀ oj, ops[j]? = some oj -> ∃ x ∈ oj.after, Region.binds md x = true /\ (x.on = i \/ B x.on = true)) :
  ∀ (fuel : Nat) (listed : Array Bool) (st : St), (∀ j, B j = true -> listed.getD j false = false) ->
   (∀ j oj, ops[j]? = some oj -> j ≠ i -> listed.getD j true = false -> B j = false -> oi.apart ops oj = true /\ SB q oi.op oj.op = true /\ (AD.own = true -> R9 oi.op oj.op = true)) ->
   (∀ k, listed.getD k true = false -> AJ (base + k) st.heap = none) ->
   i ∈ Region.ready md ops listed -> Cm P AD ops (st.at (base + i)) oi l e ->
   Ih P AD md ops base Q fuel (listed.setIfInBounds i true) (apS st (base + i) oi l e) -> Ih P AD md ops base Q (fuel + 1) listed st := by
 intro fuel
 induction fuel with
 | zero =>
  intro listed st _ _ _ hr hy H
  refine ⟨fun h => (by rw [h] at hr; cases hr), fun j hj => ?_⟩
  by_cases hji : j = i
  .subst hji; exact ⟨oi, l, e, hi, hy, H⟩
  have := ready_mono hj hji
  rw [H.1] at this
  cases this
 | succ fuel ih =>
  intro listed st hBl hfree hfresh hr hy H
  refine ⟨fun h => (by rw [h] at hr; cases hr), fun j hj => ?_⟩
  by_cases hji : j = i
  .subst hji; exact ⟨oi, l, e, hi, hy, H⟩
  obtain ⟨oj, lj, ej, hoj, h1, h2⟩ := H.2 j (ready_mono hj hji)
  obtain ⟨hjun, oj', hoj', hall⟩ := mem_ready.1 hj
  rw [hoj] at hoj'; cases hoj'
  have hiun : listed.getD i true = false := (mem_ready.1 hr).1
  have hiF : listed.getD i false = false := by
   rcases Nat.lt_or_ge i listed.size with h' | h'
   .simp [h'] at hiun ⊢; exact hiun
   simp [Array.getElem?_eq_none h']
  have hjB : B j = false := by
   rcases hb : B j with _ | _
   .rfl
   obtain ⟨_, hb2⟩ := hB j hb
   obtain ⟨x, hx, hxb, hxo⟩ := hb2 oj hoj
   have := hall x hx hxb
   rcases hxo with hxo | hxo
   .rw [hxo, hiF] at this; cases this
   rw [hBl _ hxo] at this; cases this
  obtain ⟨hap, hcp, hwp⟩ := hfree j oj hoj hji hjun hjB
  obtain ⟨a1, a2, a3⟩ := Oper.apart_spec hap
  simp only [SB, Bool.or_eq_true] at hcp
  have hwi : BO oi.op ≠ .w := by
   rcases hcp with hcp | hcp
   .intro e; rw [e] at hcp; simp [Oo] at hcp
   rw [(H7 hcp).1]; simp
  have hwj : BO oj.op = .w -> BO oi.op = .n \/ Oq q oi.op oj.op = true := by
   intro e
   rcases hcp with hcp | hcp
   .rw [e] at hcp; cases hq : BO oi.op <;> rw [hq] at hcp <;> simp [Oo] at hcp ⊢
   exact .inr hcp
  have hnr : BO oj.op = .w -> BO oi.op = .n \/ BO oi.op = .r := fun e => (hwj e).imp id fun h => (H7 h).1
  have hcp : BO oj.op ≠ .w -> Oo (BO oi.op) (BO oj.op) = true := fun e => hcp.resolve_right fun h => e (H7 h).2.1
  have hkp : BO oi.op = .n \/ BO oi.op = .r -> BO oj.op = .r \/ BO oj.op = .w -> e = .keep := fun hc hj => Y1 hy hc fun ho => by
   rcases hj with hj | hj
   .have := hwp ho
    simp only [R9, hj, ne_eq, not_true_eq_false, decide_false, Bool.or_false, Bool.not_eq_true'] at this
    exact this
   rcases hwj hj with h | h
   .cases hq : Mv oi.op with
    | false => rfl
    | true =>
     rw [Wo hq] at h
     cases h
   obtain ⟨_, _, ⟨t, x, h⟩, _⟩ := H7 h
   rw [h]; rfl
  have back : ∃ ej', Cm P AD ops (st.at (base + j)) oj lj ej' /\ (∀ id, AJ id (ej.ap (base + j) (apS st (base + i) oi l e).heap) = AJ id (ej'.ap (base + j) (apS st (base + i) oi l e).heap)) /\ (BO oj.op ≠ .w -> ej' = ej) := by
   have hsl : ∀ t ∈ oj.looksAt ops, BZ ((apS st (base + i) oi l e).at (base + j)).slots t = BZ (st.at (base + j)).slots t := fun t ht => by
    show BZ (apS st (base + i) oi l e).slots t = BZ st.slots t
    rw [CV, if_neg]
    intro e'; exact a1 t e' ht
   by_cases hcw : BO oj.op = .w
   .have : e = .keep := hkp (hnr hcw) (.inr hcw)
    subst this
    have heq : GA ((apS st (base + i) oi l .keep).at (base + j)) { (st.at (base + j)) with slots := (apS st (base + i) oi l .keep).slots } := ⟨by simp [St.at, GB], fun _ => rfl, fun id => by simp [St.at, Bc, EE.ap]⟩
    obtain ⟨ej', k1, k2⟩ := X5 heq rfl h1
    have h3 : ∃ e3, Cm P AD ops (st.at (base + j)) oj lj e3 /\ ∀ id, AJ id (ej'.ap (base + j) st.heap) = AJ id (e3.ap (base + j) st.heap) :=
     X6 (st := { (st.at (base + j)) with slots := (apS st (base + i) oi l .keep).slots }) (st' := st.at (base + j)) hcw rfl hsl rfl (fun _ => rfl) k1
    obtain ⟨e3, g1, g2⟩ := h3
    refine ⟨e3, g1, fun id => ?_, fun hne => absurd hcw hne⟩
    have e1 : (apS st (base + i) oi l .keep).heap = st.heap := by rw [Bc]; rfl
    have k : AJ id (ej.ap (base + j) (apS st (base + i) oi l .keep).heap) = AJ id (ej'.ap (base + j) st.heap) := k2 id
    rw [k, e1]; exact g2 id
   refine ⟨ej, ?_, fun _ => rfl, fun _ => rfl⟩
   refine Na (st := (apS st (base + i) oi l e).at (base + j)) (st' := st.at (base + j)) hcw (by simp [St.at, GB]) hsl rfl (fun hcr => ?_) h1
   have : e = .keep := by
    refine hkp ?_ (.inl hcr)
    have hcp := hcp hcw
    rw [hcr] at hcp
    cases hq : BO oi.op <;> rw [hq] at hcp <;> simp [Oo] at hcp ⊢
   subst this
   intro id o ho
   have ho' : AJ id (apS st (base + i) oi l .keep).heap = some o := ho
   rw [Bc] at ho'; exact ho'
  obtain ⟨ej', back, hej, hsame⟩ := back
  have keep : Cm P AD ops ((apS st (base + j) oj lj ej').at (base + i)) oi l e := by
   by_cases hsp : Oq q oi.op oj.op = true
   .obtain ⟨_, _, hld, hmu⟩ := H7 hsp
    rcases hmu with hmu | ⟨hqt, hmu⟩
    rotate_left
    .obtain ⟨b, hb0⟩ := hq hqt
     refine Y2 hb0 (st := st.at (base + i)) (st' := (apS st (base + j) oj lj ej').at (base + i)) hld (by simp [St.at, GB]) (fun t ht => ?_) (fun id cells hnm hid hx => ?_) hy
     .show BZ st.slots t = BZ (apS st (base + j) oj lj ej').slots t
      rw [CV, if_neg]
      intro e'; exact a3 t e' ht
     show AJ id (apS st (base + j) oj lj ej').heap = some _
     rw [Bc]
     exact AAD hb0 (hfresh j hjun) hmu back id cells hnm hid hx
    refine AAC (st := st.at (base + i)) (st' := (apS st (base + j) oj lj ej').at (base + i)) hld (by simp [St.at, GB]) (fun t ht => ?_) (fun id x hx hne => ?_) hy
    .show BZ st.slots t = BZ (apS st (base + j) oj lj ej').slots t
     rw [CV, if_neg]
     intro e'; exact a3 t e' ht
    show AJ id (apS st (base + j) oj lj ej').heap = some x
    rw [Bc]
    exact AAq hmu back id x hx hne
   refine Na (st := st.at (base + i)) (st' := (apS st (base + j) oj lj ej').at (base + i)) hwi (by simp [St.at, GB]) (fun t ht => ?_) rfl (fun hcr => ?_) hy
   .show BZ st.slots t = BZ (apS st (base + j) oj lj ej').slots t
    rw [CV, if_neg]
    intro e'; exact a3 t e' ht
   intro id o ho
   show AJ id (apS st (base + j) oj lj ej').heap = some o
   rw [Bc]
   have hnw : BO oj.op ≠ .w := fun hc => by rw [(hwj hc).resolve_right hsp] at hcr; cases hcr
   rcases Pm back hnw with rfl | ⟨x, rfl⟩
   .exact ho
   simp only [EE.ap, AJ]
   rw [if_neg]
   .exact ho
   intro e'; subst e'
   have := hfresh j hjun
   have ho' : AJ (base + j) st.heap = some o := ho
   rw [this] at ho'; cases ho'
  have swap : GA (apS (apS st (base + i) oi l e) (base + j) oj lj ej) (apS (apS st (base + j) oj lj ej') (base + i) oi l e) := by
   refine ⟨by simp [GB], fun t => ?_, fun id => ?_⟩
   .rw [CV, CV, CV, CV]
    by_cases c1 : oi.dst = some t
    .have := a2 t c1
     simp [c1, this]
    rw [if_neg c1]; split <;> simp [c1]
   by_cases hcw : BO oj.op = .w
   .have : e = .keep := hkp (hnr hcw) (.inr hcw)
    subst this
    have := hej id
    rw [Bc] at this
    rw [Bc, Bc, Bc, Bc]
    exact this
   have hs2 := hsame hcw
   subst hs2
   rw [Bc, Bc, Bc, Bc]
   rcases Pm back hcw with rfl | ⟨x, rfl⟩ <;> rcases Pm hy hwi with rfl | ⟨y, rfl⟩ <;> simp only [EE.ap, AJ]
   by_cases c1 : id = base + j
   .subst c1; simp [hji]
   simp [c1]
  refine ⟨oj, lj, ej', hoj, back, ?_⟩
  refine ih (listed.setIfInBounds j true) _ (fun k hk => ?_) (fun k ok hk hki hun hkB => ?_) (fun k hk => ?_) (ready_mono hr (Ne.symm hji)) keep ?_
  .rw [getD_set_ne false (fun e' => by subst e'; rw [hjB] at hk; cases hk)]; exact hBl k hk
  .refine hfree k ok hk hki ?_ hkB
   by_cases hjk : j = k
   .subst hjk; exact hjun
   rw [getD_set_ne true hjk] at hun; exact hun
  .have hjk : j ≠ k := by
    rintro rfl
    rcases Nat.lt_or_ge j listed.size with h' | h'
    .simp [h'] at hk
    simp [Array.getElem?_eq_none h'] at hk
   rw [Bc]
   have hk' : listed.getD k true = false := by rw [getD_set_ne true hjk] at hk; exact hk
   exact L4 back (by simp only [St.at]; omega) (hfresh k hk')
  rw [Array.setIfInBounds_comm _ _ hji]
  exact Nd fuel _ _ _ swap h2
end
end Go.E
/- Drawn regions, the rule (Jc). Condition: the checks Iz and mixedOrders, by kernel. -/
namespace Go.E
open Go Go.RowKit
def Nf (md : Region.Mode) (ops : Array Oper) (listed : Array Bool) (i : Nat) : List Nat :=
 (List.range ops.size).foldl (fun acc j => if !(j == i) && !(listed.getD j false) && (match ops[j]? with
  | some oj => oj.after.any fun x => Region.binds md x && (x.on == i || acc.contains x.on)
  | none => false) then j :: acc else acc) []
def Pn (q w : Bool) (md : Region.Mode) (ops : Array Oper) (listed : Array Bool) (i : Nat) (oi : Oper) (B : List Nat) : Bool :=
  (B.all fun j => !(j == i) && !(listed.getD j false) && match ops[j]? with
    | some oj => oj.after.any fun x => Region.binds md x && (x.on == i || B.contains x.on)
    | none => false) &&
  ((List.range ops.size).all fun j => j == i || listed.getD j true || B.contains j || match ops[j]? with
    | some oj => oi.apart ops oj && (SB q oi.op oj.op && (!w || R9 oi.op oj.op))
    | none => true)
def Iz (q w : Bool) (md : Region.Mode) (ops : Array Oper) : List Nat -> Array Bool -> Bool
 | [], listed => (Region.ready md ops listed).isEmpty
 | i :: rest, listed => (match ops[i]? with
  | none => false
  | some oi => (Region.ready md ops listed == [i]) || ((Region.ready md ops listed).contains i && Pn q w md ops listed i oi (Nf md ops listed i))) &&
  Iz q w md ops rest (listed.setIfInBounds i true)
def Gn (P : Program) (AD : A5) (ops : Array Oper) (base : Nat) (K : St -> Prop) : List Nat -> St -> Prop
 | [], st => K st
 | i :: rest, st => match ops[i]? with
  | none => False
  | some o => match o.guard with
   | none => ∃ l e, B4 P AD (st.at (base + i)) o.op l e /\ Gn P AD ops base K rest (apS st (base + i) o l e)
   | some (j, want) => match DJ st ops j with
    | .p (.bool b) => (b = want -> ∃ l e, B4 P AD (st.at (base + i)) o.op l e /\ Gn P AD ops base K rest (apS st (base + i) o l e)) /\
      (b = !want -> Gn P AD ops base K rest (apS st (base + i) o .und .keep))
    | .und => Gn P AD ops base K rest (apS st (base + i) o .und .keep)
    | _ => False
section
variable {P : Program} {A : BD} {AD : A5} {md : Region.Mode} {ops : Array Oper} {base : Nat} {K : St -> Prop}
theorem Ng {i : Nat} {rest : List Nat} {st : St} (h : Gn P AD ops base K (i :: rest) st) :
  ∃ o l e, ops[i]? = some o /\ Cm P AD ops (st.at (base + i)) o l e /\ Gn P AD ops base K rest (apS st (base + i) o l e) := by
 simp only [Gn] at h
 split at h
 .exact h.elim
 rename_i o ho
 split at h
 .rename_i hg
  obtain ⟨l, e, h1, h2⟩ := h
  exact ⟨o, l, e, ho, by unfold Cm; rw [hg]; exact h1, h2⟩
 rename_i j want hg
 have hgl : DJ (st.at (base + i)) ops j = DJ st ops j := rfl
 split at h
 .rename_i b hb
  by_cases e : b = want
  .obtain ⟨l, e', h1, h2⟩ := h.1 e
   exact ⟨o, l, e', ho, by unfold Cm; rw [hg]; simp only [hgl, hb]; rw [if_pos e]; exact h1, h2⟩
  exact ⟨o, .und, .keep, ho, by unfold Cm; rw [hg]; simp only [hgl, hb]; rw [if_neg e]; simp, h.2 (by cases b <;> cases want <;> simp_all)⟩
 .rename_i hb
  exact ⟨o, .und, .keep, ho, by unfold Cm; rw [hg]; simp [hgl, hb], h⟩
 exact h.elim
theorem Kk (q : Bool) (hq : q = true -> ∃ b, AD.calm = some b) : ∀ (order : List Nat) (listed : Array Bool) (st : St), Iz q AD.own md ops order listed = true -> (∀ k, listed.getD k true = false -> AJ (base + k) st.heap = none) ->
  Gn P AD ops base K order st -> Ih P AD md ops base K order.length listed st
 | [], listed, st, hok, _, h => ⟨by simpa [Iz] using hok, st, GA.refl st, h⟩
 | i :: rest, listed, st, hok, hfresh, h => by
  obtain ⟨o, l, e, ho, hd, hrest⟩ := Ng h
  simp only [Iz, ho, Bool.and_eq_true, Bool.or_eq_true] at hok
  have hrec : Ih P AD md ops base K rest.length (listed.setIfInBounds i true) (apS st (base + i) o l e) := by
   refine Kk q hq rest _ _ hok.2 (fun k hk => ?_) hrest
   have hik : i ≠ k := by
    rintro rfl
    rcases Nat.lt_or_ge i listed.size with h' | h'
    .simp [h'] at hk
    simp [Array.getElem?_eq_none h'] at hk
   rw [Bc]
   exact L4 hd (by simp only [St.at]; omega) (hfresh k (by rw [getD_set_ne true hik] at hk; exact hk))
  rcases hok.1 with h1 | h1
  .have hr : Region.ready md ops listed = [i] := by simpa using h1
   refine ⟨fun h0 => (by rw [hr] at h0; cases h0), fun j hj => ?_⟩
   rw [hr] at hj
   simp at hj
   subst hj
   exact ⟨o, l, e, ho, hd, hrec⟩
  obtain ⟨h1, h2⟩ := h1
  simp only [Pn, Bool.and_eq_true, List.all_eq_true, List.mem_range] at h2
  obtain ⟨h2, h3⟩ := h2
  generalize hBe : Nf md ops listed i = B at h2 h3
  refine RA q hq ho (fun j => B.contains j) (fun j hj => ?_) rest.length listed st (fun j hj => ?_) (fun j oj hoj hji hun hBj => ?_) hfresh (by simpa using h1) hd hrec
  .have := h2 j (by simpa using hj)
   obtain ⟨⟨a1, a2⟩, a3⟩ := this
   refine ⟨by simpa using a1, fun oj hoj => ?_⟩
   rw [hoj] at a3
   obtain ⟨x, hx, hx2⟩ := Array.any_eq_true'.1 a3
   simp only [Bool.and_eq_true, Bool.or_eq_true, beq_iff_eq] at hx2
   exact ⟨x, hx, hx2.1, hx2.2⟩
  .have := (h2 j (by simpa using hj)).1.2
   simpa using this
  have := h3 j (Array.getElem?_eq_some_iff.1 hoj).1
  simp only [Bool.or_eq_true, beq_iff_eq, hji, false_or, hun, Bool.false_eq_true] at this
  rw [hBj] at this
  simp only [Bool.false_eq_true, false_or, hoj, Bool.and_eq_true] at this
  refine ⟨this.1, this.2.1, fun ho => ?_⟩
  have := this.2.2
  rw [ho] at this; simpa using this
theorem Y3 {μ : Nat -> Option BQ} {h h' : AP} (he : ∀ id, AJ id h = AJ id h') : Bm μ h = Bm μ h' := by
 funext b; simp only [Bm, he]
theorem RF.eqv {F : Nat -> Prop} {st st' : St} {a : Act} {w : World} (h : RF A F st a w) (he : GA st st') : RF A F st' a w := by
 obtain ⟨⟨μ, hh, hs⟩, hnt, hdef⟩ := h
 have hm : Bm μ st.heap = Bm μ st'.heap := Y3 he.heap
 have ho : Af A μ st.heap = Af A μ st'.heap := by funext b; simp only [Af, hm]
 refine ⟨⟨μ, ⟨?_, ?_, hh.fresh, ?_, hh.size, hh.block, hh.os, hh.tape, hh.output, hh.ext⟩, fun t ht => ?_⟩, by rw [<- he.nt]; exact hnt, hdef⟩
 .rw [<- ho]; intro id o; rw [<- he.heap]; exact hh.obj id o
 .intro id id' o o' loc loc'; rw [<- he.heap, <- he.heap]; exact hh.inj id id' o o' loc loc'
 .intro id o loc; rw [<- he.heap]; exact hh.base id o loc
 rw [<- ho, <- he.slots]; exact hs t (by rw [he.nt]; exact ht)
def Fl (base n : Nat) (listed : Array Bool) (id : Nat) : Prop := base + n <= id \/ ∃ i, i < n /\ listed.getD i true = false /\ id = base + i
theorem Kl (hE : BC P AD) {n : Nat} (hn : n = ops.size) {Q' : Exit -> Act -> World -> Prop} (hQ : ∀ st a w listed, K st -> RF A (Fl base n listed) st a w -> Q' .normal a w) :
  ∀ (fuel : Nat) (listed : Array Bool) (st : St) (a : Act) (w : World), listed.size = n -> Ih P AD md ops base K fuel listed st -> RF A (Fl base n listed) st a w -> wpAny P md ops Q' fuel listed a w
 | 0, listed, st, a, w, _, ⟨h1, st', he, hk⟩, hR => ⟨h1, hQ st' a w listed hk (hR.eqv he)⟩
 | fuel + 1, listed, st, a, w, hsz, ⟨h1, h2⟩, hR => by
  refine ⟨fun h0 => ?_, fun i hi => ?_⟩
  .obtain ⟨st', he, hk⟩ := h1 h0
   exact hQ st' a w listed hk (hR.eqv he)
  obtain ⟨o, l, e, ho, hd, hrec⟩ := h2 i hi
  have hun := (mem_ready.1 hi).1
  have hlt : i < n := by rw [hn]; exact (Array.getElem?_eq_some_iff.1 ho).1
  refine QZ (st := st.at (base + i)) hE ho ⟨hR.ex, hR.nt, hR.defers⟩ (.inr ⟨i, hlt, hun, rfl⟩) ⟨base + n, fun q hq => .inl hq⟩ hd fun a' w' hR' => ?_
  refine Kl hE hn hQ fuel _ _ _ _ (by simpa using hsz) hrec ?_
  have hR'' : RF A (fun id => Fl base n listed id /\ id ≠ base + i) (apS st (base + i) o l e) a' w' := by
   obtain ⟨⟨μ, x1, x2⟩, x3, x4⟩ := hR'
   refine ⟨⟨μ, ?_, fun t ht => ?_⟩, ?_, x4⟩
   .rw [Bc] at x1 ⊢; exact x1
   .have := x2 t (by rw [GB] at ht ⊢; exact ht)
    rw [Bc, CV] at this
    rw [Bc, CV]; exact this
   rw [GB] at x3 ⊢; exact x3
  obtain ⟨⟨μ, x1, x2⟩, x3, x4⟩ := hR''
  refine ⟨⟨μ, x1.less fun id hid => ?_, x2⟩, x3, x4⟩
  rcases hid with hid | ⟨k, hk1, hk2, rfl⟩
  .exact ⟨.inl hid, by omega⟩
  have hik : i ≠ k := by
   rintro rfl
   simp [show i < listed.size by omega] at hk2
  exact ⟨.inr ⟨k, hk1, by rw [getD_set_ne true hik] at hk2; exact hk2, rfl⟩, by omega⟩
theorem Aa.drawn {O : Nat -> Prop} {μ : Nat -> Option BQ} {w : World} {v : Value} {l : LV} (n : Nat) (h : Aa O μ w v l) : Aa O μ { w with drawn := n } v l :=
 Aa.mono (w := w) (w' := { w with drawn := n }) ⟨Nat.le_refl _, fun _ _ _ => rfl⟩ (fun _ _ hb => hb) (fun _ _ h => h) h
theorem R.drawn {st : St} {a : Act} {w : World} (n : Nat) (h : R A st a w) : R A st a { w with drawn := n } := by
 obtain ⟨⟨μ, hh, hs⟩, hnt, hdef⟩ := h
 refine ⟨⟨μ, ⟨fun id o ho => ?_, hh.inj, hh.fresh, hh.base, hh.size, hh.block, hh.os, hh.tape, hh.output, hh.ext⟩, fun t ht => (hs t ht).drawn n⟩, hnt, hdef⟩
 obtain ⟨loc, h1, h2⟩ := hh.obj id o ho
 exact ⟨loc, h1, Cv.mono (w := w) (w' := { w with drawn := n }) ⟨Nat.le_refl _, fun _ _ _ => rfl⟩ (fun _ _ hb => hb) (fun _ _ h => h) (fun _ => rfl) h2⟩
theorem Jc (q : Bool) (hq : q = true -> ∃ b, AD.calm = some b) (hE : BC P AD) (hm : P.follows .mixedOrders = true) {id : Nat} {l : List Oper} {order : List Nat} (hok : Iz q AD.own .any l.toArray order (Array.replicate l.length false) = true)
  (hlen : order.length = l.length) {st : St} {Q : Exit -> St -> Prop} (h : Gn P AD l.toArray st.ctr (fun st' => Q .normal { st' with ctr := st.ctr + l.length }) order st) :
  B2 P A (.region id l.toArray true) Q st := fun a w hR => by
 refine wp_region_any hm ?_
 have hR' := (hR.drawn (w.drawn + 1)).toRF
 have hfr : ∀ k, AJ (st.ctr + k) st.heap = none := by
  intro k
  cases hx : AJ (st.ctr + k) st.heap with
  | none => rfl
  | some o =>
   obtain ⟨⟨μ, hh, _⟩, _, _⟩ := hR
   obtain ⟨loc, h1, _⟩ := hh.obj _ _ hx
   rw [hh.fresh _ (by simp [Fr])] at h1; cases h1
 have hD := Kk q hq order (Array.replicate l.length false) st hok (fun k _ => hfr k) h
 have hsz : l.toArray.size = order.length := by simp [hlen]
 rw [hsz]
 have hrep : Array.replicate order.length false = Array.replicate l.length false := by rw [hlen]
 rw [hrep]
 refine Kl (A := A) (n := l.length) hE (by simp) (fun st' a' w' listed hk hR'' => ?_) order.length _ st a _ (by simp) hD ?_
 .refine ⟨_, ?_, hk⟩
  obtain ⟨⟨μ, x1, x2⟩, x3, x4⟩ := hR''
  exact ⟨⟨μ, x1.less fun id hid => .inl hid, x2⟩, x3, x4⟩
 obtain ⟨⟨μ, x1, x2⟩, x3, x4⟩ := hR'
 refine ⟨⟨μ, x1.less fun id hid => ?_, x2⟩, x3, x4⟩
 rcases hid with hid | ⟨k, _, _, rfl⟩
 .simp only [Fr]; omega
 simp [Fr]
end
end Go.E
/- Equality and keys of flat structs; operations in a short form, for the walk of a function. No condition. -/
namespace Go.E
open Go Go.RowKit
def E8 : Option TypeDesc -> Sh -> Bool
 | some (.int j), .int j' => j == j'
 | some .string, .str => true
 | some .bool, .bool => true
 | _, _ => false
def EJ (P : Program) : List Field -> Nat -> List Sh -> Bool
 | [], _, [] => true
 | f :: fs, off, k :: ks => f.name != "_" && f.offset == off && E8 (P.underlying f.type) k && EJ P fs (off + 1) ks
 | _, _, _ => false
section
variable {P : Program}
theorem GC {t : TypeId} {k : Sh} (h : E8 (P.underlying t) k = true) {xs : Array Value} {off : Nat} {v : Value} (hx : xs[off]? = some v) (w : World) : (part t xs off).run P w = .ok v w := by
 cases hu : P.underlying t with
 | none => rw [hu] at h; simp [E8] at h
 | some d =>
  rw [hu] at h
  cases d <;> simp [E8] at h <;> simp [part, isAgg, run_underlying hu, hx]
theorem Mw {t : TypeId} {k : Sh} {a b : DV} (h : E8 (P.underlying t) k = true) (ha : CR k a = true) (hb : CR k b = true) (d : Nat) (w : World) :
  (Op.equalIn (d + 1) t (flatV a) (flatV b)).run P w = .ok (Dc a b) w := by
 cases hu : P.underlying t with
 | none => rw [hu] at h; simp [E8] at h
 | some dd =>
  rw [hu] at h
  cases dd <;> cases k <;> simp [E8] at h <;> cases a <;> simp only [CR, Bool.false_eq_true] at ha <;> cases b <;> simp only [CR, Bool.false_eq_true] at hb
  .simp [flatV, Dc, Op.equalIn, run_underlying hu]
  .simp only [beq_iff_eq] at ha hb
   subst ha; subst hb
   simp [flatV, Dc, Op.equalIn, run_underlying hu]
  simp [flatV, Dc, Op.equalIn, run_underlying hu, beq_toListBytes]
theorem H0 (d : Nat) (w : World) (xs ys : List DV) : ∀ (fs : List Field) (off : Nat) (ks : List Sh) (xa bs : List DV), EJ P fs off ks = true -> xs.drop off = xa -> ys.drop off = bs -> fits ks xa = true -> fits ks bs = true ->
  (Op.eqFields (d + 1) (xs.map flatV).toArray (ys.map flatV).toArray fs).run P w = .ok (Bh xa bs) w
 | [], off, [], [], [], _, _, _, _, _ => by simp [Op.eqFields, Bh]
 | f :: fs, off, k :: ks, a :: xa, b :: bs, hB, hx, hy, ha, hb => by
  simp only [EJ, Bool.and_eq_true, bne_iff_ne, ne_eq, beq_iff_eq] at hB
  simp only [fits, Bool.and_eq_true] at ha hb
  obtain ⟨⟨⟨h1, h2⟩, h3⟩, h4⟩ := hB
  have ex : xs[off]? = some a := by
   have := congrArg List.head? hx
   rw [List.head?_drop] at this; exact this
  have ey : ys[off]? = some b := by
   have := congrArg List.head? hy
   rw [List.head?_drop] at this; exact this
  have hx' : xs.drop (off + 1) = xa := by rw [<- List.tail_drop, hx]; rfl
  have hy' : ys.drop (off + 1) = bs := by rw [<- List.tail_drop, hy]; rfl
  have ih := H0 d w xs ys fs (off + 1) ks xa bs h4 hx' hy' ha.2 hb.2
  have px := GC (w := w) h3 (xs := (xs.map flatV).toArray) (off := off) (v := flatV a) (by simp [ex])
  have py := GC (w := w) h3 (xs := (ys.map flatV).toArray) (off := off) (v := flatV b) (by simp [ey])
  have pe := Mw h3 ha.1 hb.1 d w
  simp only [Op.eqFields, h1, h2, ne_eq, not_false_eq_true, if_true, Sem.run_bind, px, py, pe, Result.andThen_ok, Bh]
  cases Dc a b with
  | true => simpa using ih
  | false => simp
 | [], _, _ :: _, _, _, hB, _, _, _, _ => by simp [EJ] at hB
 | _ :: _, _, [], _, _, hB, _, _, _, _ => by simp [EJ] at hB
 | [], _, [], _ :: _, _, _, _, _, ha, _ => by simp [fits] at ha
 | [], _, [], [], _ :: _, _, _, _, _, hb => by simp [fits] at hb
 | _ :: _, _, _ :: _, [], _, _, _, _, ha, _ => by simp [fits] at ha
 | _ :: _, _, _ :: _, _ :: _, [], _, _, _, _, hb => by simp [fits] at hb
theorem Sl {t : TypeId} {ks : List Sh} (hu : P.underlying t = some (.struct (P.fieldsOf t))) (hp : P.stoodInHeld t = false) (hg : P.eqGuardType P.depth t = false)
  (hf : EJ P (P.fieldsOf t).toList 0 ks = true) : Ot P t ks :=
 ⟨hg, fun w ds es h1 h2 => by
  show (Op.equalIn (9999 + 1) t _ _).run P w = _
  rw [run_equalIn_struct w 9999 t _ _ hu hp]
  exact H0 9998 w ds es _ 0 ks ds es hf rfl rfl h1 h2⟩
theorem LM (em : Bool) (d : Nat) (w : World) (xs : List DV) : ∀ (fs : List Field) (off : Nat) (ks : List Sh) (xa : List DV), EJ P fs off ks = true -> xs.drop off = xa -> fits ks xa = true ->
  (forIn fs PUnit.unit fun f (_ : PUnit) => (do
   if f.name ≠ "_" then Instr.checkKey em (d + 1) f.type (<- part f.type (xs.map flatV).toArray f.offset)
   pure (ForInStep.yield PUnit.unit) : Sem (ForInStep PUnit))).run P w = .ok PUnit.unit w
 | [], off, [], [], _, _, _ => by simp
 | f :: fs, off, k :: ks, a :: xa, hB, hx, ha => by
  simp only [EJ, Bool.and_eq_true, bne_iff_ne, ne_eq, beq_iff_eq] at hB
  simp only [fits, Bool.and_eq_true] at ha
  obtain ⟨⟨⟨h1, h2⟩, h3⟩, h4⟩ := hB
  have ex : xs[off]? = some a := by
   have := congrArg List.head? hx
   rw [List.head?_drop] at this; exact this
  have hx' : xs.drop (off + 1) = xa := by rw [<- List.tail_drop, hx]; rfl
  have ih := LM em d w xs fs (off + 1) ks xa h4 hx' ha.2
  have px := GC (w := w) h3 (xs := (xs.map flatV).toArray) (off := off) (v := flatV a) (by simp [ex])
  have pc : (Instr.checkKey em (d + 1) f.type (flatV a)).run P w = .ok () w := by
   cases hu : P.underlying f.type with
   | none => rw [hu] at h3; simp [E8] at h3
   | some dd =>
    rw [hu] at h3
    cases dd <;> simp [E8] at h3 <;> simp [Instr.checkKey, run_underlying hu]
  simp only [List.forIn_cons, Sem.run_bind, h1, ne_eq, not_false_eq_true, if_true, h2, px, pc, Result.andThen_ok, Sem.run_pure]
  exact ih
 | [], _, _ :: _, _, hB, _, _ => by simp [EJ] at hB
 | _ :: _, _, [], _, hB, _, _ => by simp [EJ] at hB
 | [], _, [], _ :: _, _, _, ha => by simp [fits] at ha
 | _ :: _, _, _ :: _, [], _, _, ha => by simp [fits] at ha
theorem Wp {t : TypeId} {ks : List Sh} (hu : P.underlying t = some (.struct (P.fieldsOf t))) (he : Ot P t ks) (hf : EJ P (P.fieldsOf t).toList 0 ks = true) : RB P t ks := by
 refine ⟨he, by rw [hu]; trivial, fun em w ds h => ?_⟩
 show (Instr.checkKey em (9999 + 1) t _).run P w = _
 unfold Instr.checkKey
 simp only [Sem.run_bind, run_underlying hu, Result.andThen_ok]
 have := LM (P := P) em 9998 w ds (P.fieldsOf t).toList 0 ks ds hf rfl h
 simp only [Array.forIn_toList] at this
 simp at this ⊢
 rw [this]; rfl
end
def St.keep (ts : List Nat) (st : St) : St := { st with slots := ts.map fun t => (t, BZ st.slots t) }
theorem Sm {st : St} {t : Nat} : ∀ (ts : List Nat), AJ t (ts.map fun t => (t, BZ st.slots t)) = if t ∈ ts then some (BZ st.slots t) else none
 | [] => by simp [AJ]
 | u :: ts => by
  simp only [List.map_cons, AJ]
  by_cases e : t = u
  .subst e; simp
  rw [if_neg e, Sm ts]; simp [e]
theorem R.keep {A : BD} {st : St} {a : Act} {w : World} (ts : List Nat) (h : R A st a w) : R A (st.keep ts) a w := by
 obtain ⟨⟨μ, hh, hs⟩, hnt, hdef⟩ := h
 refine ⟨⟨μ, hh, fun t ht => ?_⟩, hnt, hdef⟩
 have : BZ (st.keep ts).slots t = if t ∈ ts then BZ st.slots t else .any := by
  show (match AJ t (ts.map fun t => (t, BZ st.slots t)) with | some v => v | none => LV.any) = _
  rw [Sm]
  by_cases e : t ∈ ts <;> simp [e]
 rw [this]
 split
 .exact hs t ht
 exact .any _
end Go.E
/- Equality of structs that hold flat structs. No condition. -/
namespace Go.E
open Go Go.RowKit
def JS (P : Program) (t : TypeId) (ks : List Sh) : Bool :=
 (match P.underlying t with | some (.struct _) => true | _ => false) && !(P.stoodInHeld t) && (match P.info? t with | some i => i.size == ks.length | none => false) && EJ P (P.fieldsOf t).toList 0 ks
def LF (P : Program) : List Field -> Nat -> List (Bool × List Sh) -> Bool
 | [], _, [] => true
 | f :: fs, off, (b, ks) :: gs => f.name != "_" && f.offset == off && (match b, ks with
  | true, ks => JS P f.type ks
  | false, [k] => E8 (P.underlying f.type) k
  | false, _ => false) && LF P fs (off + ks.length) gs
 | _, _, _ => false
theorem Qi : ∀ (ks ls : List Sh) (ds : List DV), fits (ks ++ ls) ds = true -> ∃ a b, ds = a ++ b /\ a.length = ks.length /\ fits ks a = true /\ fits ls b = true
 | [], ls, ds, h => ⟨[], ds, rfl, rfl, rfl, h⟩
 | k :: ks, ls, [], h => by simp [fits] at h
 | k :: ks, ls, d :: ds, h => by
  simp only [List.cons_append, fits, Bool.and_eq_true] at h
  obtain ⟨a, b, rfl, h1, h2, h3⟩ := Qi ks ls ds h.2
  exact ⟨d :: a, b, rfl, by simp [h1], by simp [fits, h.1, h2], h3⟩
theorem QQ : ∀ (a b c d : List DV), a.length = c.length -> Bh (a ++ b) (c ++ d) = (Bh a c && Bh b d)
 | [], _, [], _, _ => by simp [Bh]
 | x :: a, b, y :: c, d, h => by
  simp only [List.cons_append, Bh, QQ a b c d (by simpa using h), Bool.and_assoc]
 | [], _, _ :: _, _, h => by simp at h
 | _ :: _, _, [], _, h => by simp at h
section
variable {P : Program}
theorem NK {t : TypeId} {ks : List Sh} (h : JS P t ks = true) : P.underlying t = some (.struct (P.fieldsOf t)) /\ P.stoodInHeld t = false /\ (∃ i, P.info? t = some i /\ i.size = ks.length) /\ EJ P (P.fieldsOf t).toList 0 ks = true := by
 simp only [JS, Bool.and_eq_true, Bool.not_eq_true'] at h
 obtain ⟨⟨⟨h1, h2⟩, h3⟩, h4⟩ := h
 refine ⟨?_, h2, ?_, h4⟩
 .unfold Program.fieldsOf
  cases hu : P.underlying t with
  | none => rw [hu] at h1; cases h1
  | some d => rw [hu] at h1; cases d <;> first | rfl | cases h1
 cases hi : P.info? t with
 | none => rw [hi] at h3; cases h3
 | some i => rw [hi] at h3; exact ⟨i, rfl, by simpa using h3⟩
theorem MH {t : TypeId} {ks : List Sh} (h : JS P t ks = true) {xs : List DV} {off : Nat} {a b : List DV} (hx : xs.drop off = a ++ b) (hl : a.length = ks.length) (w : World) :
  (part t (xs.map flatV).toArray off).run P w = .ok (.agg (a.map flatV).toArray) w := by
 obtain ⟨h1, _, ⟨i, hi, hs⟩, _⟩ := NK h
 have e' : List.take i.size (List.drop off (List.map flatV xs)) = List.map flatV a := by
  rw [<- List.map_drop, hx, hs, <- hl, List.map_append, <- List.length_map (f := flatV) (as := a), List.take_left]
 simp [part, isAgg, run_underlying h1, sizeOf, run_typeInfo w hi, e']
theorem Qj {t : TypeId} {ks : List Sh} {a b : List DV} (h : JS P t ks = true) (ha : fits ks a = true) (hb : fits ks b = true) (d : Nat) (w : World) :
  (Op.equalIn (d + 2) t (.agg (a.map flatV).toArray) (.agg (b.map flatV).toArray)).run P w = .ok (Bh a b) w := by
 obtain ⟨h1, h2, _, h4⟩ := NK h
 rw [run_equalIn_struct w (d + 1) t _ _ h1 h2]
 exact H0 d w a b _ 0 ks a b h4 rfl rfl ha hb
theorem Ja (d : Nat) (w : World) (xs ys : List DV) : ∀ (fs : List Field) (off : Nat) (gs : List (Bool × List Sh)) (xa bs : List DV), LF P fs off gs = true -> xs.drop off = xa -> ys.drop off = bs -> fits (gs.flatMap (·.2)) xa = true -> fits (gs.flatMap (·.2)) bs = true ->
  (Op.eqFields (d + 2) (xs.map flatV).toArray (ys.map flatV).toArray fs).run P w = .ok (Bh xa bs) w
 | [], off, [], xa, bs, _, _, _, h1, h2 => by
  cases xa <;> cases bs <;> simp [fits] at h1 h2
  simp [Op.eqFields, Bh]
 | f :: fs, off, (b, ks) :: gs, xa, bs, hB, hx, hy, ha, hb => by
  simp only [LF, Bool.and_eq_true, bne_iff_ne, ne_eq, beq_iff_eq] at hB
  obtain ⟨⟨⟨h1, h2⟩, h3⟩, h4⟩ := hB
  simp only [List.flatMap_cons] at ha hb
  obtain ⟨a1, a2, rfl, la, fa, fa2⟩ := Qi _ _ _ ha
  obtain ⟨b1, b2, rfl, lb, fb, fb2⟩ := Qi _ _ _ hb
  have hx' : xs.drop (off + ks.length) = a2 := by rw [<- List.drop_drop, hx, <- la, List.drop_left]
  have hy' : ys.drop (off + ks.length) = b2 := by rw [<- List.drop_drop, hy, <- lb, List.drop_left]
  have ih := Ja d w xs ys fs (off + ks.length) gs a2 b2 h4 hx' hy' fa2 fb2
  rw [QQ _ _ _ _ (la.trans lb.symm)]
  cases b with
  | true =>
   have px := MH h3 hx la w
   have py := MH h3 hy lb w
   have pe := Qj h3 fa fb d w
   simp only [Op.eqFields, h1, h2, ne_eq, not_false_eq_true, if_true, Sem.run_bind, px, py, pe, Result.andThen_ok]
   cases Bh a1 b1 with
   | true => simpa using ih
   | false => simp
  | false =>
   match ks, h3, a1, b1, la, lb, fa, fb with
   | [k], h3, [a], [b], la, lb, fa, fb =>
    simp only [fits, Bool.and_true] at fa fb
    have ex : xs[off]? = some a := by
     have := congrArg List.head? hx
     rw [List.head?_drop] at this; exact this
    have ey : ys[off]? = some b := by
     have := congrArg List.head? hy
     rw [List.head?_drop] at this; exact this
    have px := GC (w := w) h3 (xs := (xs.map flatV).toArray) (off := off) (v := flatV a) (by simp [ex])
    have py := GC (w := w) h3 (xs := (ys.map flatV).toArray) (off := off) (v := flatV b) (by simp [ey])
    have pe := Mw h3 fa fb (d + 1) w
    simp only [Op.eqFields, h1, h2, ne_eq, not_false_eq_true, if_true, Sem.run_bind, px, py, pe, Result.andThen_ok, Bh, Bool.and_true]
    cases Dc a b with
    | true => simpa using ih
    | false => simp
 | [], _, _ :: _, _, _, hB, _, _, _, _ => by simp [LF] at hB
 | _ :: _, _, [], _, _, hB, _, _, _, _ => by simp [LF] at hB
theorem YG {t : TypeId} (gs : List (Bool × List Sh)) (hu : P.underlying t = some (.struct (P.fieldsOf t))) (hp : P.stoodInHeld t = false) (hg : P.eqGuardType P.depth t = false)
  (hf : LF P (P.fieldsOf t).toList 0 gs = true) : Ot P t (gs.flatMap (·.2)) :=
 ⟨hg, fun w ds es h1 h2 => by
  show (Op.equalIn (9999 + 1) t _ _).run P w = _
  rw [run_equalIn_struct w 9999 t _ _ hu hp]
  exact Ja 9997 w ds es _ 0 gs ds es hf rfl rfl h1 h2⟩
end
end Go.E
/- The walk of a function: operations in a short form (FR), rules for the parts of a body, states made weaker (A9). No condition. -/
namespace Go.E
open Go Go.RowKit
structure H8 where
 dst : Option Tmp
 op : Op
 g : Option (Option Tmp × Bool)
def Wr (ops : List Oper) (j : Nat) : Option Tmp :=
 match ops[j]? with
 | some o => o.dst
 | none => none
def Ou (ops : List Oper) (o : Oper) : H8 :=
 ⟨o.dst, o.op, match o.guard with
  | none => none
  | some (j, w) => some (Wr ops j, w)⟩
structure H5 {α : Sort _} (a : α) : Type where
structure A6 (α : Type) where
 f : α -> Prop
 h : H5 f
def B7 {α : Type} (o : Option α) (k : A6 α) : Prop :=
 match o with
 | some a => k.f a
 | none => False
def Tj (x : LV) (k : A6 Bool) : Prop :=
 match x with
 | .p (.bool b) => k.f b
 | _ => False
def Nh (x : LV) (k : A6 (IntKind × Int)) : Prop :=
 match x with
 | .p (.int kk n) => k.f (kk, n)
 | _ => False
def Sn (x : LV) (k : A6 DV) : Prop :=
 match x with
 | .p d => k.f d
 | _ => False
def LN (s : Sh) (k : A6 Nat) : Prop :=
 match s with
 | .slc e => k.f e
 | _ => False
def Pp (s : Sh) (k : A6 (List (Nat × Nat))) : Prop :=
 match s with
 | .struct fs => k.f fs
 | _ => False
def T9 (s : Sh) (k : A6 (Nat × Nat)) : Prop :=
 match s with
 | .mp a b => k.f (a, b)
 | _ => False
def CK (AD : A5) (t : Nat) (k : A6 TI) : Prop := B7 (AD.tt t) k
def Y4 (x : LV) (k : A6 LV) : Prop :=
 match x with
 | .lpb i o => k.f (.lpb i o)
 | .lpe i j o => k.f (.lpe i j o)
 | .p (.place l o) => k.f (.p (.place l o))
 | _ => False
def Mx (op : BinOp) (kk : IntKind) (a b : Int) (k : A6 LV) : Prop :=
 match op with
 | .quo | .rem => b ≠ 0 /\ B7 (KL op kk a b) ⟨fun v => k.f (.p v), ⟨⟩⟩
 | _ => B7 (KL op kk a b) ⟨fun v => k.f (.p v), ⟨⟩⟩
def X7 (neg : Bool) (empty : Prop) (k : A6 LV) : Prop := ∀ r, (¬ empty -> r = false) -> k.f (I0 neg r)
def WC (AD : A5) (neg : Bool) (t : Nat) (x y : LV) (k : A6 LV) : Prop :=
 match x, y with
 | .p (.str a), .p (.str b) => k.f (I0 neg (a.toList == b.toList))
 | .p (.bool a), .p (.bool b) => CK AD t ⟨fun ti => ti.sh = .bool /\ k.f (I0 neg (a == b)), ⟨⟩⟩
 | .p (.agg xs), .p (.agg ys) => B7 (AD.eqk t) ⟨fun ks => fits ks xs = true /\ fits ks ys = true /\ k.f (I0 neg (Bh xs ys)), ⟨⟩⟩
 | .p (.slice _ l), .p .nils => CK AD t ⟨fun ti => LN ti.sh ⟨fun _ => X7 neg (l = []) k, ⟨⟩⟩, ⟨⟩⟩
 | .p .nils, .p .nils => CK AD t ⟨fun ti => LN ti.sh ⟨fun _ => k.f (I0 neg true), ⟨⟩⟩, ⟨⟩⟩
 | .lsl _ _ _ len, .p .nils => CK AD t ⟨fun ti => LN ti.sh ⟨fun _ => X7 neg (len = 0) k, ⟨⟩⟩, ⟨⟩⟩
 | .p (.place _ _), .p .nilp => AD.ptr t = true /\ k.f (I0 neg false)
 | .p .nilp, .p .nilp => AD.ptr t = true /\ k.f (I0 neg true)
 | .lpb _ _, .p .nilp => AD.ptr t = true /\ k.f (I0 neg false)
 | _, _ => False
def SC (AD : A5) (op : BinOp) (t : Nat) (x y : LV) (k : A6 LV) : Prop :=
 match x, y with
 | .p (.int k1 a), .p (.int k2 b) => k1 = k2 /\ Mx op k1 a b k
 | x, y => match op with
  | .eql => WC AD false t x y k
  | .neq => WC AD true t x y k
  | _ => False
def Y5 (x : LV) (i : Nat) (k : A6 LV) : Prop :=
 match x with
 | .tup l => B7 l[i]? k
 | .p (.tup l) => B7 l[i]? ⟨fun v => k.f (.p v), ⟨⟩⟩
 | _ => False
def Y6 (x : LV) (k : A6 (List LV)) : Prop :=
 match x with
 | .agg l => k.f l
 | .p (.agg l) => k.f (l.map .p)
 | _ => False
def Ws (off : Nat) (x : LV) (k : A6 LV) : Prop :=
 match x with
 | .lpb id o => k.f (.lpb id (o + off))
 | .lpe id j o => k.f (.lpe id j (o + off))
 | .p (.place l o) => k.f (.p (.place l (o + off)))
 | _ => False
def LO (AD : A5) (place : Nat -> Option (Nat × Nat)) : List LV -> List (Nat × LV) -> A6 (List LV) -> Prop
 | cells, [], k => k.f cells
 | cells, (i, v) :: rest, k => B7 (place i) ⟨fun p => CK AD p.2 ⟨fun ti => B7 v.cells ⟨fun ls => (ls.length = ti.size /\ p.1 + ls.length <= cells.length) /\
   LO AD place (CQ cells p.1 ls) rest k, ⟨⟩⟩, ⟨⟩⟩, ⟨⟩⟩
def Ov (AD : A5) (sh : Sh) (zero : List LV) (ps : List (Nat × LV)) (k : A6 (List LV)) : Prop :=
 match sh with
 | .struct fs => (fs.all fun p => (AD.tt p.2).isSome) = true /\ LO AD (fun i => fs[i]?) zero ps k
 | .arr _ e => CK AD e ⟨fun te => LO AD (fun i => some (i * te.size, e)) zero ps k, ⟨⟩⟩
 | _ => False
def iaS (AD : A5) (sh : Sh) (x : LV) (n : Int) (k : A6 LV) : Prop :=
 match sh, x with
 | .slc e, .p (.slice sz l) => CK AD e ⟨fun te => te.size = sz /\ 0 <= n /\ B7 l[n.toNat]? ⟨fun c => k.f (.p (.place c 0)), ⟨⟩⟩, ⟨⟩⟩
 | .slc e, .lsl id sz off len => CK AD e ⟨fun te => te.size = sz /\ (0 <= n /\ n < len) /\ k.f (.lpe id (off + n.toNat) 0), ⟨⟩⟩
 | .arr m e, .lpb id o => CK AD e ⟨fun te => (0 <= n /\ n < m) /\ k.f (.lpb id (o + n.toNat * te.size)), ⟨⟩⟩
 | .arr m e, .p (.place l o) => CK AD e ⟨fun te => (0 <= n /\ n < m) /\ k.f (.p (.place l (o + n.toNat * te.size))), ⟨⟩⟩
 | _, _ => False
def ixS (AD : A5) (sh : Sh) (x : LV) (n : Int) (k : A6 LV) : Prop :=
 match sh, x with
 | .arr m e, .agg l => CK AD e ⟨fun te => n < m /\ B7 (Cz te (n.toNat * te.size) l) k, ⟨⟩⟩
 | .arr m e, .p (.agg l) => CK AD e ⟨fun te => n < m /\ B7 (Cz te (n.toNat * te.size) (l.map .p)) k, ⟨⟩⟩
 | .str, .p (.str s) => B7 s[n.toNat]? ⟨fun c => k.f (.p (.int .u8 c.toNat)), ⟨⟩⟩
 | _, _ => False
def LQ (dflt : Int) (x : Option LV) (k : A6 Int) : Prop :=
 match x with
 | none => k.f dflt
 | some (.p (.int _ n)) => k.f n
 | some _ => False
def LR (AD : A5) (t : Nat) (x : LV) (lo hi : Option LV) (k : A6 LV) : Prop :=
 match x with
 | .p (.slice sz l) => CK AD t ⟨fun ti => LN ti.sh ⟨fun e => CK AD e ⟨fun te => te.size = sz /\ LQ l.length hi ⟨fun h => LQ 0 lo ⟨fun lw => (0 <= lw /\ lw <= h /\ h <= l.length) /\ k.f (.p (.slice sz ((l.take h.toNat).drop lw.toNat))), ⟨⟩⟩, ⟨⟩⟩, ⟨⟩⟩, ⟨⟩⟩, ⟨⟩⟩
 | .lsl id sz off len => CK AD t ⟨fun ti => LN ti.sh ⟨fun e => CK AD e ⟨fun te => te.size = sz /\ (len ≠ 0 \/ off = 0) /\ LQ len hi ⟨fun h => LQ 0 lo ⟨fun lw => (0 <= lw /\ lw <= h /\ h <= len) /\ k.f (.lsl id sz (off + lw.toNat) (h - lw).toNat), ⟨⟩⟩, ⟨⟩⟩, ⟨⟩⟩, ⟨⟩⟩, ⟨⟩⟩
 | .p (.str s) => CK AD t ⟨fun ti => ti.sh = .str /\ LQ s.size hi ⟨fun h => LQ 0 lo ⟨fun lw => (0 <= lw /\ lw <= h /\ h <= s.size) /\ k.f (.p (.str (s.extract lw.toNat h.toNat))), ⟨⟩⟩, ⟨⟩⟩, ⟨⟩⟩
 | _ => False
def Y7 (sh : Sh) (x : LV) (k : A6 LV) : Prop :=
 match sh, x with
 | .arr n _, _ => k.f (.p (.int .i64 n))
 | .slc _, .p (.slice _ l) => l.length <= maxLen -> k.f (.p (.int .i64 l.length))
 | .slc _, .p .nils => k.f (.p (.int .i64 0))
 | .slc _, .lsl _ _ _ len => k.f (.p (.int .i64 len))
 | .str, .p (.str s) => k.f (.p (.int .i64 s.size))
 | _, _ => False
def Wt (o : BB) (k : A6 (List LV)) : Prop :=
 match o with
 | .box cells => k.f cells
 | _ => False
def SD (o : BB) (k : A6 (Nat × Nat × List (List DV))) : Prop :=
 match o with
 | .row e sz l => k.f (e, sz, l)
 | _ => False
def SE (o : BB) (k : A6 (List (DV × DV))) : Prop :=
 match o with
 | .map m => k.f m
 | _ => False
def RD (h : AP) (ti : TI) (p : LV) (k : A6 LV) : Prop :=
 match p with
 | .p (.place l off) => B7 (Cz ti off (l.map .p)) k
 | .lpb id off => B7 (AJ id h) ⟨fun o => Wt o ⟨fun cells => B7 (Cz ti off cells) k, ⟨⟩⟩, ⟨⟩⟩
 | .lpe id i off => B7 (AJ id h) ⟨fun o => SD o ⟨fun r => B7 r.2.2[i]? ⟨fun x => B7 (Cz ti off (x.map .p)) k, ⟨⟩⟩, ⟨⟩⟩, ⟨⟩⟩
 | _ => False
def UA (h : AP) (ti : TI) (p : LV) (ls : List LV) (k : A6 AP) : Prop :=
 match p with
 | .lpb id off => B7 (AJ id h) ⟨fun o => Wt o ⟨fun cells => off + ls.length <= cells.length /\ k.f (BR id (.box (CQ cells off ls)) h), ⟨⟩⟩, ⟨⟩⟩
 | .lpe id i off => B7 (AJ id h) ⟨fun o => SD o ⟨fun r => B7 r.2.2[i]? ⟨fun x => B7 (G6 ls) ⟨fun ds => off + ls.length <= x.length /\ k.f (BR id (.row r.1 r.2.1 (r.2.2.set i (CQ x off ds))) h), ⟨⟩⟩, ⟨⟩⟩, ⟨⟩⟩, ⟨⟩⟩
 | _ => False
def St.go (st : St) (dst : Option Tmp) (l : LV) (h : AP) (c : Nat) : St := ({ st with heap := h, ctr := c } : St).put dst l
def Wu (st : St) (dst : Option Tmp) (e : Nat) (te : TI) (s : LV) (new : List (List DV)) (K : A6 St) : Prop :=
  match s with
  | .p .nils => (new.length * te.bytes <= 140737488355328 /\ new.length <= maxLen) /\ K.f (st.go dst (.lsl st.ctr te.size 0 new.length) ((st.ctr, .row e te.size new) :: st.heap) (st.ctr + 1))
  | .lsl id sz off len => sz = te.size /\ B7 (AJ id st.heap) ⟨fun o => SD o ⟨fun r => (r.1 = e /\ r.2.1 = te.size /\ off + len <= r.2.2.length /\
        (len + new.length) * te.bytes <= 140737488355328 /\ len + new.length <= maxLen) /\ K.f (st.go dst (.lsl st.ctr te.size 0 (len + new.length)) ((st.ctr, .row e te.size ((r.2.2.drop off).take len ++ new)) :: Gk id st.heap) (st.ctr + 1)), ⟨⟩⟩, ⟨⟩⟩
  | _ => False
def Pq (x : LV) (k : A6 Nat) : Prop :=
 match x with
 | .lmap id => k.f id
 | _ => False
def ON (x : LV) (k : A6 (FuncId × List LV)) : Prop :=
 match x with
 | .fn f caps => k.f (f, caps)
 | _ => False
def Jy (P : Program) (A : BD) (h : AP) (ctr k : Nat) (args : List LV) (K : A6 (LV × AP × Nat)) : Prop := Cy P A h ctr k args fun l h c => K.f (l, h, c)
def Y8 (st : St) (e : Nat) (te : TI) (x : LV) (K : A6 St) : Prop :=
 match x with
 | .lsl id sz off len => te.sh.isAgg = false /\ sz = 1 /\ len ≠ 0 /\ te.zero.all DV.cell = true /\ B7 (AJ id st.heap) ⟨fun o => SD o ⟨fun r => (r.1 = e /\ r.2.1 = 1 /\ off + len = r.2.2.length) /\
   K.f ({ st with heap := BR id (.row e 1 (r.2.2.take off ++ List.replicate len te.zero)) st.heap } : St), ⟨⟩⟩, ⟨⟩⟩
 | _ => False
def I1 (P : Program) (A : BD) (AD : A5) (st : St) (dst : Option Tmp) (c : Call) (K : A6 St) : Prop :=
 match c.callee, c.args.toList, c.argTypes.toList with
 | .value f, args, _ => ON (st.eval f) ⟨fun g => Jy P A st.heap st.ctr g.1 (args.map st.eval ++ g.2) ⟨fun r => K.f (st.go dst r.1 r.2.1 r.2.2), ⟨⟩⟩, ⟨⟩⟩
 | .builtin .append, [s, x], [t, t'] => t' = t /\ CK AD t ⟨fun ti => LN ti.sh ⟨fun e => CK AD e ⟨fun te => 0 < te.size /\ B7 (L2 st.heap (st.eval x)) ⟨fun new =>
   (∀ y ∈ new, y.length = te.size /\ y.all DV.cell = true) /\ Wu st dst e te (st.eval s) new K, ⟨⟩⟩, ⟨⟩⟩, ⟨⟩⟩, ⟨⟩⟩
 | .builtin .delete, [x, i], t :: _ => CK AD t ⟨fun ti => T9 ti.sh ⟨fun m => Pq (st.eval x) ⟨fun id => B7 (AJ id st.heap) ⟨fun o => SE o ⟨fun l => Sn (st.eval i) ⟨fun kd =>
   (BY AD m.1 kd = true /\ (l.all fun p => BY AD m.1 p.1) = true) /\ K.f (st.go dst (.tup []) (BR id (.mapd (Ni kd l)) st.heap) st.ctr), ⟨⟩⟩, ⟨⟩⟩, ⟨⟩⟩, ⟨⟩⟩, ⟨⟩⟩, ⟨⟩⟩
 | .builtin .clear, [x], t :: _ => CK AD t ⟨fun ti => LN ti.sh ⟨fun e => CK AD e ⟨fun te => Y8 st e te (st.eval x) K, ⟨⟩⟩, ⟨⟩⟩, ⟨⟩⟩ /\ dst = none
 | .builtin .len, [x], [t] => CK AD t ⟨fun ti => Y7 ti.sh (st.eval x) ⟨fun l => K.f (st.put dst l), ⟨⟩⟩, ⟨⟩⟩
 | .builtin .max, args, _ => B7 (Bp (fun x y => if y > x then y else x) (args.map st.eval)) ⟨fun r => K.f (st.put dst (.p (.int r.1 r.2))), ⟨⟩⟩
 | .builtin .min, args, _ => B7 (Bp (fun x y => if y < x then y else x) (args.map st.eval)) ⟨fun r => K.f (st.put dst (.p (.int r.1 r.2))), ⟨⟩⟩
 | _, _, _ => False
def Wv : Sh -> Option IntKind
 | .int k => some k
 | _ => none
def AAt (l : LV) (k : A6 (List (DV × DV))) : Prop := match l with
 | .p .nilm => k.f []
 | .p (.map m) => k.f m
 | _ => False
def AAu (h : AP) (l : LV) (k0 : Unit -> Prop) (k : Nat -> List (DV × DV) -> Nat -> DV × DV -> Prop) : Prop := match l with
 | .lpb id 0 => match AJ id h with
  | some (.iter _ left) => (left = [] -> k0 ()) /\ ∀ j p, left[j]? = some p -> k id left j p
  | _ => False
 | _ => False
def AAv (h : AP) (l : LV) (k : Nat -> DV × DV -> List (DV × DV) -> Prop) : Prop := match l with
 | .lpb id 0 => match AJ id h with
  | some (.iter (some p) left) => k id p left
  | _ => False
 | _ => False
def BE (P : Program) (A : BD) (AD : A5) (st : St) (dst : Option Tmp) (op : Op) (K : A6 St) : Prop :=
 match op with
 | .move x | .assign x => K.f (st.put dst (st.eval x))
 | .pick c a b => Tj (st.eval c) ⟨fun t => K.f (st.put dst (if t then st.eval a else st.eval b)), ⟨⟩⟩
 | .nilCheck x => Y4 (st.eval x) ⟨fun l => K.f (st.put dst l), ⟨⟩⟩
 | .binOp op t x y _ => SC AD op t (st.eval x) (st.eval y) ⟨fun l => K.f (st.put dst l), ⟨⟩⟩
 | .unOp .neg _ x => Nh (st.eval x) ⟨fun n => K.f (st.put dst (.p (.int n.1 (n.1.wrap (0 - n.2))))), ⟨⟩⟩
 | .unOp .not _ x => Tj (st.eval x) ⟨fun b => K.f (st.put dst (.p (.bool !b))), ⟨⟩⟩
 | .convert s d x => Nh (st.eval x) ⟨fun n => CK AD s ⟨fun _ => CK AD d ⟨fun ti => B7 (Wv ti.sh) ⟨fun kd => K.f (st.put dst (.p (.int kd (kd.wrap n.2)))), ⟨⟩⟩, ⟨⟩⟩, ⟨⟩⟩, ⟨⟩⟩
 | .extract t i => Y5 (st.eval t) i ⟨fun l => K.f (st.put dst l), ⟨⟩⟩
 | .field t x i => CK AD t ⟨fun ti => Pp ti.sh ⟨fun fs => B7 fs[i]? ⟨fun f => CK AD f.2 ⟨fun tf => Y6 (st.eval x) ⟨fun ls => B7 (Cz tf f.1 ls) ⟨fun l => K.f (st.put dst l), ⟨⟩⟩, ⟨⟩⟩, ⟨⟩⟩, ⟨⟩⟩, ⟨⟩⟩, ⟨⟩⟩
 | .build t ps => CK AD t ⟨fun ti => Ov AD ti.sh (ti.zero.map .p) (ps.toList.map fun p => (p.1, st.eval p.2)) ⟨fun cells => K.f (st.put dst (FH cells)), ⟨⟩⟩, ⟨⟩⟩
 | .fieldAddr t x i => CK AD t ⟨fun ti => Pp ti.sh ⟨fun fs => B7 fs[i]? ⟨fun f => CK AD f.2 ⟨fun tf => tf.size ≠ 0 /\ Ws f.1 (st.eval x) ⟨fun l => K.f (st.put dst l), ⟨⟩⟩, ⟨⟩⟩, ⟨⟩⟩, ⟨⟩⟩, ⟨⟩⟩
 | .indexAddr t x i => Nh (st.eval i) ⟨fun n => CK AD t ⟨fun ti => iaS AD ti.sh (st.eval x) n.2 ⟨fun l => K.f (st.put dst l), ⟨⟩⟩, ⟨⟩⟩, ⟨⟩⟩
 | .index t x i => Nh (st.eval i) ⟨fun n => CK AD t ⟨fun ti => 0 <= n.2 /\ ixS AD ti.sh (st.eval x) n.2 ⟨fun l => K.f (st.put dst l), ⟨⟩⟩, ⟨⟩⟩, ⟨⟩⟩
 | .makeFunc (.func f) first caps => first.toList = [] /\ K.f (st.put dst (.fn f (caps.toList.map st.eval)))
 | .slice t x lo hi none => LR AD t (st.eval x) (lo.map st.eval) (hi.map st.eval) ⟨fun l => K.f (st.put dst l), ⟨⟩⟩
 | .load t x => CK AD t ⟨fun ti => RD st.heap ti (st.eval x) ⟨fun l => K.f (st.put dst l), ⟨⟩⟩, ⟨⟩⟩
 | .store t x v => CK AD t ⟨fun ti => B7 (st.eval v).cells ⟨fun ls => (ls.length = ti.size /\ ls.all LV.one = true) /\ UA st.heap ti (st.eval x) ls ⟨fun h => K.f (st.go dst .any h st.ctr), ⟨⟩⟩, ⟨⟩⟩, ⟨⟩⟩
 | .alloc t => CK AD t ⟨fun ti => K.f (st.go dst (.lpb st.ctr 0) ((st.ctr, .box (ti.zero.map .p)) :: st.heap) (st.ctr + 1)), ⟨⟩⟩
 | .box _ x => B7 (st.eval x).cells ⟨fun ls => K.f (st.go dst (.lpb st.ctr 0) ((st.ctr, .box ls) :: st.heap) (st.ctr + 1)), ⟨⟩⟩
 | .buildSlice t n ps => CK AD t ⟨fun ti => LN ti.sh ⟨fun e => CK AD e ⟨fun te => (0 < te.size /\ n * te.size <= 16777216) /\ B7 (G0 te.size 0 (ps.toList.map fun p => (p.1, st.eval p.2))) ⟨fun l =>
   l.length = n /\ (K.f (st.go dst (.lsl st.ctr te.size 0 n) ((st.ctr, .row e te.size l) :: st.heap) (st.ctr + 1)) \/ K.f (st.put dst (.p (.slice te.size l)))), ⟨⟩⟩, ⟨⟩⟩, ⟨⟩⟩, ⟨⟩⟩
 | .makeSlice t l c => CK AD t ⟨fun ti => LN ti.sh ⟨fun e => CK AD e ⟨fun te => Nh (st.eval l) ⟨fun n => Nh (st.eval c) ⟨fun n' => (n'.2 = n.2 /\ 0 <= n.2 /\ te.bytes * n.2.toNat <= 281474976710656 /\ n.2.toNat <= maxLen) /\
   (K.f (st.go dst (.lsl st.ctr te.size 0 n.2.toNat) ((st.ctr, .row e te.size (List.replicate n.2.toNat te.zero)) :: st.heap) (st.ctr + 1)) \/ K.f (st.put dst (.p (.slice te.size (List.replicate n.2.toNat te.zero))))), ⟨⟩⟩, ⟨⟩⟩, ⟨⟩⟩, ⟨⟩⟩, ⟨⟩⟩
 | .makeMap _ none => K.f (st.go dst (.lmap st.ctr) ((st.ctr, .map []) :: st.heap) (st.ctr + 1))
 | .lookup t x i ok => CK AD t ⟨fun ti => T9 ti.sh ⟨fun m => CK AD m.2 ⟨fun te => B7 (K1 st.heap (st.eval x)) ⟨fun l => Sn (st.eval i) ⟨fun kd => (BY AD m.1 kd = true /\ (l.all fun p => BY AD m.1 p.1) = true) /\
   K.f (st.put dst (if ok then .tup [.p ((FT kd l).getD (zV AD te)), .p (.bool (FT kd l).isSome)] else .p ((FT kd l).getD (zV AD te)))), ⟨⟩⟩, ⟨⟩⟩, ⟨⟩⟩, ⟨⟩⟩, ⟨⟩⟩
 | .mapUpdate t x i v => CK AD t ⟨fun ti => T9 ti.sh ⟨fun m => Pq (st.eval x) ⟨fun id => B7 (AJ id st.heap) ⟨fun o => SE o ⟨fun l => Sn (st.eval i) ⟨fun kd => Sn (st.eval v) ⟨fun vd =>
   (BY AD m.1 kd = true /\ (l.all fun p => BY AD m.1 p.1) = true) /\ K.f (st.go dst .any (BR id (.map (MY kd vd l)) st.heap) st.ctr), ⟨⟩⟩, ⟨⟩⟩, ⟨⟩⟩, ⟨⟩⟩, ⟨⟩⟩, ⟨⟩⟩, ⟨⟩⟩
 | .mapEntry t x i => CK AD t ⟨fun ti => T9 ti.sh ⟨fun m => CK AD m.2 ⟨fun te => Pq (st.eval x) ⟨fun id => B7 (AJ id st.heap) ⟨fun o => SE o ⟨fun l => Sn (st.eval i) ⟨fun kd =>
   (BY AD m.1 kd = true /\ (l.all fun p => BY AD m.1 p.1) = true) /\
   K.f (st.go dst (.tup [.p ((FT kd l).getD te.zeroDV), .p (.int .i64 (((CU kd l).map (·.1)).getD l.length))]) (match CU kd l with
    | some _ => st.heap
    | none => BR id (.map (l ++ [(kd, te.zeroDV)])) st.heap) st.ctr), ⟨⟩⟩, ⟨⟩⟩, ⟨⟩⟩, ⟨⟩⟩, ⟨⟩⟩, ⟨⟩⟩, ⟨⟩⟩
 | .entryStore _ x s v => Pq (st.eval x) ⟨fun id => B7 (AJ id st.heap) ⟨fun o => SE o ⟨fun m => Nh (st.eval s) ⟨fun n => Sn (st.eval v) ⟨fun vd => 0 <= n.2 /\ B7 m[n.2.toNat]? ⟨fun p =>
   K.f (st.go dst .any (BR id (.map (m.set n.2.toNat (p.1, vd))) st.heap) st.ctr), ⟨⟩⟩, ⟨⟩⟩, ⟨⟩⟩, ⟨⟩⟩, ⟨⟩⟩, ⟨⟩⟩
 | .range t x => CK AD t ⟨fun ti => T9 ti.sh ⟨fun _ => AAt (st.eval x) ⟨fun m => K.f (st.go dst (.lpb st.ctr 0) ((st.ctr, .iter none m) :: st.heap) (st.ctr + 1)), ⟨⟩⟩, ⟨⟩⟩, ⟨⟩⟩
 | .next x false => AAu st.heap (st.eval x) (fun _ => K.f (st.go dst (.tup [.p (.bool false)]) st.heap st.ctr)) fun id left j p => ∃ cur', (cur' = none \/ cur' = some p) /\ K.f (st.go dst (.tup [.p (.bool true), .p p.1, .p p.2]) (BR id (.iter cur' (left.eraseIdx j)) st.heap) st.ctr)
 | .entry x => AAv st.heap (st.eval x) fun id p left => K.f (st.go dst (.tup [.p p.1, .p p.2]) (BR id (.iter none left) st.heap) st.ctr)
 | .call c => I1 P A AD st dst c K
 | _ => False
def gW (b want : Bool) (X Y : A6 Unit) : Prop := (b = want -> X.f ()) /\ (b = !want -> Y.f ())
def gM (v : LV) (want : Bool) (X Y : A6 Unit) : Prop :=
 match v with
 | .p (.bool b) => gW b want X Y
 | .und => Y.f ()
 | _ => False
def GD (st : St) (d : Option Tmp) : LV :=
 match d with
 | some t => st.eval (.tmp t)
 | none => .any
structure AAw (K : A6 St) (st : St) : Prop where
 h : K.f st
def FR (P : Program) (A : BD) (AD : A5) (K : A6 St) : List H8 -> St -> Prop
 | [], st => AAw K st
 | ⟨dst, op, none⟩ :: rest, st => BE P A AD st dst op ⟨FR P A AD K rest, ⟨⟩⟩
 | ⟨dst, op, some (d, want)⟩ :: rest, st => gM (GD st d) want ⟨fun _ => BE P A AD st dst op ⟨FR P A AD K rest, ⟨⟩⟩, ⟨⟩⟩ ⟨fun _ => FR P A AD K rest (st.put dst .und), ⟨⟩⟩
section
variable {P : Program} {A : BD} {AD : A5}
theorem AS {α : Type} {o : Option α} {k : A6 α} : B7 o k ↔ ∃ a, o = some a /\ k.f a := by cases o <;> simp [B7]
theorem AR {t : Nat} {k : A6 TI} : CK AD t k ↔ ∃ a, AD.tt t = some a /\ k.f a := AS
theorem L5 {x : LV} {k : A6 Bool} : Tj x k ↔ ∃ b, x = .p (.bool b) /\ k.f b := by
 unfold Tj; split <;> simp_all
theorem B8 {x : LV} {k : A6 (IntKind × Int)} : Nh x k ↔ ∃ kk n, x = .p (.int kk n) /\ k.f (kk, n) := by
 unfold Nh; split
 .exact ⟨fun h => ⟨_, _, rfl, h⟩, fun ⟨_, _, e, h⟩ => by cases e; exact h⟩
 simp_all
theorem Cc {x : LV} {k : A6 DV} : Sn x k ↔ ∃ d, x = .p d /\ k.f d := by
 unfold Sn; split <;> simp_all
theorem B5 {x : Sh} {k : A6 Nat} : LN x k ↔ ∃ e, x = .slc e /\ k.f e := by
 unfold LN; split <;> simp_all
theorem E9 {x : Sh} {k : A6 (List (Nat × Nat))} : Pp x k ↔ ∃ e, x = .struct e /\ k.f e := by
 unfold Pp; split <;> simp_all
theorem EK {x : Sh} {k : A6 (Nat × Nat)} : T9 x k ↔ ∃ a b, x = .mp a b /\ k.f (a, b) := by
 unfold T9; split
 .exact ⟨fun h => ⟨_, _, rfl, h⟩, fun ⟨_, _, e, h⟩ => by cases e; exact h⟩
 simp_all
theorem Dd {x : LV} {k : A6 Nat} : Pq x k ↔ ∃ id, x = .lmap id /\ k.f id := by
 unfold Pq; split <;> simp_all
theorem WD {x : LV} {k : A6 (FuncId × List LV)} : ON x k ↔ ∃ f c, x = .fn f c /\ k.f (f, c) := by
 unfold ON; split
 .exact ⟨fun h => ⟨_, _, rfl, h⟩, fun ⟨_, _, e, h⟩ => by cases e; exact h⟩
 simp_all
theorem EU {x : BB} {k : A6 (List (DV × DV))} : SE x k ↔ ∃ m, x = .map m /\ k.f m := by
 unfold SE; split <;> simp_all
theorem Ii {x : BB} {k : A6 (List LV)} : Wt x k ↔ ∃ m, x = .box m /\ k.f m := by
 unfold Wt; split <;> simp_all
theorem EV {x : BB} {k : A6 (Nat × Nat × List (List DV))} : SD x k ↔ ∃ a b c, x = .row a b c /\ k.f (a, b, c) := by
 unfold SD; split
 .exact ⟨fun h => ⟨_, _, _, rfl, h⟩, fun ⟨_, _, _, e, h⟩ => by cases e; exact h⟩
 simp_all
theorem Jd {d : Int} {x : Option LV} {k : A6 Int} {k' : Int -> Prop} (hk : ∀ n, k.f n -> k' n) (h : LQ d x k) : GE d x k' := by
 unfold LQ at h; unfold GE
 split at h <;> first | exact hk _ h | exact h.elim
theorem WE {neg : Bool} {t : Nat} {x y : LV} {k : A6 LV} (h : WC AD neg t x y k) : So AD neg t x y k.f := by
 unfold WC at h
 unfold So
 split at h
 .exact h
 .obtain ⟨ti, h1, h2, h3⟩ := AR.1 h; exact ⟨⟨ti, h1, h2⟩, h3⟩
 .obtain ⟨ks, h1, h2⟩ := AS.1 h; exact ⟨ks, h1, h2⟩
 .obtain ⟨ti, h1, h2⟩ := AR.1 h
  obtain ⟨e, h3, h4⟩ := B5.1 h2
  exact ⟨⟨ti, e, h1, h3⟩, h4⟩
 .obtain ⟨ti, h1, h2⟩ := AR.1 h
  obtain ⟨e, h3, h4⟩ := B5.1 h2
  exact ⟨⟨ti, e, h1, h3⟩, h4⟩
 .obtain ⟨ti, h1, h2⟩ := AR.1 h
  obtain ⟨e, h3, h4⟩ := B5.1 h2
  exact ⟨⟨ti, e, h1, h3⟩, h4⟩
 .exact h
 .exact h
 .exact h
 exact h.elim
theorem QF {op : BinOp} {kk : IntKind} {a b : Int} {k : A6 LV} (h : Mx op kk a b k) : ∃ v, KL op kk a b = some v /\ k.f (.p v) := by
 unfold Mx at h
 split at h
 .exact AS.1 h.2
 .exact AS.1 h.2
 exact AS.1 h
theorem Y9 {op : BinOp} {t : Nat} {x y : LV} {k : A6 LV} (h : SC AD op t x y k) : SF AD op t x y k.f := by
 unfold SC at h
 unfold SF
 split at h
 .exact ⟨h.1, QF h.2⟩
 rename_i hne
 split
 .exact absurd rfl (hne _ _ _ _ rfl)
 split at h
 .exact WE h
 .exact WE h
 exact h.elim
theorem Nj {place : Nat -> Option (Nat × Nat)} {k : A6 (List LV)} : ∀ {ps : List (Nat × LV)} {cells : List LV}, LO AD place cells ps k -> I2 AD place cells ps k.f
 | [], _, h => h
 | (i, v) :: rest, cells, h => by
  obtain ⟨p, h1, h⟩ := AS.1 h
  obtain ⟨ti, h2, h⟩ := AR.1 h
  obtain ⟨ls, h3, ⟨h4, h5⟩, h⟩ := AS.1 h
  exact ⟨p.1, p.2, ti, ls, h1, h2, h3, h4, h5, Nj h⟩
theorem X8 {h : AP} {ti : TI} {p : LV} {k : A6 LV} (hl : RD h ti p k) : Gm h ti p k.f := by
 unfold RD at hl
 unfold Gm
 split at hl
 .exact AS.1 hl
 .obtain ⟨o, h1, hl⟩ := AS.1 hl
  obtain ⟨cells, rfl, hl⟩ := Ii.1 hl
  obtain ⟨r, h2, h3⟩ := AS.1 hl
  exact ⟨cells, r, h1, h2, h3⟩
 .obtain ⟨o, h1, hl⟩ := AS.1 hl
  obtain ⟨e, sz, elems, rfl, hl⟩ := EV.1 hl
  obtain ⟨x, h2, hl⟩ := AS.1 hl
  obtain ⟨r, h3, h4⟩ := AS.1 hl
  exact ⟨e, sz, elems, x, r, h1, h2, h3, h4⟩
 exact hl.elim
theorem ZA {a b c d : Prop} (h : (a /\ b /\ c) /\ d) : a /\ b /\ c /\ d := ⟨h.1.1, h.1.2.1, h.1.2.2, h.2⟩
theorem Ww {t : Nat} {x : LV} {lo hi : Option LV} {k : A6 LV} (h : LR AD t x lo hi k) : LS AD t x lo hi k.f := by
 unfold LR at h
 unfold LS
 split at h
 .obtain ⟨ti, h1, h⟩ := AR.1 h
  obtain ⟨e, h2, h⟩ := B5.1 h
  obtain ⟨te, h3, h4, h⟩ := AR.1 h
  exact ⟨⟨ti, e, h1, h2, te, h3, h4⟩, Jd (fun n hn => Jd (fun m hm => ZA hm) hn) h⟩
 .obtain ⟨ti, h1, h⟩ := AR.1 h
  obtain ⟨e, h2, h⟩ := B5.1 h
  obtain ⟨te, h3, h4, h5, h⟩ := AR.1 h
  exact ⟨⟨ti, e, h1, h2, te, h3, h4⟩, h5, Jd (fun n hn => Jd (fun m hm => ZA hm) hn) h⟩
 .obtain ⟨ti, h1, h2, h⟩ := AR.1 h
  exact ⟨⟨ti, h1, h2⟩, Jd (fun n hn => Jd (fun m hm => ZA hm) hn) h⟩
 exact h.elim
end
end Go.E
/- The walk of a function: the short form holds what the long one says (SG); rules for the parts of a body, states made weaker (A9). No condition. -/
namespace Go.E
open Go Go.RowKit
section
variable {P : Program} {A : BD} {AD : A5} {K : St -> Prop}
theorem SG {st : St} {o : Oper} {K : A6 St} (h : BE P A AD st o.dst o.op K) : Zr P A AD st o K.f := by
 obtain ⟨dst, op, type, pos, after, guard⟩ := o
 simp only at h
 cases op <;> simp only [BE] at h <;> simp only [Zr]
 case move x => exact h
 case assign x => exact h
 case pick c a b => obtain ⟨t, h1, h2⟩ := L5.1 h; exact ⟨t, h1, h2⟩
 case nilCheck x =>
  try dsimp only at h
  unfold Y4 at h
  simp only [nW]
  split at h <;> first | (rename_i e; simp only [e]; exact ⟨trivial, h⟩) | exact h.elim
 case binOp op t x y z => exact Y9 h
 case unOp op t x =>
  cases op <;> simp only [BE] at h
  case neg => obtain ⟨kk, n, h1, h2⟩ := B8.1 h; simp only [nW, WF, h1]; exact h2
  case not => obtain ⟨b, h1, h2⟩ := L5.1 h; simp only [nW, WF, h1]; exact h2
 case convert s d x =>
  obtain ⟨kk, n, h1, h⟩ := B8.1 h
  obtain ⟨tj, h2, h⟩ := AR.1 h
  obtain ⟨ti, h3, h⟩ := AR.1 h
  obtain ⟨kd, h4, h⟩ := AS.1 h
  refine ⟨kk, n, ti, tj, h1, h2, h3, kd, ?_, h⟩
  generalize ti.sh = q at h4
  cases q <;> simp [Wv] at h4
  rw [h4]
 case extract t i =>
  try dsimp only at h
  unfold Y5 at h
  simp only [nW]
  split at h
  .rename_i l hl; simp only [hl]; exact AS.1 h
  .rename_i l hl; simp only [hl]; exact AS.1 h
  exact h.elim
 case field t x i =>
  obtain ⟨ti, h1, h⟩ := AR.1 h
  obtain ⟨fs, h2, h⟩ := E9.1 h
  obtain ⟨f, h3, h⟩ := AS.1 h
  obtain ⟨tf, h4, h⟩ := AR.1 h
  try dsimp only at h
  unfold Y6 at h
  split at h
  .rename_i l hl
   obtain ⟨v, h5, h6⟩ := AS.1 h
   exact ⟨ti, fs, f.1, f.2, tf, l, v, h1, h2, h3, h4, by rw [hl]; rfl, by rw [hl]; trivial, h5, h6⟩
  .rename_i l hl
   obtain ⟨v, h5, h6⟩ := AS.1 h
   exact ⟨ti, fs, f.1, f.2, tf, l.map .p, v, h1, h2, h3, h4, by rw [hl]; rfl, by rw [hl]; trivial, h5, h6⟩
  exact h.elim
 case build t ps =>
  obtain ⟨ti, h1, h⟩ := AR.1 h
  refine ⟨ti, h1, ?_⟩
  try dsimp only at h
  unfold Ov at h
  split at h
  .rename_i fs hsh; simp only [hsh]; exact ⟨h.1, Nj h.2⟩
  .rename_i n e hsh
   obtain ⟨te, h2, h⟩ := AR.1 h
   simp only [hsh]
   exact ⟨te, h2, Nj h⟩
  exact h.elim
 case fieldAddr t x i =>
  obtain ⟨ti, h1, h⟩ := AR.1 h
  obtain ⟨fs, h2, h⟩ := E9.1 h
  obtain ⟨f, h3, h⟩ := AS.1 h
  obtain ⟨tf, h4, h5, h⟩ := AR.1 h
  refine ⟨ti, fs, f.1, f.2, tf, h1, h2, h3, h4, h5, ?_⟩
  try dsimp only at h
  unfold Ws at h
  split at h <;> first | (rename_i e; simp only [e]; exact h) | exact h.elim
 case indexAddr t x i =>
  obtain ⟨kk, n, h1, h⟩ := B8.1 h
  obtain ⟨ti, h2, h⟩ := AR.1 h
  refine ⟨kk, n, ti, h1, h2, ?_⟩
  try dsimp only at h
  unfold iaS at h
  split at h
  .rename_i e1 e2
   obtain ⟨te, g1, g2, g3, h⟩ := AR.1 h
   simp only [e1, e2]
   exact ⟨⟨te, g1, g2⟩, g3, AS.1 h⟩
  .rename_i e1 e2
   obtain ⟨te, g1, g2, ⟨g3, g4⟩, h⟩ := AR.1 h
   simp only [e1, e2]
   exact ⟨⟨te, g1, g2⟩, g3, g4, h⟩
  .rename_i e1 e2
   obtain ⟨te, g1, ⟨g2, g3⟩, h⟩ := AR.1 h
   simp only [e1, e2]
   exact ⟨te, g1, g2, g3, h⟩
  .rename_i e1 e2
   obtain ⟨te, g1, ⟨g2, g3⟩, h⟩ := AR.1 h
   simp only [e1, e2]
   exact ⟨te, g1, g2, g3, h⟩
  exact h.elim
 case index t x i =>
  obtain ⟨kk, n, h1, h⟩ := B8.1 h
  obtain ⟨ti, h2, h0, h⟩ := AR.1 h
  refine ⟨kk, n, ti, h1, h2, h0, ?_⟩
  try dsimp only at h
  unfold ixS at h
  split at h
  .rename_i e1 e2
   obtain ⟨te, g1, g2, h⟩ := AR.1 h
   obtain ⟨v, g3, g4⟩ := AS.1 h
   simp only [e1, e2]
   exact ⟨te, v, g1, g2, g3, g4⟩
  .rename_i e1 e2
   obtain ⟨te, g1, g2, h⟩ := AR.1 h
   obtain ⟨v, g3, g4⟩ := AS.1 h
   simp only [e1, e2]
   exact ⟨te, v, g1, g2, g3, g4⟩
  .rename_i e1 e2
   simp only [e1, e2]
   exact AS.1 h
  exact h.elim
 case makeFunc fn first caps =>
  cases fn <;> simp only [BE] at h
  rename_i f
  exact ⟨by simpa using h.1, f, rfl, h.2⟩
 case slice t x lo hi mx =>
  cases mx with
  | some m => exact h.elim
  | none => exact ⟨rfl, Ww h⟩
 case load t x => obtain ⟨ti, h1, h2⟩ := AR.1 h; exact ⟨ti, h1, X8 h2⟩
 case store t x v =>
  obtain ⟨ti, h1, h⟩ := AR.1 h
  obtain ⟨ls, h2, ⟨h3, h4⟩, h⟩ := AS.1 h
  refine ⟨ti, h1, ls, h2, h3, h4, ?_⟩
  try dsimp only at h
  unfold UA at h
  split at h
  .rename_i id off e
   obtain ⟨o, g1, h⟩ := AS.1 h
   obtain ⟨cells, rfl, g2, h⟩ := Ii.1 h
   try simp only [e]
   exact ⟨cells, g1, g2, h⟩
  .rename_i id i off e
   obtain ⟨o, g1, h⟩ := AS.1 h
   obtain ⟨e', sz, elems, rfl, h⟩ := EV.1 h
   obtain ⟨x, g2, h⟩ := AS.1 h
   obtain ⟨ds, g3, g4, h⟩ := AS.1 h
   try simp only [e]
   exact ⟨e', sz, elems, x, ds, g1, g2, g4, g3, h⟩
  exact h.elim
 case alloc t => obtain ⟨ti, h1, h2⟩ := AR.1 h; exact ⟨ti, h1, h2⟩
 case box t x => obtain ⟨ls, h1, h2⟩ := AS.1 h; exact ⟨ls, h1, h2⟩
 case buildSlice t n ps =>
  obtain ⟨ti, h1, h⟩ := AR.1 h
  obtain ⟨e, h2, h⟩ := B5.1 h
  obtain ⟨te, h3, ⟨h4, h5⟩, h⟩ := AR.1 h
  obtain ⟨l, h6, h7, h⟩ := AS.1 h
  exact ⟨ti, e, te, l, h1, h2, h3, h4, h5, h6, h7, h⟩
 case makeSlice t l c =>
  obtain ⟨ti, h1, h⟩ := AR.1 h
  obtain ⟨e, h2, h⟩ := B5.1 h
  obtain ⟨te, h3, h⟩ := AR.1 h
  obtain ⟨k1, n, h4, h⟩ := B8.1 h
  obtain ⟨k2, n', h5, ⟨h9, h6, h7, h8⟩, h⟩ := B8.1 h
  simp only at h9
  subst h9
  exact ⟨ti, e, te, n', k1, k2, h1, h2, h3, h4, h5, h6, h7, h8, h⟩
 case makeMap t r =>
  cases r with
  | some r => exact h.elim
  | none => exact ⟨rfl, h⟩
 case lookup t x i ok =>
  obtain ⟨ti, h1, h⟩ := AR.1 h
  obtain ⟨kt, et, h2, h⟩ := EK.1 h
  obtain ⟨te, h3, h⟩ := AR.1 h
  obtain ⟨m, h4, h⟩ := AS.1 h
  obtain ⟨kd, h5, ⟨h6, h7⟩, h⟩ := Cc.1 h
  exact ⟨ti, kt, et, te, m, kd, h1, h2, h3, h4, h5, h6, h7, h⟩
 case mapUpdate t x i v =>
  obtain ⟨ti, h1, h⟩ := AR.1 h
  obtain ⟨kt, et, h2, h⟩ := EK.1 h
  obtain ⟨id, h3, h⟩ := Dd.1 h
  obtain ⟨o, h4, h⟩ := AS.1 h
  obtain ⟨m, rfl, h⟩ := EU.1 h
  obtain ⟨kd, h5, h⟩ := Cc.1 h
  obtain ⟨vd, h6, ⟨h7, h8⟩, h⟩ := Cc.1 h
  exact ⟨ti, kt, et, id, m, kd, vd, h1, h2, h3, h4, h5, h6, h7, h8, h⟩
 case mapEntry t x i =>
  obtain ⟨ti, h1, h⟩ := AR.1 h
  obtain ⟨kt, et, h2, h⟩ := EK.1 h
  obtain ⟨te, h3, h⟩ := AR.1 h
  obtain ⟨id, h4, h⟩ := Dd.1 h
  obtain ⟨o, h5, h⟩ := AS.1 h
  obtain ⟨m, rfl, h⟩ := EU.1 h
  obtain ⟨kd, h6, ⟨h7, h8⟩, h⟩ := Cc.1 h
  exact ⟨ti, kt, et, te, id, m, kd, h1, h2, h3, h4, h5, h6, h7, h8, h⟩
 case entryStore t x s v =>
  obtain ⟨id, h1, h⟩ := Dd.1 h
  obtain ⟨o, h2, h⟩ := AS.1 h
  obtain ⟨m, rfl, h⟩ := EU.1 h
  obtain ⟨kk, n, h3, h⟩ := B8.1 h
  obtain ⟨vd, h4, h0, h⟩ := Cc.1 h
  obtain ⟨p, h5, h⟩ := AS.1 h
  exact ⟨id, m, kk, n, vd, p, h1, h2, h3, h0, h5, h4, h⟩
 case range t x =>
  obtain ⟨ti, h1, h⟩ := AR.1 h
  obtain ⟨kt, et, h2, h⟩ := EK.1 h
  try dsimp only at h
  unfold AAt at h
  split at h
  .rename_i e; exact ⟨ti, kt, et, [], h1, h2, .inl ⟨e, rfl⟩, h⟩
  .rename_i m e; exact ⟨ti, kt, et, m, h1, h2, .inr e, h⟩
  exact h.elim
 case next x s =>
  cases s with
  | true => exact h.elim
  | false =>
   simp only [BE] at h
   unfold AAu at h
   split at h
   .rename_i id e
    split at h
    .rename_i cur left hl
     exact ⟨rfl, id, cur, left, e, hl, h.1, h.2⟩
    exact h.elim
   exact h.elim
 case entry x =>
  unfold AAv at h
  split at h
  .rename_i id e
   split at h
   .rename_i p left hl
    exact ⟨id, p, left, e, hl, h⟩
   exact h.elim
  exact h.elim
 case call c =>
  obtain ⟨callee, args, ats⟩ := c
  try dsimp only at h
  unfold I1 at h
  simp only at h
  split at h
  .rename_i f
   obtain ⟨k, caps, g1, g2⟩ := WD.1 h
   simp only [g1]
   exact g2
  .rename_i s x t t' e2 e3
   obtain ⟨rfl, h⟩ := h
   obtain ⟨ti, h1, h⟩ := AR.1 h
   obtain ⟨e, h2, h⟩ := B5.1 h
   obtain ⟨te, h3, h4, h⟩ := AR.1 h
   obtain ⟨new, h5, h6, h⟩ := AS.1 h
   have ha : args = #[s, x] := by rw [<- Array.toList_inj, e2]
   have hb : ats = #[t', t'] := by rw [<- Array.toList_inj, e3]
   simp only [mW]
   refine ⟨trivial, s, x, t', ha, hb, ti, e, te, h1, h2, h3, h4, new, h5, h6, ?_⟩
   try dsimp only at h
   unfold Wu at h
   split at h
   .rename_i e; simp only [e]; exact ⟨h.1.1, h.1.2, h.2⟩
   .rename_i id sz off len e
    obtain ⟨hsz, h⟩ := h
    obtain ⟨o, g1, h⟩ := AS.1 h
    obtain ⟨e', sz', elems, rfl, ⟨k1, k2, g2, g3, g4⟩, h9⟩ := EV.1 h
    subst k1; subst k2
    try simp only [e]
    exact ⟨elems, hsz, g1, g2, g3, g4, h9⟩
   exact h.elim
  .rename_i x i t r e2 e3
   obtain ⟨ti, h1, h⟩ := AR.1 h
   obtain ⟨kt, et, h2, h⟩ := EK.1 h
   obtain ⟨id, h3, h⟩ := Dd.1 h
   obtain ⟨o, h4, h⟩ := AS.1 h
   obtain ⟨m, rfl, h⟩ := EU.1 h
   obtain ⟨kd, h5, ⟨h6, h7⟩, h⟩ := Cc.1 h
   exact ⟨x, i, t, r, by rw [<- Array.toList_inj, e2], e3, ti, kt, et, id, m, kd, h1, h2, h3, h4, h5, h6, h7, h⟩
  .rename_i x t r e2 e3
   obtain ⟨h, hd⟩ := h
   obtain ⟨ti, h1, h⟩ := AR.1 h
   obtain ⟨e, h2, h⟩ := B5.1 h
   obtain ⟨te, h3, h⟩ := AR.1 h
   have h : Y8 st e te (st.eval x) K := h
   generalize hx : st.eval x = v at h
   cases v <;> try exact False.elim h
   rename_i id sz off len
   obtain ⟨k1, rfl, k3, k4, h⟩ := h
   obtain ⟨o', g1, h⟩ := AS.1 h
   obtain ⟨e', sz', elems, rfl, ⟨g2, g3, g4⟩, h9⟩ := EV.1 h
   subst g2; subst g3
   refine ⟨x, t, r, by rw [<- Array.toList_inj, e2], e3, ti, e', te, id, off, len, elems, h1, h2, h3, k1, hx, k3, g1, g4, k4, ?_⟩
   subst hd; exact h9
  .rename_i x t e2 e3
   obtain ⟨ti, h1, h⟩ := AR.1 h
   have ha : args = #[x] := by rw [<- Array.toList_inj, e2]
   have hb : ats = #[t] := by rw [<- Array.toList_inj, e3]
   simp only [nW]
   refine ⟨x, t, ti, ha, hb, h1, ?_⟩
   try dsimp only at h
   unfold Y7 at h
   split at h
   .rename_i g; simp only [g]; exact h
   .rename_i g1 g2; simp only [g1, g2, LU]; exact h
   .rename_i g1 g2; simp only [g1, g2, LU]; exact h
   .rename_i g1 g2; simp only [g1, g2, LU]; exact h
   .rename_i g1 g2; simp only [g1, g2, LU]; exact h
   exact h.elim
  .obtain ⟨r, h1, h⟩ := AS.1 h
   simp only [nW]
   exact ⟨r, h1, h⟩
  .obtain ⟨r, h1, h⟩ := AS.1 h
   simp only [nW]
   exact ⟨r, h1, h⟩
  exact h.elim
 all_goals exact h.elim
theorem Sp (st : St) (ops : List Oper) (j : Nat) : GD st (Wr ops j) = DJ st ops.toArray j := by
 unfold GD DJ Wr
 simp only [List.getElem?_toArray]
 cases ops[j]? with
 | none => rfl
 | some o => cases hd : o.dst <;> simp [hd]
theorem L6 (hE : BC P AD) {ops : List Oper} {K : A6 St} {Q : Exit -> Act -> World -> Prop} (hQ : ∀ st a w, K.f st -> R A st a w -> Q .normal a w) :
  ∀ (l : List Oper) (st : St) (a : Act) (w : World), FR P A AD K (l.map (Ou ops)) st -> R A st a w -> wpList P ops.toArray Q l a w
 | [], st, a, w, h, hR => hQ st a w h.h hR
 | o :: rest, st, a, w, h, hR => by
  have run : BE P A AD st o.dst o.op ⟨FR P A AD K (rest.map (Ou ops)), ⟨⟩⟩ -> o.wp P a w (wpList P ops.toArray Q rest) Q := fun h =>
   Sj hE (SG h) hR fun st' a' w' hk hR' => L6 hE hQ rest st' a' w' hk hR'
  have skip : FR P A AD K (rest.map (Ou ops)) (st.put o.dst .und) -> wpList P ops.toArray Q rest (a.put o.dst undef) w := fun h => by
   obtain ⟨μ, hh, hs⟩ := hR.ex
   exact L6 hE hQ rest _ _ _ h (hR.put hs hh .und)
  unfold wpList
  simp only [List.map_cons, Ou] at h
  cases hg : o.guard with
  | none =>
   rw [hg] at h
   rw [if_pos (by simp [Region.wanted, hg])]
   exact .inl (run h)
  | some g =>
   obtain ⟨j, want⟩ := g
   rw [hg] at h
   simp only [FR, Sp] at h
   obtain ⟨μ, hh, hs⟩ := hR.ex
   obtain ⟨g1, g2⟩ := Oh (ops := ops.toArray) (j := j) (fun x => G3 hs x)
   unfold gM at h
   split at h
   .rename_i b hb
    have hy := g1 b hb
    by_cases e : b = want
    .rw [if_pos (by simp [Region.wanted, hg, hy, e])]
     exact .inl (run (h.1 e))
    rw [if_neg (by simp [Region.wanted, hg, hy, e])]
    exact skip (h.2 (by cases b <;> cases want <;> simp_all))
   .rename_i hb
    have hy := g2 hb
    rw [if_neg (by simp [Region.wanted, hg, hy])]
    exact skip h
   exact h.elim
theorem AAE (hE : BC P AD) {id : Nat} {ops : List Oper} {ms : List H8} {y : Code} {Q : Exit -> St -> Prop} {st : St} (hm : ops.map (Ou ops) = ms) (h : FR P A AD ⟨fun st' => B2 P A y Q st', ⟨⟩⟩ ms st) :
  B2 P A (.seq (.region id ops.toArray false) y) Q st :=
 AB fun a w hR => wp_region_lit (L6 hE (fun st' _ _ hk hR' => ⟨st', hR', hk⟩) ops st a w (by rw [hm]; exact h) hR)
theorem ZB (hE : BC P AD) {id : Nat} {ops : List Oper} {ms : List H8} {Q : Exit -> St -> Prop} {st : St} (hm : ops.map (Ou ops) = ms) (h : FR P A AD ⟨fun st' => Q .normal st', ⟨⟩⟩ ms st) :
  B2 P A (.region id ops.toArray false) Q st :=
 fun a w hR => wp_region_lit (L6 hE (fun st' _ _ hk hR' => ⟨st', hR', hk⟩) ops st a w (by rw [hm]; exact h) hR)
def A9 (A : BD) (st st' : St) : Prop := ∀ a w, R A st a w -> R A st' a w
theorem A9.refl (st : St) : A9 A st st := fun _ _ h => h
theorem A9.trans {a b c : St} (h : A9 A a b) (h' : A9 A b c) : A9 A a c := fun x w hR => h' x w (h x w hR)
theorem LW {c : Code} {Q : Exit -> St -> Prop} {st st' : St} (hw : A9 A st st') (h : B2 P A c Q st') : B2 P A c Q st := fun a w hR => h a w (hw a w hR)
def FA (gl : List (Nat × Nat)) : LV -> LV
 | .lsl id sz off len => .lsl ((AJ id gl).getD 0) sz off len
 | .lpb id off => .lpb ((AJ id gl).getD 0) off
 | .lpe id i off => .lpe ((AJ id gl).getD 0) i off
 | .lmap id => .lmap ((AJ id gl).getD 0)
 | .agg l => .agg (renLs gl l)
 | .tup l => .tup (renLs gl l)
 | .fn f l => .fn f (renLs gl l)
 | l => l
where renLs (gl : List (Nat × Nat)) : List LV -> List LV
 | [] => []
 | x :: l => FA gl x :: renLs gl l
def De (gl : List (Nat × Nat)) : LV -> Bool
 | .lsl id _ _ _ | .lpb id _ | .lpe id _ _ | .lmap id => (AJ id gl).isSome
 | .agg l | .tup l | .fn _ l => namesLs gl l
 | _ => true
where namesLs (gl : List (Nat × Nat)) : List LV -> Bool
 | [] => true
 | x :: l => De gl x && namesLs gl l
theorem KM {gl : List (Nat × Nat)} : ∀ {ls : List LV} {i : Nat}, (FA.renLs gl ls)[i]? = (ls[i]?).map (FA gl)
 | [], i => by simp [FA.renLs]
 | x :: l, 0 => by simp [FA.renLs]
 | x :: l, i + 1 => by simpa [FA.renLs] using KM (ls := l)
theorem KN {gl : List (Nat × Nat)} : ∀ {ls : List LV}, (FA.renLs gl ls).length = ls.length
 | [] => rfl
 | x :: l => by simp [FA.renLs, KN (ls := l)]
theorem H9 {gl : List (Nat × Nat)} : ∀ {ls : List LV} {i : Nat} {x : LV}, De.namesLs gl ls = true -> ls[i]? = some x -> De gl x = true
 | [], i, x, _, h => by simp at h
 | y :: l, 0, x, hn, h => by simp at h; subst h; simp only [De.namesLs, Bool.and_eq_true] at hn; exact hn.1
 | y :: l, i + 1, x, hn, h => by simp only [De.namesLs, Bool.and_eq_true] at hn; exact H9 hn.2 (by simpa using h)
def Fu (gl : List (Nat × Nat)) (μ : Nat -> Option BQ) (id : Nat) : Option BQ :=
 match AJ id gl with
 | some old => μ old
 | none => none
theorem LX {O O' : Nat -> Prop} {μ : Nat -> Option BQ} {w : World} {gl : List (Nat × Nat)} (hO : ∀ b, b < w.heap.size -> O' b -> O b) :
  ∀ (l : LV) (v : Value), De gl l = true -> Aa O μ w v (FA gl l) -> Aa O' (Fu gl μ) w v l
 | .p d, v, _, h => .p _ _ (h.p_inv.mono (BJ.refl _ _) hO)
 | .und, v, _, h => by cases h; exact .und
 | .any, v, _, h => .any _
 | .lsl id sz off len, v, hn, h => by
  simp only [De] at hn
  cases hl : AJ id gl with
  | none => rw [hl] at hn; cases hn
  | some old =>
   simp only [FA, hl, Option.getD_some] at h
   have hm : ∀ loc, μ old = some loc -> Fu gl μ id = some loc := fun loc h => by simp [Fu, hl, h]
   cases h with
   | lsln _ loc h1 h2 => exact .lsln id loc (hm _ h1) h2
   | lsl _ _ _ cap a loc h1 h2 h3 h4 h5 h6 h7 => exact .lsl id _ _ cap a loc (hm _ h1) h2 h3 h4 h5 h6 h7
 | .lpb id off, v, hn, h => by
  simp only [De] at hn
  cases hl : AJ id gl with
  | none => rw [hl] at hn; cases hn
  | some old =>
   simp only [FA, hl, Option.getD_some] at h
   have hm : ∀ loc, μ old = some loc -> Fu gl μ id = some loc := fun loc h => by simp [Fu, hl, h]
   cases h with
   | lpb _ _ loc h1 h2 => exact .lpb id _ loc (hm _ h1) h2
 | .lpe id i off, v, hn, h => by
  simp only [De] at hn
  cases hl : AJ id gl with
  | none => rw [hl] at hn; cases hn
  | some old =>
   simp only [FA, hl, Option.getD_some] at h
   have hm : ∀ loc, μ old = some loc -> Fu gl μ id = some loc := fun loc h => by simp [Fu, hl, h]
   cases h with
   | lpe _ _ _ loc h1 h2 => exact .lpe id _ _ loc (hm _ h1) h2
 | .lmap id, v, hn, h => by
  simp only [De] at hn
  cases hl : AJ id gl with
  | none => rw [hl] at hn; cases hn
  | some old =>
   simp only [FA, hl, Option.getD_some] at h
   have hm : ∀ loc, μ old = some loc -> Fu gl μ id = some loc := fun loc h => by simp [Fu, hl, h]
   cases h with
   | lmap _ loc h1 h2 => exact .lmap id loc (hm _ h1) h2
 | .agg ls, v, hn, h => by
  simp only [FA] at h
  simp only [De] at hn
  cases h with
  | agg vs _ hsz hr =>
   rw [KN] at hsz
   refine .agg vs ls hsz fun i u x h1 h2 => ?_
   have : SizeOf.sizeOf x < SizeOf.sizeOf ls := List.sizeOf_lt_of_mem (List.mem_of_getElem? h2)
   exact LX hO x u (H9 hn h2) (hr i u _ h1 (by rw [KM, h2]; rfl))
 | .tup ls, v, hn, h => by
  simp only [FA] at h
  simp only [De] at hn
  cases h with
  | tup vs _ hsz hr =>
   rw [KN] at hsz
   refine .tup vs ls hsz fun i u x h1 h2 => ?_
   have : SizeOf.sizeOf x < SizeOf.sizeOf ls := List.sizeOf_lt_of_mem (List.mem_of_getElem? h2)
   exact LX hO x u (H9 hn h2) (hr i u _ h1 (by rw [KM, h2]; rfl))
 | .fn f ls, v, hn, h => by
  simp only [FA] at h
  simp only [De] at hn
  cases h with
  | fn _ vs _ hsz hr =>
   rw [KN] at hsz
   refine .fn f vs ls hsz fun i u x h1 h2 => ?_
   have : SizeOf.sizeOf x < SizeOf.sizeOf ls := List.sizeOf_lt_of_mem (List.mem_of_getElem? h2)
   exact LX hO x u (H9 hn h2) (hr i u _ h1 (by rw [KM, h2]; rfl))
def Wx (gl : List (Nat × Nat)) : BB -> BB
 | .box cells => .box (FA.renLs gl cells)
 | o => o
def UB (gl : List (Nat × Nat)) : BB -> Bool
 | .box cells => De.namesLs gl cells
 | _ => true
def Tk (gl : List (Nat × Nat)) (sl : List (Nat × LV)) : List (Nat × LV) -> Prop
 | [] => True
 | (t, l) :: rest => (De gl l = true /\ BZ sl t = FA gl l) /\ Tk gl sl rest
def Tl (gl : List (Nat × Nat)) (h : AP) : AP -> Prop
 | [] => True
 | (id, o) :: rest => (UB gl o = true /\ ∃ old, AJ id gl = some old /\ AJ old h = some (Wx gl o)) /\ Tl gl h rest
theorem RE {gl : List (Nat × Nat)} {sl : List (Nat × LV)} : ∀ {sl' : List (Nat × LV)}, Tk gl sl sl' -> ∀ t l, AJ t sl' = some l -> De gl l = true /\ BZ sl t = FA gl l
 | [], _, t, l, h => by simp [AJ] at h
 | (u, x) :: rest, ⟨h1, h2⟩, t, l, h => by
  simp only [AJ] at h
  split at h
  .cases h; subst_vars; exact h1
  exact RE h2 t l h
theorem Hh {gl : List (Nat × Nat)} {hp : AP} : ∀ {h' : AP}, Tl gl hp h' -> ∀ id o, AJ id h' = some o -> UB gl o = true /\ ∃ old, AJ id gl = some old /\ AJ old hp = some (Wx gl o)
 | [], _, id, o, h => by simp [AJ] at h
 | (u, x) :: rest, ⟨h1, h2⟩, id, o, h => by
  simp only [AJ] at h
  split at h
  .cases h; subst_vars; exact h1
  exact Hh h2 id o h
theorem Nk {α : Type} {t : Nat} {v : α} : ∀ {l : List (Nat × α)}, AJ t l = some v -> (t, v) ∈ l
 | [], h => by simp [AJ] at h
 | (k, u) :: l, h => by
  simp only [AJ] at h
  split at h
  .cases h; subst_vars; simp
  exact List.mem_cons_of_mem _ (Nk h)
def RG (gl : List (Nat × Nat)) (h : AP) (c : Nat) : Bool := decide (h.map fun p => (AJ p.1 gl).getD 0).Nodup && gl.all fun p => decide (p.1 < c)
theorem ZC {gl : List (Nat × Nat)} {h : AP} (hn : (h.map fun p => (AJ p.1 gl).getD 0).Nodup) {a b : Nat × BB} (ha : a ∈ h) (hb : b ∈ h) (e : (AJ a.1 gl).getD 0 = (AJ b.1 gl).getD 0) : a = b := by
 induction h with
 | nil => simp at ha
 | cons x l ih =>
  simp only [List.map_cons, List.nodup_cons, List.mem_map, not_exists, not_and] at hn
  rcases List.mem_cons.1 ha with e1 | ha' <;> rcases List.mem_cons.1 hb with e2 | hb'
  .rw [e1, e2]
  .subst e1; exact absurd e.symm (hn.1 b hb')
  .subst e2; exact absurd e (hn.1 a ha')
  exact ih hn.2 ha' hb'
theorem ZD (gl : List (Nat × Nat)) {nt : Nat} {sl sl' : List (Nat × LV)} {h h' : AP} {c c' : Nat} (hext : ∀ id, A.μ0 id ≠ none -> AJ id gl = some id) (ho : RG gl h' c' = true)
  (hs : Tk gl sl sl') (hh' : Tl gl h h') : A9 A ⟨nt, sl, h, c⟩ ⟨nt, sl', h', c'⟩ := fun a w ⟨⟨μ, hh, hr⟩, hnt, hdef⟩ => by
 simp only [RG, Bool.and_eq_true, decide_eq_true_eq, List.all_eq_true] at ho
 have hmine : ∀ b, Bm (Fu gl μ) h' b -> Bm μ h b := by
  rintro b ⟨id, o, loc, h1, h2, h3, h4⟩
  obtain ⟨_, old, g1, g2⟩ := Hh hh' id o h1
  simp only [Fu, g1] at h2
  exact ⟨old, _, loc, g2, h2, h3, h4⟩
 have hown : ∀ b, b < w.heap.size -> Af A (Fu gl μ) h' b -> Af A μ h b := fun b _ hb => hb.imp id (hmine b)
 refine ⟨⟨Fu gl μ, ⟨?_, ?_, ?_, ?_, hh.size, hh.block, hh.os, hh.tape, hh.output, ?_⟩, fun t ht => ?_⟩, hnt, hdef⟩
 .intro id o hid
  obtain ⟨hn, old, g1, g2⟩ := Hh hh' id o hid
  obtain ⟨loc, k1, k2⟩ := hh.obj old _ g2
  refine ⟨loc, by simp only [Fu, g1]; exact k1, ?_⟩
  cases o with
  | box cells =>
   obtain ⟨a1, cs, ty, a2, a3, a4⟩ := k2
   rw [KN] at a3
   refine ⟨a1, cs, ty, a2, a3, fun i v l hv hl => LX hown l v (H9 hn hl) (a4 i v _ hv (by rw [KM, hl]; rfl))⟩
  | row e sz elems =>
   obtain ⟨a1, a2, a3⟩ := k2
   refine ⟨a1, a2, ?_⟩
   rcases a3 with a3 | ⟨b1, cs, b2, b3, b4, b5, b6⟩
   .exact .inl a3
   exact .inr ⟨b1, cs, b2, b3, b4, b5, fun i j x d v hx hd hv => (b6 i j x d v hx hd hv).mono (BJ.refl _ _) hown⟩
  | map m =>
   obtain ⟨a1, es, a2, a3, a4, a5⟩ := k2
   exact ⟨a1, es, a2, a3, a4, fun i e p he hp => ⟨(a5 i e p he hp).1.mono (BJ.refl _ _) hown, (a5 i e p he hp).2.mono (BJ.refl _ _) hown⟩⟩
  | mapd m =>
   obtain ⟨a1, es, clock, a2, a3, a4, a5⟩ := k2
   exact ⟨a1, es, clock, a2, a3, a4, fun i e p he hp => ⟨(a5 i e p he hp).1.mono (BJ.refl _ _) hown, (a5 i e p he hp).2.mono (BJ.refl _ _) hown⟩⟩
  | iter cur left => exact ⟨k2.1, k2.2.mono (BJ.refl _ _) hown rfl⟩
 .intro id id' o o' loc loc' h1 h2 m1 m2 n1 n2 hb
  obtain ⟨_, old, g1, g2⟩ := Hh hh' id o h1
  obtain ⟨_, old', g1', g2'⟩ := Hh hh' id' o' h2
  simp only [Fu, g1] at m1
  simp only [Fu, g1'] at m2
  have := hh.inj _ _ _ _ _ _ g2 g2' m1 m2 n1 n2 hb
  have := ZC ho.1 (Nk h1) (Nk h2) (by simp only [g1, g1', Option.getD_some]; exact this)
  exact congrArg (·.1) this
 .intro id hid
  simp only [Fu]
  cases hl : AJ id gl with
  | none => rfl
  | some old =>
   have := ho.2 _ (Nk hl)
   simp only [Fr] at hid
   omega
 .intro id o loc h1 m1 n1
  obtain ⟨_, old, g1, g2⟩ := Hh hh' id o h1
  simp only [Fu, g1] at m1
  exact hh.base _ _ _ g2 m1 n1
 .intro id loc hm
  have := hext id (by rw [hm]; simp)
  simp only [Fu, this]
  exact hh.ext _ _ hm
 show Aa _ _ _ _ (match AJ t sl' with | some v => v | none => .any)
 cases hl : AJ t sl' with
 | none => exact .any _
 | some l =>
  obtain ⟨g1, g2⟩ := RE hs t l hl
  have := hr t ht
  simp only at this
  rw [g2] at this
  exact LX hown l _ g1 this
theorem Cl {nt : Nat} {sl : List (Nat × LV)} {h : AP} {c : Nat} (t e sz : Nat) (ht : BZ sl t = .p .nils) : A9 A ⟨nt, sl, h, c⟩ ⟨nt, (t, .lsl c sz 0 0) :: sl, (c, .row e sz []) :: h, c + 1⟩ := fun a w ⟨⟨μ, hh, hr⟩, hnt, hdef⟩ => by
 have hno := hh.fresh c (Nat.le_refl _)
 let loc : BQ := ⟨true, 0, 0, sz, 0⟩
 have hsub : ∀ id x, AJ id ((c, BB.row e sz []) :: h) = some x -> (id = c /\ x = .row e sz []) \/ AJ id h = some x := by
  intro id x hx
  simp only [AJ] at hx
  split at hx
  .cases hx; exact .inl ⟨‹_›, rfl⟩
  exact .inr hx
 have hadd := hh.add hno loc (.row e sz []) ((c, .row e sz []) :: h) (fun hn => by cases hn) (fun hn => by cases hn) hsub (BJ.refl _ _) (fun _ _ _ _ _ _ _ => rfl) rfl rfl rfl ⟨rfl, by simp, .inl ⟨rfl, rfl⟩⟩
 have hown := hh.sub_add loc (.row e sz []) ((c, .row e sz []) :: h) (fun hn => by cases hn) hsub
 refine ⟨⟨_, hadd.less (F' := Fr (c + 1)) fun id hid => ?_, fun u hu => ?_⟩, hnt, hdef⟩
 .simp only [Fr] at hid ⊢; omega
 show Aa _ _ _ _ (match AJ u ((t, LV.lsl c sz 0 0) :: sl) with | some v => v | none => .any)
 simp only [AJ]
 by_cases hut : u = t
 .subst hut
  rw [if_pos rfl]
  have := hr u hu
  simp only at this
  rw [ht] at this
  rw [this.nils_inv]
  exact .lsln c loc (by simp [Bn]) rfl
 rw [if_neg hut]
 exact (hr u hu).mono (BJ.refl _ _) hown (Jt hno loc)
end
end Go.E
/- Loops whose states are told outright; parts of a body. No condition. -/
namespace Go.E
open Go Go.RowKit
section
variable {P : Program} {A : BD} {AD : A5} {Q : Exit -> St -> Prop} {st : St}
theorem AC {next : St -> Prop} (h : next st) : Q5 next Q .normal st := h
theorem AG {next : St -> Prop} (h : Q .ret st) : Q5 next Q .ret st := h
theorem AX {next : St -> Prop} {id : Nat} (h : Q (.exit id) st) : Q5 next Q (.exit id) st := h
theorem Ac {id : Nat} (h : Q .normal st) : G4 id Q .normal st := h
theorem AO {id : Nat} (h : Q .ret st) : G4 id Q .ret st := h
theorem An {id : Nat} (h : Q .normal st) : G4 id Q (.exit id) st := by simp only [G4, if_true]; exact h
theorem L7 {id id' : Nat} (hne : (id' == id) = false) (h : Q (.exit id') st) : G4 id Q (.exit id') st := by
 simp only [G4]
 rw [if_neg (by simpa using hne)]; exact h
theorem AAx {P : Program} {AD : A5} (hE : BC P AD) {k : Nat} {fn : Func} {c : Code} (hf : P.funcs[k]? = some fn) (hb : fn.body = some c) (hn : (fn.name == "runtime.NumGoroutine") = false) (nt : Nat) (hnt : fn.ntmps = nt)
  (rs : List ResultVar) (hrs : fn.results.toList = rs) {ds : List DV} (hlen : ds.length <= nt) {Q : DV -> Prop}
  (h : ∀ A : BD, (∀ id, A.μ0 id = none) -> B2 P A c (NZ fun st => ∃ r, Fs AD.tt rs st = some r /\ Q r) ⟨nt, DA 0 ds, [], 0⟩) : Az P k ds Q := by
 subst hnt hrs
 exact Q6 hE hf hb hn hlen h
theorem ABs {h : AP} {c k : Nat} {args : List LV} {ds : List DV} {r : DV} {f : LV × AP × Nat -> Prop} {hf : H5 f} (hds : By h args = some ds) (hF : Az P k ds (· = r))
  (hs : r.scalar = true \/ args.flatMap (ET h) = []) (hK : f (.p r, h, c)) : Jy P A h c k args ⟨f, hf⟩ :=
 Cy.pure hds hF fun q hq => by
  subst hq
  split
  .exact hK
  rcases hs with hs | hs
  .exact absurd hs ‹_›
  rw [hs]; exact hK
def Le (r d : DV) : Prop := ∀ (O : Nat -> Prop) (w : World) (v : Value), As O w v r -> As O w v d
theorem Le.of_eq {r d : DV} (h : r = d) : Le r d := fun _ _ _ hv => h ▸ hv
theorem Le.nil (sz : Nat) : Le .nils (.slice sz []) := fun _ _ _ hv => by cases hv; exact .snil sz
theorem Le.tup {l m : List DV} (hl : l.length = m.length) (h : ∀ (i : Nat) (a b : DV), l[i]? = some a -> m[i]? = some b -> Le a b) : Le (.tup l) (.tup m) := fun O w v hv => by
 cases hv with
 | tup vs _ hsz hr =>
  refine .tup vs m (by omega) fun i u d h1 h2 => ?_
  have hi := (List.getElem?_eq_some_iff.1 h2).1
  have hx : l[i]? = some (l[i]'(by omega)) := List.getElem?_eq_getElem _
  exact h i _ d hx h2 O w u (hr i u _ h1 hx)
theorem Le.agg {l m : List DV} (hl : l.length = m.length) (h : ∀ (i : Nat) (a b : DV), l[i]? = some a -> m[i]? = some b -> Le a b) : Le (.agg l) (.agg m) := fun O w v hv => by
 cases hv with
 | agg vs _ hsz hr =>
  refine .agg vs m (by omega) fun i u d h1 h2 => ?_
  have hi := (List.getElem?_eq_some_iff.1 h2).1
  have hx : l[i]? = some (l[i]'(by omega)) := List.getElem?_eq_getElem _
  exact h i _ d hx h2 O w u (hr i u _ h1 hx)
theorem Le.cons {a b : DV} {l m : List DV} (h : Le a b) (hr : ∀ (i : Nat) (a b : DV), l[i]? = some a -> m[i]? = some b -> Le a b) : ∀ (i : Nat) (x y : DV), (a :: l)[i]? = some x -> (b :: m)[i]? = some y -> Le x y := fun i x y h1 h2 => by
 cases i with
 | zero => simp at h1 h2; subst h1 h2; exact h
 | succ i => exact hr i x y (by simpa using h1) (by simpa using h2)
theorem AAy {P : Program} {AD : A5} (hE : BC P AD) {k : Nat} {fn : Func} {c : Code} (hf : P.funcs[k]? = some fn) (hb : fn.body = some c) (hn : (fn.name == "runtime.NumGoroutine") = false) (nt : Nat) (hnt : fn.ntmps = nt)
  (rs : List ResultVar) (hrs : fn.results.toList = rs) {ds : List DV} (hlen : ds.length <= nt) {d : DV}
  (h : ∀ A : BD, (∀ id, A.μ0 id = none) -> B2 P A c (NZ fun st => ∃ r, Fs AD.tt rs st = some r /\ Le r d) ⟨nt, DA 0 ds, [], 0⟩) : Az P k ds (· = d) := by
 have := AAx hE hf hb hn nt hnt rs hrs hlen h
 exact ⟨this.enters, fun O w vs h1 h2 h3 => (this.run O w vs h1 h2 h3).mono fun _ _ ⟨v, r, e, hr, q, hb⟩ => ⟨v, d, e, q _ _ _ hr, rfl, hb⟩⟩
end
end Go.E
/- The equations by which a walk is reckoned. Written by a program (mkev.py). No condition. -/
namespace Go.E
open Go Go.RowKit
theorem UC : ∀ l : List DV, G6 (l.map .p) = some l
 | [] => rfl
 | x :: l => by simp [G6, UC l]
end Go.E
/- Drawn regions in short form. Conditions: Iz and mixedOrders, by kernel. -/
namespace Go.E
open Go Go.RowKit
def ZE (P : Program) (h : AP) (k : Nat) (args : List LV) (K : A6 DV) : Prop :=
 ∃ ds r, By h args = some ds /\ Az P k ds (· = r) /\ (r.scalar = true \/ args.flatMap (ET h) = []) /\ K.f r
def ACS (P : Program) (AD : A5) (h : AP) (k : Nat) (args : List LV) (K : A6 (Nat × Nat × List (List DV))) : Prop :=
 AD.own = true /\ ∃ ds t sz elems, By h args = some ds /\ G5 P k ds t sz elems /\ Zs (args.flatMap (ET h)) elems /\ K.f (t, sz, elems)
def Zt (AD : A5) (neg : Bool) (t : Nat) (x y : LV) (k : A6 LV) : Prop :=
 match y with
 | .p .nils => False
 | y => WC AD neg t x y k
def UD (AD : A5) (op : BinOp) (t : Nat) (x y : LV) (k : A6 LV) : Prop :=
 match x, y with
 | .p (.int k1 a), .p (.int k2 b) => k1 = k2 /\ Mx op k1 a b k
 | x, y => match op with
  | .eql => Zt AD false t x y k
  | .neq => Zt AD true t x y k
  | _ => False
def Wy (sh : Sh) (x : LV) (k : A6 LV) : Prop :=
 match sh, x with
 | .arr n _, _ => k.f (.p (.int .i64 n))
 | .slc _, .p (.slice _ l) => k.f (.p (.int .i64 l.length))
 | .slc _, .p .nils => k.f (.p (.int .i64 0))
 | .slc _, .lsl _ _ _ len => k.f (.p (.int .i64 len))
 | .str, .p (.str s) => k.f (.p (.int .i64 s.size))
 | _, _ => False
def KO (P : Program) (A : BD) (AD : A5) (st : St) (dst : Option Tmp) (op : Op) (K : A6 St) : Prop :=
 match op with
 | .binOp op t x y _ => UD AD op t (st.eval x) (st.eval y) ⟨fun l => K.f (st.put dst l), ⟨⟩⟩
 | .call c => match c.callee, c.args.toList, c.argTypes.toList with
  | .builtin .len, [x], [t] => CK AD t ⟨fun ti => Wy ti.sh (st.eval x) ⟨fun l => K.f (st.put dst l), ⟨⟩⟩, ⟨⟩⟩
  | .builtin .len, _, _ => False
  | .builtin .delete, _, _ => False
  | .builtin .clear, _, _ => False
  | .builtin .append, s :: _, _ => Q7 AD.calm (st.eval s) = true /\ BE P A AD st dst (.call c) K
  | .value f, args, _ => if D8 f = true then ∃ l h', Ti P AD st c l h' /\ K.f (st.go dst l h' (st.ctr + 1)) else ON (st.eval f) ⟨fun g => ZE P st.heap g.1 (args.map st.eval ++ g.2) ⟨fun r => K.f (st.put dst (.p r)), ⟨⟩⟩ \/
    ACS P AD st.heap g.1 (args.map st.eval ++ g.2) ⟨fun r => K.f (({ st with heap := (st.ctr, .row r.1 r.2.1 r.2.2) :: st.heap, ctr := st.ctr + 1 } : St).put dst (.lsl st.ctr r.2.1 0 r.2.2.length)), ⟨⟩⟩, ⟨⟩⟩
  | _, _, _ => BE P A AD st dst (.call c) K
 | .range _ _ => False
 | .next _ _ => False
 | .entry _ => False
 | .load t x => Mr AD.calm (st.eval x) = true /\ BE P A AD st dst (.load t x) K
 | .store t x v => LL AD.calm (st.eval x) = true /\ BE P A AD st dst (.store t x v) K
 | op => BE P A AD st dst op K
def DI (P : Program) (A : BD) (AD : A5) (base n : Nat) (K : A6 St) : List (Nat × H8) -> St -> Prop
 | [], st => AAw K (st.at (base + n))
 | (i, ⟨dst, op, none⟩) :: rest, st => KO P A AD (st.at (base + i)) dst op ⟨DI P A AD base n K rest, ⟨⟩⟩
 | (i, ⟨dst, op, some (d, want)⟩) :: rest, st => gM (GD st d) want ⟨fun _ => KO P A AD (st.at (base + i)) dst op ⟨DI P A AD base n K rest, ⟨⟩⟩, ⟨⟩⟩ ⟨fun _ => DI P A AD base n K rest (st.put dst .und), ⟨⟩⟩
section
variable {P : Program} {A : BD} {AD : A5}
theorem St.at_at (st : St) (c d : Nat) : (st.at c).at d = st.at d := rfl
theorem AAF {v : LV} {want : Bool} {f f' g g' : Unit -> Prop} (h1 : f () = f' ()) (h2 : g () = g' ()) : gM v want ⟨f, ⟨⟩⟩ ⟨g, ⟨⟩⟩ = gM v want ⟨f', ⟨⟩⟩ ⟨g', ⟨⟩⟩ := by
 unfold gM
 split
 .simp only [gW, h1, h2]
 .exact h2
 rfl
theorem RH (base n : Nat) (K : A6 St) (l : List (Nat × H8)) : ∀ (st : St) (c : Nat), DI P A AD base n K l (st.at c) = DI P A AD base n K l st := by
 induction l with
 | nil => intro st c; rfl
 | cons p l ih =>
  intro st c
  obtain ⟨i, dst, op, g⟩ := p
  cases g with
  | none => rfl
  | some g =>
   obtain ⟨d, want⟩ := g
   have e1 : GD (st.at c) d = GD st d := by cases d <;> rfl
   have e2 : DI P A AD base n K l ((st.at c).put dst .und) = DI P A AD base n K l (st.put dst .und) := by
    have : (st.at c).put dst .und = (st.put dst .und).at c := by cases dst <;> rfl
    rw [this, ih]
   simp only [DI, e1, St.at_at]
   exact AAF rfl e2
theorem WG {neg : Bool} {t : Nat} {x y : LV} {k : A6 LV} (h : Zt AD neg t x y k) : ∃ l, So AD neg t x y (· = l) /\ k.f l := by
 unfold Zt at h
 split at h
 .exact h.elim
 rename_i hne
 unfold WC at h
 unfold So
 split at h
 .exact ⟨_, rfl, h⟩
 .obtain ⟨ti, h1, h2, h3⟩ := AR.1 h; exact ⟨_, ⟨⟨ti, h1, h2⟩, rfl⟩, h3⟩
 .obtain ⟨ks, h1, h2, h3, h4⟩ := AS.1 h; exact ⟨_, ⟨ks, h1, h2, h3, rfl⟩, h4⟩
 .exact absurd rfl hne
 .exact absurd rfl hne
 .exact absurd rfl hne
 .exact ⟨_, ⟨h.1, rfl⟩, h.2⟩
 .exact ⟨_, ⟨h.1, rfl⟩, h.2⟩
 .exact ⟨_, ⟨h.1, rfl⟩, h.2⟩
 exact h.elim
theorem ZF {op : BinOp} {t : Nat} {x y : LV} {k : A6 LV} (h : UD AD op t x y k) : ∃ l, SF AD op t x y (· = l) /\ k.f l := by
 unfold UD at h
 unfold SF
 split at h
 .obtain ⟨v, h1, h2⟩ := QF h.2
  exact ⟨_, ⟨h.1, v, h1, rfl⟩, h2⟩
 rename_i hne
 split
 .exact absurd rfl (hne _ _ _ _ rfl)
 split at h
 .exact WG h
 .exact WG h
 exact h.elim
theorem Nl {place : Nat -> Option (Nat × Nat)} {k : A6 (List LV)} : ∀ {ps : List (Nat × LV)} {cells : List LV}, LO AD place cells ps k -> ∃ l, I2 AD place cells ps (· = l) /\ k.f l
 | [], _, h => ⟨_, rfl, h⟩
 | (i, v) :: rest, cells, h => by
  obtain ⟨p, h1, h⟩ := AS.1 h
  obtain ⟨ti, h2, h⟩ := AR.1 h
  obtain ⟨ls, h3, ⟨h4, h5⟩, h⟩ := AS.1 h
  obtain ⟨l, h6, h7⟩ := Nl h
  exact ⟨l, ⟨p.1, p.2, ti, ls, h1, h2, h3, h4, h5, h6⟩, h7⟩
theorem Nm {place : Nat -> Option (Nat × Nat)} {f : List LV -> LV} {l : List LV} : ∀ {ps : List (Nat × LV)} {cells : List LV}, I2 AD place cells ps (· = l) -> I2 AD place cells ps fun c => f c = f l
 | [], _, h => congrArg f h
 | (i, v) :: rest, cells, ⟨off, t, ti, ls, h1, h2, h3, h4, h5, h6⟩ => ⟨off, t, ti, ls, h1, h2, h3, h4, h5, Nm h6⟩
theorem Je {d : Int} {x : Option LV} {k : A6 Int} (h : LQ d x k) : ∃ n, (∀ k' : Int -> Prop, k' n -> GE d x k') /\ k.f n := by
 unfold LQ at h; unfold GE
 split at h
 .exact ⟨_, fun _ h => h, h⟩
 .exact ⟨_, fun _ h => h, h⟩
 exact h.elim
theorem X9 {h : AP} {ti : TI} {p : LV} {k : A6 LV} (hl : RD h ti p k) : ∃ l, Gm h ti p (· = l) /\ k.f l := by
 unfold RD at hl
 unfold Gm
 split at hl
 .obtain ⟨r, h1, h2⟩ := AS.1 hl
  exact ⟨r, ⟨r, h1, rfl⟩, h2⟩
 .obtain ⟨o, h1, hl⟩ := AS.1 hl
  obtain ⟨cells, rfl, hl⟩ := Ii.1 hl
  obtain ⟨r, h2, h3⟩ := AS.1 hl
  exact ⟨r, ⟨cells, r, h1, h2, rfl⟩, h3⟩
 .obtain ⟨o, h1, hl⟩ := AS.1 hl
  obtain ⟨e, sz, elems, rfl, hl⟩ := EV.1 hl
  obtain ⟨x, h2, hl⟩ := AS.1 hl
  obtain ⟨r, h3, h4⟩ := AS.1 hl
  exact ⟨r, ⟨e, sz, elems, x, r, h1, h2, h3, rfl⟩, h4⟩
 exact hl.elim
theorem Wz {t : Nat} {x : LV} {lo hi : Option LV} {k : A6 LV} (h : LR AD t x lo hi k) : ∃ l, LS AD t x lo hi (· = l) /\ k.f l := by
 unfold LR at h
 unfold LS
 split at h
 .obtain ⟨ti, h1, h⟩ := AR.1 h
  obtain ⟨e, h2, h⟩ := B5.1 h
  obtain ⟨te, h3, h4, h⟩ := AR.1 h
  obtain ⟨a, ka, h⟩ := Je h
  obtain ⟨b, kb, h5, h⟩ := Je h
  exact ⟨_, ⟨⟨ti, e, h1, h2, te, h3, h4⟩, ka _ (kb _ ⟨h5.1, h5.2.1, h5.2.2, rfl⟩)⟩, h⟩
 .obtain ⟨ti, h1, h⟩ := AR.1 h
  obtain ⟨e, h2, h⟩ := B5.1 h
  obtain ⟨te, h3, h4, h6, h⟩ := AR.1 h
  obtain ⟨a, ka, h⟩ := Je h
  obtain ⟨b, kb, h5, h⟩ := Je h
  exact ⟨_, ⟨⟨ti, e, h1, h2, te, h3, h4⟩, h6, ka _ (kb _ ⟨h5.1, h5.2.1, h5.2.2, rfl⟩)⟩, h⟩
 .obtain ⟨ti, h1, h2, h⟩ := AR.1 h
  obtain ⟨a, ka, h⟩ := Je h
  obtain ⟨b, kb, h5, h⟩ := Je h
  exact ⟨_, ⟨⟨ti, h1, h2⟩, ka _ (kb _ ⟨h5.1, h5.2.1, h5.2.2, rfl⟩)⟩, h⟩
 exact h.elim
theorem AAG {st : St} {dst : Option Tmp} {op : Op} {K : A6 St} (hK : ∀ (s : St) (c : Nat), K.f (s.at c) -> K.f s) (h : KO P A AD st dst op K) {o : Oper} (ho : o.dst = dst) :
  ∃ l e, B4 P AD st op l e /\ K.f (apS st st.ctr o l e) := by
 subst ho
 have keep : ∀ l, K.f (st.put o.dst l) -> K.f (apS st st.ctr o l .keep) := fun l h => by
  have : apS st st.ctr o l .keep = st.put o.dst l := rfl
  rw [this]; exact h
 have goes : ∀ l e h' c, e.ap st.ctr st.heap = h' -> K.f (st.go o.dst l h' c) -> K.f (apS st st.ctr o l e) := fun l e h' c he hk => by
  refine hK _ c ?_
  have : (apS st st.ctr o l e).at c = st.go o.dst l h' c := by
   unfold apS St.go St.at St.put
   rw [he]
   cases o.dst <;> rfl
  rw [this]; exact hk
 have nC : ∀ l, nW AD st op (· = l) -> (B4 P AD st op l .keep ↔ (EE.keep = EE.keep /\ nW AD st op (· = l))) -> K.f (st.put o.dst l) -> ∃ l e, B4 P AD st op l e /\ K.f (apS st st.ctr o l e) :=
  fun l h1 h2 h3 => ⟨l, .keep, h2.2 ⟨rfl, h1⟩, keep l h3⟩
 cases op <;> simp only [KO, BE] at h
 case move x => exact nC _ rfl Iff.rfl h
 case assign x => exact nC _ rfl Iff.rfl h
 case pick c a b => obtain ⟨t, h1, h2⟩ := L5.1 h; exact nC _ ⟨t, h1, rfl⟩ Iff.rfl h2
 case nilCheck x =>
  unfold Y4 at h
  split at h <;> first | exact h.elim | (rename_i e; refine nC _ ?_ Iff.rfl h; simp only [nW, e]; exact ⟨trivial, trivial⟩)
 case binOp op t x y z => obtain ⟨l, h1, h2⟩ := ZF h; exact nC l h1 Iff.rfl h2
 case unOp op t x =>
  cases op <;> simp only at h
  case neg => obtain ⟨kk, n, h1, h2⟩ := B8.1 h; exact nC _ (by simp only [nW, WF, h1]) Iff.rfl h2
  case not => obtain ⟨b, h1, h2⟩ := L5.1 h; exact nC _ (by simp only [nW, WF, h1]) Iff.rfl h2
 case convert s d x =>
  obtain ⟨kk, n, h1, h⟩ := B8.1 h
  obtain ⟨tj, h2, h⟩ := AR.1 h
  obtain ⟨ti, h3, h⟩ := AR.1 h
  obtain ⟨kd, h4, h⟩ := AS.1 h
  refine nC _ ⟨kk, n, ti, tj, h1, h2, h3, kd, ?_, rfl⟩ Iff.rfl h
  generalize ti.sh = q at h4
  cases q <;> simp [Wv] at h4
  rw [h4]
 case extract t i =>
  unfold Y5 at h
  split at h
  .rename_i l hl; obtain ⟨v, h1, h2⟩ := AS.1 h; exact nC v (by simp only [nW, hl]; exact ⟨v, h1, rfl⟩) Iff.rfl h2
  .rename_i l hl; obtain ⟨v, h1, h2⟩ := AS.1 h; exact nC _ (by simp only [nW, hl]; exact ⟨v, h1, rfl⟩) Iff.rfl h2
  exact h.elim
 case field t x i =>
  obtain ⟨ti, h1, h⟩ := AR.1 h
  obtain ⟨fs, h2, h⟩ := E9.1 h
  obtain ⟨f, h3, h⟩ := AS.1 h
  obtain ⟨tf, h4, h⟩ := AR.1 h
  try dsimp only at h
  unfold Y6 at h
  split at h
  .rename_i l hl
   obtain ⟨v, h5, h6⟩ := AS.1 h
   exact nC v ⟨ti, fs, f.1, f.2, tf, l, v, h1, h2, h3, h4, by rw [hl]; rfl, by rw [hl]; trivial, h5, rfl⟩ Iff.rfl h6
  .rename_i l hl
   obtain ⟨v, h5, h6⟩ := AS.1 h
   exact nC v ⟨ti, fs, f.1, f.2, tf, l.map .p, v, h1, h2, h3, h4, by rw [hl]; rfl, by rw [hl]; trivial, h5, rfl⟩ Iff.rfl h6
  exact h.elim
 case build t ps =>
  obtain ⟨ti, h1, h⟩ := AR.1 h
  try dsimp only at h
  unfold Ov at h
  split at h
  .rename_i fs hsh
   obtain ⟨l, h2, h3⟩ := Nl h.2
   exact nC _ ⟨ti, h1, by simp only [hsh]; exact ⟨h.1, Nm h2⟩⟩ Iff.rfl h3
  .rename_i n e hsh
   obtain ⟨te, h2, h⟩ := AR.1 h
   obtain ⟨l, h3, h4⟩ := Nl h
   exact nC _ ⟨ti, h1, by simp only [hsh]; exact ⟨te, h2, Nm h3⟩⟩ Iff.rfl h4
  exact h.elim
 case fieldAddr t x i =>
  obtain ⟨ti, h1, h⟩ := AR.1 h
  obtain ⟨fs, h2, h⟩ := E9.1 h
  obtain ⟨f, h3, h⟩ := AS.1 h
  obtain ⟨tf, h4, h5, h⟩ := AR.1 h
  try dsimp only at h
  unfold Ws at h
  split at h <;> first | exact h.elim | (rename_i e; exact nC _ ⟨ti, fs, f.1, f.2, tf, h1, h2, h3, h4, h5, by simp only [e]⟩ Iff.rfl h)
 case indexAddr t x i =>
  obtain ⟨kk, n, h1, h⟩ := B8.1 h
  obtain ⟨ti, h2, h⟩ := AR.1 h
  try dsimp only at h
  unfold iaS at h
  split at h
  .rename_i e1 e2
   obtain ⟨te, g1, g2, g3, h⟩ := AR.1 h
   obtain ⟨c, g4, g5⟩ := AS.1 h
   exact nC _ ⟨kk, n, ti, h1, h2, by simp only [e1, e2]; exact ⟨⟨te, g1, g2⟩, g3, c, g4, rfl⟩⟩ Iff.rfl g5
  .rename_i e1 e2
   obtain ⟨te, g1, g2, ⟨g3, g4⟩, h⟩ := AR.1 h
   exact nC _ ⟨kk, n, ti, h1, h2, by simp only [e1, e2]; exact ⟨⟨te, g1, g2⟩, g3, g4, trivial⟩⟩ Iff.rfl h
  .rename_i e1 e2
   obtain ⟨te, g1, ⟨g2, g3⟩, h⟩ := AR.1 h
   exact nC _ ⟨kk, n, ti, h1, h2, by simp only [e1, e2]; exact ⟨te, g1, g2, g3, rfl⟩⟩ Iff.rfl h
  .rename_i e1 e2
   obtain ⟨te, g1, ⟨g2, g3⟩, h⟩ := AR.1 h
   exact nC _ ⟨kk, n, ti, h1, h2, by simp only [e1, e2]; exact ⟨te, g1, g2, g3, rfl⟩⟩ Iff.rfl h
  exact h.elim
 case index t x i =>
  obtain ⟨kk, n, h1, h⟩ := B8.1 h
  obtain ⟨ti, h2, h0, h⟩ := AR.1 h
  try dsimp only at h
  unfold ixS at h
  split at h
  .rename_i e1 e2
   obtain ⟨te, g1, g2, h⟩ := AR.1 h
   obtain ⟨v, g3, g4⟩ := AS.1 h
   exact nC v ⟨kk, n, ti, h1, h2, h0, by simp only [e1, e2]; exact ⟨te, v, g1, g2, g3, rfl⟩⟩ Iff.rfl g4
  .rename_i e1 e2
   obtain ⟨te, g1, g2, h⟩ := AR.1 h
   obtain ⟨v, g3, g4⟩ := AS.1 h
   exact nC v ⟨kk, n, ti, h1, h2, h0, by simp only [e1, e2]; exact ⟨te, v, g1, g2, g3, rfl⟩⟩ Iff.rfl g4
  .rename_i e1 e2
   obtain ⟨c, g1, g2⟩ := AS.1 h
   exact nC _ ⟨kk, n, ti, h1, h2, h0, by simp only [e1, e2]; exact ⟨c, g1, rfl⟩⟩ Iff.rfl g2
  exact h.elim
 case makeFunc fn first caps =>
  cases fn <;> simp only at h
  rename_i f
  exact nC _ ⟨by simpa using h.1, f, rfl, rfl⟩ Iff.rfl h.2
 case slice t x lo hi mx =>
  cases mx with
  | some m => exact h.elim
  | none => obtain ⟨l, h1, h2⟩ := Wz h; exact nC l ⟨rfl, h1⟩ Iff.rfl h2
 case load t x =>
  obtain ⟨hc', h⟩ := h
  obtain ⟨ti, h1, h2⟩ := AR.1 h
  obtain ⟨l, h3, h4⟩ := X9 h2
  exact ⟨l, .keep, ⟨rfl, hc', ti, h1, h3⟩, keep l h4⟩
 case store t x v =>
  obtain ⟨hc', h⟩ := h
  obtain ⟨ti, h1, h⟩ := AR.1 h
  obtain ⟨ls, h2, ⟨h3, h4⟩, h⟩ := AS.1 h
  try dsimp only at h
  unfold UA at h
  split at h
  .rename_i id off e
   obtain ⟨o', g1, h⟩ := AS.1 h
   obtain ⟨cells, rfl, g2, h⟩ := Ii.1 h
   refine ⟨.any, .set _, ⟨hc', _, rfl, ?_⟩, goes _ _ _ _ rfl h⟩
   simp only [mW, KK]
   exact ⟨ti, h1, ls, h2, h3, h4, by simp only [e]; exact ⟨cells, g1, g2, trivial, rfl⟩⟩
  .rename_i id i off e
   obtain ⟨o', g1, h⟩ := AS.1 h
   obtain ⟨e', sz, elems, rfl, h⟩ := EV.1 h
   obtain ⟨x, g2, h⟩ := AS.1 h
   obtain ⟨ds, g3, g4, h⟩ := AS.1 h
   refine ⟨.any, .set _, ⟨hc', _, rfl, ?_⟩, goes _ _ _ _ rfl h⟩
   simp only [mW, KK]
   exact ⟨ti, h1, ls, h2, h3, h4, by simp only [e]; exact ⟨e', sz, elems, x, ds, g1, g2, g4, g3, trivial, rfl⟩⟩
  exact h.elim
 case alloc t => obtain ⟨ti, h1, h2⟩ := AR.1 h; exact ⟨_, .new _, ⟨ti, h1, rfl, rfl⟩, goes _ _ _ _ rfl h2⟩
 case box t x => obtain ⟨ls, h1, h2⟩ := AS.1 h; exact ⟨_, .new _, ⟨ls, h1, rfl, rfl⟩, goes _ _ _ _ rfl h2⟩
 case buildSlice t n ps =>
  obtain ⟨ti, h1, h⟩ := AR.1 h
  obtain ⟨e, h2, h⟩ := B5.1 h
  obtain ⟨te, h3, ⟨h4, h5⟩, h⟩ := AR.1 h
  obtain ⟨l, h6, h7, h⟩ := AS.1 h
  rcases h with h | h
  .exact ⟨_, .new _, ⟨ti, e, te, l, h1, h2, h3, h4, h5, h6, h7, .inl ⟨rfl, rfl⟩⟩, goes _ _ _ _ rfl h⟩
  exact ⟨_, .keep, ⟨ti, e, te, l, h1, h2, h3, h4, h5, h6, h7, .inr ⟨rfl, rfl⟩⟩, keep _ h⟩
 case makeSlice t l c =>
  obtain ⟨ti, h1, h⟩ := AR.1 h
  obtain ⟨e, h2, h⟩ := B5.1 h
  obtain ⟨te, h3, h⟩ := AR.1 h
  obtain ⟨k1, n, h4, h⟩ := B8.1 h
  obtain ⟨k2, n', h5, ⟨h9, h6, h7, h8⟩, h⟩ := B8.1 h
  simp only at h9
  subst h9
  rcases h with h | h
  .exact ⟨_, .new _, ⟨ti, e, te, n', k1, k2, h1, h2, h3, h4, h5, h6, h7, h8, .inl ⟨rfl, rfl⟩⟩, goes _ _ _ _ rfl h⟩
  exact ⟨_, .keep, ⟨ti, e, te, n', k1, k2, h1, h2, h3, h4, h5, h6, h7, h8, .inr ⟨rfl, rfl⟩⟩, keep _ h⟩
 case makeMap t r =>
  cases r with
  | some r => exact h.elim
  | none => exact ⟨_, .new _, ⟨rfl, rfl, rfl⟩, goes _ _ _ _ rfl h⟩
 case lookup t x i ok =>
  obtain ⟨ti, h1, h⟩ := AR.1 h
  obtain ⟨kt, et, h2, h⟩ := EK.1 h
  obtain ⟨te, h3, h⟩ := AR.1 h
  obtain ⟨m, h4, h⟩ := AS.1 h
  obtain ⟨kd, h5, ⟨h6, h7⟩, h⟩ := Cc.1 h
  exact ⟨_, .keep, ⟨rfl, ti, kt, et, te, m, kd, h1, h2, h3, h4, h5, h6, h7, rfl⟩, keep _ h⟩
 case mapUpdate t x i v =>
  obtain ⟨ti, h1, h⟩ := AR.1 h
  obtain ⟨kt, et, h2, h⟩ := EK.1 h
  obtain ⟨id, h3, h⟩ := Dd.1 h
  obtain ⟨o', h4, h⟩ := AS.1 h
  obtain ⟨m, rfl, h⟩ := EU.1 h
  obtain ⟨kd, h5, h⟩ := Cc.1 h
  obtain ⟨vd, h6, ⟨h7, h8⟩, h⟩ := Cc.1 h
  refine ⟨.any, .set _, ⟨_, rfl, ?_⟩, goes _ _ _ _ rfl h⟩
  simp only [mW, Mt]
  exact ⟨ti, kt, et, id, m, kd, vd, h1, h2, h3, h4, h5, h6, h7, h8, trivial, rfl⟩
 case mapEntry t x i =>
  obtain ⟨ti, h1, h⟩ := AR.1 h
  obtain ⟨kt, et, h2, h⟩ := EK.1 h
  obtain ⟨te, h3, h⟩ := AR.1 h
  obtain ⟨id, h4, h⟩ := Dd.1 h
  obtain ⟨o', h5, h⟩ := AS.1 h
  obtain ⟨m, rfl, h⟩ := EU.1 h
  obtain ⟨kd, h6, ⟨h7, h8⟩, h⟩ := Cc.1 h
  refine ⟨_, .set _, ⟨_, rfl, ?_⟩, goes _ _ _ _ rfl h⟩
  simp only [mW, Mu]
  exact ⟨ti, kt, et, te, id, m, kd, h1, h2, h3, h4, h5, h6, h7, h8, rfl, rfl⟩
 case entryStore t x s v =>
  obtain ⟨id, h1, h⟩ := Dd.1 h
  obtain ⟨o', h2, h⟩ := AS.1 h
  obtain ⟨m, rfl, h⟩ := EU.1 h
  obtain ⟨kk, n, h3, h⟩ := B8.1 h
  obtain ⟨vd, h4, h0, h⟩ := Cc.1 h
  obtain ⟨p, h5, h⟩ := AS.1 h
  refine ⟨.any, .set _, ⟨_, rfl, ?_⟩, goes _ _ _ _ rfl h⟩
  simp only [mW, Om]
  exact ⟨id, m, kk, n, vd, p, h1, h2, h3, h0, h5, h4, trivial, rfl⟩
 case call c =>
  obtain ⟨callee, args, ats⟩ := c
  simp only at h
  split at h
  .rename_i x t e2 e3
   obtain ⟨ti, h1, h⟩ := AR.1 h
   have ha : args = #[x] := by rw [<- Array.toList_inj, e2]
   have hb : ats = #[t] := by rw [<- Array.toList_inj, e3]
   try dsimp only at h
   unfold Wy at h
   split at h
   .rename_i g; exact nC _ (by simp only [nW]; exact ⟨x, t, ti, ha, hb, h1, by simp only [g]⟩) Iff.rfl h
   .rename_i g1 g2; exact nC _ (by simp only [nW]; exact ⟨x, t, ti, ha, hb, h1, by simp only [g1, g2, LU]; try (intros; trivial)⟩) Iff.rfl h
   .rename_i g1 g2; exact nC _ (by simp only [nW]; exact ⟨x, t, ti, ha, hb, h1, by simp only [g1, g2, LU]; try (intros; trivial)⟩) Iff.rfl h
   .rename_i g1 g2; exact nC _ (by simp only [nW]; exact ⟨x, t, ti, ha, hb, h1, by simp only [g1, g2, LU]; try (intros; trivial)⟩) Iff.rfl h
   .rename_i g1 g2; exact nC _ (by simp only [nW]; exact ⟨x, t, ti, ha, hb, h1, by simp only [g1, g2, LU]; try (intros; trivial)⟩) Iff.rfl h
   exact h.elim
  .exact h.elim
  .exact h.elim
  .exact h.elim
  .rename_i s0 r0 e20
   obtain ⟨hap, h⟩ := h
   have h : I1 P A AD st o.dst ⟨.builtin .append, args, ats⟩ K := h
   unfold I1 at h
   simp only at h
   split at h
   .simp_all
   .rename_i s x t t' _ e2 e3
    obtain ⟨rfl, h⟩ := h
    obtain ⟨ti, h1, h⟩ := AR.1 h
    obtain ⟨e, h2, h⟩ := B5.1 h
    obtain ⟨te, h3, h4, h⟩ := AR.1 h
    obtain ⟨new, h5, h6, h⟩ := AS.1 h
    have ha : args = #[s, x] := by rw [<- Array.toList_inj, e2]
    have hap : X1 AD st ⟨.builtin .append, args, ats⟩ := fun s' hs' => by
     rw [ha] at hs'; cases hs'
     have : s0 = s := by rw [e20] at e2; injection e2
     rw [<- this]; exact hap
    have hb : ats = #[t', t'] := by rw [<- Array.toList_inj, e3]
    try dsimp only at h
    unfold Wu at h
    split at h
    .rename_i e9
     refine ⟨_, .set _, ⟨hap, _, rfl, ?_⟩, goes _ _ _ _ rfl h.2⟩
     simp only [mW]
     exact ⟨trivial, s, x, t', ha, hb, ti, e, te, h1, h2, h3, h4, new, h5, h6, by simp only [e9]; exact ⟨h.1.1, h.1.2, trivial, trivial⟩⟩
    .rename_i id sz off len e9
     obtain ⟨hsz, h⟩ := h
     obtain ⟨o', g1, h⟩ := AS.1 h
     obtain ⟨e', sz', elems, rfl, ⟨k1, k2, g2, g3, g4⟩, h9⟩ := EV.1 h
     subst k1; subst k2
     refine ⟨_, .set _, ⟨hap, _, rfl, ?_⟩, goes _ _ _ _ rfl h9⟩
     simp only [mW]
     exact ⟨trivial, s, x, t', ha, hb, ti, e', te, h1, h2, h3, h4, new, h5, h6, by simp only [e9]; exact ⟨elems, hsz, g1, g2, g3, g4, trivial, rfl⟩⟩
    exact h.elim
   all_goals simp_all
  .rename_i f
   split at h
   .rename_i hd
    obtain ⟨l, h', g1, g2⟩ := h
    exact ⟨l, .set h', by show (if D8 f = true then _ else _); rw [if_pos hd]; exact ⟨h', rfl, g1⟩, goes _ _ _ _ rfl g2⟩
   rename_i hnd
   obtain ⟨k, caps, g1, g2⟩ := WD.1 h
   rcases g2 with ⟨ds, r, g3, g4, g5, g6⟩ | ⟨g0, ds, t, sz, elems, g3, g4, g5, g6⟩
   .exact ⟨_, .keep, by show (if D8 f = true then _ else _); rw [if_neg hnd]; exact .inl ⟨rfl, k, caps, ds, r, g1, g3, g4, g5, rfl⟩, keep _ g6⟩
   exact ⟨_, .new _, by show (if D8 f = true then _ else _); rw [if_neg hnd]; exact .inr ⟨g0, k, caps, ds, t, sz, elems, g1, g3, g4, g5, rfl, rfl⟩, goes _ _ _ _ rfl g6⟩
  rename_i hne
  unfold I1 at h
  simp only at h
  split at h
  .simp_all
  .simp_all
  .simp_all
  .simp_all
  .rename_i x t e2 e3
   simp_all
  .obtain ⟨r, h1, h⟩ := AS.1 h
   exact nC _ (by simp only [nW]; exact ⟨r, h1, rfl⟩) Iff.rfl h
  .obtain ⟨r, h1, h⟩ := AS.1 h
   exact nC _ (by simp only [nW]; exact ⟨r, h1, rfl⟩) Iff.rfl h
  exact h.elim
 all_goals exact h.elim
def Gp (ops : List Oper) (order : List Nat) : List (Nat × H8) :=
 match order with
 | [] => []
 | i :: rest => match ops[i]? with
  | some o => (i, Ou ops o) :: Gp ops rest
  | none => []
theorem KP {ops : List Oper} {base : Nat} {K : A6 St} : ∀ (order : List Nat) (st : St), (order.all fun i => decide (i < ops.length)) = true -> DI P A AD base ops.length K (Gp ops order) st ->
  Gn P AD ops.toArray base (fun st' => K.f { st' with ctr := base + ops.length }) order st
 | [], st, _, h => h.h
 | i :: rest, st, hb, h => by
  simp only [List.all_cons, Bool.and_eq_true, decide_eq_true_eq] at hb
  obtain ⟨o, ho⟩ : ∃ o, ops[i]? = some o := ⟨_, List.getElem?_eq_getElem hb.1⟩
  have ih := KP (ops := ops) (base := base) (K := K) rest
  have hp : Gp ops (i :: rest) = (i, Ou ops o) :: Gp ops rest := by simp [Gp, ho]
  rw [hp] at h
  have ho' : ops.toArray[i]? = some o := by simpa using ho
  have step : KO P A AD (st.at (base + i)) o.dst o.op ⟨DI P A AD base ops.length K (Gp ops rest), ⟨⟩⟩ ->
    ∃ l e, B4 P AD (st.at (base + i)) o.op l e /\ Gn P AD ops.toArray base (fun st' => K.f { st' with ctr := base + ops.length }) rest (apS st (base + i) o l e) := fun h => by
   obtain ⟨l, e, h1, h2⟩ := AAG (fun s c hk => by
    have := RH (P := P) (A := A) (AD := AD) base ops.length K (Gp ops rest) s c
    simp only at hk ⊢
    rw [<- this]; exact hk) h (o := o) rfl
   refine ⟨l, e, h1, ih _ hb.2 ?_⟩
   have e1 : apS (st.at (base + i)) (st.at (base + i)).ctr o l e = (apS st (base + i) o l e).at (base + i) := by
    unfold apS St.at St.put
    cases o.dst <;> rfl
   simp only at h2
   rw [e1, RH] at h2
   exact h2
  simp only [Gn, ho']
  simp only [Ou] at h
  cases hg : o.guard with
  | none =>
   rw [hg] at h
   exact step h
  | some g =>
   obtain ⟨j, want⟩ := g
   rw [hg] at h
   simp only [DI, Sp] at h
   unfold gM at h
   have sk : DI P A AD base ops.length K (Gp ops rest) (st.put o.dst .und) -> Gn P AD ops.toArray base (fun st' => K.f { st' with ctr := base + ops.length }) rest (apS st (base + i) o .und .keep) := fun h => by
    have e1 : apS st (base + i) o .und .keep = st.put o.dst .und := rfl
    rw [e1]; exact ih _ hb.2 h
   simp only
   split at h
   .rename_i b e
    try simp only [e]
    exact ⟨fun hb => step (h.1 hb), fun hb => sk (h.2 hb)⟩
   .rename_i e
    try simp only [e]
    exact sk h
   exact h.elim
end
end Go.E
/- The equations by which a drawn region is reckoned. Written by a program (mkev.py). No condition. -/
namespace Go.E
open Go Go.RowKit
section
variable {P : Program}
theorem ACT {h : AP} {k : Nat} {args : List LV} {ds : List DV} {r : DV} {f : DV -> Prop} {hf : H5 f} (hds : By h args = some ds) (hF : Az P k ds (· = r))
  (hs : r.scalar = true \/ args.flatMap (ET h) = []) (hK : f r) : ZE P h k args ⟨f, hf⟩ := ⟨ds, r, hds, hF, hs, hK⟩
end
end Go.E
/- Functions that hand back a slice of their own: the caller may write into it. No condition. -/
namespace Go.E
open Go Go.RowKit
section
variable {P : Program} {A : BD} {AD : A5}
theorem Cy.own {h : AP} {ctr k : Nat} {args : List LV} {ds : List DV} {e sz : Nat} {elems : List (List DV)} {K : LV -> AP -> Nat -> Prop} (hds : By h args = some ds) (hf : G5 P k ds e sz elems)
  (hl : args.flatMap (ET h) = []) (hK : K (.lsl ctr sz 0 elems.length) ((ctr, .row e sz elems) :: h) (ctr + 1)) : Cy P A h ctr k args K := by
 refine ⟨hf.enters, fun μ w vs hh hsz hr => ?_⟩
 obtain ⟨g1, g2⟩ := E7 hh (l := args.flatMap (ET h)) hds (fun id hid => hid)
 rw [hl] at g2
 have hO : ∀ b, Af A μ h b -> b < w.heap.size := by
  rintro b (hb | ⟨id, x, lc, h1, h2, h3, rfl⟩)
  .exact Nat.lt_of_lt_of_le (A.hO b hb).1 hh.size
  exact (hh.base id x lc h1 h2 h3).1
 refine (hf.run (Af A μ h) w vs hO (by omega) fun i v d hv hd => ?_).mono fun en w' ⟨v, he, hn, hb⟩ => ?_
 .have hi := (List.getElem?_eq_some_iff.1 hd).1
  have hx : args[i]? = some (args[i]'(by omega)) := List.getElem?_eq_getElem _
  exact g2 i v _ d hx hd (hr i v _ hv hx)
 have hno : μ ctr = none := hh.fresh ctr (Nat.le_refl _)
 obtain ⟨hlen, hn⟩ := hn
 have hkm : BJ (Bm μ h) w w' := ⟨hb.size, fun b hb' _ => hb.block b hb'⟩
 have hsub : ∀ id x, AJ id ((ctr, BB.row e sz elems) :: h) = some x -> (id = ctr /\ x = .row e sz elems) \/ AJ id h = some x := by
  intro id x hx
  simp only [AJ] at hx
  split at hx
  .cases hx; exact .inl ⟨‹_›, rfl⟩
  exact .inr hx
 have hold : ∀ id x lc, AJ id ((ctr, BB.row e sz elems) :: h) = some x -> id ≠ ctr -> μ id = some lc -> lc.nil = false -> w'.heap[lc.b]? = w.heap[lc.b]? := by
  intro id x lc hx hne hm hnl
  rcases hsub id x hx with ⟨rfl, _⟩ | hx
  .exact absurd rfl hne
  exact hb.block _ (hh.base id x lc hx hm hnl).1
 have fin : ∀ (loc : BQ), (loc.nil = false -> loc.b < w'.heap.size /\ w.heap.size <= loc.b) ->
   (∀ O' : Nat -> Prop, (∀ b, O' b -> Af A μ h b \/ (loc.nil = false /\ b = loc.b)) -> Cv O' (Bn μ ctr loc) w' loc (.row e sz elems)) ->
   (∀ O', Aa O' (Bn μ ctr loc) w' v (.lsl ctr sz 0 elems.length)) ->
   ∃ u l h' c' μ', en = .returned u /\ K l h' c' /\ HRel A μ' h' (Fr c') w' /\ Aa (Af A μ' h') μ' w' u l /\ ∀ v x, Aa (Af A μ h) μ w v x -> Aa (Af A μ' h') μ' w' v x := by
  intro loc hloc ho hu
  have hfr : NW μ h ((ctr, BB.row e sz elems) :: h) w loc := fun hn => .inl (hloc hn).2
  have hown := hh.sub_add loc (.row e sz elems) ((ctr, .row e sz elems) :: h) hfr hsub
  have hcov : ∀ b, Af A (Bn μ ctr loc) ((ctr, .row e sz elems) :: h) b -> Af A μ h b \/ (loc.nil = false /\ b = loc.b) := by
   rintro b (hb' | ⟨id, x, lc, h1, h2, h3, h4⟩)
   .exact .inl (.inl hb')
   by_cases e' : id = ctr
   .subst e'
    simp only [Bn, if_true, Option.some.injEq] at h2
    subst h2; exact .inr ⟨h3, h4.symm⟩
   rcases hsub id x h1 with ⟨e'', _⟩ | h1
   .exact absurd e'' e'
   simp only [Bn, e', if_false] at h2
   exact .inl (.inr ⟨id, x, lc, h1, h2, h3, h4⟩)
  have hadd := hh.add (w' := w') hno loc (.row e sz elems) ((ctr, .row e sz elems) :: h) (fun hn => (hloc hn).1) hfr hsub hkm hold hb.os hb.tape hb.output (ho _ hcov)
  exact ⟨v, _, _, _, _, he, hK, hadd.less (fun id hid => by simp only [Fr] at hid ⊢; omega), hu _, fun v x hv => hv.mono hkm.own hown (Jt hno loc)⟩
 rcases hn with ⟨rfl, rfl⟩ | ⟨a, b, o, cap, c, rfl, h1, h2, h3, h4, h5, h6, h7, h8, h9, h10⟩
 .exact fin ⟨true, 0, 0, sz, 0⟩ (fun hn => by cases hn) (fun O' _ => ⟨rfl, hlen, .inl ⟨rfl, rfl⟩⟩) (fun O' => .lsln ctr ⟨true, 0, 0, sz, 0⟩ (by simp [Bn]) rfl)
 refine fin ⟨false, b, o, sz, cap⟩ (fun _ => ⟨h2, h1⟩) (fun O' hO' => ⟨rfl, hlen, .inr ⟨rfl, c, h6, h7, h8, h9, fun i j x d u hx hd hu => ?_⟩⟩) (fun O' => ?_)
 .refine (h10 i j x d u hx hd hu).mono (BJ.refl _ _) fun q _ hq => ?_
  rcases hO' q hq with hq | ⟨_, hq⟩
  .exact .inl hq
  exact .inr hq
 exact .lsl ctr 0 elems.length cap a ⟨false, b, o, sz, cap⟩ (by simp [Bn]) rfl (by simp) h8 (fun hc => by rw [h3 hc]; simp) h4 h5
def W0 (t e sz : Nat) (elems : List (List DV)) : Exit -> St -> Prop := NZ fun st =>
 (∃ id, st.eval (.tmp t) = .lsl id sz 0 elems.length /\ AJ id st.heap = some (.row e sz elems)) \/ (st.eval (.tmp t) = .p .nils /\ elems = [])
theorem AAH {k : Nat} {fn : Func} {c : Code} (hf : P.funcs[k]? = some fn) (hb : fn.body = some c) (hn : (fn.name == "runtime.NumGoroutine") = false) (nt : Nat) (hnt : fn.ntmps = nt) (t : Nat) (hrs : fn.results.toList = [.tmp t]) {ds : List DV} (hlen : ds.length <= nt)
  {e sz : Nat} {elems : List (List DV)} (hel : ∀ x ∈ elems, x.length = sz)
  (h : ∀ A : BD, (∀ id, A.μ0 id = none) -> B2 P A c (W0 t e sz elems) ⟨nt, DA 0 ds, [], 0⟩) : G5 P k ds e sz elems := by
 subst hnt
 refine ⟨ED hf hb hn, fun O w vs hO hsz hrel => ?_⟩
 let A : BD := ⟨w, O, fun _ => False, fun _ => none, fun b hb => ⟨hO b hb, id⟩⟩
 have hR : R A ⟨fn.ntmps, DA 0 ds, [], 0⟩ { tmps := vs ++ Array.replicate (fn.ntmps - vs.size) undef, defers := [] } w := by
  refine ⟨⟨fun _ => none, ⟨by simp [AJ], by simp [AJ], fun _ _ => rfl, by simp [AJ], Nat.le_refl _, fun _ _ _ => rfl, rfl, rfl, rfl, by simp [A]⟩, fun t ht => ?_⟩, by simp; omega, rfl⟩
  have hown : ∀ b, Af A (fun _ => none) [] b -> O b := by
   rintro b (hb | ⟨id, x, lc, h1, _⟩)
   .exact hb
   simp [AJ] at h1
  simp only [BZ, Oi, Nat.zero_le, if_true, Nat.sub_zero]
  by_cases hlt : t < ds.length
  .have hv : t < vs.size := by omega
   have e : ds[t]? = some ds[t] := by simp [hlt]
   rw [e]
   simp only [Option.map_some]
   have e2 : (vs ++ Array.replicate (fn.ntmps - vs.size) undef).getD t undef = vs[t] := by
    rw [Array.getD_eq_getD_getElem?, Array.getElem?_append_left hv]; simp [hv]
   rw [e2]
   exact .p _ _ ((hrel t _ _ (by simp [hv]) e).mono (BJ.refl _ _) (fun b _ hb => hown b hb))
  have e : ds[t]? = none := by simp; omega
  rw [e]; exact .any _
 refine calls_of_wp hf hb (wp_mono (h A (fun _ => rfl) _ _ hR) ?_)
 rintro en a' w' ⟨st', ⟨⟨μ, hh, hs⟩, hnt, hdef⟩, hq⟩
 have hres : (results fn a'.tmps).run P w' = .ok (a'.eval (.tmp t)) w' := by
  have : (fn.results.toList.mapM (MU P a'.tmps)).run P w' = .ok [a'.eval (.tmp t)] w' := by
   rw [hrs]; simp [List.mapM_cons, MU, Act.eval]
  exact MW this
 have hbel : Below w.heap.size w w' := ⟨hh.os, hh.tape, hh.output, hh.size, fun b hb => hh.block b hb id⟩
 have fin : ((∃ id, st'.eval (.tmp t) = .lsl id sz 0 elems.length /\ AJ id st'.heap = some (.row e sz elems)) \/ (st'.eval (.tmp t) = .p .nils /\ elems = [])) ->
   a'.defers = [] /\ ∃ v, (results fn a'.tmps).run P w' = .ok v w' /\ ∃ u, Ending.returned v = .returned u /\ LK w w' O u e sz elems /\ Below w.heap.size w w' := by
  intro hc
  refine ⟨hdef, _, hres, _, rfl, ?_, hbel⟩
  have hv := G3 hs (.tmp t)
  rcases hc with ⟨id, h1, h2⟩ | ⟨h1, rfl⟩
  .rw [h1] at hv
   generalize a'.eval (.tmp t) = v at hv
   obtain ⟨loc, m1, ⟨_, m2, m3⟩⟩ := hh.obj id _ h2
   refine ⟨hel, ?_⟩
   generalize hq0 : (0 : Nat) = off at hv
   generalize hq1 : elems.length = n at hv
   cases hv with
   | lsln _ loc' k1 k2 => exact .inl ⟨rfl, by cases elems <;> simp_all⟩
   | lsl _ _ _ cap ad loc' k1 k2 k3 k4 k5 k6 k7 =>
    subst hq0; subst hq1
    rw [m1] at k1; cases k1
    rcases m3 with ⟨m4, _⟩ | ⟨m4, c, m5, m6, m7, m8, m9⟩
    .rw [k2] at m4; cases m4
    have hbase := hh.base id _ loc h2 m1 k2
    refine .inr ⟨ad, loc.b, loc.o, cap, c, rfl, ?_, hbase.1, fun hc => by simpa using k5 hc, k6, k7, m5, by rw [show cap = loc.cap by omega]; exact m6, k4, by omega, fun i j x d u hx hd hu => ?_⟩
    .rcases hbase.2.2 with hb | hb
     .exact hb
     exact hb.elim
    refine (m9 i j x d u hx hd hu).mono (BJ.refl _ _) fun q _ hq => ?_
    rcases hq with hq | rfl
    .exact .inl hq
    exact .inr ⟨id, _, loc, h2, m1, k2, rfl⟩
  rw [h1] at hv
  exact ⟨by simp, .inl ⟨hv.nils_inv, rfl⟩⟩
 cases en with
 | normal => exact fin hq
 | ret => exact fin hq
 | _ => exact hq.elim
theorem ABt {h : AP} {c k : Nat} {args : List LV} {ds : List DV} {e sz : Nat} {elems : List (List DV)} {f : LV × AP × Nat -> Prop} {hf : H5 f} (hds : By h args = some ds) (hF : G5 P k ds e sz elems)
  (hs : args.flatMap (ET h) = []) (hK : f (.lsl c sz 0 elems.length, (c, .row e sz elems) :: h, c + 1)) : Jy P A h c k args ⟨f, hf⟩ :=
 Cy.own hds hF hs hK
end
end Go.E
/- Operations reckoned by unfolding alone (Fv, Fw, Fx): a run of operations of which each gives its value at once. No condition. -/
namespace Go.E
open Go Go.RowKit
def Bf {α : Type} (t : Nat) : List (Nat × α) -> Option α
 | [] => none
 | p :: l => match Nat.beq t p.1 with
  | true => some p.2
  | false => Bf t l
theorem BM {α : Type} {t : Nat} : ∀ {l : List (Nat × α)}, Bf t l = AJ t l
 | [] => rfl
 | (k, v) :: l => by
  simp only [Bf, AJ]
  by_cases h : t = k
  .subst h; simp
  rw [if_neg h]
  have : Nat.beq t k = false := by
   cases hb : Nat.beq t k with
   | false => rfl
   | true => exact absurd (Nat.eq_of_beq_eq_true hb) h
  rw [this]
  exact BM
def BF (nt : Nat) (sl : List (Nat × LV)) (x : Operand) : LV :=
 match x with
 | .tmp t => match Nat.blt t nt with
  | true => match Bf t sl with
   | some v => v
   | none => .any
  | false => .any
 | .const v => Po v
 | .func f => .fn f []
 | .global _ => .any
theorem BH {nt : Nat} {sl : List (Nat × LV)} {h : AP} {c : Nat} {x : Operand} : BF nt sl x = (⟨nt, sl, h, c⟩ : St).eval x := by
 cases x with
 | tmp t =>
  simp only [BF, St.eval, BZ, BM]
  by_cases hb : t < nt
  .rw [if_pos hb]
   have : Nat.blt t nt = true := Nat.ble_eq_true_of_le hb
   rw [this]; rfl
  rw [if_neg hb]
  have : Nat.blt t nt = false := by
   cases hq : Nat.blt t nt with
   | false => rfl
   | true => exact absurd (Nat.le_of_ble_eq_true hq) hb
  rw [this]
 | const v => rfl
 | func f => rfl
 | global g => rfl
section
variable {α β γ : Type}
def Ed : List α -> Nat -> List α
 | l, 0 => l
 | [], _ + 1 => []
 | _ :: l, n + 1 => Ed l n
theorem Jf : ∀ {l : List α} {n : Nat}, Ed l n = l.drop n
 | l, 0 => by simp [Ed]
 | [], _ + 1 => by simp [Ed]
 | _ :: l, n + 1 => by simp only [Ed, List.drop_succ_cons]; exact Jf
def K2 : List α -> Nat -> (List α -> Option β) -> Option β
 | _, 0, k => k []
 | x :: l, n + 1, k => K2 l n (fun r => k (x :: r))
 | [], _ + 1, _ => none
theorem Qb : ∀ {l : List α} {n : Nat} {k : List α -> Option β}, K2 l n k = (DT l n).bind k
 | _, 0, k => by simp [K2, DT]
 | x :: l, n + 1, k => by
  simp only [K2, DT]
  rw [Qb]
  cases DT l n <;> rfl
 | [], _ + 1, _ => by simp [K2, DT]
def SH : List LV -> (List DV -> Option β) -> Option β -> Option β
 | [], k, _ => k []
 | .p d :: l, k, e => SH l (fun ds => k (d :: ds)) e
 | _ :: _, _, e => e
theorem SI : ∀ {l : List LV} {k : List DV -> Option β} {e : Option β}, SH l k e = match G6 l with | some ds => k ds | none => e
 | [], k, e => by simp [SH, G6]
 | x :: l, k, e => by
  cases x with
  | p d =>
   simp only [SH, G6]
   rw [SI]
   cases G6 l <;> rfl
  | _ => rfl
def SJ (l : List LV) (k : LV -> Option β) : Option β := SH l (fun ds => k (.p (.agg ds))) (k (.agg l))
theorem SK {l : List LV} {k : LV -> Option β} : SJ l k = k (FH l) := by
 unfold SJ FH
 rw [SI]
 cases G6 l <;> rfl
def Tm (ti : TI) (off : Nat) (l : List LV) (k : LV -> Option β) : Option β :=
 match ti.sh with
 | .struct _ | .arr _ _ => K2 (Ed l off) ti.size (fun r => SJ r k)
 | _ => match Ed l off with
  | v :: _ => k v
  | [] => none
theorem UF {ti : TI} {off : Nat} {l : List LV} {k : LV -> Option β} : Tm ti off l k = (Cz ti off l).bind k := by
 have hd : (match Ed l off with
  | v :: _ => k v
  | [] => none) = l[off]?.bind k := by
  rw [Jf]
  cases hq : l.drop off with
  | nil => simp at hq; simp [List.getElem?_eq_none hq]
  | cons v r =>
   have : l[off]? = some v := by
    have := congrArg (·[0]?) hq
    simpa [List.getElem?_drop] using this
   simp [this]
 have ha : K2 (Ed l off) ti.size (fun r => SJ r k) = ((DT (l.drop off) ti.size).map FH).bind k := by
  rw [Qb, Jf]
  cases DT (l.drop off) ti.size with
  | none => rfl
  | some r => simp [SK]
 unfold Tm Cz
 cases hsh : ti.sh <;> simp only [Sh.isAgg] <;> first | exact ha | exact hd
def RJ (ti : TI) (off : Nat) (l : List DV) (k : LV -> Option β) : Option β :=
 match ti.sh with
 | .struct _ | .arr _ _ => K2 (Ed l off) ti.size (fun r => k (.p (.agg r)))
 | _ => match Ed l off with
  | v :: _ => k (.p v)
  | [] => none
theorem Sq {f : α -> γ} : ∀ {l : List α} {n : Nat}, DT (l.map f) n = (DT l n).map (List.map f)
 | _, 0 => by simp [DT]
 | x :: l, n + 1 => by
  simp only [List.map_cons, DT]
  rw [Sq]
  cases DT l n <;> rfl
 | [], _ + 1 => by simp [DT]
theorem YA {l : List DV} : FH (l.map .p) = .p (.agg l) := by simp [FH, UC]
theorem Qc {ti : TI} {off : Nat} {l : List DV} {k : LV -> Option β} : RJ ti off l k = (Cz ti off (l.map .p)).bind k := by
 have hd : (match Ed l off with
  | v :: _ => k (.p v)
  | [] => none) = (l.map LV.p)[off]?.bind k := by
  rw [Jf, List.getElem?_map]
  cases hq : l.drop off with
  | nil => simp at hq; simp [List.getElem?_eq_none hq]
  | cons v r =>
   have : l[off]? = some v := by
    have := congrArg (·[0]?) hq
    simpa [List.getElem?_drop] using this
   simp [this]
 have ha : K2 (Ed l off) ti.size (fun r => k (.p (.agg r))) = ((DT ((l.map LV.p).drop off) ti.size).map FH).bind k := by
  rw [Qb, Jf, <- List.map_drop, Sq]
  cases DT (l.drop off) ti.size with
  | none => rfl
  | some r => simp [YA]
 unfold RJ Cz
 cases hsh : ti.sh <;> simp only [Sh.isAgg] <;> first | exact ha | exact hd
def Np : List DV -> (List LV -> Option β) -> Option β
 | [], k => k []
 | d :: l, k => Np l (fun r => k (.p d :: r))
theorem LY : ∀ {l : List DV} {k : List LV -> Option β}, Np l k = k (l.map .p)
 | [], k => rfl
 | d :: l, k => by simp only [Np, List.map_cons]; rw [LY]
def LZ (v : LV) (k : List LV -> Option β) : Option β :=
 match v with
 | .p (.agg l) => Np l k
 | .agg l => k l
 | .p (.tup _) | .tup _ | .any | .und => none
 | v => k [v]
theorem KR {v : LV} {k : List LV -> Option β} : LZ v k = v.cells.bind k := by
 cases v with
 | p d => cases d <;> first | rfl | (simp only [LZ, LV.cells]; rw [LY]; rfl)
 | _ => rfl
def Pr : List LV -> List LV -> (List LV -> Option β) -> Option β
 | l, [], k => k l
 | [], _ :: _, _ => none
 | _ :: l, v :: vs, k => Pr l vs (fun r => k (v :: r))
def Qd : List LV -> Nat -> List LV -> (List LV -> Option β) -> Option β
 | l, 0, vs, k => Pr l vs k
 | [], _ + 1, _, _ => none
 | x :: l, n + 1, vs, k => Qd l n vs (fun r => k (x :: r))
theorem UG : ∀ {l vs : List LV} {k : List LV -> Option β} {y : β}, Pr l vs k = some y -> vs.length <= l.length /\ k (CQ.over l vs) = some y
 | l, [], k, y, h => by simp only [Pr] at h; exact ⟨by simp, by simpa [CQ.over] using h⟩
 | [], _ :: _, _, _, h => by simp [Pr] at h
 | _ :: l, v :: vs, k, y, h => by
  simp only [Pr] at h
  obtain ⟨h1, h2⟩ := UG h
  exact ⟨by simpa using h1, h2⟩
theorem SL : ∀ {l : List LV} {n : Nat} {vs : List LV} {k : List LV -> Option β} {y : β}, Qd l n vs k = some y -> n + vs.length <= l.length /\ k (CQ l n vs) = some y
 | l, 0, vs, k, y, h => by
  obtain ⟨h1, h2⟩ := UG (by simpa only [Qd] using h)
  cases l <;> exact ⟨by simpa using h1, h2⟩
 | [], _ + 1, _, _, _, h => by simp [Qd] at h
 | x :: l, n + 1, vs, k, y, h => by
  simp only [Qd] at h
  obtain ⟨h1, h2⟩ := SL h
  exact ⟨by simp only [List.length_cons]; omega, h2⟩
def Km (t : Nat) (v : BB) : AP -> (AP -> Option β) -> Option β
 | [], k => k []
 | (q, u) :: l, k => match Nat.beq t q with
  | true => k ((q, v) :: l)
  | false => Km t v l (fun r => k ((q, u) :: r))
theorem GY {t : Nat} {v : BB} : ∀ {l : AP} {k : AP -> Option β}, Km t v l k = k (BR t v l)
 | [], k => rfl
 | (q, u) :: l, k => by
  simp only [Km, BR]
  by_cases h : t = q
  .subst h; simp
  have : Nat.beq t q = false := by
   cases hb : Nat.beq t q with
   | false => rfl
   | true => exact absurd (Nat.eq_of_beq_eq_true hb) h
  rw [this, if_neg h]
  exact GY
def Oy : List LV -> Bool
 | [] => true
 | v :: l => match v.one with
  | true => Oy l
  | false => false
theorem Oz : ∀ {l : List LV}, Oy l = l.all LV.one
 | [] => rfl
 | v :: l => by
  simp only [Oy, List.all_cons]
  cases v.one with
  | true => rw [Oz]; rfl
  | false => rfl
def O0 (sz : Nat) : Nat -> List (Nat × LV) -> (List (List DV) -> Option β) -> Option β
 | _, [], k => k []
 | n, p :: rest, k => match Nat.beq p.1 n with
  | true => LZ p.2 fun ls => SH ls (fun ds => match Nat.beq ds.length sz with
   | true => O0 sz (n + 1) rest (fun r => k (ds :: r))
   | false => none) none
  | false => none
theorem O1 {sz : Nat} : ∀ {ps : List (Nat × LV)} {n : Nat} {k : List (List DV) -> Option β} {y : β}, O0 sz n ps k = some y -> ∃ l, G0 sz n ps = some l /\ k l = some y
 | [], n, k, y, h => ⟨[], by simp [G0], h⟩
 | (i, v) :: rest, n, k, y, h => by
  simp only [O0] at h
  split at h
  .rename_i hb
   have hi : i = n := Nat.eq_of_beq_eq_true hb
   subst hi
   rw [KR] at h
   cases hc : v.cells with
   | none => rw [hc] at h; simp at h
   | some ls =>
    rw [hc] at h
    simp only [Option.bind_some] at h
    rw [SI] at h
    cases ha : G6 ls with
    | none => rw [ha] at h; simp at h
    | some ds =>
     rw [ha] at h
     simp only at h
     split at h
     .rename_i hl
      obtain ⟨r, h1, h2⟩ := O1 h
      refine ⟨ds :: r, ?_, h2⟩
      simp only [G0, if_true, hc, ha, h1]
      rw [if_pos (Nat.eq_of_beq_eq_true hl)]
     cases h
  cases h
def SM (v : LV) (k : LV -> Option β) : Option β :=
 match v with
 | .p d => k (.p d)
 | .lsl a b c d => k (.lsl a b c d)
 | .lpb a b => k (.lpb a b)
 | .lpe a b c => k (.lpe a b c)
 | .lmap a => k (.lmap a)
 | .agg l => k (.agg l)
 | .tup l => k (.tup l)
 | .fn g l => k (.fn g l)
 | .und => k .und
 | .any => k .any
theorem My {v : LV} {k : LV -> Option β} : SM v k = k v := by cases v <;> rfl
def Nq (nt : Nat) (sl : List (Nat × LV)) : List (Nat × Operand) -> (List (Nat × LV) -> Option β) -> Option β
 | [], k => k []
 | (i, x) :: l, k => SM (BF nt sl x) fun v => Nq nt sl l (fun r => k ((i, v) :: r))
theorem La {nt : Nat} {sl : List (Nat × LV)} : ∀ {l : List (Nat × Operand)} {k : List (Nat × LV) -> Option β}, Nq nt sl l k = k (l.map fun p => (p.1, BF nt sl p.2))
 | [], k => rfl
 | (i, x) :: l, k => by simp only [Nq, List.map_cons]; rw [My, La]
def EW (nt : Nat) (sl : List (Nat × LV)) : List Operand -> (List LV -> Option β) -> Option β
 | [], k => k []
 | p :: l, k => SM (BF nt sl p) fun v => EW nt sl l (fun r => k (v :: r))
theorem KS {nt : Nat} {sl : List (Nat × LV)} : ∀ {l : List Operand} {k : List LV -> Option β}, EW nt sl l k = k (l.map fun p => BF nt sl p)
 | [], k => rfl
 | p :: l, k => by simp only [EW, List.map_cons]; rw [My, KS]
def O2 (AD : A5) (pl : Nat -> Option (Nat × Nat)) : List LV -> List (Nat × LV) -> (List LV -> Option β) -> Option β
 | cells, [], k => k cells
 | cells, (i, v) :: rest, k => match pl i with
  | some (o, ft) => match AD.tt ft with
   | some ti => LZ v fun ls => match Nat.beq ls.length ti.size with
    | true => Qd cells o ls fun cells' => O2 AD pl cells' rest k
    | false => none
   | none => none
  | none => none
theorem O3 {AD : A5} {pl : Nat -> Option (Nat × Nat)} : ∀ {ps : List (Nat × LV)} {cells : List LV} {k : List LV -> Option β} {y : β}, O2 AD pl cells ps k = some y ->
  ∃ l, k l = some y /\ ∀ K : A6 (List LV), K.f l -> LO AD pl cells ps K
 | [], cells, k, y, h => ⟨cells, h, fun _ => id⟩
 | (i, v) :: rest, cells, k, y, h => by
  simp only [O2] at h
  split at h
  .rename_i o ft hq
   split at h
   .rename_i ti hti
    rw [KR] at h
    cases hc : v.cells with
    | none => rw [hc] at h; simp at h
    | some ls =>
     rw [hc] at h
     simp only [Option.bind_some] at h
     split at h
     .rename_i hl
      obtain ⟨h1, h2⟩ := SL h
      obtain ⟨l, h3, h4⟩ := O3 h2
      refine ⟨l, h3, fun K hk => ?_⟩
      simp only [LO]
      exact AS.2 ⟨(o, ft), hq, AR.2 ⟨ti, hti, AS.2 ⟨ls, hc, ⟨Nat.eq_of_beq_eq_true hl, h1⟩, h4 K hk⟩⟩⟩
     cases h
   cases h
  cases h
def Tn (AD : A5) : List (Nat × Nat) -> Bool
 | [] => true
 | p :: l => match AD.tt p.2 with
  | some _ => Tn AD l
  | none => false
theorem UH {AD : A5} : ∀ {l : List (Nat × Nat)}, Tn AD l = l.all fun p => (AD.tt p.2).isSome
 | [] => rfl
 | p :: l => by
  simp only [Tn, List.all_cons]
  cases AD.tt p.2 with
  | some _ => simp [UH]
  | none => simp
def ZG (op : BinOp) (kk : IntKind) (a b : Int) (k : LV -> Option β) : Option β :=
 match op with
 | .add => k (.p (.int kk (kk.wrap (a + b))))
 | .sub => k (.p (.int kk (kk.wrap (a - b))))
 | .mul => k (.p (.int kk (kk.wrap (a * b))))
 | .eql => k (.p (.bool (a == b)))
 | .neq => k (.p (.bool (a != b)))
 | .lss => k (.p (.bool (decide (a < b))))
 | .leq => k (.p (.bool (decide (a <= b))))
 | .gtr => k (.p (.bool (decide (b < a))))
 | .geq => k (.p (.bool (decide (b <= a))))
 | .xor => k (.p (.int kk (kk.wrap (BitVec.ofInt kk.bits a ^^^ BitVec.ofInt kk.bits b).toNat)))
 | .or => k (.p (.int kk (kk.wrap (BitVec.ofInt kk.bits a ||| BitVec.ofInt kk.bits b).toNat)))
 | _ => none
def SN (AD : A5) (t : Nat) : Bool :=
 match AD.tt t with
 | some ti => match ti.sh with
  | .bool => true
  | _ => false
 | none => false
def O4 : IntKind -> IntKind -> Bool
 | .i8, .i8 | .i16, .i16 | .i32, .i32 | .i64, .i64 | .u8, .u8 | .u16, .u16 | .u32, .u32 | .u64, .u64 => true
 | _, _ => false
theorem O5 {a b : IntKind} (h : O4 a b = true) : a = b := by cases a <;> cases b <;> first | rfl | simp [O4] at h
def ZH (AD : A5) (op : BinOp) (t : Nat) (x y : LV) (k : LV -> Option β) : Option β :=
 match x, y with
 | .p (.int k1 a), .p (.int k2 b) => match O4 k1 k2 with
  | true => ZG op k1 a b k
  | false => none
 | .p (.str a), .p (.str b) => match op with
  | .eql => k (.p (.bool (a.toList == b.toList)))
  | .neq => k (.p (.bool (!(a.toList == b.toList))))
  | _ => none
 | .p (.bool a), .p (.bool b) => match SN AD t with
  | true => match op with
   | .eql => k (.p (.bool (a == b)))
   | .neq => k (.p (.bool (!(a == b))))
   | _ => none
  | false => none
 | .p (.place _ _), .p .nilp => match AD.ptr t with
  | true => match op with
   | .eql => k (.p (.bool false))
   | .neq => k (.p (.bool true))
   | _ => none
  | false => none
 | .lpb _ _, .p .nilp => match AD.ptr t with
  | true => match op with
   | .eql => k (.p (.bool false))
   | .neq => k (.p (.bool true))
   | _ => none
  | false => none
 | .p .nilp, .p .nilp => match AD.ptr t with
  | true => match op with
   | .eql => k (.p (.bool true))
   | .neq => k (.p (.bool false))
   | _ => none
  | false => none
 | _, _ => none
def ZI (off : Nat) (x : LV) (k : LV -> Option β) : Option β :=
 match x with
 | .lpb id o => k (.lpb id (o + off))
 | .lpe id j o => k (.lpe id j (o + off))
 | .p (.place l o) => k (.p (.place l (o + off)))
 | _ => none
def UI : IntKind -> Int -> List LV -> (Int -> Option β) -> Option β
 | _, n, [], k => k n
 | kk, n, .p (.int j m) :: rest, k => match O4 j kk with
  | true => UI kk (if m > n then m else n) rest k
  | false => none
 | _, _, _ :: _, _ => none
def UJ : IntKind -> Int -> List LV -> (Int -> Option β) -> Option β
 | _, n, [], k => k n
 | kk, n, .p (.int j m) :: rest, k => match O4 j kk with
  | true => UJ kk (if m < n then m else n) rest k
  | false => none
 | _, _, _ :: _, _ => none
def Fv (AD : A5) (nt : Nat) (sl : List (Nat × LV)) (h : AP) (c : Nat) (op : Op) (k : LV -> AP -> Nat -> Option β) : Option β :=
  match op with
  | .move x | .assign x => SM (BF nt sl x) fun v => k v h c
  | .pick b x y => match BF nt sl b with
    | .p (.bool b) => match b with
      | true => SM (BF nt sl x) fun v => k v h c
      | false => SM (BF nt sl y) fun v => k v h c
    | _ => none
  | .nilCheck x => match BF nt sl x with
    | .lpb i o => k (.lpb i o) h c
    | .lpe i j o => k (.lpe i j o) h c
    | .p (.place l o) => k (.p (.place l o)) h c
    | _ => none
  | .binOp op t x y _ => ZH AD op t (BF nt sl x) (BF nt sl y) fun l => k l h c
  | .unOp op _ x => match op with
    | .not => match BF nt sl x with
      | .p (.bool b) => k (.p (.bool !b)) h c
      | _ => none
    | .neg => match BF nt sl x with
      | .p (.int kk n) => k (.p (.int kk (kk.wrap (0 - n)))) h c
      | _ => none
    | _ => none
  | .convert s d x => match BF nt sl x with
    | .p (.int _ n) => match AD.tt s with
      | some _ => match AD.tt d with
        | some ti => match ti.sh with
          | .int kd => k (.p (.int kd (kd.wrap n))) h c
          | _ => none
        | none => none
      | none => none
    | _ => none
  | .extract t i => match BF nt sl t with
    | .tup l => match Ed l i with
      | v :: _ => k v h c
      | [] => none
    | .p (.tup l) => match Ed l i with
      | v :: _ => k (.p v) h c
      | [] => none
    | _ => none
  | .field t x i => match AD.tt t with
    | some ti => match ti.sh with
      | .struct fs => match Ed fs i with
        | (o, ft) :: _ => match AD.tt ft with
          | some tf => match BF nt sl x with
            | .agg ls => Tm tf o ls fun l => k l h c
            | .p (.agg ds) => RJ tf o ds fun l => k l h c
            | _ => none
          | none => none
        | [] => none
      | _ => none
    | none => none
  | .build t ps => match AD.tt t with
    | some ti => match ti.sh with
      | .struct fs => match Tn AD fs with
        | true => Np ti.zero fun z => Nq nt sl ps.toList fun ps' => O2 AD (fun i => fs[i]?) z ps' fun cells => SJ cells fun l => k l h c
        | false => none
      | .arr _ e => match AD.tt e with
        | some te => Np ti.zero fun z => Nq nt sl ps.toList fun ps' => O2 AD (fun i => some (i * te.size, e)) z ps' fun cells => SJ cells fun l => k l h c
        | none => none
      | _ => none
    | none => none
  | .fieldAddr t x i => match AD.tt t with
    | some ti => match ti.sh with
      | .struct fs => match Ed fs i with
        | (o, ft) :: _ => match AD.tt ft with
          | some tf => match Nat.blt 0 tf.size with
            | true => ZI o (BF nt sl x) fun l => k l h c
            | false => none
          | none => none
        | [] => none
      | _ => none
    | none => none
  | .makeFunc (.func f) first caps => match first.toList with
    | [] => EW nt sl caps.toList fun l => k (.fn f l) h c
    | _ => none
  | .load t x => match Mr AD.calm (BF nt sl x) with
   | false => none
   | true => match AD.tt t with
    | some ti => match BF nt sl x with
      | .p (.place l off) => RJ ti off l fun v => k v h c
      | .lpb id off => match Bf id h with
        | some (.box cells) => Tm ti off cells fun v => k v h c
        | _ => none
      | _ => none
    | none => none
  | .store t x v => match LL AD.calm (BF nt sl x) with
   | false => none
   | true => match AD.tt t with
    | some ti => match BF nt sl x with
      | .lpb id off => LZ (BF nt sl v) fun ls => match Nat.beq ls.length ti.size with
        | true => match Oy ls with
          | true => match Bf id h with
            | some (.box cells) => Qd cells off ls fun cells' => Km id (.box cells') h fun h' => k .any h' c
            | _ => none
          | false => none
        | false => none
      | _ => none
    | none => none
  | .alloc t => match AD.tt t with
    | some ti => Np ti.zero fun z => k (.lpb c 0) ((c, .box z) :: h) (c + 1)
    | none => none
  | .box _ x => LZ (BF nt sl x) fun ls => k (.lpb c 0) ((c, .box ls) :: h) (c + 1)
  | .buildSlice t n ps => match AD.tt t with
    | some ti => match ti.sh with
      | .slc e => match AD.tt e with
        | some te => match Nat.blt 0 te.size && Nat.ble (n * te.size) 16777216 with
          | true => Nq nt sl ps.toList fun ps' => O0 te.size 0 ps' fun l => match Nat.beq l.length n with
            | true => k (.lsl c te.size 0 n) ((c, .row e te.size l) :: h) (c + 1)
            | false => none
          | false => none
        | none => none
      | _ => none
    | none => none
  | .makeMap _ none => k (.lmap c) ((c, .map []) :: h) (c + 1)
  | .call ⟨.builtin .len, args, ts⟩ => match args.toList, ts.toList with
    | [x], [t] => match AD.tt t with
      | some ti => match ti.sh, BF nt sl x with
        | .arr n _, _ => k (.p (.int .i64 n)) h c
        | .slc _, .p .nils => k (.p (.int .i64 0)) h c
        | .slc _, .lsl _ _ _ len => k (.p (.int .i64 len)) h c
        | .str, .p (.str s) => k (.p (.int .i64 s.size)) h c
        | _, _ => none
      | none => none
    | _, _ => none
  | .call ⟨.builtin .max, args, _⟩ => EW nt sl args.toList fun l => match l with
    | .p (.int kk n) :: rest => UI kk n rest fun m => k (.p (.int kk m)) h c
    | _ => none
  | .call ⟨.builtin .min, args, _⟩ => EW nt sl args.toList fun l => match l with
    | .p (.int kk n) :: rest => UJ kk n rest fun m => k (.p (.int kk m)) h c
    | _ => none
  | _ => none
end
end Go.E
/- Operations reckoned by unfolding alone: they are sound (IA); runs of operations (Fw, Fx). No condition. -/
namespace Go.E
open Go Go.RowKit
section
variable {β : Type} {AD : A5} {nt : Nat} {sl : List (Nat × LV)} {hp : AP} {c : Nat}
theorem AAJ {op : BinOp} {kk : IntKind} {a b : Int} {k : LV -> Option β} {y : β} (h : ZG op kk a b k = some y) : ∃ l, k l = some y /\ ∀ K : A6 LV, K.f l -> Mx op kk a b K := by
 cases op <;> simp only [ZG] at h <;> first | cases h | exact ⟨_, h, fun K hk => hk⟩
theorem W2 {t : Nat} (h : SN AD t = true) : ∃ ti, AD.tt t = some ti /\ ti.sh = .bool := by
 unfold SN at h
 split at h
 .rename_i ti hti
  split at h
  .exact ⟨ti, hti, ‹_›⟩
  cases h
 cases h
theorem AAK {op : BinOp} {t : Nat} {x y : LV} {k : LV -> Option β} {z : β} (h : ZH AD op t x y k = some z) : ∃ l, k l = some z /\ ∀ K : A6 LV, K.f l -> SC AD op t x y K /\ UD AD op t x y K := by
 unfold ZH at h
 split at h
 .rename_i k1 a k2 b
  split at h
  .rename_i hk
   have := O5 hk
   subst this
   obtain ⟨l, h1, h2⟩ := AAJ h
   exact ⟨l, h1, fun K hk => ⟨⟨rfl, h2 K hk⟩, ⟨rfl, h2 K hk⟩⟩⟩
  cases h
 .rename_i a b
  split at h
  .exact ⟨_, h, fun K hk => ⟨hk, hk⟩⟩
  .exact ⟨_, h, fun K hk => ⟨hk, hk⟩⟩
  cases h
 .rename_i a b
  split at h
  .rename_i hb
   obtain ⟨ti, hti, hsh⟩ := W2 hb
   split at h
   .exact ⟨_, h, fun K hk => ⟨AR.2 ⟨ti, hti, hsh, hk⟩, AR.2 ⟨ti, hti, hsh, hk⟩⟩⟩
   .exact ⟨_, h, fun K hk => ⟨AR.2 ⟨ti, hti, hsh, hk⟩, AR.2 ⟨ti, hti, hsh, hk⟩⟩⟩
   cases h
  cases h
 .split at h
  .rename_i hb
   split at h
   .exact ⟨_, h, fun K hk => ⟨⟨hb, hk⟩, ⟨hb, hk⟩⟩⟩
   .exact ⟨_, h, fun K hk => ⟨⟨hb, hk⟩, ⟨hb, hk⟩⟩⟩
   cases h
  cases h
 .split at h
  .rename_i hb
   split at h
   .exact ⟨_, h, fun K hk => ⟨⟨hb, hk⟩, ⟨hb, hk⟩⟩⟩
   .exact ⟨_, h, fun K hk => ⟨⟨hb, hk⟩, ⟨hb, hk⟩⟩⟩
   cases h
  cases h
 .split at h
  .rename_i hb
   split at h
   .exact ⟨_, h, fun K hk => ⟨⟨hb, hk⟩, ⟨hb, hk⟩⟩⟩
   .exact ⟨_, h, fun K hk => ⟨⟨hb, hk⟩, ⟨hb, hk⟩⟩⟩
   cases h
  cases h
 cases h
theorem AAL {off : Nat} {x : LV} {k : LV -> Option β} {y : β} (h : ZI off x k = some y) : ∃ l, k l = some y /\ ∀ K : A6 LV, K.f l -> Ws off x K := by
 unfold ZI at h
 split at h
 .exact ⟨_, h, fun K hk => hk⟩
 .exact ⟨_, h, fun K hk => hk⟩
 .exact ⟨_, h, fun K hk => hk⟩
 cases h
theorem I3 {α : Type} {l r : List α} {n : Nat} {x : α} (h : Ed l n = x :: r) : l[n]? = some x := by
 rw [Jf] at h
 have := congrArg (·[0]?) h
 simpa [List.getElem?_drop] using this
theorem WH {kk : IntKind} : ∀ {l : List LV} {n : Int} {k : Int -> Option β} {y : β}, UI kk n l k = some y -> ∃ m, k m = some y /\ Bp.go (fun x y => if y > x then y else x) kk n l = some m
 | [], n, k, y, h => ⟨n, h, rfl⟩
 | .p (.int j m) :: rest, n, k, y, h => by
  simp only [UI] at h
  split at h
  .rename_i hj
   have := O5 hj
   subst this
   obtain ⟨r, h1, h2⟩ := WH h
   exact ⟨r, h1, by simp only [Bp.go, if_true]; exact h2⟩
  cases h
 | .p .nils :: _, _, _, _, h | .p .nilp :: _, _, _, _, h | .p .nilm :: _, _, _, _, h | .p (.bool _) :: _, _, _, _, h | .p (.str _) :: _, _, _, _, h | .p (.agg _) :: _, _, _, _, h | .p (.tup _) :: _, _, _, _, h
 | .p (.slice _ _) :: _, _, _, _, h | .p (.place _ _) :: _, _, _, _, h | .p (.map _) :: _, _, _, _, h | .lsl .. :: _, _, _, _, h | .lpb .. :: _, _, _, _, h | .lpe .. :: _, _, _, _, h | .lmap _ :: _, _, _, _, h | .p (.fn _ _) :: _, _, _, _, h
 | .agg _ :: _, _, _, _, h | .tup _ :: _, _, _, _, h | .fn .. :: _, _, _, _, h | .und :: _, _, _, _, h | .any :: _, _, _, _, h => by simp [UI] at h
theorem WI {kk : IntKind} : ∀ {l : List LV} {n : Int} {k : Int -> Option β} {y : β}, UJ kk n l k = some y -> ∃ m, k m = some y /\ Bp.go (fun x y => if y < x then y else x) kk n l = some m
 | [], n, k, y, h => ⟨n, h, rfl⟩
 | .p (.int j m) :: rest, n, k, y, h => by
  simp only [UJ] at h
  split at h
  .rename_i hj
   have := O5 hj
   subst this
   obtain ⟨r, h1, h2⟩ := WI h
   exact ⟨r, h1, by simp only [Bp.go, if_true]; exact h2⟩
  cases h
 | .p .nils :: _, _, _, _, h | .p .nilp :: _, _, _, _, h | .p .nilm :: _, _, _, _, h | .p (.bool _) :: _, _, _, _, h | .p (.str _) :: _, _, _, _, h | .p (.agg _) :: _, _, _, _, h | .p (.tup _) :: _, _, _, _, h
 | .p (.slice _ _) :: _, _, _, _, h | .p (.place _ _) :: _, _, _, _, h | .p (.map _) :: _, _, _, _, h | .lsl .. :: _, _, _, _, h | .lpb .. :: _, _, _, _, h | .lpe .. :: _, _, _, _, h | .lmap _ :: _, _, _, _, h | .p (.fn _ _) :: _, _, _, _, h
 | .agg _ :: _, _, _, _, h | .tup _ :: _, _, _, _, h | .fn .. :: _, _, _, _, h | .und :: _, _, _, _, h | .any :: _, _, _, _, h => by simp [UJ] at h
def YB (AD : A5) (st : St) (op : Op) (l : LV) (h' : AP) (c' : Nat) : Prop :=
 ∀ (P : Program) (A : BD) (dst : Option Tmp) (K : A6 St), K.f (st.go dst l h' c') -> BE P A AD st dst op K /\ KO P A AD st dst op K
theorem IA {op : Op} {k : LV -> AP -> Nat -> Option β} {y : β} (h : Fv AD nt sl hp c op k = some y) : ∃ l h' c', k l h' c' = some y /\ YB AD ⟨nt, sl, hp, c⟩ op l h' c' := by
 have hev : ∀ x, BF nt sl x = (⟨nt, sl, hp, c⟩ : St).eval x := fun x => BH
 cases op <;> simp only [Fv] at h <;> try (cases h; done)
 case move x => rw [My] at h; exact ⟨_, _, _, h, fun P A dst K hk => by rw [hev] at hk; exact ⟨hk, hk⟩⟩
 case assign x => rw [My] at h; exact ⟨_, _, _, h, fun P A dst K hk => by rw [hev] at hk; exact ⟨hk, hk⟩⟩
 case pick b x z =>
  split at h
  .rename_i b' hb
   rw [hev] at hb
   simp only [My] at h
   split at h
   .exact ⟨_, _, _, h, fun P A dst K hk => by
     rw [hev] at hk
     have : BE P A AD ⟨nt, sl, hp, c⟩ dst (.pick b x z) K := by simp only [BE]; rw [hb]; exact hk
     exact ⟨this, this⟩⟩
   exact ⟨_, _, _, h, fun P A dst K hk => by
    rw [hev] at hk
    have : BE P A AD ⟨nt, sl, hp, c⟩ dst (.pick b x z) K := by simp only [BE]; rw [hb]; exact hk
    exact ⟨this, this⟩⟩
  cases h
 case nilCheck x =>
  split at h
  .rename_i hx; rw [hev] at hx
   exact ⟨_, _, _, h, fun P A dst K hk => by
    have : BE P A AD ⟨nt, sl, hp, c⟩ dst (.nilCheck x) K := by simp only [BE]; rw [hx]; exact hk
    exact ⟨this, this⟩⟩
  .rename_i hx; rw [hev] at hx
   exact ⟨_, _, _, h, fun P A dst K hk => by
    have : BE P A AD ⟨nt, sl, hp, c⟩ dst (.nilCheck x) K := by simp only [BE]; rw [hx]; exact hk
    exact ⟨this, this⟩⟩
  .rename_i hx; rw [hev] at hx
   exact ⟨_, _, _, h, fun P A dst K hk => by
    have : BE P A AD ⟨nt, sl, hp, c⟩ dst (.nilCheck x) K := by simp only [BE]; rw [hx]; exact hk
    exact ⟨this, this⟩⟩
  cases h
 case binOp op t x z w =>
  obtain ⟨l, h1, h2⟩ := AAK h
  refine ⟨l, _, _, h1, fun P A dst K hk => ?_⟩
  rw [hev, hev] at h2
  exact ⟨(h2 ⟨fun l => K.f (St.put ⟨nt, sl, hp, c⟩ dst l), ⟨⟩⟩ hk).1, (h2 ⟨fun l => K.f (St.put ⟨nt, sl, hp, c⟩ dst l), ⟨⟩⟩ hk).2⟩
 case unOp op t x =>
  split at h
  .split at h
   .rename_i hx; rw [hev] at hx
    exact ⟨_, _, _, h, fun P A dst K hk => by
     have : BE P A AD ⟨nt, sl, hp, c⟩ dst (.unOp .not t x) K := by simp only [BE]; rw [hx]; exact hk
     exact ⟨this, this⟩⟩
   cases h
  .split at h
   .rename_i hx; rw [hev] at hx
    exact ⟨_, _, _, h, fun P A dst K hk => by
     have : BE P A AD ⟨nt, sl, hp, c⟩ dst (.unOp .neg t x) K := by simp only [BE]; rw [hx]; exact hk
     exact ⟨this, this⟩⟩
   cases h
  cases h
 case convert s d x =>
  split at h
  .rename_i kk n hx; rw [hev] at hx
   split at h
   .rename_i ts hs
    split at h
    .rename_i ti ht
     split at h
     .rename_i kd hsh
      exact ⟨_, _, _, h, fun P A dst K hk => by
       have : BE P A AD ⟨nt, sl, hp, c⟩ dst (.convert s d x) K := by
        simp only [BE]; rw [hx]
        exact AR.2 ⟨ts, hs, AR.2 ⟨ti, ht, AS.2 ⟨kd, by rw [hsh]; rfl, hk⟩⟩⟩
       exact ⟨this, this⟩⟩
     cases h
    cases h
   cases h
  cases h
 case extract t i =>
  split at h
  .rename_i l hx; rw [hev] at hx
   split at h
   .rename_i v r hd
    exact ⟨_, _, _, h, fun P A dst K hk => by
     have : BE P A AD ⟨nt, sl, hp, c⟩ dst (.extract t i) K := by
      simp only [BE]; rw [hx]
      exact AS.2 ⟨v, I3 hd, hk⟩
     exact ⟨this, this⟩⟩
   cases h
  .rename_i l hx; rw [hev] at hx
   split at h
   .rename_i v r hd
    exact ⟨_, _, _, h, fun P A dst K hk => by
     have : BE P A AD ⟨nt, sl, hp, c⟩ dst (.extract t i) K := by
      simp only [BE]; rw [hx]
      exact AS.2 ⟨v, I3 hd, hk⟩
     exact ⟨this, this⟩⟩
   cases h
  cases h
 case field t x i =>
  split at h
  .rename_i ti ht
   split at h
   .rename_i fs hsh
    split at h
    .rename_i o ft r hd
     split at h
     .rename_i tf htf
      split at h
      .rename_i ls hx; rw [hev] at hx
       rw [UF, Option.bind_eq_some_iff] at h
       obtain ⟨v, hv, h⟩ := h
       exact ⟨_, _, _, h, fun P A dst K hk => by
        have : BE P A AD ⟨nt, sl, hp, c⟩ dst (.field t x i) K := by
         simp only [BE]; rw [hx]
         exact AR.2 ⟨ti, ht, E9.2 ⟨fs, hsh, AS.2 ⟨(o, ft), I3 hd, AR.2 ⟨tf, htf, AS.2 ⟨v, hv, hk⟩⟩⟩⟩⟩
        exact ⟨this, this⟩⟩
      .rename_i ds hx; rw [hev] at hx
       rw [Qc, Option.bind_eq_some_iff] at h
       obtain ⟨v, hv, h⟩ := h
       exact ⟨_, _, _, h, fun P A dst K hk => by
        have : BE P A AD ⟨nt, sl, hp, c⟩ dst (.field t x i) K := by
         simp only [BE]; rw [hx]
         exact AR.2 ⟨ti, ht, E9.2 ⟨fs, hsh, AS.2 ⟨(o, ft), I3 hd, AR.2 ⟨tf, htf, AS.2 ⟨v, hv, hk⟩⟩⟩⟩⟩
        exact ⟨this, this⟩⟩
      cases h
     cases h
    cases h
   cases h
  cases h
 case build t ps =>
  split at h
  .rename_i ti ht
   split at h
   .rename_i fs hsh
    split at h
    .rename_i hall
     rw [LY, La] at h
     obtain ⟨l, h1, h2⟩ := O3 h
     rw [SK] at h1
     exact ⟨_, _, _, h1, fun P A dst K hk => by
      have : BE P A AD ⟨nt, sl, hp, c⟩ dst (.build t ps) K := by
       simp only [BE]
       refine AR.2 ⟨ti, ht, ?_⟩
       simp only [Ov, hsh]
       rw [UH] at hall
       refine ⟨hall, ?_⟩
       have := h2 ⟨fun cells => K.f (St.put ⟨nt, sl, hp, c⟩ dst (FH cells)), ⟨⟩⟩ hk
       simpa only [hev] using this
      exact ⟨this, this⟩⟩
    cases h
   .rename_i n e hsh
    split at h
    .rename_i te hte
     rw [LY, La] at h
     obtain ⟨l, h1, h2⟩ := O3 h
     rw [SK] at h1
     exact ⟨_, _, _, h1, fun P A dst K hk => by
      have : BE P A AD ⟨nt, sl, hp, c⟩ dst (.build t ps) K := by
       simp only [BE]
       refine AR.2 ⟨ti, ht, ?_⟩
       simp only [Ov, hsh]
       refine AR.2 ⟨te, hte, ?_⟩
       have := h2 ⟨fun cells => K.f (St.put ⟨nt, sl, hp, c⟩ dst (FH cells)), ⟨⟩⟩ hk
       simpa only [hev] using this
      exact ⟨this, this⟩⟩
    cases h
   cases h
  cases h
 case fieldAddr t x i =>
  split at h
  .rename_i ti ht
   split at h
   .rename_i fs hsh
    split at h
    .rename_i o ft r hd
     split at h
     .rename_i tf htf
      split at h
      .rename_i hsz
       obtain ⟨l, h1, h2⟩ := AAL h
       rw [hev] at h2
       exact ⟨_, _, _, h1, fun P A dst K hk => by
        have : BE P A AD ⟨nt, sl, hp, c⟩ dst (.fieldAddr t x i) K := by
         simp only [BE]
         refine AR.2 ⟨ti, ht, E9.2 ⟨fs, hsh, AS.2 ⟨(o, ft), I3 hd, AR.2 ⟨tf, htf, ?_, h2 ⟨fun l => K.f (St.put ⟨nt, sl, hp, c⟩ dst l), ⟨⟩⟩ hk⟩⟩⟩⟩
         have := Nat.le_of_ble_eq_true hsz
         omega
        exact ⟨this, this⟩⟩
      cases h
     cases h
    cases h
   cases h
  cases h
 case makeFunc fn first caps =>
  cases fn <;> simp only at h <;> try (cases h; done)
  rename_i f
  split at h
  .rename_i hf
   rw [KS] at h
   exact ⟨_, _, _, h, fun P A dst K hk => by
    have : BE P A AD ⟨nt, sl, hp, c⟩ dst (.makeFunc (.func f) first caps) K := by
     simp only [BE]
     refine ⟨hf, ?_⟩
     have e : (caps.toList.map fun p => BF nt sl p) = caps.toList.map (St.eval ⟨nt, sl, hp, c⟩) := List.map_congr_left fun x _ => hev x
     rw [e] at hk
     exact hk
    exact ⟨this, this⟩⟩
  cases h
 case load t x =>
  split at h
  .cases h
  rename_i hc'
  rw [hev] at hc'
  split at h
  .rename_i ti ht
   split at h
   .rename_i l off hx; rw [hev] at hx
    rw [Qc, Option.bind_eq_some_iff] at h
    obtain ⟨v, hv, h⟩ := h
    exact ⟨_, _, _, h, fun P A dst K hk => by
     have : BE P A AD ⟨nt, sl, hp, c⟩ dst (.load t x) K := by
      simp only [BE]; rw [hx]
      exact AR.2 ⟨ti, ht, AS.2 ⟨v, hv, hk⟩⟩
     exact ⟨this, hc', this⟩⟩
   .rename_i id off hx; rw [hev] at hx
    split at h
    .rename_i cells hl
     rw [BM] at hl
     rw [UF, Option.bind_eq_some_iff] at h
     obtain ⟨v, hv, h⟩ := h
     exact ⟨_, _, _, h, fun P A dst K hk => by
      have : BE P A AD ⟨nt, sl, hp, c⟩ dst (.load t x) K := by
       simp only [BE]; rw [hx]
       exact AR.2 ⟨ti, ht, AS.2 ⟨_, hl, by dsimp only; refine Ii.2 ⟨cells, rfl, ?_⟩; exact AS.2 ⟨v, hv, hk⟩⟩⟩
      exact ⟨this, hc', this⟩⟩
    cases h
   cases h
  cases h
 case store t x v =>
  split at h
  .cases h
  rename_i hc'
  rw [hev] at hc'
  split at h
  .rename_i ti ht
   split at h
   .rename_i id off hx; rw [hev] at hx
    rw [KR, Option.bind_eq_some_iff] at h
    obtain ⟨ls, hls, h⟩ := h
    rw [hev] at hls
    split at h
    .rename_i hlen
     split at h
     .rename_i hone
      rw [Oz] at hone
      split at h
      .rename_i cells hl
       rw [BM] at hl
       obtain ⟨h1, h2⟩ := SL h
       rw [GY] at h2
       exact ⟨_, _, _, h2, fun P A dst K hk => by
        have : BE P A AD ⟨nt, sl, hp, c⟩ dst (.store t x v) K := by
         simp only [BE]; rw [hx]
         exact AR.2 ⟨ti, ht, AS.2 ⟨ls, hls, ⟨Nat.eq_of_beq_eq_true hlen, hone⟩, AS.2 ⟨_, hl, by dsimp only; refine Ii.2 ⟨cells, rfl, ?_⟩; exact ⟨h1, hk⟩⟩⟩⟩
        exact ⟨this, hc', this⟩⟩
      cases h
     cases h
    cases h
   cases h
  cases h
 case alloc t =>
  split at h
  .rename_i ti ht
   rw [LY] at h
   exact ⟨_, _, _, h, fun P A dst K hk => by
    have : BE P A AD ⟨nt, sl, hp, c⟩ dst (.alloc t) K := by
     simp only [BE]
     exact AR.2 ⟨ti, ht, hk⟩
    exact ⟨this, this⟩⟩
  cases h
 case box t x =>
  rw [KR, Option.bind_eq_some_iff] at h
  obtain ⟨ls, hls, h⟩ := h
  rw [hev] at hls
  exact ⟨_, _, _, h, fun P A dst K hk => by
   have : BE P A AD ⟨nt, sl, hp, c⟩ dst (.box t x) K := by
    simp only [BE]
    exact AS.2 ⟨ls, hls, hk⟩
   exact ⟨this, this⟩⟩
 case buildSlice t n ps =>
  split at h
  .rename_i ti ht
   split at h
   .rename_i e hsh
    split at h
    .rename_i te hte
     split at h
     .rename_i hb
      rw [La] at h
      obtain ⟨l, h1, h2⟩ := O1 h
      split at h2
      .rename_i hlen
       simp only [Bool.and_eq_true] at hb
       exact ⟨_, _, _, h2, fun P A dst K hk => by
        have : BE P A AD ⟨nt, sl, hp, c⟩ dst (.buildSlice t n ps) K := by
         simp only [BE]
         simp only [hev] at h1
         exact AR.2 ⟨ti, ht, B5.2 ⟨e, hsh, AR.2 ⟨te, hte, ⟨Nat.le_of_ble_eq_true hb.1, Nat.le_of_ble_eq_true hb.2⟩, AS.2 ⟨l, h1, Nat.eq_of_beq_eq_true hlen, .inl hk⟩⟩⟩⟩
        exact ⟨this, this⟩⟩
      cases h2
     cases h
    cases h
   cases h
  cases h
 case makeMap t r =>
  cases r with
  | some r => cases h
  | none => exact ⟨_, _, _, h, fun P A dst K hk => ⟨hk, hk⟩⟩
 case call cl =>
  obtain ⟨callee, args, ts⟩ := cl
  cases callee with
  | value f => cases h
  | invoke r m => cases h
  | builtin b =>
   cases b <;> simp only at h <;> try (cases h; done)
   case len =>
    split at h
    .rename_i x t hargs hts
     split at h
     .rename_i ti ht
      have ha : args = #[x] := by cases args; simpa using hargs
      have ht' : ts = #[t] := by cases ts; simpa using hts
      subst ha ht'
      have fin : ∀ l, k l hp c = some y -> (∀ K : A6 LV, K.f l -> Y7 ti.sh ((⟨nt, sl, hp, c⟩ : St).eval x) K /\ Wy ti.sh ((⟨nt, sl, hp, c⟩ : St).eval x) K) ->
        ∃ l h' c', k l h' c' = some y /\ YB AD ⟨nt, sl, hp, c⟩ (.call ⟨.builtin .len, #[x], #[t]⟩) l h' c' := fun l h1 h2 => ⟨l, hp, c, h1, fun P A dst K hk => by
       have := h2 ⟨fun l => K.f (St.put ⟨nt, sl, hp, c⟩ dst l), ⟨⟩⟩ hk
       exact ⟨AR.2 ⟨ti, ht, this.1⟩, AR.2 ⟨ti, ht, this.2⟩⟩⟩
      split at h
      .rename_i hsh
       exact fin _ h fun K hk => by rw [hsh]; exact ⟨hk, hk⟩
      .rename_i hsh hx; rw [hev] at hx
       exact fin _ h fun K hk => by rw [hsh, hx]; exact ⟨hk, hk⟩
      .rename_i hsh hx; rw [hev] at hx
       exact fin _ h fun K hk => by rw [hsh, hx]; exact ⟨hk, hk⟩
      .rename_i hsh hx; rw [hev] at hx
       exact fin _ h fun K hk => by rw [hsh, hx]; exact ⟨hk, hk⟩
      cases h
     cases h
    cases h
   case max =>
    rw [KS] at h
    split at h
    .rename_i kk n rest hl
     obtain ⟨m, h1, h2⟩ := WH h
     exact ⟨_, _, _, h1, fun P A dst K hk => by
      have : BE P A AD ⟨nt, sl, hp, c⟩ dst (.call ⟨.builtin .max, args, ts⟩) K := by
       simp only [BE, I1]
       simp only [hev] at hl
       refine AS.2 ⟨(kk, m), ?_, hk⟩
       show Bp _ (args.toList.map fun x => St.eval _ x) = _
       rw [hl]
       simp only [Bp, h2]; rfl
      exact ⟨this, this⟩⟩
    cases h
   case min =>
    rw [KS] at h
    split at h
    .rename_i kk n rest hl
     obtain ⟨m, h1, h2⟩ := WI h
     exact ⟨_, _, _, h1, fun P A dst K hk => by
      have : BE P A AD ⟨nt, sl, hp, c⟩ dst (.call ⟨.builtin .min, args, ts⟩) K := by
       simp only [BE, I1]
       simp only [hev] at hl
       refine AS.2 ⟨(kk, m), ?_, hk⟩
       show Bp _ (args.toList.map fun x => St.eval _ x) = _
       rw [hl]
       simp only [Bp, h2]; rfl
      exact ⟨this, this⟩⟩
    cases h
end
end Go.E
/- Runs of operations (Fw, Fx), loops and joins told by plain Lean (AQ, D9), rules for a walk in step with a plain function. No condition. -/
namespace Go.E
open Go Go.RowKit
section
variable {β : Type}
def Lb : Bool -> Bool -> Bool
 | true, true | false, false => true
 | _, _ => false
theorem Lc {a b : Bool} (h : Lb a b = true) : a = b := by cases a <;> cases b <;> first | rfl | cases h
theorem Nr {a b : Bool} (h : Lb a b = false) : a = !b := by cases a <;> cases b <;> first | rfl | cases h
def Fw (AD : A5) : Nat -> List H8 -> Nat -> List (Nat × LV) -> AP -> Nat -> Option (List H8 × St)
 | 0, ms, nt, sl, h, c => some (ms, ⟨nt, sl, h, c⟩)
 | _ + 1, [], _, _, _, _ => none
 | n + 1, m :: ms, nt, sl, h, c => match m with
  | ⟨dst, op, g⟩ => match g with
   | none => Fv AD nt sl h c op fun l h' c' => match dst with
    | some t => Fw AD n ms nt ((t, l) :: sl) h' c'
    | none => Fw AD n ms nt sl h' c'
   | some (some d, want) => match BF nt sl (.tmp d) with
    | .p (.bool b) => match Lb b want with
     | true => Fv AD nt sl h c op fun l h' c' => match dst with
      | some t => Fw AD n ms nt ((t, l) :: sl) h' c'
      | none => Fw AD n ms nt sl h' c'
     | false => match dst with
      | some t => Fw AD n ms nt ((t, .und) :: sl) h c
      | none => Fw AD n ms nt sl h c
    | .und => match dst with
     | some t => Fw AD n ms nt ((t, .und) :: sl) h c
     | none => Fw AD n ms nt sl h c
    | _ => none
   | some (none, _) => none
def Ij (AD : A5) : List H8 -> Nat -> List (Nat × LV) -> AP -> Nat -> Option St
 | [], nt, sl, h, c => some ⟨nt, sl, h, c⟩
 | m :: ms, nt, sl, h, c => match m with
  | ⟨dst, op, g⟩ => match g with
   | none => Fv AD nt sl h c op fun l h' c' => match dst with
    | some t => Ij AD ms nt ((t, l) :: sl) h' c'
    | none => Ij AD ms nt sl h' c'
   | some (some d, want) => match BF nt sl (.tmp d) with
    | .p (.bool b) => match Lb b want with
     | true => Fv AD nt sl h c op fun l h' c' => match dst with
      | some t => Ij AD ms nt ((t, l) :: sl) h' c'
      | none => Ij AD ms nt sl h' c'
     | false => match dst with
      | some t => Ij AD ms nt ((t, .und) :: sl) h c
      | none => Ij AD ms nt sl h c
    | .und => match dst with
     | some t => Ij AD ms nt ((t, .und) :: sl) h c
     | none => Ij AD ms nt sl h c
    | _ => none
   | some (none, _) => none
def Fx (AD : A5) (base : Nat) : Nat -> List (Nat × H8) -> Nat -> List (Nat × LV) -> AP -> Option (List (Nat × H8) × List (Nat × LV) × AP)
 | 0, ms, _, sl, h => some (ms, sl, h)
 | _ + 1, [], _, _, _ => none
 | n + 1, m :: ms, nt, sl, h => match m with
  | (i, ⟨dst, op, g⟩) => match g with
   | none => Fv AD nt sl h (base + i) op fun l h' _ => match dst with
    | some t => Fx AD base n ms nt ((t, l) :: sl) h'
    | none => Fx AD base n ms nt sl h'
   | some (some d, want) => match BF nt sl (.tmp d) with
    | .p (.bool b) => match Lb b want with
     | true => Fv AD nt sl h (base + i) op fun l h' _ => match dst with
      | some t => Fx AD base n ms nt ((t, l) :: sl) h'
      | none => Fx AD base n ms nt sl h'
     | false => match dst with
      | some t => Fx AD base n ms nt ((t, .und) :: sl) h
      | none => Fx AD base n ms nt sl h
    | .und => match dst with
     | some t => Fx AD base n ms nt ((t, .und) :: sl) h
     | none => Fx AD base n ms nt sl h
    | _ => none
   | some (none, _) => none
def Fy (AD : A5) (base : Nat) : List (Nat × H8) -> Nat -> List (Nat × LV) -> AP -> Option (List (Nat × LV) × AP)
 | [], _, sl, h => some (sl, h)
 | m :: ms, nt, sl, h => match m with
  | (i, ⟨dst, op, g⟩) => match g with
   | none => Fv AD nt sl h (base + i) op fun l h' _ => match dst with
    | some t => Fy AD base ms nt ((t, l) :: sl) h'
    | none => Fy AD base ms nt sl h'
   | some (some d, want) => match BF nt sl (.tmp d) with
    | .p (.bool b) => match Lb b want with
     | true => Fv AD nt sl h (base + i) op fun l h' _ => match dst with
      | some t => Fy AD base ms nt ((t, l) :: sl) h'
      | none => Fy AD base ms nt sl h'
     | false => match dst with
      | some t => Fy AD base ms nt ((t, .und) :: sl) h
      | none => Fy AD base ms nt sl h
    | .und => match dst with
     | some t => Fy AD base ms nt ((t, .und) :: sl) h
     | none => Fy AD base ms nt sl h
    | _ => none
   | some (none, _) => none
end
section
variable {P : Program} {A : BD} {AD : A5} {f : St -> Prop} {hf : H5 f} {nt : Nat} {sl : List (Nat × LV)} {h : AP} {c : Nat}
theorem Ps {dst : Option Tmp} {l : LV} {h' : AP} {c' : Nat} : (⟨nt, sl, h, c⟩ : St).go dst l h' c' = match dst with | some t => ⟨nt, (t, l) :: sl, h', c'⟩ | none => ⟨nt, sl, h', c'⟩ := by
 cases dst <;> rfl
theorem rn (n : Nat) {ms ms' : List H8} {st' : St} (hr : Fw AD n ms nt sl h c = some (ms', st')) (k : FR P A AD ⟨f, hf⟩ ms' st') : FR P A AD ⟨f, hf⟩ ms ⟨nt, sl, h, c⟩ := by
  induction n generalizing ms nt sl h c with
  | zero =>
    have : (ms, (⟨nt, sl, h, c⟩ : St)) = (ms', st') := by simpa [Fw] using hr
    cases this; exact k
  | succ n ih =>
    cases ms with
    | nil => simp [Fw] at hr
    | cons m ms =>
      obtain ⟨dst, op, g⟩ := m
      have run : (Fv AD nt sl h c op fun l h' c' => match (generalizing := false) dst with
            | some t => Fw AD n ms nt ((t, l) :: sl) h' c'
            | none => Fw AD n ms nt sl h' c') = some (ms', st') -> BE P A AD ⟨nt, sl, h, c⟩ dst op ⟨FR P A AD ⟨f, hf⟩ ms, ⟨⟩⟩ := fun hs => by
        obtain ⟨l, h', c', h1, h2⟩ := IA hs
        refine (h2 P A dst _ ?_).1
        rw [Ps]
        cases dst with
        | some t => exact ih h1
        | none => exact ih h1
      have skip : (match (generalizing := false) dst with
          | some t => Fw AD n ms nt ((t, .und) :: sl) h c
          | none => Fw AD n ms nt sl h c) = some (ms', st') -> FR P A AD ⟨f, hf⟩ ms ((⟨nt, sl, h, c⟩ : St).put dst .und) := fun hs => by
        cases dst with
        | some t => exact ih hs
        | none => exact ih hs
      simp only [Fw] at hr
      cases g with
      | none => exact run hr
      | some g =>
        obtain ⟨d, want⟩ := g
        cases d with
        | none => simp at hr
        | some d =>
          simp only at hr
          simp only [FR, GD, <- BH (h := h) (c := c)]
          generalize BF nt sl (.tmp d) = v at hr ⊢
          split at hr
          . rename_i b
            split at hr
            . rename_i hb
              refine ⟨fun _ => run hr, fun e => ?_⟩
              rw [Lc hb] at e; cases want <;> cases e
            rename_i hb
            refine ⟨fun e => ?_, fun _ => skip hr⟩
            rw [Nr hb] at e; cases want <;> cases e
          . exact skip hr
          cases hr
theorem rl {ms : List H8} {st' : St} (hr : Ij AD ms nt sl h c = some st') (k : f st') : FR P A AD ⟨f, hf⟩ ms ⟨nt, sl, h, c⟩ := by
  induction ms generalizing nt sl h c with
  | nil =>
    have : (⟨nt, sl, h, c⟩ : St) = st' := by simpa [Ij] using hr
    subst this; exact ⟨k⟩
  | cons m ms ih =>
      obtain ⟨dst, op, g⟩ := m
      have run : (Fv AD nt sl h c op fun l h' c' => match (generalizing := false) dst with
            | some t => Ij AD ms nt ((t, l) :: sl) h' c'
            | none => Ij AD ms nt sl h' c') = some st' -> BE P A AD ⟨nt, sl, h, c⟩ dst op ⟨FR P A AD ⟨f, hf⟩ ms, ⟨⟩⟩ := fun hs => by
        obtain ⟨l, h', c', h1, h2⟩ := IA hs
        refine (h2 P A dst _ ?_).1
        rw [Ps]
        cases dst with
        | some t => exact ih h1
        | none => exact ih h1
      have skip : (match (generalizing := false) dst with
          | some t => Ij AD ms nt ((t, .und) :: sl) h c
          | none => Ij AD ms nt sl h c) = some st' -> FR P A AD ⟨f, hf⟩ ms ((⟨nt, sl, h, c⟩ : St).put dst .und) := fun hs => by
        cases dst with
        | some t => exact ih hs
        | none => exact ih hs
      simp only [Ij] at hr
      cases g with
      | none => exact run hr
      | some g =>
        obtain ⟨d, want⟩ := g
        cases d with
        | none => simp at hr
        | some d =>
          simp only at hr
          simp only [FR, GD, <- BH (h := h) (c := c)]
          generalize BF nt sl (.tmp d) = v at hr ⊢
          split at hr
          . rename_i b
            split at hr
            . rename_i hb
              refine ⟨fun _ => run hr, fun e => ?_⟩
              rw [Lc hb] at e; cases want <;> cases e
            rename_i hb
            refine ⟨fun e => ?_, fun _ => skip hr⟩
            rw [Nr hb] at e; cases want <;> cases e
          . exact skip hr
          cases hr
theorem Av (n : Nat) {base m : Nat} {ms ms' : List (Nat × H8)} {sl' : List (Nat × LV)} {h' : AP} (hr : Fx AD base n ms nt sl h = some (ms', sl', h')) (k : DI P A AD base m ⟨f, hf⟩ ms' ⟨nt, sl', h', c⟩) : DI P A AD base m ⟨f, hf⟩ ms ⟨nt, sl, h, c⟩ := by
  induction n generalizing ms sl h with
  | zero =>
    have : (ms, sl, h) = (ms', sl', h') := by simpa [Fx] using hr
    cases this; exact k
  | succ n ih =>
    cases ms with
    | nil => simp [Fx] at hr
    | cons p ms =>
      obtain ⟨i, dst, op, g⟩ := p
      have at_ : ∀ {sl h c'} , DI P A AD base m ⟨f, hf⟩ ms ⟨nt, sl, h, c⟩ -> DI P A AD base m ⟨f, hf⟩ ms ⟨nt, sl, h, c'⟩ := fun {sl h c'} hd => by
        have := RH (P := P) (A := A) (AD := AD) base m ⟨f, hf⟩ ms ⟨nt, sl, h, c⟩ c'
        rw [<- this] at hd; exact hd
      have run : (Fv AD nt sl h (base + i) op fun l h' c' => match (generalizing := false) dst with
            | some t => Fx AD base n ms nt ((t, l) :: sl) h'
            | none => Fx AD base n ms nt sl h') = some (ms', sl', h') -> KO P A AD ((⟨nt, sl, h, c⟩ : St).at (base + i)) dst op ⟨DI P A AD base m ⟨f, hf⟩ ms, ⟨⟩⟩ := fun hs => by
        obtain ⟨l, h', c', h1, h2⟩ := IA hs
        refine (h2 P A dst _ ?_).2
        rw [Ps]
        cases dst with
        | some t => exact at_ (ih h1)
        | none => exact at_ (ih h1)
      have skip : (match (generalizing := false) dst with
          | some t => Fx AD base n ms nt ((t, .und) :: sl) h
          | none => Fx AD base n ms nt sl h) = some (ms', sl', h') -> DI P A AD base m ⟨f, hf⟩ ms ((⟨nt, sl, h, c⟩ : St).put dst .und) := fun hs => by
        cases dst with
        | some t => exact ih hs
        | none => exact ih hs
      simp only [Fx] at hr
      cases g with
      | none => exact run hr
      | some g =>
        obtain ⟨d, want⟩ := g
        cases d with
        | none => simp at hr
        | some d =>
          simp only at hr
          simp only [DI, GD, <- BH (h := h) (c := c)]
          generalize BF nt sl (.tmp d) = v at hr ⊢
          split at hr
          . rename_i b
            split at hr
            . rename_i hb
              refine ⟨fun _ => run hr, fun e => ?_⟩
              rw [Lc hb] at e; cases want <;> cases e
            rename_i hb
            refine ⟨fun e => ?_, fun _ => skip hr⟩
            rw [Nr hb] at e; cases want <;> cases e
          . exact skip hr
          cases hr
theorem BN {base m : Nat} {ms : List (Nat × H8)} {sl' : List (Nat × LV)} {h' : AP} (hr : Fy AD base ms nt sl h = some (sl', h')) (k : f ⟨nt, sl', h', base + m⟩) : DI P A AD base m ⟨f, hf⟩ ms ⟨nt, sl, h, c⟩ := by
  induction ms generalizing sl h with
  | nil =>
    have : (sl, h) = (sl', h') := by simpa [Fy] using hr
    cases this; exact ⟨k⟩
  | cons p ms ih =>
      obtain ⟨i, dst, op, g⟩ := p
      have at_ : ∀ {sl h c'} , DI P A AD base m ⟨f, hf⟩ ms ⟨nt, sl, h, c⟩ -> DI P A AD base m ⟨f, hf⟩ ms ⟨nt, sl, h, c'⟩ := fun {sl h c'} hd => by
        have := RH (P := P) (A := A) (AD := AD) base m ⟨f, hf⟩ ms ⟨nt, sl, h, c⟩ c'
        rw [<- this] at hd; exact hd
      have run : (Fv AD nt sl h (base + i) op fun l h' c' => match (generalizing := false) dst with
            | some t => Fy AD base ms nt ((t, l) :: sl) h'
            | none => Fy AD base ms nt sl h') = some (sl', h') -> KO P A AD ((⟨nt, sl, h, c⟩ : St).at (base + i)) dst op ⟨DI P A AD base m ⟨f, hf⟩ ms, ⟨⟩⟩ := fun hs => by
        obtain ⟨l, h', c', h1, h2⟩ := IA hs
        refine (h2 P A dst _ ?_).2
        rw [Ps]
        cases dst with
        | some t => exact at_ (ih h1)
        | none => exact at_ (ih h1)
      have skip : (match (generalizing := false) dst with
          | some t => Fy AD base ms nt ((t, .und) :: sl) h
          | none => Fy AD base ms nt sl h) = some (sl', h') -> DI P A AD base m ⟨f, hf⟩ ms ((⟨nt, sl, h, c⟩ : St).put dst .und) := fun hs => by
        cases dst with
        | some t => exact ih hs
        | none => exact ih hs
      simp only [Fy] at hr
      cases g with
      | none => exact run hr
      | some g =>
        obtain ⟨d, want⟩ := g
        cases d with
        | none => simp at hr
        | some d =>
          simp only at hr
          simp only [DI, GD, <- BH (h := h) (c := c)]
          generalize BF nt sl (.tmp d) = v at hr ⊢
          split at hr
          . rename_i b
            split at hr
            . rename_i hb
              refine ⟨fun _ => run hr, fun e => ?_⟩
              rw [Lc hb] at e; cases want <;> cases e
            rename_i hb
            refine ⟨fun e => ?_, fun _ => skip hr⟩
            rw [Nr hb] at e; cases want <;> cases e
          . exact skip hr
          cases hr
end
end Go.E
/- Rules for a walk in step with a plain function. No condition. -/
namespace Go.E
open Go Go.RowKit
def UK : List Nat -> Nat -> Bool
 | [], _ => false
 | x :: l, t => match Nat.beq t x with
  | true => true
  | false => UK l t
theorem WJ : ∀ {l : List Nat} {t : Nat}, UK l t = true ↔ t ∈ l
 | [], t => by simp [UK]
 | x :: l, t => by
  simp only [UK, List.mem_cons]
  split
  .rename_i h; have := Nat.eq_of_beq_eq_true h; subst this; simp
  rename_i h
  have hne : t ≠ x := by rintro rfl; simp at h
  rw [WJ]; simp [hne]
theorem ZJ {P : Program} {l : List (Nat × TI)} (h : (l.map fun p => W1 P p.1) = l.map fun p => some p.2) : Ox P (fun t => Bf t l) := by
 have := UE h
 intro t ti ht
 exact this t ti (by simpa only [BM] using ht)
section
variable {α β γ : Type}
theorem bd {o : Option α} {f : α -> Option β} {b : β} (h : o.bind f = some b) : ∃ a, o = some a /\ f a = some b := Option.bind_eq_some_iff.1 h
def AY (l : List α) (n : Int) : Option α := match n with
 | .ofNat k => l[k]?
 | .negSucc _ => none
theorem Fz {l : List α} {n : Int} {y : α} (h : AY l n = some y) : 0 <= n /\ n.toNat < l.length /\ l[n.toNat]? = some y := by
 cases n with
 | ofNat k => exact ⟨Int.natCast_nonneg k, (List.getElem?_eq_some_iff.1 h).1, h⟩
 | negSucc k => cases h
def Kn (s : ByteArray) (n : Int) : Option UInt8 := match n with
 | .ofNat k => s[k]?
 | .negSucc _ => none
def Kx (l : List α) (lo hi : Int) : Option (List α) := if 0 <= lo /\ lo <= hi /\ hi <= l.length then some ((l.take hi.toNat).drop lo.toNat) else none
def Bt (l m : List α) : Option (List α) := if l.length + m.length <= 4294967296 then some (l ++ m) else none
def A4 (l : List α) (n : Int) (z : α) : List α := l.set n.toNat z
def FJ (step : α -> Option (α ⊕ β)) : Nat -> α -> Option β
 | 0, _ => none
 | n + 1, s => match step s with
  | none => none
  | some (.inl s') => FJ step n s'
  | some (.inr b) => some b
theorem O6 {step : α -> Option (α ⊕ β)} : ∀ {n m : Nat} {s : α} {b : β}, FJ step n s = some b -> FJ step (n + m) s = some b
 | 0, _, _, _, h => by cases h
 | n + 1, m, s, b, h => by
  rw [show n + 1 + m = (n + m) + 1 by omega]
  simp only [FJ] at h ⊢
  split at h
  .cases h
  .exact O6 h
  exact h
open Classical in
noncomputable def RK (step : α -> Option (α ⊕ β)) (s : α) : Option β := if h : ∃ b n, FJ step n s = some b then some h.choose else none
noncomputable def AQ (step : α -> Option (α ⊕ β)) (s : α) : Option β := match FJ step 18446744073709551616 s with
 | some b => some b
 | none => RK step s
theorem UL {step : α -> Option (α ⊕ β)} {n : Nat} {s : α} {b : β} (h : FJ step n s = some b) : RK step s = some b := by
 have hex : ∃ b n, FJ step n s = some b := ⟨b, n, h⟩
 unfold RK
 rw [dif_pos hex]
 obtain ⟨m, hm⟩ := hex.choose_spec
 have h1 := O6 (m := m) h
 have h2 := O6 (m := n) hm
 rw [show m + n = n + m by omega, h1] at h2
 exact h2.symm
theorem WK (step : α -> Option (α ⊕ β)) (s : α) : AQ step s = RK step s := by
 unfold AQ
 split
 .rename_i h; exact (UL h).symm
 rfl
theorem Qe {step : α -> Option (α ⊕ β)} {n : Nat} {s : α} {b : β} (h : FJ step n s = some b) : AQ step s = some b := by
 rw [WK]; exact UL h
theorem K3 {step : α -> Option (α ⊕ β)} {s : α} {b : β} (h : AQ step s = some b) : ∃ n, FJ step n s = some b := by
 rw [WK] at h
 unfold RK at h
 split at h
 .rename_i hex
  obtain ⟨m, hm⟩ := hex.choose_spec
  simp only [Option.some.injEq] at h
  rw [h] at hm
  exact ⟨m, hm⟩
 cases h
theorem G8 (step : α -> Option (α ⊕ β)) (s : α) : AQ step s = match step s with
  | none => none
  | some (.inl s') => AQ step s'
  | some (.inr b) => some b := by
 cases hs : step s with
 | none =>
  cases hl : AQ step s with
  | none => rfl
  | some b =>
   obtain ⟨n, hn⟩ := K3 hl
   cases n with
   | zero => cases hn
   | succ n => simp [FJ, hs] at hn
 | some r =>
  cases r with
  | inl s' =>
   simp only
   cases hl : AQ step s' with
   | some b => obtain ⟨n, hn⟩ := K3 hl; exact Qe (n := n + 1) (by simp only [FJ, hs]; exact hn)
   | none =>
    cases hl' : AQ step s with
    | none => rfl
    | some b =>
     obtain ⟨n, hn⟩ := K3 hl'
     cases n with
     | zero => cases hn
     | succ n =>
      simp only [FJ, hs] at hn
      rw [Qe hn] at hl; cases hl
  | inr b => exact Qe (n := 1) (by simp [FJ, hs])
def D9 (sp : Option (α ⊕ β)) (rest : α -> Option β) : Option β := match sp with
 | none => none
 | some (.inl t) => rest t
 | some (.inr b) => some b
def I4 (o : Option α) (a : Option β) (b : α -> Option β) : Option β := match o with
 | none => a
 | some x => b x
theorem UM {a : Option β} {b : α -> Option β} {r : Option β} (h : I4 none a b = r) : a = r := h
theorem UN {x : α} {a : Option β} {b : α -> Option β} {r : Option β} (h : I4 (some x) a b = r) : b x = r := h
end
section
variable {P : Program} {A : BD} {AD : A5} {st : St} {σ Ans : Type}
def LP (A : BD) (S : σ -> St) (Q : Ans -> Exit -> St -> Prop) : σ ⊕ Ans -> Exit -> St -> Prop
 | .inl s, e, st => e = .normal /\ A9 A st (S s)
 | .inr a, e, st => e ≠ .normal /\ Q a e st
theorem lp {c : Code} {Q : Ans -> Exit -> St -> Prop} {a : Ans} (I : σ -> St) {step : σ -> Option (σ ⊕ Ans)} {s0 : σ} (h : AQ step s0 = some a) (hw : A9 A st (I s0))
  (hb : ∀ s b, step s = some b -> B2 P A c (LP A I Q b) (I s)) : B2 P A (.loop c) (Q a) st := by
 obtain ⟨n, hn⟩ := K3 h
 refine Yw (ι := Nat × σ) (fun i s => FJ step i.1 i.2 = some a /\ A9 A s (I i.2)) (fun i => i.1) (n, s0) ⟨hn, hw⟩ ?_
 rintro ⟨n, s⟩ st' ⟨hi, hws⟩
 refine LW hws ?_
 cases n with
 | zero => cases hi
 | succ n =>
  simp only [FJ] at hi
  cases hs : step s with
  | none => rw [hs] at hi; cases hi
  | some r =>
   rw [hs] at hi
   refine LJ (hb s r hs) fun e st'' q => ?_
   cases r with
   | inl s' =>
    obtain ⟨he, hw'⟩ := q
    subst he
    exact ⟨(n, s'), ⟨hi, hw'⟩, Nat.lt_succ_self n⟩
   | inr a' =>
    obtain ⟨he, hq⟩ := q
    simp only [Option.some.injEq] at hi
    subst hi
    cases e <;> first | exact absurd rfl he | exact hq
theorem jn {x y : Code} {Q : Ans -> Exit -> St -> Prop} {a : Ans} (S : σ -> St) {sp : Option (σ ⊕ Ans)} {rest : σ -> Option Ans} (h : D9 sp rest = some a)
  (hx : ∀ b, sp = some b -> B2 P A x (LP A S Q b) st) (hy : ∀ t, rest t = some a -> B2 P A y (Q a) (S t)) : B2 P A (.seq x y) (Q a) st := by
 refine AB ?_
 cases hs : sp with
 | none => rw [hs] at h; cases h
 | some r =>
  rw [hs] at h
  refine LJ (hx r hs) fun e st' q => ?_
  cases r with
  | inl t =>
   obtain ⟨he, hw⟩ := q
   subst he
   exact LW hw (hy t h)
  | inr a' =>
   obtain ⟨he, hq⟩ := q
   simp only [D9, Option.some.injEq] at h
   subst h
   cases e <;> first | exact absurd rfl he | exact hq
def NP (A : BD) (S : σ -> St) (s : σ) (e : Exit) (st : St) : Prop := e = .normal /\ A9 A st (S s)
theorem jb {x y : Code} {Q : Exit -> St -> Prop} {a : Ans} (S : σ -> St) {sp : Option σ} {rest : σ -> Option Ans} (h : sp.bind rest = some a)
  (hx : ∀ t, sp = some t -> B2 P A x (NP A S t) st) (hy : ∀ t, rest t = some a -> B2 P A y Q (S t)) : B2 P A (.seq x y) Q st := by
 obtain ⟨t, h1, h2⟩ := bd h
 refine AB (LJ (hx t h1) fun e st' q => ?_)
 obtain ⟨he, hw⟩ := q
 subst he
 exact LW hw (hy t h2)
theorem rg (hE : BC P AD) {id : Nat} {ops : List Oper} {Q : Exit -> St -> Prop} (k : FR P A AD ⟨Q .normal, ⟨⟩⟩ (ops.map (Ou ops)) st) : B2 P A (.region id ops.toArray false) Q st := ZB hE rfl k
theorem rs (hE : BC P AD) {id : Nat} {ops : List Oper} {y : Code} {Q : Exit -> St -> Prop} (k : FR P A AD ⟨B2 P A y Q, ⟨⟩⟩ (ops.map (Ou ops)) st) : B2 P A (.seq (.region id ops.toArray false) y) Q st := AAE hE rfl k
theorem B3 (hE : BC P AD) (hm : P.follows .mixedOrders = true) {id : Nat} {ops : List Oper} {Q : Exit -> St -> Prop} {nt : Nat} {sl : List (Nat × LV)} {h : AP} {c : Nat} (order : List Nat) (n : Nat)
  (hok : Iz false AD.own .any ops.toArray order (Array.replicate ops.length false) = true) (hl : Nat.beq order.length ops.length = true) (hb : (order.all fun i => Nat.blt i ops.length) = true) (hn : Nat.beq ops.length n = true)
  (k : DI P A AD c n ⟨Q .normal, ⟨⟩⟩ (Gp ops order) ⟨nt, sl, h, c⟩) : B2 P A (.region id ops.toArray true) Q ⟨nt, sl, h, c⟩ := by
 have hb' : (order.all fun i => decide (i < ops.length)) = true := by
  rw [List.all_eq_true] at hb ⊢
  intro i hi
  have := Nat.le_of_ble_eq_true (hb i hi)
  simp only [decide_eq_true_eq]; omega
 have hn' := Nat.eq_of_beq_eq_true hn
 subst hn'
 exact Jc false (fun h => by cases h) hE hm hok (Nat.eq_of_beq_eq_true hl) (KP order _ hb' k)
theorem cd {x : Operand} {cx cy : Code} {Q : Exit -> St -> Prop} {nt : Nat} {sl : List (Nat × LV)} {h : AP} {c : Nat} {b : Bool} {p q : Option Ans} {a : Ans} (hb : BF nt sl x = .p (.bool b)) (hh : cond b p q = some a)
  (hx : p = some a -> B2 P A cx Q ⟨nt, sl, h, c⟩) (hy : q = some a -> B2 P A cy Q ⟨nt, sl, h, c⟩) : B2 P A (.cond x cx cy) Q ⟨nt, sl, h, c⟩ := by
 refine QX (b := b) (by rw [<- BH]; exact hb) (fun e => ?_) (fun e => ?_)
 .subst e; exact hx hh
 subst e; exact hy hh
theorem RL {x : Operand} {cx cy : Code} {Q : Exit -> St -> Prop} {nt : Nat} {sl : List (Nat × LV)} {h : AP} {c : Nat} (hb : BF nt sl x = .p (.bool true)) (hx : B2 P A cx Q ⟨nt, sl, h, c⟩) : B2 P A (.cond x cx cy) Q ⟨nt, sl, h, c⟩ :=
 QX (b := true) (by rw [<- BH]; exact hb) (fun _ => hx) (fun e => by cases e)
theorem Sr {x : Operand} {cx cy : Code} {Q : Exit -> St -> Prop} {nt : Nat} {sl : List (Nat × LV)} {h : AP} {c : Nat} (hb : BF nt sl x = .p (.bool false)) (hx : B2 P A cy Q ⟨nt, sl, h, c⟩) : B2 P A (.cond x cx cy) Q ⟨nt, sl, h, c⟩ :=
 QX (b := false) (by rw [<- BH]; exact hb) (fun e => by cases e) (fun _ => hx)
end
end Go.E
/- Rules for single operations of a walk in step with a plain function. No condition. -/
namespace Go.E
open Go Go.RowKit
section
variable {β : Type}
def W3 (t : Nat) (v : LV) : List (Nat × LV) -> (List (Nat × LV) -> Option β) -> Option β
 | [], _ => none
 | (q, u) :: l, k => match Nat.beq t q with
  | true => k ((q, v) :: l)
  | false => W3 t v l (fun r => k ((q, u) :: r))
theorem WL {t : Nat} {v : LV} : ∀ {l : List (Nat × LV)} {k : List (Nat × LV) -> Option β} {y : β}, Bf t l = some v -> W3 t v l k = some y -> k l = some y
 | [], _, _, h, _ => by simp [Bf] at h
 | (q, u) :: l, k, y, h, hr => by
  simp only [Bf] at h
  simp only [W3] at hr
  split at h
  .rename_i hb
   rw [hb] at hr
   simp only [Option.some.injEq] at h
   subst h; exact hr
  rename_i hb
  rw [hb] at hr
  exact WL (k := fun r => k ((q, u) :: r)) h hr
def YC (t : Nat) (v : LV) (l : List (Nat × LV)) : Option (List (Nat × LV)) := W3 t v l some
theorem RM {t : Nat} {v : LV} {l l' : List (Nat × LV)} (h : Bf t l = some v) (hr : YC t v l = some l') : l = l' := by
 have := WL h hr
 simpa using this
theorem Ns {nt t : Nat} {sl : List (Nat × LV)} {d : DV} (h : BF nt sl (.tmp t) = .p d) : Bf t sl = some (.p d) := by
 simp only [BF] at h
 split at h
 .split at h
  .subst h; assumption
  cases h
 cases h
def Zu (nt : Nat) (sl : List (Nat × LV)) : Option (Option Tmp × Bool) -> Bool
 | none => true
 | some (some d, want) => match BF nt sl (.tmp d) with
  | .p (.bool b) => Lb b want
  | _ => false
 | some (none, _) => false
theorem UO {nt : Nat} {sl : List (Nat × LV)} {d : Tmp} {want : Bool} (h : Zu nt sl (some (some d, want)) = true) : BF nt sl (.tmp d) = .p (.bool want) := by
 simp only [Zu] at h
 split at h
 .rename_i b hb; rw [hb, Lc h]
 cases h
end
section
variable {P : Program} {A : BD} {AD : A5} {f : St -> Prop} {hf : H5 f} {nt : Nat} {sl : List (Nat × LV)} {h : AP} {c : Nat} {Ans : Type}
theorem gs (t : Nat) {ms : List H8} {b : Bool} {p q : Option Ans} {a : Ans} {slT slF : List (Nat × LV)} (hh : cond b p q = some a) (hv : BF nt sl (.tmp t) = .p (.bool b))
  (hT : YC t (.p (.bool true)) sl = some slT) (hF : YC t (.p (.bool false)) sl = some slF)
  (hx : p = some a -> FR P A AD ⟨f, hf⟩ ms ⟨nt, slT, h, c⟩) (hy : q = some a -> FR P A AD ⟨f, hf⟩ ms ⟨nt, slF, h, c⟩) : FR P A AD ⟨f, hf⟩ ms ⟨nt, sl, h, c⟩ := by
 cases b with
 | true => rw [RM (Ns hv) hT]; exact hx hh
 | false => rw [RM (Ns hv) hF]; exact hy hh
theorem FF (t : Nat) {base m : Nat} {ms : List (Nat × H8)} {b : Bool} {p q : Option Ans} {a : Ans} {slT slF : List (Nat × LV)} (hh : cond b p q = some a) (hv : BF nt sl (.tmp t) = .p (.bool b))
  (hT : YC t (.p (.bool true)) sl = some slT) (hF : YC t (.p (.bool false)) sl = some slF)
  (hx : p = some a -> DI P A AD base m ⟨f, hf⟩ ms ⟨nt, slT, h, c⟩) (hy : q = some a -> DI P A AD base m ⟨f, hf⟩ ms ⟨nt, slF, h, c⟩) : DI P A AD base m ⟨f, hf⟩ ms ⟨nt, sl, h, c⟩ := by
 cases b with
 | true => rw [RM (Ns hv) hT]; exact hx hh
 | false => rw [RM (Ns hv) hF]; exact hy hh
theorem sx {dst : Option Tmp} {op : Op} {g : Option (Option Tmp × Bool)} {rest : List H8} (hg : Zu nt sl g = true) (k : BE P A AD ⟨nt, sl, h, c⟩ dst op ⟨FR P A AD ⟨f, hf⟩ rest, ⟨⟩⟩) :
  FR P A AD ⟨f, hf⟩ (⟨dst, op, g⟩ :: rest) ⟨nt, sl, h, c⟩ := by
 cases g with
 | none => exact k
 | some g =>
  obtain ⟨d, want⟩ := g
  cases d with
  | none => cases hg
  | some d =>
   have := UO hg
   simp only [FR, GD, <- BH (h := h) (c := c), this, gM, gW]
   exact ⟨fun _ => k, fun e => by cases want <;> cases e⟩
theorem Au {base m i : Nat} {dst : Option Tmp} {op : Op} {g : Option (Option Tmp × Bool)} {rest : List (Nat × H8)} (hg : Zu nt sl g = true) (k : KO P A AD ⟨nt, sl, h, base + i⟩ dst op ⟨DI P A AD base m ⟨f, hf⟩ rest, ⟨⟩⟩) :
  DI P A AD base m ⟨f, hf⟩ ((i, ⟨dst, op, g⟩) :: rest) ⟨nt, sl, h, c⟩ := by
 cases g with
 | none => exact k
 | some g =>
  obtain ⟨d, want⟩ := g
  cases d with
  | none => cases hg
  | some d =>
   have := UO hg
   simp only [DI, GD, <- BH (h := h) (c := c), this, gM, gW]
   exact ⟨fun _ => k, fun e => by cases want <;> cases e⟩
def AAM : Op -> Bool
 | .binOp .. | .call _ | .range .. | .next .. | .entry .. | .load .. | .store .. => false
 | _ => true
theorem Am {st : St} {dst : Option Tmp} {op : Op} {K : A6 St} (hp : AAM op = true) (k : BE P A AD st dst op K) : KO P A AD st dst op K := by
 cases op <;> first | exact k | cases hp
theorem G9 {nt : Nat} {sl : List (Nat × LV)} {h : AP} {c : Nat} {dst : Option Tmp} {t : TypeId} {x : Operand} {K : A6 St} (hc : Mr AD.calm (BF nt sl x) = true) (k : BE P A AD ⟨nt, sl, h, c⟩ dst (.load t x) K) : KO P A AD ⟨nt, sl, h, c⟩ dst (.load t x) K := ⟨by rw [<- BH (h := h) (c := c)]; exact hc, k⟩
theorem Mz {nt : Nat} {sl : List (Nat × LV)} {h : AP} {c : Nat} {dst : Option Tmp} {t : TypeId} {x v : Operand} {K : A6 St} (hc : LL AD.calm (BF nt sl x) = true) (k : BE P A AD ⟨nt, sl, h, c⟩ dst (.store t x v) K) : KO P A AD ⟨nt, sl, h, c⟩ dst (.store t x v) K := ⟨by rw [<- BH (h := h) (c := c)]; exact hc, k⟩
theorem Jg {nt : Nat} {sl : List (Nat × LV)} {h : AP} {c : Nat} {dst : Option Tmp} {args : Array Operand} {ts : Array TypeId} {K : A6 St} (hc : (match args.toList with | s :: _ => Q7 AD.calm (BF nt sl s) | [] => false) = true) (k : BE P A AD ⟨nt, sl, h, c⟩ dst (.call ⟨.builtin .append, args, ts⟩) K) : KO P A AD ⟨nt, sl, h, c⟩ dst (.call ⟨.builtin .append, args, ts⟩) K := by
 unfold KO
 simp only
 split
 all_goals simp_all
 rw [<- BH (h := h) (c := c)]; exact hc
def RN (AD : A5) (t : Nat) : Bool := match AD.tt t with
 | some ti => match ti.sh with
  | .slc _ => true
  | _ => false
 | none => false
def W4 (AD : A5) (t : Nat) : Bool := match AD.tt t with
 | some ti => match ti.sh with
  | .str => true
  | _ => false
 | none => false
theorem ZK {t : Nat} (h : W4 AD t = true) : ∃ ti, AD.tt t = some ti /\ ti.sh = .str := by
 unfold W4 at h
 split at h
 .rename_i ti hti
  split at h
  .rename_i he; exact ⟨ti, hti, he⟩
  cases h
 cases h
theorem Qf {t : Nat} (h : RN AD t = true) : ∃ ti e, AD.tt t = some ti /\ ti.sh = .slc e := by
 unfold RN at h
 split at h
 .rename_i ti hti
  split at h
  .rename_i e he; exact ⟨ti, e, hti, he⟩
  cases h
 cases h
def Nt (AD : A5) (t sz : Nat) : Bool := match AD.tt t with
 | some ti => match ti.sh with
  | .slc e => match AD.tt e with
   | some te => Nat.beq te.size sz
   | none => false
  | _ => false
 | none => false
theorem Nu {t sz : Nat} (h : Nt AD t sz = true) : ∃ ti e te, AD.tt t = some ti /\ ti.sh = .slc e /\ AD.tt e = some te /\ te.size = sz := by
 unfold Nt at h
 split at h
 .rename_i ti hti
  split at h
  .rename_i e he
   split at h
   .rename_i te hte; exact ⟨ti, e, te, hti, he, hte, Nat.eq_of_beq_eq_true h⟩
   cases h
  cases h
 cases h
variable {α : Type} {enc : α -> List DV} {l : List α} {d : Tmp} {t sz : Nat} {x : Operand}
theorem Ae (ht : RN AD t = true) (hx : BF nt sl x = .p (.slice sz (l.map enc))) (k : f ⟨nt, (d, .p (.int .i64 l.length)) :: sl, h, c⟩) : BE P A AD ⟨nt, sl, h, c⟩ (some d) (.call ⟨.builtin .len, #[x], #[t]⟩) ⟨f, hf⟩ := by
 obtain ⟨ti, e, h1, h2⟩ := Qf ht
 refine AR.2 ⟨ti, h1, ?_⟩
 rw [BH (h := h) (c := c)] at hx
 dsimp only
 rw [h2, hx]
 intro _
 simp only [List.length_map]
 exact k
theorem KT (ht : RN AD t = true) (hx : BF nt sl x = .p (.slice sz (l.map enc))) (k : f ⟨nt, (d, .p (.int .i64 l.length)) :: sl, h, c⟩) : KO P A AD ⟨nt, sl, h, c⟩ (some d) (.call ⟨.builtin .len, #[x], #[t]⟩) ⟨f, hf⟩ := by
 obtain ⟨ti, e, h1, h2⟩ := Qf ht
 refine AR.2 ⟨ti, h1, ?_⟩
 rw [BH (h := h) (c := c)] at hx
 dsimp only
 rw [h2, hx]
 simp only [Wy, List.length_map]
 exact k
theorem Aj {i : Operand} {kk : IntKind} {n : Int} {y : α} (hy : AY l n = some y) (ht : Nt AD t sz = true) (hx : BF nt sl x = .p (.slice sz (l.map enc))) (hi : BF nt sl i = .p (.int kk n))
  (k : f ⟨nt, (d, .p (.place (enc y) 0)) :: sl, h, c⟩) : BE P A AD ⟨nt, sl, h, c⟩ (some d) (.indexAddr t x i) ⟨f, hf⟩ := by
 obtain ⟨ti, e, te, h1, h2, h3, h4⟩ := Nu ht
 obtain ⟨g1, g2, g3⟩ := Fz hy
 rw [BH (h := h) (c := c)] at hx hi
 refine B8.2 ⟨kk, n, hi, AR.2 ⟨ti, h1, ?_⟩⟩
 dsimp only
 rw [h2, hx]
 exact AR.2 ⟨te, h3, h4, g1, AS.2 ⟨enc y, by rw [List.getElem?_map, g3]; rfl, k⟩⟩
theorem O7 {s : ByteArray} {i : Operand} {kk : IntKind} {n : Int} {y : UInt8} (hy : Kn s n = some y) (ht : W4 AD t = true) (hx : BF nt sl x = .p (.str s)) (hi : BF nt sl i = .p (.int kk n))
  (k : f ⟨nt, (d, .p (.int .u8 y.toNat)) :: sl, h, c⟩) : BE P A AD ⟨nt, sl, h, c⟩ (some d) (.index t x i) ⟨f, hf⟩ := by
 obtain ⟨ti, hti, hsh⟩ := ZK ht
 rw [BH (h := h) (c := c)] at hx hi
 cases n with
 | negSucc n => cases hy
 | ofNat n =>
  refine B8.2 ⟨kk, _, hi, AR.2 ⟨ti, hti, Int.natCast_nonneg n, ?_⟩⟩
  dsimp only
  rw [hsh, hx]
  exact AS.2 ⟨y, hy, k⟩
def O8 (nt : Nat) (sl : List (Nat × LV)) (d : Int) : Option Operand -> Option Int
 | none => some d
 | some o => match BF nt sl o with
  | .p (.int _ n) => some n
  | _ => none
theorem Pt {d n : Int} {x : Option Operand} {k : A6 Int} (hb : O8 nt sl d x = some n) (hk : k.f n) : LQ d (x.map (St.eval ⟨nt, sl, h, c⟩)) k := by
 cases x with
 | none => simp only [O8, Option.some.injEq] at hb; subst hb; exact hk
 | some o =>
  simp only [O8, BH (h := h) (c := c)] at hb
  simp only [Option.map_some]
  split at hb
  .rename_i kk m he
   simp only [Option.some.injEq] at hb
   subst hb
   rw [he]; exact hk
  cases hb
theorem To {lo hi : Option Operand} {n m : Int} {r : List α} (hr : Kx l n m = some r) (ht : Nt AD t sz = true) (hx : BF nt sl x = .p (.slice sz (l.map enc)))
  (hlo : O8 nt sl 0 lo = some n) (hhi : O8 nt sl l.length hi = some m)
  (k : f ⟨nt, (d, .p (.slice sz (r.map enc))) :: sl, h, c⟩) : BE P A AD ⟨nt, sl, h, c⟩ (some d) (.slice t x lo hi none) ⟨f, hf⟩ := by
 obtain ⟨ti, e, te, h1, h2, h3, h4⟩ := Nu ht
 rw [BH (h := h) (c := c)] at hx
 simp only [Kx] at hr
 split at hr
 .rename_i hb
  simp only [Option.some.injEq] at hr
  subst hr
  show LR AD t _ _ _ _
  rw [hx]
  refine AR.2 ⟨ti, h1, B5.2 ⟨e, h2, AR.2 ⟨te, h3, h4, ?_⟩⟩⟩
  rw [List.length_map]
  refine Pt hhi (Pt hlo ⟨hb, ?_⟩)
  rw [<- List.map_take, <- List.map_drop]; exact k
 cases hr
end
end Go.E
/- Rules for single operations: calls, what is appended, made, looked up, set against another. No condition. -/
namespace Go.E
open Go Go.RowKit
inductive L8 : List DV -> List DV -> Prop where
 | nil : L8 [] []
 | cons {a b : DV} {l m : List DV} (h : Le a b) (t : L8 l m) : L8 (a :: l) (b :: m)
theorem Le.rfl {d : DV} : Le d d := fun _ _ _ h => h
theorem L8.rfl : ∀ {l : List DV}, L8 l l
 | [] => .nil
 | _ :: _ => .cons Le.rfl L8.rfl
theorem L8.len {l m : List DV} (h : L8 l m) : l.length = m.length := by induction h with
 | nil => exact Eq.refl _
 | cons _ _ ih => simp [ih]
theorem L8.get {l m : List DV} (h : L8 l m) : ∀ (i : Nat) (a b : DV), l[i]? = some a -> m[i]? = some b -> Le a b := by
 induction h with
 | nil => intro i a b h1; simp at h1
 | cons h _ ih =>
  intro i x y h1 h2
  cases i with
  | zero => simp at h1 h2; subst h1 h2; exact h
  | succ i => exact ih i x y (by simpa using h1) (by simpa using h2)
theorem Le.tup' {l m : List DV} (h : L8 l m) : Le (.tup l) (.tup m) := Le.tup h.len h.get
theorem Le.agg' {l m : List DV} (h : L8 l m) : Le (.agg l) (.agg m) := Le.agg h.len h.get
theorem Le.nilm : Le .nilm (.map []) := fun _ _ _ hv => by cases hv; exact .mnil
theorem Le.own {α : Type} {enc : α -> List DV} {l : List α} {sz : Nat} : Le (.slice sz (((l.map enc).drop 0).take l.length)) (.slice sz (l.map enc)) := Le.of_eq (by rw [List.drop_zero, List.take_of_length_le (by simp)])
theorem Az.le {P : Program} {k : Nat} {ds ds' : List DV} {Q : DV -> Prop} (h : Az P k ds Q) (hl : L8 ds' ds) : Az P k ds' Q :=
 ⟨h.enters, fun O w vs h1 h2 h3 => h.run O w vs h1 (by rw [h2, hl.len]) fun i v d hv hd => by
  have hi := (List.getElem?_eq_some_iff.1 hd).1
  have hlen := hl.len
  have hx : ds'[i]? = some (ds'[i]'(by omega)) := List.getElem?_eq_getElem _
  exact hl.get i _ d hx hd _ _ _ (h3 i v _ hv hx)⟩
theorem G5.le {P : Program} {k : Nat} {ds ds' : List DV} {e sz : Nat} {el : List (List DV)} (h : G5 P k ds e sz el) (hl : L8 ds' ds) : G5 P k ds' e sz el :=
 ⟨h.enters, fun O w vs h1 h2 h3 => h.run O w vs h1 (by rw [h2, hl.len]) fun i v d hv hd => by
  have hi := (List.getElem?_eq_some_iff.1 hd).1
  have hlen := hl.len
  have hx : ds'[i]? = some (ds'[i]'(by omega)) := List.getElem?_eq_getElem _
  exact hl.get i _ d hx hd _ _ _ (h3 i v _ hv hx)⟩
section
variable {κ υ : Type} [BEq κ]
def Ah (m : List (κ × υ)) (x : κ) : Option υ := match m with
 | [] => none
 | p :: m => if x == p.1 then some p.2 else Ah m x
def A2 (x : κ) (v : υ) : List (κ × υ) -> List (κ × υ)
 | [] => [(x, v)]
 | p :: m => if x == p.1 then (p.1, v) :: m else p :: A2 x v m
structure H2 (AD : A5) (kt : Nat) (ke : κ -> DV) : Prop where
 eq : ∀ a b, DU (ke a) (ke b) = (a == b)
 fits : ∀ a, BY AD kt (ke a) = true
theorem H2.to {AD env' : A5} {kt : Nat} {ke : κ -> DV} (h : H2 AD kt ke) (hf : ∀ a, BY env' kt (ke a) = BY AD kt (ke a)) : H2 env' kt ke := ⟨h.eq, fun a => (hf a).trans (h.fits a)⟩
def Ao (ke : κ -> DV) (ve : υ -> DV) (m : List (κ × υ)) : List (DV × DV) := m.map fun p => (ke p.1, ve p.2)
variable {AD : A5} {kt : Nat} {ke : κ -> DV} {ve : υ -> DV}
theorem L9 (hk : H2 AD kt ke) (x : κ) : ∀ m : List (κ × υ), FT (ke x) (Ao ke ve m) = (Ah m x).map ve
 | [] => by simp [Ao, FT, CU, Ah]
 | p :: m => by
  have ih := L9 hk x m
  simp only [Ao, FT] at ih
  simp only [Ao, List.map_cons, FT, CU, hk.eq, Ah]
  by_cases h : (x == p.1) = true
  .simp [h]
  simp only [h]
  simp only [Bool.false_eq_true, if_false, Option.map_map]
  rw [<- ih]
  cases CU (ke x) (m.map fun p => (ke p.1, ve p.2)) <;> simp
theorem Ss (hk : H2 AD kt ke) (x : κ) (v : υ) : ∀ m : List (κ × υ), MY (ke x) (ve v) (Ao ke ve m) = Ao ke ve (A2 x v m)
 | [] => by simp [Ao, MY, A2]
 | p :: m => by
  have ih := Ss hk x v m
  simp only [Ao] at ih
  simp only [Ao, List.map_cons, MY, hk.eq, A2]
  by_cases h : (x == p.1) = true
  .simp [h]
  simp only [h]
  simp only [Bool.false_eq_true, if_false, List.map_cons, ih]
theorem KU (hk : H2 AD kt ke) (m : List (κ × υ)) : ((Ao ke ve m).all fun p => BY AD kt p.1) = true := by
 simp only [Ao, List.all_map, List.all_eq_true, Function.comp]
 intro p _; exact hk.fits _
end
section
variable {β : Type}
def SO (t : Nat) : AP -> (AP -> Option β) -> Option β
 | [], k => k []
 | (q, u) :: l, k => match Nat.beq t q with
  | true => SO t l k
  | false => SO t l (fun r => k ((q, u) :: r))
theorem Pu {t : Nat} : ∀ {l : AP} {k : AP -> Option β}, SO t l k = k (Gk t l)
 | [], k => rfl
 | (q, u) :: l, k => by
  simp only [SO, Gk]
  by_cases h : t = q
  .subst h; simp only [Nat.beq_refl, if_true]; exact Pu
  have : Nat.beq t q = false := by
   cases hb : Nat.beq t q with
   | false => rfl
   | true => exact absurd (Nat.eq_of_beq_eq_true hb) h
  rw [this, if_neg h]
  exact Pu
end
section
variable {P : Program} {A : BD} {AD : A5} {f : St -> Prop} {hf : H5 f} {nt : Nat} {sl : List (Nat × LV)} {h : AP} {c : Nat} {d : Tmp}
theorem Io {args : List Operand} {ls : List LV} (hl : EW nt sl args some = some ls) : args.map (St.eval ⟨nt, sl, h, c⟩) = ls := by
 rw [KS, Option.some.injEq] at hl
 rw [<- hl]
 exact List.map_congr_left fun x _ => (BH (h := h) (c := c)).symm
theorem AM {fo : Operand} {args : Array Operand} {ts : Array TypeId} {k : Nat} {caps ls : List LV} {ds : List DV} {r : DV} (hF : Az P k ds (· = r)) (hs : r.scalar = true \/ (ls ++ caps).flatMap (ET h) = [])
  (hfn : BF nt sl fo = .fn k caps) (hl : EW nt sl args.toList some = some ls) (hds : By h (ls ++ caps) = some ds) (kk : f ⟨nt, (d, .p r) :: sl, h, c⟩) : BE P A AD ⟨nt, sl, h, c⟩ (some d) (.call ⟨.value fo, args, ts⟩) ⟨f, hf⟩ := by
 rw [BH (h := h) (c := c)] at hfn
 show ON _ _
 rw [hfn]
 show Jy P A h c k (args.toList.map _ ++ caps) _
 rw [Io hl]
 exact ABs hds hF hs kk
theorem A7 {fo : Operand} {args : Array Operand} {ts : Array TypeId} {k : Nat} {caps ls : List LV} {ds : List DV} {r : DV} (hF : Az P k ds (· = r)) (hs : r.scalar = true \/ (ls ++ caps).flatMap (ET h) = [])
  (hfn : (D8 fo, BF nt sl fo) = (false, .fn k caps)) (hl : EW nt sl args.toList some = some ls) (hds : By h (ls ++ caps) = some ds) (kk : f ⟨nt, (d, .p r) :: sl, h, c⟩) : KO P A AD ⟨nt, sl, h, c⟩ (some d) (.call ⟨.value fo, args, ts⟩) ⟨f, hf⟩ := by
 obtain ⟨hnd, hfn⟩ := Prod.mk.inj hfn
 rw [BH (h := h) (c := c)] at hfn
 show (if D8 fo = true then _ else ON _ _)
 rw [if_neg (by rw [hnd]; decide)]
 rw [hfn]
 refine .inl ?_
 show ZE P h k (args.toList.map _ ++ caps) _
 rw [Io hl]
 exact ACT hds hF hs kk
def UP (AD : A5) (t e sz : Nat) : Bool := match AD.tt t with
 | some ti => match ti.sh with
  | .slc e' => match AD.tt e with
   | some te => Nat.beq e' e && (Nat.beq te.size sz && (Nat.blt 0 sz && Nat.ble te.bytes 32768))
   | none => false
  | _ => false
 | none => false
theorem SP {t e sz : Nat} (h : UP AD t e sz = true) : ∃ ti te, AD.tt t = some ti /\ ti.sh = .slc e /\ AD.tt e = some te /\ te.size = sz /\ 0 < sz /\ te.bytes <= 32768 := by
 unfold UP at h
 split at h
 .rename_i ti hti
  split at h
  .rename_i e' he
   split at h
   .rename_i te hte
    simp only [Bool.and_eq_true] at h
    obtain ⟨h1, h2, h3, h4⟩ := h
    have := Nat.eq_of_beq_eq_true h1
    subst this
    exact ⟨ti, te, hti, he, hte, Nat.eq_of_beq_eq_true h2, Nat.le_of_ble_eq_true h3, Nat.le_of_ble_eq_true h4⟩
   cases h
  cases h
 cases h
variable {α : Type} {enc : α -> List DV} {l m r : List α} {t e sz : Nat} {s x : Operand}
def Zv (enc : α -> List DV) (sz : Nat) : Prop := ∀ a, (enc a).length = sz /\ (enc a).all DV.cell = true
theorem YD (hr : Bt l m = some r) : r = l ++ m /\ l.length + m.length <= 4294967296 := by
 simp only [Bt] at hr
 split at hr
 .simp only [Option.some.injEq] at hr; exact ⟨hr.symm, ‹_›⟩
 cases hr
theorem YE {n b : Nat} (hb : b <= 32768) (hn : n <= 4294967296) : n * b <= 140737488355328 :=
 Nat.le_trans (Nat.mul_le_mul hn hb) (by decide)
theorem AAN {n : Nat} (hn : n <= 4294967296) : n <= maxLen := by unfold maxLen; omega
theorem BU {id n : Nat} {h' : AP} (hr : Bt l m = some r) (hen : Zv enc sz) (hs : BF nt sl s = .lsl id sz 0 n) (hl : Bf id h = some (.row e sz (l.map enc))) (hn : n = l.length) (hd : SO id h some = some h')
  (hx : L2 h (BF nt sl x) = some (m.map enc)) (ht : UP AD t e sz = true)
  (k : f ⟨nt, (d, .lsl c sz 0 r.length) :: sl, (c, .row e sz (r.map enc)) :: h', c + 1⟩) : BE P A AD ⟨nt, sl, h, c⟩ (some d) (.call ⟨.builtin .append, #[s, x], #[t, t]⟩) ⟨f, hf⟩ := by
 obtain ⟨ti, te, h1, h2, h3, h4, h5, h6⟩ := SP ht
 obtain ⟨rfl, hb⟩ := YD hr
 rw [BH (h := h) (c := c)] at hs hx
 rw [Pu, Option.some.injEq] at hd
 rw [BM] at hl
 subst h4 hn hd
 refine ⟨rfl, AR.2 ⟨ti, h1, B5.2 ⟨e, h2, AR.2 ⟨te, h3, h5, AS.2 ⟨_, hx, ?_, ?_⟩⟩⟩⟩⟩
 .intro y hy
  obtain ⟨a, _, rfl⟩ := List.mem_map.1 hy
  exact hen a
 rw [hs]
 simp only [Wu]
 refine ⟨trivial, AS.2 ⟨_, hl, ?_⟩⟩
 dsimp only
 refine EV.2 ⟨e, te.size, l.map enc, rfl, ?_⟩
 refine ⟨⟨rfl, rfl, by simp, by rw [List.length_map]; exact YE h6 hb, by rw [List.length_map]; exact AAN hb⟩, ?_⟩
 have e1 : ((l.map enc).drop 0).take l.length ++ m.map enc = (l ++ m).map enc := by rw [List.drop_zero, List.take_of_length_le (by simp), List.map_append]
 rw [List.length_append] at k
 simp only [e1, List.length_map]
 exact k
theorem Bi {i : Operand} {kk : IntKind} {n : Int} {id len : Nat} {y : α} (hy : AY l n = some y) (ht : Nt AD t sz = true) (hx : BF nt sl x = .lsl id sz 0 len) (hi : BF nt sl i = .p (.int kk n)) (hn : len = l.length)
  (k : f ⟨nt, (d, .lpe id n.toNat 0) :: sl, h, c⟩) : BE P A AD ⟨nt, sl, h, c⟩ (some d) (.indexAddr t x i) ⟨f, hf⟩ := by
 obtain ⟨ti, e, te, h1, h2, h3, h4⟩ := Nu ht
 obtain ⟨g1, g2, g3⟩ := Fz hy
 rw [BH (h := h) (c := c)] at hx hi
 refine B8.2 ⟨kk, n, hi, AR.2 ⟨ti, h1, ?_⟩⟩
 dsimp only
 rw [h2, hx]
 refine AR.2 ⟨te, h3, h4, ⟨g1, by omega⟩, ?_⟩
 simp only [Nat.zero_add]
 exact k
theorem CW {n : Int} {id o : Nat} {y : α} {v : LV} (hy : AY l n = some y) (hx : BF nt sl x = .lpe id n.toNat o) (hl : Bf id h = some (.row e sz (l.map enc)))
  (hv : (match AD.tt t with | some ti => RJ ti o (enc y) some | none => none) = some v) (k : f ⟨nt, (d, v) :: sl, h, c⟩) : BE P A AD ⟨nt, sl, h, c⟩ (some d) (.load t x) ⟨f, hf⟩ := by
 obtain ⟨g1, g2, g3⟩ := Fz hy
 rw [BH (h := h) (c := c)] at hx
 rw [BM] at hl
 split at hv
 .rename_i ti hti
  rw [Qc] at hv
  obtain ⟨u, h1, h2⟩ := Option.bind_eq_some_iff.1 hv
  simp only [Option.some.injEq] at h2
  subst h2
  refine AR.2 ⟨ti, hti, ?_⟩
  rw [hx]
  refine AS.2 ⟨_, hl, ?_⟩
  dsimp only
  refine EV.2 ⟨e, sz, l.map enc, rfl, ?_⟩
  exact AS.2 ⟨enc y, by rw [List.getElem?_map, g3]; rfl, AS.2 ⟨u, h1, k⟩⟩
 cases hv
theorem Jz {n : Int} {id o : Nat} {y z : α} {v : Operand} {ls : List LV} {ds : List DV} {h' : AP} (hy : AY l n = some y) (hx : BF nt sl x = .lpe id n.toNat o) (hl : Bf id h = some (.row e sz (l.map enc)))
  (hc : LZ (BF nt sl v) some = some ls) (hds : G6 ls = some ds) (hsz : (match AD.tt t with | some ti => Nat.beq ls.length ti.size && Oy ls | none => false) = true) (hz : CQ (enc y) o ds = enc z) (hlen : Nat.ble (o + ls.length) (enc y).length = true)
  (hu : Km id (.row e sz ((A4 l n z).map enc)) h some = some h') (k : f ⟨nt, sl, h', c⟩) : BE P A AD ⟨nt, sl, h, c⟩ none (.store t x v) ⟨f, hf⟩ := by
 obtain ⟨g1, g2, g3⟩ := Fz hy
 rw [BH (h := h) (c := c)] at hx hc
 rw [BM] at hl
 rw [GY, Option.some.injEq] at hu
 subst hu
 split at hsz
 .rename_i ti hti
  simp only [Bool.and_eq_true] at hsz
  rw [KR, Option.bind_eq_some_iff] at hc
  obtain ⟨ls', h1, h2⟩ := hc
  simp only [Option.some.injEq] at h2
  subst h2
  refine AR.2 ⟨ti, hti, AS.2 ⟨ls', h1, ⟨Nat.eq_of_beq_eq_true hsz.1, by rw [<- Oz]; exact hsz.2⟩, ?_⟩⟩
  rw [hx]
  refine AS.2 ⟨_, hl, ?_⟩
  dsimp only
  refine EV.2 ⟨e, sz, l.map enc, rfl, ?_⟩
  refine AS.2 ⟨enc y, by rw [List.getElem?_map, g3]; rfl, AS.2 ⟨ds, hds, Nat.le_of_ble_eq_true hlen, ?_⟩⟩
  dsimp only
  rw [hz]
  simp only [A4, List.map_set] at k
  exact k
 cases hsz
def UQ (AD : A5) (t kt et : Nat) : Bool := match AD.tt t with
 | some ti => match ti.sh with
  | .mp k e => Nat.beq k kt && Nat.beq e et
  | _ => false
 | none => false
theorem O9 {kt et : Nat} (h : UQ AD t kt et = true) : ∃ ti, AD.tt t = some ti /\ ti.sh = .mp kt et := by
 unfold UQ at h
 split at h
 .rename_i ti hti
  split at h
  .rename_i k e he
   simp only [Bool.and_eq_true] at h
   have h1 := Nat.eq_of_beq_eq_true h.1; have h2 := Nat.eq_of_beq_eq_true h.2
   subst h1 h2
   exact ⟨ti, hti, he⟩
  cases h
 cases h
variable {κ υ : Type} [BEq κ] {ke : κ -> DV} {ve : υ -> DV} {mp : List (κ × υ)} {kt et : Nat} {i : Operand}
theorem Qg {o : Option υ} {z : υ} : (o.map ve).getD (ve z) = ve (o.getD z) := by cases o <;> rfl
theorem J0 {y : κ} (z : υ) (hk : H2 AD kt ke) (hm : K1 h (BF nt sl x) = some (Ao ke ve mp)) (hi : BF nt sl i = .p (ke y)) (ht : UQ AD t kt et = true) (hz : (AD.tt et).map (zV AD) = some (ve z))
  (k : f ⟨nt, (d, .tup [.p (ve ((Ah mp y).getD z)), .p (.bool (Ah mp y).isSome)]) :: sl, h, c⟩) : BE P A AD ⟨nt, sl, h, c⟩ (some d) (.lookup t x i true) ⟨f, hf⟩ := by
 obtain ⟨ti, h1, h2⟩ := O9 ht
 rw [BH (h := h) (c := c)] at hm hi
 obtain ⟨te, h3, h4⟩ := Option.map_eq_some_iff.1 hz
 refine AR.2 ⟨ti, h1, EK.2 ⟨kt, et, h2, AR.2 ⟨te, h3, AS.2 ⟨_, hm, Cc.2 ⟨_, hi, ⟨hk.fits y, KU hk mp⟩, ?_⟩⟩⟩⟩⟩
 simp only [if_true, L9 hk, h4, Qg, Option.isSome_map]
 exact k
theorem K4 {y : κ} (z : υ) (hk : H2 AD kt ke) (hm : K1 h (BF nt sl x) = some (Ao ke ve mp)) (hi : BF nt sl i = .p (ke y)) (ht : UQ AD t kt et = true) (hz : (AD.tt et).map (zV AD) = some (ve z))
  (k : f ⟨nt, (d, .p (ve ((Ah mp y).getD z))) :: sl, h, c⟩) : BE P A AD ⟨nt, sl, h, c⟩ (some d) (.lookup t x i false) ⟨f, hf⟩ := by
 obtain ⟨ti, h1, h2⟩ := O9 ht
 rw [BH (h := h) (c := c)] at hm hi
 obtain ⟨te, h3, h4⟩ := Option.map_eq_some_iff.1 hz
 refine AR.2 ⟨ti, h1, EK.2 ⟨kt, et, h2, AR.2 ⟨te, h3, AS.2 ⟨_, hm, Cc.2 ⟨_, hi, ⟨hk.fits y, KU hk mp⟩, ?_⟩⟩⟩⟩⟩
 simp only [Bool.false_eq_true, if_false, L9 hk, h4, Qg]
 exact k
theorem Gq {y : κ} {z : υ} {id : Nat} {v : Operand} {h' : AP} (hk : H2 AD kt ke) (hx : BF nt sl x = .lmap id) (hm : Bf id h = some (.map (Ao ke ve mp))) (hi : BF nt sl i = .p (ke y)) (hv : BF nt sl v = .p (ve z)) (ht : UQ AD t kt et = true)
  (hu : Km id (.map (Ao ke ve (A2 y z mp))) h some = some h') (k : f ⟨nt, sl, h', c⟩) : BE P A AD ⟨nt, sl, h, c⟩ none (.mapUpdate t x i v) ⟨f, hf⟩ := by
 obtain ⟨ti, h1, h2⟩ := O9 ht
 rw [BH (h := h) (c := c)] at hx hi hv
 rw [BM] at hm
 rw [GY, Option.some.injEq] at hu
 subst hu
 refine AR.2 ⟨ti, h1, EK.2 ⟨kt, et, h2, Dd.2 ⟨id, hx, AS.2 ⟨_, hm, ?_⟩⟩⟩⟩
 dsimp only
 refine EU.2 ⟨Ao ke ve mp, rfl, ?_⟩
 refine Cc.2 ⟨_, hi, Cc.2 ⟨_, hv, ⟨hk.fits y, KU hk mp⟩, ?_⟩⟩
 rw [Ss hk]
 exact k
def Lf (y : κ) : List (κ × υ) -> List (κ × υ)
 | [] => []
 | p :: m => if y == p.1 then m else p :: Lf y m
theorem Su (hk : H2 AD kt ke) (x : κ) : ∀ m : List (κ × υ), Ni (ke x) (Ao ke ve m) = Ao ke ve (Lf x m)
 | [] => by simp [Ao, Ni, Lf]
 | p :: m => by
  have ih := Su hk x m
  simp only [Ao] at ih
  simp only [Ao, List.map_cons, Ni, hk.eq, Lf]
  split
  .rfl
  simp only [List.map_cons, ih]
theorem ABu {y : κ} {id t : Nat} {r : List TypeId} {c0 : Call} {h' : AP} (hk : H2 AD kt ke) (hc : c0.callee = .builtin .delete) (ha : c0.args.toList = [x, i]) (hat : c0.argTypes.toList = t :: r) (hx : BF nt sl x = .lmap id) (hm : Bf id h = some (.map (Ao ke ve mp))) (hi : BF nt sl i = .p (ke y)) (ht : UQ AD t kt et = true)
  (hu : Km id (.mapd (Ao ke ve (Lf y mp))) h some = some h') (k : f ⟨nt, sl, h', c⟩) : BE P A AD ⟨nt, sl, h, c⟩ none (.call c0) ⟨f, hf⟩ := by
 obtain ⟨ti, h1, h2⟩ := O9 ht
 rw [BH (h := h) (c := c)] at hx hi
 rw [BM] at hm
 rw [GY, Option.some.injEq] at hu
 subst hu
 show I1 P A AD ⟨nt, sl, h, c⟩ none c0 ⟨f, hf⟩
 unfold I1
 rw [hc, ha, hat]
 refine AR.2 ⟨ti, h1, EK.2 ⟨kt, et, h2, Dd.2 ⟨id, hx, AS.2 ⟨_, hm, ?_⟩⟩⟩⟩
 dsimp only
 refine EU.2 ⟨Ao ke ve mp, rfl, ?_⟩
 refine Cc.2 ⟨_, hi, ⟨hk.fits y, KU hk mp⟩, ?_⟩
 rw [Su hk]
 exact k
theorem ABv {ks : List Sh} {xs ys : List DV} {b : Bool} {y : Operand} {t' : Nat} (hb : Bh xs ys = b) (hx : BF nt sl x = .p (.agg xs)) (hy : BF nt sl y = .p (.agg ys)) (hk : AD.eqk t = some ks) (f1 : fits ks xs = true) (f2 : fits ks ys = true)
  (k : f ⟨nt, (d, .p (.bool b)) :: sl, h, c⟩) : BE P A AD ⟨nt, sl, h, c⟩ (some d) (.binOp .eql t x y t') ⟨f, hf⟩ := by
 rw [BH (h := h) (c := c)] at hx hy
 show SC AD .eql t _ _ _
 rw [hx, hy]
 exact AS.2 ⟨ks, hk, f1, f2, by rw [hb]; exact k⟩
theorem PA {ks : List Sh} {xs ys : List DV} {b : Bool} {y : Operand} {t' : Nat} (hb : Bh xs ys = b) (hx : BF nt sl x = .p (.agg xs)) (hy : BF nt sl y = .p (.agg ys)) (hk : AD.eqk t = some ks) (f1 : fits ks xs = true) (f2 : fits ks ys = true)
  (k : f ⟨nt, (d, .p (.bool b)) :: sl, h, c⟩) : KO P A AD ⟨nt, sl, h, c⟩ (some d) (.binOp .eql t x y t') ⟨f, hf⟩ := by
 rw [BH (h := h) (c := c)] at hx hy
 show UD AD .eql t _ _ _
 rw [hx, hy]
 exact AS.2 ⟨ks, hk, f1, f2, by rw [hb]; exact k⟩
end
end Go.E
/- Rules for a function's beginning and end, and for states that are made weaker, by unfolding alone. No condition. -/
namespace Go.E
open Go Go.RowKit
abbrev li (n : Int) : LV := .p (.int .i64 n)
abbrev lb (b : Bool) : LV := .p (.bool b)
abbrev lq (l : List DV) : LV := .p (.place l 0)
abbrev ls {α : Type} (sz : Nat) (enc : α -> List DV) (l : List α) : LV := .p (.slice sz (l.map enc))
section
variable {P : Program} {A : BD} {AD : A5}
theorem fn (hE : BC P AD) {k : Nat} {fn : Func} {c : Code} {ds : List DV} {d : DV} (hf : P.funcs[k]? = some fn) (hb : fn.body = some c) (hn : (fn.name == "runtime.NumGoroutine") = false) (nt : Nat) (hnt : Nat.beq fn.ntmps nt = true)
  (rs : List ResultVar) (hrs : fn.results.toList = rs) (sl : List (Nat × LV)) (hsl : DA 0 ds = sl) (hlen : Nat.ble ds.length nt = true)
  (h : ∀ A : BD, (∀ id, A.μ0 id = none) -> B2 P A c (NZ fun st => ∃ r, Fs AD.tt rs st = some r /\ Le r d) ⟨nt, sl, [], 0⟩) : Az P k ds (· = d) := by
 subst hsl
 exact AAy hE hf hb hn nt (Nat.eq_of_beq_eq_true hnt) rs hrs (Nat.le_of_ble_eq_true hlen) h
theorem er {rs : List ResultVar} {st : St} {r d : DV} (h : Fs AD.tt rs st = some r) (hle : Le r d) : NZ (fun st => ∃ r, Fs AD.tt rs st = some r /\ Le r d) .ret st := ⟨r, h, hle⟩
theorem en {rs : List ResultVar} {st : St} {r d : DV} (h : Fs AD.tt rs st = some r) (hle : Le r d) : NZ (fun st => ∃ r, Fs AD.tt rs st = some r /\ Le r d) .normal st := ⟨r, h, hle⟩
inductive Ky (h : AP) : LV -> DV -> Prop where
 | p (d : DV) : Ky h (.p d) d
 | own {α : Type} {enc : α -> List DV} (l : List α) {id e sz n : Nat} (hl : Bf id h = some (.row e sz (l.map enc))) (hn : n = l.length) : Ky h (.lsl id sz 0 n) (.slice sz (l.map enc))
 | map {id : Nat} {m : List (DV × DV)} (hl : Bf id h = some (.map m)) : Ky h (.lmap id) (.map m)
 | mapd {id : Nat} {m : List (DV × DV)} (hl : Bf id h = some (.mapd m)) : Ky h (.lmap id) (.map m)
 | sub {α : Type} {enc : α -> List DV} (l r : List α) {id e sz off n : Nat} (hl : Bf id h = some (.row e sz (l.map enc))) (hr : off + n <= l.length /\ (l.drop off).take n = r) : Ky h (.lsl id sz off n) (.slice sz (r.map enc))
inductive RO (h : AP) : List LV -> List DV -> Prop where
 | nil : RO h [] []
 | cons {v : LV} {d : DV} {vs : List LV} {ds : List DV} (k : Ky h v d) (r : RO h vs ds) : RO h (v :: vs) (d :: ds)
inductive Sv (h : AP) : List LV -> List DV -> Prop where
 | nil : Sv h [] []
 | box {us : List LV} {es : List DV} {id off : Nat} {vs : List LV} {ds : List DV} (hl : Bf id h = some (.box us)) (k : RO h us es) (r : Sv h vs ds) : Sv h (.lpb id off :: vs) (.place es off :: ds)
 | cons {v : LV} {d : DV} {vs : List LV} {ds : List DV} (k : Ky h v d) (r : Sv h vs ds) : Sv h (v :: vs) (d :: ds)
inductive Ld (h : AP) : LV -> DV -> Prop where
 | one {v : LV} {d : DV} (k : Ky h v d) : Ld h v d
 | agg {vs : List LV} {ds : List DV} (k : RO h vs ds) : Ld h (.agg vs) (.agg ds)
 | tup {vs : List LV} {ds : List DV} (k : RO h vs ds) : Ld h (.tup vs) (.tup ds)
 | box {vs : List LV} {ds : List DV} {id off : Nat} (hl : Bf id h = some (.box vs)) (k : RO h vs ds) : Ld h (.lpb id off) (.place ds off)
 | fn {f : Nat} {vs : List LV} {ds : List DV} (k : Sv h vs ds) : Ld h (.fn f vs) (.fn f ds)
inductive D1 (h : AP) : List LV -> List DV -> Prop where
 | nil : D1 h [] []
 | cons {v : LV} {d : DV} {vs : List LV} {ds : List DV} (k : Ld h v d) (r : D1 h vs ds) : D1 h (v :: vs) (d :: ds)
theorem Ky.eq {h : AP} {v : LV} {d : DV} (k : Ky h v d) : FG h v = some d := by
 cases k with
 | p => rfl
 | own l hl hn =>
  rw [BM] at hl
  subst hn
  simp only [FG, hl, Nat.zero_add, List.length_map, Nat.le_refl, and_self, if_true, List.drop_zero]
  rw [List.take_of_length_le (by simp)]
 | map hl => rw [BM] at hl; simp only [FG, hl]
 | mapd hl => rw [BM] at hl; simp only [FG, hl]
 | sub l r hl hr =>
  rw [BM] at hl
  simp only [FG, hl, List.length_map]
  rw [if_pos ⟨trivial, hr.1⟩, <- List.map_drop, <- List.map_take, hr.2]
theorem RO.eq {h : AP} {vs : List LV} {ds : List DV} (k : RO h vs ds) : Gl h vs = some ds := by
 induction k with
 | nil => rfl
 | cons k _ ih => simp only [Gl, k.eq, ih]
theorem Ky.eqb {h : AP} {v : LV} {d : DV} (k : Ky h v d) : Jv h v = some d := by
 have := k.eq
 cases k <;> exact this
theorem Sv.eq {h : AP} {vs : List LV} {ds : List DV} (k : Sv h vs ds) : F9 h vs = some ds := by
 induction k with
 | nil => rfl
 | box hl k _ ih => rw [BM] at hl; simp only [F9, Jv, hl, k.eq, ih, Option.map_some]
 | cons k _ ih => simp only [F9, k.eqb, ih]
theorem Ld.eq {h : AP} {v : LV} {d : DV} (k : Ld h v d) : FP h v = some d := by
 cases k with
 | one k => cases k with
  | p => rfl
  | own l hl hn => exact Ky.eq (.own l hl hn)
  | map hl => exact Ky.eq (.map hl)
  | mapd hl => exact Ky.eq (.mapd hl)
  | sub l r hl hr => exact Ky.eq (.sub l r hl hr)
 | agg k => simp only [FP, k.eq, Option.map_some]
 | tup k => simp only [FP, k.eq, Option.map_some]
 | box hl k => rw [BM] at hl; simp only [FP, hl, k.eq, Option.map_some]
 | fn k => simp only [FP, k.eq, Option.map_some]
theorem D1.eq {h : AP} {vs : List LV} {ds : List DV} (k : D1 h vs ds) : By h vs = some ds := by
 induction k with
 | nil => rfl
 | cons k _ ih => simp only [By, k.eq, ih]
theorem I5 {rs : List ResultVar} {st : St} {v : LV} {d : DV} (hr : Jw AD.tt st rs = some [v]) (k : Ld st.heap v d) : Fs AD.tt rs st = some d := by
 simp only [Fs, hr, k.eq]
theorem UR {rs : List ResultVar} {st : St} {v u : LV} {vs : List LV} {ds : List DV} (hr : Jw AD.tt st rs = some (v :: u :: vs)) (k : D1 st.heap (v :: u :: vs) ds) : Fs AD.tt rs st = some (.tup ds) := by
 simp only [Fs, hr, k.eq, Option.map_some]
def W5 (sl : List (Nat × LV)) (t : Nat) : LV := match Bf t sl with
 | some v => v
 | none => .any
theorem AAO {sl : List (Nat × LV)} {t : Nat} : W5 sl t = BZ sl t := by simp only [W5, BZ, BM]; rfl
inductive WM (gl : List (Nat × Nat)) (sl : List (Nat × LV)) : List (Nat × LV) -> Prop where
 | nil : WM gl sl []
 | cons {t : Nat} {l : LV} {r : List (Nat × LV)} (h : W5 sl t = FA gl l) (k : WM gl sl r) : WM gl sl ((t, l) :: r)
inductive WN (gl : List (Nat × Nat)) (h : AP) : AP -> Prop where
 | nil : WN gl h []
 | cons {id old : Nat} {o : BB} {r : AP} (h1 : Bf id gl = some old) (h2 : Bf old h = some (Wx gl o)) (k : WN gl h r) : WN gl h ((id, o) :: r)
def M0 (gl : List (Nat × Nat)) : List (Nat × LV) -> Bool
 | [] => true
 | (_, l) :: r => match De gl l with
  | true => M0 gl r
  | false => false
def M1 (gl : List (Nat × Nat)) : AP -> Bool
 | [] => true
 | (_, o) :: r => match UB gl o with
  | true => M1 gl r
  | false => false
theorem ZL {gl : List (Nat × Nat)} {sl sl' : List (Nat × LV)} (h : WM gl sl sl') : M0 gl sl' = true -> Tk gl sl sl' := by
 induction h with
 | nil => intro _; trivial
 | cons h _ ih =>
  intro hn
  simp only [M0] at hn
  split at hn
  .rename_i hq; exact ⟨⟨hq, by rw [<- AAO]; exact h⟩, ih hn⟩
  cases hn
theorem ZM {gl : List (Nat × Nat)} {h h' : AP} (k : WN gl h h') : M1 gl h' = true -> Tl gl h h' := by
 induction k with
 | nil => intro _; trivial
 | cons h1 h2 _ ih =>
  intro hn
  simp only [M1] at hn
  split at hn
  .rename_i hq; exact ⟨⟨hq, _, by rw [<- BM]; exact h1, by rw [<- BM]; exact h2⟩, ih hn⟩
  cases hn
theorem wk (gl : List (Nat × Nat)) {nt : Nat} {sl sl' : List (Nat × LV)} {h h' : AP} {c c' : Nat} (hext : ∀ id, A.μ0 id ≠ none -> AJ id gl = some id) (ho : RG gl h' c' = true) (hn : M0 gl sl' = true) (hm : M1 gl h' = true)
  (hs : WM gl sl sl') (hh : WN gl h h') : A9 A ⟨nt, sl, h, c⟩ ⟨nt, sl', h', c'⟩ := ZD gl hext ho (ZL hs hn) (ZM hh hm)
def Tp (sl : List (Nat × LV)) : List (Nat × LV) -> List LV
 | [] => []
 | (t, _) :: r => W5 sl t :: Tp sl r
def Tq (gl : List (Nat × Nat)) : List (Nat × LV) -> List LV
 | [] => []
 | (_, l) :: r => FA gl l :: Tq gl r
def AA0 (gl : List (Nat × Nat)) (h : AP) (id : Nat) : Option BB := match Bf id gl with
 | some old => Bf old h
 | none => none
def Tr (gl : List (Nat × Nat)) (h : AP) : AP -> List (Option BB)
 | [] => []
 | (id, _) :: r => AA0 gl h id :: Tr gl h r
def Ts (gl : List (Nat × Nat)) : AP -> List (Option BB)
 | [] => []
 | (_, o) :: r => some (Wx gl o) :: Ts gl r
theorem US {gl : List (Nat × Nat)} {sl : List (Nat × LV)} : ∀ {sl' : List (Nat × LV)}, Tp sl sl' = Tq gl sl' -> WM gl sl sl'
 | [], _ => .nil
 | (_, _) :: _, h => .cons (List.cons.inj h).1 (US (List.cons.inj h).2)
theorem UT {gl : List (Nat × Nat)} {h : AP} : ∀ {h' : AP}, Tr gl h h' = Ts gl h' -> WN gl h h'
 | [], _ => .nil
 | (id, o) :: _, e => by
  have e1 := (List.cons.inj e).1
  unfold AA0 at e1
  split at e1
  .rename_i old hl; exact .cons hl e1 (UT (List.cons.inj e).2)
  cases e1
def W6 (gl : List (Nat × Nat)) (sl' : List (Nat × LV)) (h' : AP) (c' : Nat) : Bool := match RG gl h' c' with
 | true => match M0 gl sl' with
  | true => M1 gl h'
  | false => false
 | false => false
theorem LB {gl : List (Nat × Nat)} {sl' : List (Nat × LV)} {h' : AP} {c' : Nat} (h : W6 gl sl' h' c' = true) : RG gl h' c' = true /\ M0 gl sl' = true /\ M1 gl h' = true := by
 unfold W6 at h
 split at h
 .split at h
  .exact ⟨‹_›, ‹_›, h⟩
  cases h
 cases h
def gi : Nat -> List (Nat × Nat) -> List (Nat × Nat)
 | 0, l => l
 | n + 1, l => gi n ((n, n) :: l)
theorem wf {nt : Nat} {sl sl' : List (Nat × LV)} {h h' : AP} {c c' : Nat} (hA : ∀ id, A.μ0 id = none) (gl : List (Nat × Nat)) (ha : W6 gl sl' h' c' = true) (hs : Tp sl sl' = Tq gl sl') (hh : Tr gl h h' = Ts gl h') : A9 A ⟨nt, sl, h, c⟩ ⟨nt, sl', h', c'⟩ :=
 wk gl (fun id h => absurd (hA id) h) (LB ha).1 (LB ha).2.1 (LB ha).2.2 (US hs) (UT hh)
theorem free (hA : ∀ id, A.μ0 id = none) (gl : List (Nat × Nat)) : ∀ id, A.μ0 id ≠ none -> AJ id gl = some id := fun id h => absurd (hA id) h
section
variable {σ Ans : Type} {S : σ -> St} {Q : Ans -> Exit -> St -> Prop} {st : St}
theorem lpn {s : σ} (hw : A9 A st (S s)) : LP A S Q (.inl s) .normal st := ⟨rfl, hw⟩
theorem lpx {a : Ans} {id : Nat} (k : Q a (.exit id) st) : LP A S Q (.inr a) (.exit id) st := ⟨nofun, k⟩
theorem lpt {a : Ans} (k : Q a .ret st) : LP A S Q (.inr a) .ret st := ⟨nofun, k⟩
theorem npn {s : σ} (hw : A9 A st (S s)) : NP A S s .normal st := ⟨rfl, hw⟩
end
theorem mp {σ Ans : Type} {o : Option Ans} {b : σ ⊕ Ans} (h : o.map .inr = some b) : ∃ a, o = some a /\ b = .inr a := by
 cases o with
 | none => cases h
 | some a => exact ⟨a, rfl, (Option.some.inj h).symm⟩
theorem mps {σ Ans : Type} {x : Ans} {b : σ ⊕ Ans} (h : some (.inr x) = some b) : ∃ a, some x = some a /\ b = .inr a := ⟨x, rfl, (Option.some.inj h).symm⟩
end
end Go.E
