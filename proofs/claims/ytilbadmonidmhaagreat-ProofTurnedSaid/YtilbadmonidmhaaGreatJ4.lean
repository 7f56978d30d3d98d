/- Plain functions, and walks in step with them. Written by a program (gen.py). No condition. -/
import Derived.Test.YtilbadmonidmhaaGreatJ3
set_option linter.unusedVariables false
set_option linter.unusedSimpArgs false
set_option maxRecDepth 100000
namespace Go.E
open Go Go.RowKit Go.Proofs
noncomputable def q_6z (b : Plan) (h : (List Elem)) (i : (List Join)) (c : (List Signal)) (g : (List Line)) (a : Int × (List Line)) : Option ((Int × (List Line)) ⊕ Plan) :=
 bif decide (a.1 < (g.length : Int)) then (idx a.2 a.1).bind fun d => (q_1d d.elems).bind fun e => (idx a.2 a.1).bind fun f => some (.inl (wi64 (a.1 + 1), setI a.2 a.1 (⟨f.name, e⟩ : Line))) else some (.inr (⟨h, i, c, a.2, b.top, b.brake, b.margin, b.throw, b.hard⟩ : Plan))
noncomputable def q_38 (a : Plan) : Option Plan :=
 (q_t a.elems).bind fun d => (q_u a.joins).bind fun e => (q_m a.signals).bind fun c => (q_v a.lines).bind fun b => loopR (q_6z a d e c b) (0, b)
theorem w_8q (b : Plan) (r : Plan) (h : q_38 b = some r) : Fun Tryz.prog 116 [.agg (planC b)] (· = .agg (planC r)) := by
 refine fn env_ok Tryz.func116 rfl rfl 40 rfl [.cell 2 27] rfl [(0, .p (.agg (planC b)))] rfl rfl fun A hA => ?_
 unfold q_38 at h
 refine rs env_ok <| rl rfl <| dwp_seq ?_
 refine rgd env_ok mixed [0, 1, 2, 3, 4, 5, 6, 7, 8, 9, 10, 11, 12, 13, 14] 15 (by kernel_rfl) rfl rfl rfl ?_
 refine rnD 2 rfl ?_
 obtain ⟨ad, u, o⟩ := bd h; clear h
 refine sxD rfl (o_callD (w_5b _ _ u) (.inr rfl) rfl rfl rfl ?_)
 refine rnD 2 rfl ?_
 obtain ⟨ae, v, g⟩ := bd o; clear o
 refine sxD rfl (o_callD (w_5c _ _ v) (.inr rfl) rfl rfl rfl ?_)
 refine rnD 2 rfl ?_
 obtain ⟨y, q, l⟩ := bd g; clear g
 refine sxD rfl (o_callD (w_45 _ _ q) (.inr rfl) rfl rfl rfl ?_)
 refine rlD rfl <| thenD_n <| rs env_ok <| rn 2 rfl ?_
 obtain ⟨ac, t, n⟩ := bd l; clear l
 refine sx rfl (o_callN (w_48 _ _ t) rfl rfl rfl rfl ?_)
 refine rl rfl <| dwp_seq <| rs env_ok <| rl rfl <| dwp_block ?_
 apply lp (a := r) (fun c : (Int × (List Line)) => ⟨40, [(1, .lpb 0 0), (2, .lpb 1 0), (22, li (ac.length : Int)), (23, li c.1)], [(0, .box [ls 3 elemC ad, ls 4 joinC ae, ls 4 signalC y, .lsl 2 2 0 c.2.length, li b.top, li b.brake, li b.margin, li b.throw, lb b.hard]), (1, .box [.p (.nils), .p (.nils), .p (.nils), .p (.nils), li 0, li 0, li 0, li 0, lb false]), (2, .row 163 2 (c.2.map lineC))], 3⟩) n <;> clear n
 . exact wf hA [(0, 0), (1, 1), (2, 17)] rfl rfl rfl
 intro c ag d
 unfold q_6z at d
 refine rs env_ok <| rl rfl <| dwp_seq ?_
 refine cd rfl d (fun i => ?_) (fun m => ?_) <;> clear d
 .refine dwp_skip <| thenD_n <| dwp_seq <| dwp_block <| rs env_ok <| rl rfl ?_
  refine rgd env_ok mixed [0, 1, 2, 3, 4, 5, 6, 7, 8, 9, 10, 11, 12] 13 (by kernel_rfl) rfl rfl rfl ?_
  refine rnD 6 rfl ?_
  obtain ⟨ah, e, j⟩ := bd i; clear i
  refine sxD rfl (opD_plain rfl (o_idxO e rfl rfl rfl rfl ?_))
  refine rnD 1 rfl ?_
  refine sxD rfl (opD_ld rfl (o_ldO e rfl rfl rfl ?_))
  obtain ⟨aa, s, k⟩ := bd j; clear j
  refine sxD rfl (o_callD (w_7y _ _ s) (.inr rfl) rfl rfl rfl ?_)
  obtain ⟨ab, f, w⟩ := bd k; clear k
  refine sxD rfl (opD_plain rfl (o_idxO f rfl rfl rfl rfl ?_))
  refine rnD 1 rfl ?_
  refine sxD rfl (opD_st rfl (o_stO (z := (⟨ab.name, aa⟩ : Line)) f rfl rfl rfl rfl rfl rfl rfl rfl ?_))
  refine rlD rfl <| inB_n <| thenD_n <| rg env_ok <| rl rfl ?_
  cases w
  exact lpn (wk (gi 3 []) (free hA _) rfl rfl rfl (.cons rfl (.cons rfl (.cons rfl (.cons rfl .nil)))) (.cons rfl (by simp only [setI_len]; rfl) (.cons rfl rfl (.cons rfl rfl .nil))))
 .refine dwp_exit <| thenD_x ?_
  obtain ⟨af, x, rfl⟩ := mps m; clear m
  refine lpx <| inB_x <| thenD_n <| rs env_ok <| rl rfl <| dwp_ret ?_
  cases x
  exact er (rd1 rfl (.agg (.cons (.p _) (.cons (.p _) (.cons (.p _) (.cons (.own (enc := lineC) c.2 rfl rfl) (.cons (.p _) (.cons (.p _) (.cons (.p _) (.cons (.p _) (.cons (.p _) .nil))))))))))) Le.rfl
noncomputable def q_7z (e : (Int × (List (Port × Port)))) (c : (Int × (List (Int × Arr2Int)) × (List (Int × Int)))) (d : Line) (a : Int × Int × (List (Int × Arr2Int)) × (List (Int × Int))) : Option ((Int × Int × (List (Int × Arr2Int)) × (List (Int × Int))) ⊕ ((Int × (List (Int × Arr2Int)) × (List (Int × Int))) ⊕ ((Option Net) × Int))) :=
 bif decide (a.2.1 < (d.elems.length : Int)) then (idx d.elems a.2.1).bind fun b => some (.inl (((assoc e.2 (⟨b, wi64 (1 - a.1)⟩ : Port)).getD (⟨0, 0⟩ : Port)).fin, wi64 (a.2.1 + 1), aput b (⟨c.1, a.2.1⟩ : Arr2Int) a.2.2.1, aput b a.1 a.2.2.2)) else some (.inr (.inl (wi64 (c.1 + 1), a.2.2.1, a.2.2.2)))
noncomputable def q_80 (d : Plan) (j : Plan) (b : (Int × (List (Port × Port)))) (f : (Int × (List (Port × Int)))) (a : Int × (List (Int × Arr2Int)) × (List (Int × Int))) : Option ((Int × (List (Int × Arr2Int)) × (List (Int × Int))) ⊕ ((Option Net) × Int)) :=
 bif decide (a.1 < (d.lines.length : Int)) then (idx d.lines a.1).bind fun c => ((bif decide (1 < (c.elems.length : Int)) then (idx c.elems 0).bind fun e => ((bif (assoc b.2 (⟨e, 0⟩ : Port)).isSome then (idx c.elems 1).bind fun i => some ((((assoc b.2 (⟨e, 0⟩ : Port)).getD (⟨0, 0⟩ : Port)).elem) == i) else some false : Option (Bool))).bind fun (h : Bool) => bif h then some 1 else some 0 else some 0 : Option (Int))).bind fun (g : Int) => loopR (q_7z b a c) (g, 0, a.2.1, a.2.2) else some (.inr (some (⟨j, b.2, f.2, a.2.1, a.2.2⟩ : Net), 0))
noncomputable def q_81 (b : Plan) (d : Plan) (c : (Int × (List (Port × Port)))) (a : Int × (List (Port × Int))) : Option ((Int × (List (Port × Int))) ⊕ ((Option Net) × Int)) :=
 bif decide (a.1 < (b.signals.length : Int)) then (idx b.signals a.1).bind fun e => some (.inl (wi64 (a.1 + 1), aput e.at_ a.1 a.2)) else (loopR (q_80 b d c a) (0, [], [])).map .inr
noncomputable def q_82 (e : Plan) (f : Plan) (c : Int × (List (Port × Port))) : Option ((Int × (List (Port × Port))) ⊕ ((Option Net) × Int)) :=
 bif decide (c.1 < (e.joins.length : Int)) then (idx e.joins c.1).bind fun d => some (.inl (wi64 (c.1 + 1), aput d.b d.a (aput d.a d.b c.2))) else (loopR (q_81 e f c) (0, [])).map .inr
noncomputable def q_4a (a : Plan) : Option ((Option Net) × Int) :=
 (q_44 a).bind fun b => bif (b != 0) then some (none, b) else (q_38 a).bind fun c => loopR (q_82 a c) (0, [])
theorem w_8x (d : Plan) (r : ((Option Net) × Int)) (h : q_4a d = some r) : Fun Tryz.prog 43 [.agg (planC d)] (· = .tup [ptrD netC r.1, .int .i64 r.2]) := by
 refine fn env_ok Tryz.func43 rfl rfl 148 rfl [.tmp 2, .tmp 3] rfl [(0, .p (.agg (planC d)))] rfl rfl fun A hA => ?_
 unfold q_4a at h
 refine rs env_ok <| rl rfl <| dwp_seq <| rs env_ok <| rn 1 rfl ?_
 obtain ⟨bq, a4, u⟩ := bd h; clear h
 refine sx rfl (o_call (w_9e _ _ a4) (.inl rfl) rfl rfl rfl ?_)
 refine rl rfl <| rs env_ok <| rl rfl ?_
 refine cd rfl u (fun a6 => ?_) (fun ah => ?_) <;> clear u
 .refine rs env_ok <| rl rfl <| dwp_ret <| thenD_r ?_
  cases a6
  exact er rfl Le.rfl
 .refine dwp_skip <| thenD_n <| rs env_ok <| rn 1 rfl ?_
  obtain ⟨c, a2, am⟩ := bd ah; clear ah
  refine sx rfl (o_call (w_8q _ _ a2) (.inr rfl) rfl rfl rfl ?_)
  refine rl rfl <| dwp_seq <| rs env_ok <| rn 2 rfl ?_
  refine sx rfl (o_len rfl rfl ?_)
  refine rl rfl <| dwp_block ?_
  apply lp (a := r) (fun f : (Int × (List (Port × Port))) => ⟨148, [(1, .lpb 0 0), (5, .lpb 1 0), (31, ls 4 joinC d.joins), (32, li (d.joins.length : Int)), (33, li f.1)], [(0, .box [ls 3 elemC d.elems, ls 4 joinC d.joins, ls 4 signalC d.signals, ls 2 lineC d.lines, li d.top, li d.brake, li d.margin, li d.throw, lb d.hard]), (1, .box [ls 3 elemC c.elems, ls 4 joinC c.joins, ls 4 signalC c.signals, ls 2 lineC c.lines, li c.top, li c.brake, li c.margin, li c.throw, lb c.hard, .lmap 2, .lmap 3, .lmap 4, .lmap 5]), (2, .map (mapD (fun x => .agg (portC x)) (fun x => .agg (portC x)) f.2)), (3, .map (mapD (fun x => .agg (portC x)) (.int .i64) [])), (4, .map (mapD (.int .i64) (fun x => .agg (arr2IntC x)) [])), (5, .map (mapD (.int .i64) (.int .i64) []))], 6⟩) am <;> clear am
  . exact wf hA [(0, 0), (1, 5), (2, 1), (3, 2), (4, 3), (5, 4)] rfl rfl rfl
  intro f bo q
  unfold q_82 at q
  refine rs env_ok <| rl rfl <| dwp_seq ?_
  refine cd rfl q (fun aq => ?_) (fun ar => ?_) <;> clear q
  .refine dwp_skip <| thenD_n <| dwp_seq <| dwp_block <| rs env_ok ?_
   obtain ⟨i, a5, bh⟩ := bd aq; clear aq
   refine sx rfl (o_idx a5 rfl rfl rfl ?_)
   refine rl rfl ?_
   refine rgd env_ok mixed [0, 1, 2, 3, 4, 5, 6, 7, 8, 9, 10, 11, 12, 13, 14, 15, 16, 17, 18, 19, 20, 21] 22 (by kernel_rfl) rfl rfl rfl ?_
   refine rnD 16 rfl ?_
   refine sxD rfl (opD_plain rfl (o_ment (et := 96) (ke := (fun x => .agg (portC x))) (ve := (fun x => .agg (portC x))) (mp := f.2) (y := i.a) (⟨0, 0⟩ : Port) keyE_96 rfl rfl rfl rfl rfl rfl ?_))
   refine rnD 1 rfl ?_
   refine sxD rfl (opD_plain rfl (o_esto (ke := (fun x => .agg (portC x))) (ve := (fun x => .agg (portC x))) (mp := f.2) (y := i.a) (z := (⟨0, 0⟩ : Port)) (w := i.b) rfl rfl rfl rfl rfl ?_))
   refine sxD rfl (opD_plain rfl (o_ment (et := 96) (ke := (fun x => .agg (portC x))) (ve := (fun x => .agg (portC x))) (mp := aput i.a i.b f.2) (y := i.b) (⟨0, 0⟩ : Port) keyE_96 rfl rfl rfl rfl rfl rfl ?_))
   refine rnD 1 rfl ?_
   refine sxD rfl (opD_plain rfl (o_esto (ke := (fun x => .agg (portC x))) (ve := (fun x => .agg (portC x))) (mp := aput i.a i.b f.2) (y := i.b) (z := (⟨0, 0⟩ : Port)) (w := i.a) rfl rfl rfl rfl rfl ?_))
   refine rlD rfl <| inB_n <| thenD_n <| rg env_ok <| rl rfl ?_
   cases bh
   exact lpn (wf hA (gi 6 []) rfl rfl rfl)
  .refine dwp_exit <| thenD_x ?_
   obtain ⟨aw, au, rfl⟩ := mp ar; clear ar
   refine lpx <| inB_x <| thenD_n <| dwp_seq <| rs env_ok <| rn 2 rfl ?_
   refine sx rfl (o_len rfl rfl ?_)
   refine rl rfl <| dwp_block ?_
   apply lp (a := aw) (fun j : (Int × (List (Port × Int))) => ⟨148, [(1, .lpb 0 0), (5, .lpb 1 0), (59, ls 4 signalC d.signals), (60, li (d.signals.length : Int)), (61, li j.1)], [(0, .box [ls 3 elemC d.elems, ls 4 joinC d.joins, ls 4 signalC d.signals, ls 2 lineC d.lines, li d.top, li d.brake, li d.margin, li d.throw, lb d.hard]), (1, .box [ls 3 elemC c.elems, ls 4 joinC c.joins, ls 4 signalC c.signals, ls 2 lineC c.lines, li c.top, li c.brake, li c.margin, li c.throw, lb c.hard, .lmap 2, .lmap 3, .lmap 4, .lmap 5]), (2, .map (mapD (fun x => .agg (portC x)) (fun x => .agg (portC x)) f.2)), (3, .map (mapD (fun x => .agg (portC x)) (.int .i64) j.2)), (4, .map (mapD (.int .i64) (fun x => .agg (arr2IntC x)) [])), (5, .map (mapD (.int .i64) (.int .i64) []))], 6⟩) au <;> clear au
   . exact wf hA (gi 6 []) rfl rfl rfl
   intro j bn o
   unfold q_81 at o
   refine rs env_ok <| rl rfl <| dwp_seq ?_
   refine cd rfl o (fun an => ?_) (fun ao => ?_) <;> clear o
   .refine dwp_skip <| thenD_n <| dwp_seq <| dwp_block <| rs env_ok <| rn 1 rfl ?_
    obtain ⟨bj, a3, bg⟩ := bd an; clear an
    refine sx rfl (o_idx a3 rfl rfl rfl ?_)
    refine rl rfl ?_
    refine rgd env_ok mixed [0, 1, 2, 3, 4, 5, 6, 7] 8 (by kernel_rfl) rfl rfl rfl ?_
    refine rnD 7 rfl ?_
    refine sxD rfl (opD_plain rfl (o_mup (et := 3) (ke := (fun x => .agg (portC x))) (ve := (.int .i64)) (mp := j.2) (y := bj.at_) (z := j.1) keyE_96 rfl rfl rfl rfl rfl rfl ?_))
    refine rlD rfl <| inB_n <| thenD_n <| rg env_ok <| rl rfl ?_
    cases bg
    exact lpn (wf hA (gi 6 []) rfl rfl rfl)
   .refine dwp_exit <| thenD_x ?_
    obtain ⟨av, ap, rfl⟩ := mp ao; clear ao
    refine lpx <| inB_x <| thenD_n <| dwp_seq <| rs env_ok <| rn 2 rfl ?_
    refine sx rfl (o_len rfl rfl ?_)
    refine rl rfl <| dwp_block ?_
    apply lp (a := av) (fun e : (Int × (List (Int × Arr2Int)) × (List (Int × Int))) => ⟨148, [(5, .lpb 0 0), (75, ls 2 lineC d.lines), (76, li (d.lines.length : Int)), (77, li e.1)], [(0, .box [ls 3 elemC c.elems, ls 4 joinC c.joins, ls 4 signalC c.signals, ls 2 lineC c.lines, li c.top, li c.brake, li c.margin, li c.throw, lb c.hard, .lmap 1, .lmap 2, .lmap 3, .lmap 4]), (1, .map (mapD (fun x => .agg (portC x)) (fun x => .agg (portC x)) f.2)), (2, .map (mapD (fun x => .agg (portC x)) (.int .i64) j.2)), (3, .map (mapD (.int .i64) (fun x => .agg (arr2IntC x)) e.2.1)), (4, .map (mapD (.int .i64) (.int .i64) e.2.2))], 5⟩) ap <;> clear ap
    . exact wf hA [(0, 1), (1, 2), (2, 3), (3, 4), (4, 5)] rfl rfl rfl
    intro e ax m
    unfold q_80 at m
    refine rs env_ok <| rl rfl <| dwp_seq ?_
    refine cd rfl m (fun v => ?_) (fun al => ?_) <;> clear m
    .refine dwp_skip <| thenD_n <| dwp_seq <| dwp_block <| rs env_ok <| rn 1 rfl ?_
     obtain ⟨k, ay, aa⟩ := bd v; clear v
     refine sx rfl (o_idx ay rfl rfl rfl ?_)
     refine rl rfl <| rs env_ok <| rl rfl ?_
     refine jb (fun s : Int => ⟨148, [(5, .lpb 0 0), (10, li e.1), (11, .lpb 1 0), (12, li s), (75, ls 2 lineC d.lines), (76, li (d.lines.length : Int)), (77, li e.1)], [(0, .box [ls 3 elemC c.elems, ls 4 joinC c.joins, ls 4 signalC c.signals, ls 2 lineC c.lines, li c.top, li c.brake, li c.margin, li c.throw, lb c.hard, .lmap 2, .lmap 3, .lmap 4, .lmap 5]), (1, .box [.p (.str k.name), ls 1 intC k.elems]), (2, .map (mapD (fun x => .agg (portC x)) (fun x => .agg (portC x)) f.2)), (3, .map (mapD (fun x => .agg (portC x)) (.int .i64) j.2)), (4, .map (mapD (.int .i64) (fun x => .agg (arr2IntC x)) e.2.1)), (5, .map (mapD (.int .i64) (.int .i64) e.2.2))], 6⟩) aa (fun s ab => ?_) (fun s ai => ?_) <;> clear aa
     .refine rs env_ok <| rn 2 rfl ?_
      refine sx rfl (o_len rfl rfl ?_)
      refine rl rfl ?_
      refine cd rfl ab (fun ac => ?_) (fun bb => ?_) <;> clear ab
      .refine dwp_seq ?_
       refine rgd env_ok mixed [0, 1, 2, 3, 4, 5, 6, 7, 8, 9, 10, 11, 12, 13, 14, 15] 16 (by kernel_rfl) rfl rfl rfl ?_
       refine rnD 6 rfl ?_
       obtain ⟨bi, az, ad⟩ := bd ac; clear ac
       refine sxD rfl (opD_plain rfl (o_idx az rfl rfl rfl ?_))
       refine rnD 2 rfl ?_
       refine sxD rfl (opD_plain rfl (o_lk2 (et := 96) (ke := (fun x => .agg (portC x))) (ve := (fun x => .agg (portC x))) (mp := f.2) (y := (⟨bi, 0⟩ : Port)) (⟨0, 0⟩ : Port) keyE_96 rfl rfl rfl rfl ?_))
       refine rlD rfl <| thenD_n ?_
       refine jb (fun t : Bool => ⟨148, [(5, .lpb 0 0), (10, li e.1), (11, .lpb 1 0), (12, li 0), (75, ls 2 lineC d.lines), (76, li (d.lines.length : Int)), (77, li e.1), (108, lb t)], [(0, .box [ls 3 elemC c.elems, ls 4 joinC c.joins, ls 4 signalC c.signals, ls 2 lineC c.lines, li c.top, li c.brake, li c.margin, li c.throw, lb c.hard, .lmap 2, .lmap 3, .lmap 4, .lmap 5]), (1, .box [.p (.str k.name), ls 1 intC k.elems]), (2, .map (mapD (fun x => .agg (portC x)) (fun x => .agg (portC x)) f.2)), (3, .map (mapD (fun x => .agg (portC x)) (.int .i64) j.2)), (4, .map (mapD (.int .i64) (fun x => .agg (arr2IntC x)) e.2.1)), (5, .map (mapD (.int .i64) (.int .i64) e.2.2))], 6⟩) ad (fun t ae => ?_) (fun t ag => ?_) <;> clear ad
       .refine rgd env_ok mixed [0, 1, 2, 3, 4, 5, 6, 7, 8, 9] 10 (by kernel_rfl) rfl rfl rfl ?_
        refine rnD 2 rfl ?_
        refine gsD 100 ae rfl rfl rfl (fun af => ?_) (fun a8 => ?_) <;> clear ae
        .refine rnD 4 rfl ?_
         obtain ⟨bp, a0, a7⟩ := bd af; clear af
         refine sxD rfl (opD_plain rfl (o_idx a0 rfl rfl rfl ?_))
         refine rlD rfl ?_
         cases a7
         exact npn (wf hA [(0, 0), (1, 5), (2, 1), (3, 2), (4, 3), (5, 4)] rfl rfl rfl)
        .refine rlD rfl ?_
         cases a8
         exact npn (wf hA [(0, 0), (1, 5), (2, 1), (3, 2), (4, 3), (5, 4)] rfl rfl rfl)
       .refine cd rfl ag (fun a9 => ?_) (fun ba => ?_) <;> clear ag
        .refine rg env_ok <| rl rfl ?_
         cases a9
         exact npn (wf hA (gi 6 []) rfl rfl rfl)
        .refine dwp_skip ?_
         cases ba
         exact npn (wf hA (gi 6 []) rfl rfl rfl)
      .refine dwp_skip ?_
       cases bb
       exact npn (wf hA [(0, 0), (1, 5), (2, 1), (3, 2), (4, 3), (5, 4)] rfl rfl rfl)
     .refine rs env_ok <| rn 2 rfl ?_
      refine sx rfl (o_len rfl rfl ?_)
      refine rl rfl <| dwp_block ?_
      apply lp (a := ax) (fun g : (Int × Int × (List (Int × Arr2Int)) × (List (Int × Int))) => ⟨148, [(5, .lpb 0 0), (10, li e.1), (12, li g.1), (75, ls 2 lineC d.lines), (76, li (d.lines.length : Int)), (77, li e.1), (110, ls 1 intC k.elems), (111, li (k.elems.length : Int)), (112, li g.2.1)], [(0, .box [ls 3 elemC c.elems, ls 4 joinC c.joins, ls 4 signalC c.signals, ls 2 lineC c.lines, li c.top, li c.brake, li c.margin, li c.throw, lb c.hard, .lmap 1, .lmap 2, .lmap 3, .lmap 4]), (1, .map (mapD (fun x => .agg (portC x)) (fun x => .agg (portC x)) f.2)), (2, .map (mapD (fun x => .agg (portC x)) (.int .i64) j.2)), (3, .map (mapD (.int .i64) (fun x => .agg (arr2IntC x)) g.2.2.1)), (4, .map (mapD (.int .i64) (.int .i64) g.2.2.2))], 5⟩) ai <;> clear ai
      . exact wf hA [(0, 0), (1, 2), (2, 3), (3, 4), (4, 5)] rfl rfl rfl
      intro g bm n
      unfold q_7z at n
      refine rs env_ok <| rl rfl <| dwp_seq ?_
      refine cd rfl n (fun aj => ?_) (fun ak => ?_) <;> clear n
      .refine dwp_skip <| thenD_n <| dwp_seq <| dwp_block <| rs env_ok <| rn 1 rfl ?_
       obtain ⟨l, a1, bc⟩ := bd aj; clear aj
       refine sx rfl (o_idx a1 rfl rfl rfl ?_)
       refine rl rfl <| dwp_seq ?_
       refine rgd env_ok mixed [0, 1, 2, 3, 4, 5, 6, 7, 8, 9, 10, 11, 12, 13, 14, 15, 16, 17, 18, 19] 20 (by kernel_rfl) rfl rfl rfl ?_
       refine rnD 14 rfl ?_
       refine sxD rfl (opD_plain rfl (o_ment (et := 174) (ke := (.int .i64)) (ve := (fun x => .agg (arr2IntC x))) (mp := g.2.2.1) (y := l) (⟨0, 0⟩ : Arr2Int) keyE_3 rfl rfl rfl rfl rfl rfl ?_))
       refine rnD 1 rfl ?_
       refine sxD rfl (opD_plain rfl (o_esto (ke := (.int .i64)) (ve := (fun x => .agg (arr2IntC x))) (mp := g.2.2.1) (y := l) (z := (⟨0, 0⟩ : Arr2Int)) (w := (⟨e.1, g.2.1⟩ : Arr2Int)) rfl rfl rfl rfl rfl ?_))
       refine sxD rfl (opD_plain rfl (o_ment (et := 3) (ke := (.int .i64)) (ve := (.int .i64)) (mp := g.2.2.2) (y := l) 0 keyE_3 rfl rfl rfl rfl rfl rfl ?_))
       refine rnD 1 rfl ?_
       refine sxD rfl (opD_plain rfl (o_esto (ke := (.int .i64)) (ve := (.int .i64)) (mp := g.2.2.2) (y := l) (z := 0) (w := g.1) rfl rfl rfl rfl rfl ?_))
       refine rlD rfl <| thenD_n <| rg env_ok <| rn 8 rfl ?_
       refine sx rfl (o_lk1 (et := 96) (ke := (fun x => .agg (portC x))) (ve := (fun x => .agg (portC x))) (mp := f.2) (y := (⟨l, wi64 (1 - g.1)⟩ : Port)) (⟨0, 0⟩ : Port) keyE_96 rfl rfl rfl rfl ?_)
       refine rl rfl <| inB_n <| thenD_n <| rg env_ok <| rl rfl ?_
       cases bc
       exact lpn (wf hA (gi 5 []) rfl rfl rfl)
      .refine dwp_exit <| thenD_x ?_
       obtain ⟨bk, be, rfl⟩ := mps ak; clear ak
       refine lpx <| inB_x <| inB_n <| thenD_n <| rg env_ok <| rl rfl ?_
       cases be
       exact lpn (wf hA (gi 5 []) rfl rfl rfl)
    .refine dwp_exit <| thenD_x ?_
     obtain ⟨bl, bf, rfl⟩ := mps al; clear al
     refine lpx <| inB_x <| thenD_n <| rs env_ok <| rl rfl <| dwp_ret ?_
     cases bf
     exact er (rdN rfl (.cons (.box rfl (.cons (.p _) (.cons (.p _) (.cons (.p _) (.cons (.p _) (.cons (.p _) (.cons (.p _) (.cons (.p _) (.cons (.p _) (.cons (.p _) (.cons (.map rfl) (.cons (.map rfl) (.cons (.map rfl) (.cons (.map rfl) .nil)))))))))))))) (.cons (.one (.p _)) .nil))) Le.rfl
noncomputable def q_5i (b : Plan) (a : Int) : Option (Port × Bool) :=
 ((bif decide (a < 0) then some true else some (decide ((b.signals.length : Int) <= a)) : Option (Bool))).bind fun (c : Bool) => bif c then some ((⟨0, 0⟩ : Port), false) else (idx b.signals a).bind fun d => some (d.at_, true)
theorem w_8r (a : Plan) (b : Int) (r : (Port × Bool)) (h : q_5i a b = some r) : Fun Tryz.prog 93 [.agg (planC a), .int .i64 b] (· = .tup [.agg (portC r.1), .bool r.2]) := by
 refine fn env_ok Tryz.func93 rfl rfl 22 rfl [.cell 4 96, .tmp 5] rfl [(0, .p (.agg (planC a))), (1, .p (.int .i64 b))] rfl rfl fun A hA => ?_
 unfold q_5i at h
 refine rs env_ok <| rl rfl <| dwp_seq ?_
 refine jb (fun c : Bool => ⟨22, [(1, li b), (2, .lpb 0 0), (4, .lpb 1 0), (14, lb c)], [(0, .box [ls 3 elemC a.elems, ls 4 joinC a.joins, ls 4 signalC a.signals, ls 2 lineC a.lines, li a.top, li a.brake, li a.margin, li a.throw, lb a.hard]), (1, .box [li 0, li 0])], 2⟩) h (fun c d => ?_) (fun c e => ?_) <;> clear h
 .refine rg env_ok <| rn 3 rfl ?_
  refine gs 8 d rfl rfl rfl (fun i => ?_) (fun j => ?_) <;> clear d
  .refine rl rfl ?_
   cases i
   exact npn (wf hA [(0, 0), (1, 1)] rfl rfl rfl)
  .refine rn 3 rfl ?_
   refine sx rfl (o_len rfl rfl ?_)
   refine rl rfl ?_
   cases j
   exact npn (wf hA [(0, 0), (1, 1)] rfl rfl rfl)
 .refine cd rfl e (fun k => ?_) (fun f => ?_) <;> clear e
  .refine rs env_ok <| rl rfl <| dwp_ret <| thenD_r ?_
   cases k
   exact er rfl Le.rfl
  .refine dwp_skip <| thenD_n <| rs env_ok <| rn 3 rfl ?_
   obtain ⟨m, g, l⟩ := bd f; clear f
   refine sx rfl (o_idx g rfl rfl rfl ?_)
   refine rl rfl <| dwp_ret ?_
   cases l
   exact er rfl Le.rfl
noncomputable def q_q (a : Plan) (b : Int) : Option Int :=
 (q_l a b).bind fun c => some c
theorem w_1c (a : Plan) (b : Int) (r : Int) (h : q_q a b = some r) : Fun Tryz.prog 91 [.agg (planC a), .int .i64 b] (· = .int .i64 r) := by
 refine fn env_ok Tryz.func91 rfl rfl 8 rfl [.tmp 4] rfl [(0, .p (.agg (planC a))), (1, .p (.int .i64 b))] rfl rfl fun A hA => ?_
 unfold q_q at h
 refine rs env_ok <| rl rfl <| rs env_ok <| rn 2 rfl ?_
 obtain ⟨e, c, d⟩ := bd h; clear h
 refine sx rfl (o_call (w_10 _ _ _ c) (.inl rfl) rfl rfl rfl ?_)
 refine rl rfl <| dwp_ret ?_
 have hr := Option.some.inj d; subst hr
 exact er rfl Le.rfl
noncomputable def q_1i (a : Road) (b : Step) (c : Int) (f : Int) (g : Int) : Option Road :=
 (appI ([] : List Step) a.steps).bind fun i => (appI i [b]).bind fun j => (appI ([] : List Need) a.needs).bind fun d => ((bif (c != 0) then (appI d [(⟨b.elem, c⟩ : Need)]).bind fun h => some h else some d : Option ((List Need)))).bind fun (e : (List Need)) => some (⟨a.frm, g, f, j, e, [], [], [], false⟩ : Road)
theorem w_39 (a : Road) (b : Step) (f : Int) (g : Int) (i : Int) (r : Road) (h : q_1i a b f g i = some r) : Fun Tryz.prog 151 [.agg (roadC a), .agg (stepC b), .int .i64 f, .int .i64 g, .int .i64 i] (· = .agg (roadC r)) := by
 refine fn env_ok Tryz.func151 rfl rfl 42 rfl [.cell 10 36] rfl [(0, .p (.agg (roadC a))), (1, .p (.agg (stepC b))), (2, .p (.int .i64 f)), (3, .p (.int .i64 g)), (4, .p (.int .i64 i))] rfl rfl fun A hA => ?_
 unfold q_1i at h
 refine rs env_ok <| rl rfl <| rs env_ok <| rl rfl <| dwp_seq ?_
 obtain ⟨j, c, s⟩ := bd h; clear h
 obtain ⟨k, d, t⟩ := bd s; clear s
 refine rgdT env_ok mixed (.picks [1, 2] (.alt 0 [] (.alt 3 [4, 5, 6, 7, 8] .done (.alt 4 [] (.alt 3 [5, 6, 7, 8] .done (.alt 5 [3, 6, 7, 8] .done .nil)) .nil)) (.alt 4 [0] (.alt 3 [5, 6, 7, 8] .done (.alt 5 [3, 6, 7, 8] .done .nil)) .nil))) 9 ⟨42, [(2, li f), (5, .lpb 0 0), (6, .lpb 1 0), (10, .lpb 2 0), (11, .lpb 3 0)], [(0, .box [li a.frm, li a.to, li a.fin, ls 3 stepC a.steps, ls 2 needC a.needs, ls 2 needC a.guards, ls 1 intC a.zone, ls 1 intC a.holds, lb a.bare]), (1, .box [li b.elem, li b.in_, li b.out]), (2, .box [li 0, li 0, li 0, .p (.nils), .p (.nils), .p (.nils), .p (.nils), .p (.nils), lb false]), (3, .box [li a.frm, li i, li g, .lsl 4 3 0 k.length, .p (.nils), .p (.nils), .p (.nils), .p (.nils), lb false]), (4, .row 65 3 (k.map stepC))], 5⟩ (by kernel_rfl) rfl ?_ ?_
 .refine drT_p ?_
  refine rlD rfl ?_
  refine drT_a ?_ ?_
  .refine rlD rfl ?_
   refine drT_a ?_ ?_
   .refine sxD rfl (opD_app (o_app1 (enc := stepC) (l := ([] : List Step)) (m := a.steps) c (fun _ => ⟨rfl, rfl⟩) rfl rfl rfl rfl rfl rfl ?_))
    refine rnD 2 rfl ?_
    refine sxD rfl (opD_app (o_app1 (enc := stepC) (l := j) (m := [b]) d (fun _ => ⟨rfl, rfl⟩) rfl rfl rfl rfl rfl rfl ?_))
    refine rlD rfl ?_
    exact drT_d (wf hA (gi 4 [(4, 10)]) rfl rfl rfl)
   refine drT_a ?_ ?_
   .refine rlD rfl ?_
    refine drT_a ?_ ?_
    .refine sxD rfl (opD_app (o_app1 (enc := stepC) (l := ([] : List Step)) (m := a.steps) c (fun _ => ⟨rfl, rfl⟩) rfl rfl rfl rfl rfl rfl ?_))
     refine rnD 1 rfl ?_
     refine sxD rfl (opD_app (o_app1 (enc := stepC) (l := j) (m := [b]) d (fun _ => ⟨rfl, rfl⟩) rfl rfl rfl rfl rfl rfl ?_))
     refine rlD rfl ?_
     exact drT_d (wf hA (gi 4 [(4, 10)]) rfl rfl rfl)
    refine drT_a ?_ ?_
    .refine rnD 1 rfl ?_
     refine sxD rfl (opD_app (o_app1 (enc := stepC) (l := ([] : List Step)) (m := a.steps) c (fun _ => ⟨rfl, rfl⟩) rfl rfl rfl rfl rfl rfl ?_))
     refine sxD rfl (opD_app (o_app1 (enc := stepC) (l := j) (m := [b]) d (fun _ => ⟨rfl, rfl⟩) rfl rfl rfl rfl rfl rfl ?_))
     refine rlD rfl ?_
     exact drT_d (wf hA (gi 4 [(4, 10)]) rfl rfl rfl)
    exact drT_n
   exact drT_n
  refine drT_a ?_ ?_
  .refine rlD rfl ?_
   refine drT_a ?_ ?_
   .refine sxD rfl (opD_app (o_app1 (enc := stepC) (l := ([] : List Step)) (m := a.steps) c (fun _ => ⟨rfl, rfl⟩) rfl rfl rfl rfl rfl rfl ?_))
    refine rnD 1 rfl ?_
    refine sxD rfl (opD_app (o_app1 (enc := stepC) (l := j) (m := [b]) d (fun _ => ⟨rfl, rfl⟩) rfl rfl rfl rfl rfl rfl ?_))
    refine rlD rfl ?_
    exact drT_d (wf hA (gi 4 [(4, 10)]) rfl rfl rfl)
   refine drT_a ?_ ?_
   .refine rnD 1 rfl ?_
    refine sxD rfl (opD_app (o_app1 (enc := stepC) (l := ([] : List Step)) (m := a.steps) c (fun _ => ⟨rfl, rfl⟩) rfl rfl rfl rfl rfl rfl ?_))
    refine sxD rfl (opD_app (o_app1 (enc := stepC) (l := j) (m := [b]) d (fun _ => ⟨rfl, rfl⟩) rfl rfl rfl rfl rfl rfl ?_))
    refine rlD rfl ?_
    exact drT_d (wf hA (gi 4 [(4, 10)]) rfl rfl rfl)
   exact drT_n
  exact drT_n
 .refine thenD_n <| rs env_ok <| rn 3 rfl ?_
  obtain ⟨z, u, n⟩ := bd t; clear t
  refine sx rfl (o_app1 (enc := needC) (l := ([] : List Need)) (m := a.needs) u (fun _ => ⟨rfl, rfl⟩) rfl rfl rfl rfl rfl rfl ?_)
  refine rl rfl ?_
  refine jb (fun e : (List Need) => ⟨42, [(10, .lpb 0 0), (11, .lpb 1 0)], [(0, .box [li 0, li 0, li 0, .p (.nils), .p (.nils), .p (.nils), .p (.nils), .p (.nils), lb false]), (1, .box [li a.frm, li i, li g, .lsl 2 3 0 k.length, .lsl 3 2 0 e.length, .p (.nils), .p (.nils), .p (.nils), lb false]), (2, .row 65 3 (k.map stepC)), (3, .row 91 2 (e.map needC))], 4⟩) n (fun e o => ?_) (fun e y => ?_) <;> clear n
  .refine rs env_ok <| rl rfl ?_
   refine cd rfl o (fun q => ?_) (fun x => ?_) <;> clear o
   .refine rg env_ok <| rn 7 rfl ?_
    obtain ⟨aa, v, w⟩ := bd q; clear q
    refine sx rfl (o_app1 (enc := needC) (l := z) (m := [(⟨b.elem, f⟩ : Need)]) v (fun _ => ⟨rfl, rfl⟩) rfl rfl rfl rfl rfl rfl ?_)
    refine rl rfl ?_
    have hr := Option.some.inj w; subst hr
    exact npn (wf hA [(0, 2), (1, 3), (2, 4), (3, 8)] rfl rfl rfl)
   .refine dwp_skip ?_
    have hr := Option.some.inj x; subst hr
    exact npn (wf hA [(0, 2), (1, 3), (2, 4), (3, 6)] rfl rfl rfl)
  .refine rs env_ok <| rl rfl <| dwp_ret ?_
   cases y
   exact er (rd1 rfl (.agg (.cons (.p _) (.cons (.p _) (.cons (.p _) (.cons (.own (enc := stepC) k rfl rfl) (.cons (.own (enc := needC) e rfl rfl) (.cons (.p _) (.cons (.p _) (.cons (.p _) (.cons (.p _) .nil))))))))))) (Le.agg' (.cons Le.rfl (.cons Le.rfl (.cons Le.rfl (.cons Le.rfl (.cons Le.rfl (.cons (Le.nil _) (.cons (Le.nil _) (.cons (Le.nil _) (.cons Le.rfl .nil))))))))))
noncomputable def q_2k (c : Plan) (d : Int) (a : Int) : Option (List Way) :=
 (q_3z c (⟨d, a⟩ : Port)).bind fun e => bif (!e) then some [] else (q_l c d).bind fun b => bif (b == 1) then some [(⟨wi64 (1 - a), 0⟩ : Way)] else bif (b == 3) then some [(⟨xor64 a 1, 0⟩ : Way)] else bif (b == 2) then bif (a == 0) then some [(⟨1, 1⟩ : Way), (⟨2, 2⟩ : Way)] else some [(⟨0, a⟩ : Way)] else some []
theorem w_7n (b : Plan) (c : Int) (a : Int) (r : (List Way)) (h : q_2k b c a = some r) : Fun Tryz.prog 152 [.agg (planC b), .int .i64 c, .int .i64 a] (· = .slice 2 (r.map wayC)) := by
 refine fn env_ok Tryz.func152 rfl rfl 38 rfl [.tmp 6] rfl [(0, .p (.agg (planC b))), (1, .p (.int .i64 c)), (2, .p (.int .i64 a))] rfl rfl fun A hA => ?_
 unfold q_2k at h
 refine rs env_ok <| rl rfl <| dwp_seq <| rs env_ok <| rn 4 rfl ?_
 obtain ⟨v, l, d⟩ := bd h; clear h
 refine sx rfl (o_call (w_8h _ _ _ l) (.inl rfl) rfl rfl rfl ?_)
 refine rl rfl ?_
 refine cd rfl d (fun m => ?_) (fun e => ?_) <;> clear d
 .refine rs env_ok <| rl rfl <| dwp_ret <| thenD_r ?_
  cases m
  exact er rfl (Le.nil _)
 .refine dwp_skip <| thenD_n <| dwp_seq <| rs env_ok <| rn 2 rfl ?_
  obtain ⟨u, k, f⟩ := bd e; clear e
  refine sx rfl (o_call (w_10 _ _ _ k) (.inl rfl) rfl rfl rfl ?_)
  refine rl rfl <| dwp_block <| rs env_ok <| rl rfl ?_
  refine cd rfl f (fun n => ?_) (fun g => ?_) <;> clear f
  .refine rs env_ok <| rl rfl <| dwp_ret <| inB_r <| thenD_r ?_
   cases n
   exact er (rd1 rfl (.one (.own (enc := wayC) ([(⟨wi64 (1 - a), 0⟩ : Way)] : List Way) rfl rfl))) Le.rfl
  .refine rs env_ok <| rl rfl ?_
   refine cd rfl g (fun o => ?_) (fun i => ?_) <;> clear g
   .refine rs env_ok <| rl rfl <| dwp_ret <| inB_r <| thenD_r ?_
    cases o
    exact er (rd1 rfl (.one (.own (enc := wayC) ([(⟨xor64 a 1, 0⟩ : Way)] : List Way) rfl rfl))) Le.rfl
   .refine rs env_ok <| rl rfl ?_
    refine cd rfl i (fun j => ?_) (fun t => ?_) <;> clear i
    .refine dwp_seq <| rs env_ok <| rl rfl ?_
     refine cd rfl j (fun q => ?_) (fun s => ?_) <;> clear j
     .refine rs env_ok <| rl rfl <| dwp_ret <| thenD_r <| inB_r <| thenD_r ?_
      cases q
      exact er (rd1 rfl (.one (.own (enc := wayC) ([(⟨1, 1⟩ : Way), (⟨2, 2⟩ : Way)] : List Way) rfl rfl))) Le.rfl
     .refine dwp_skip <| thenD_n <| rs env_ok <| rl rfl <| dwp_ret <| inB_r <| thenD_r ?_
      cases s
      exact er (rd1 rfl (.one (.own (enc := wayC) ([(⟨0, a⟩ : Way)] : List Way) rfl rfl))) Le.rfl
    .refine dwp_skip <| inB_n <| thenD_n <| rs env_ok <| rl rfl <| dwp_ret ?_
     cases t
     exact er rfl (Le.nil _)
noncomputable def q_70 (d : Plan) (e : Road) (b : Port) (rc : (Plan × Road × Port × (List Int)) -> Option (List Road)) (u : (List Int)) (c : (List Way)) (a : Int × (List Road)) : Option ((Int × (List Road)) ⊕ (List Road)) :=
 bif decide (a.1 < (c.length : Int)) then (((idx c a.1).bind fun g => (idx c a.1).bind fun f => (q_i d (⟨b.elem, g.out⟩ : Port)).bind fun h => bif decide (0 <= h) then (idx c a.1).bind fun k => (q_1i e (⟨b.elem, b.fin, f.out⟩ : Step) k.pos 1 h).bind fun l => (appI a.2 [l]).bind fun m => some m else (q_4 d (⟨b.elem, g.out⟩ : Port)).bind fun i => bif (!i.2) then (idx c a.1).bind fun n => (q_1i e (⟨b.elem, b.fin, f.out⟩ : Step) n.pos 3 (-1)).bind fun o => (appI a.2 [o]).bind fun p => some p else (idx c a.1).bind fun q => (q_1i e (⟨b.elem, b.fin, f.out⟩ : Step) q.pos 0 (-1)).bind fun r => (rc (d, r, i.1, u)).bind fun s => (appI a.2 s).bind fun t => some t : Option ((List Road)))).bind fun (j : (List Road)) => some (.inl (wi64 (a.1 + 1), j)) else some (.inr a.2)
noncomputable def q_3a (rc : (Plan × Road × Port × (List Int)) -> Option (List Road)) (b : Plan) (c : Road) (a : Port) (d : (List Int)) : Option (List Road) :=
 (((q_p d a.elem).bind fun f => bif f then some true else some ((c.steps.length : Int) == 12) : Option (Bool))).bind fun (e : Bool) => bif e then some [] else (appI ([] : List Int) d).bind fun g => (appI g [a.elem]).bind fun h => (q_q b a.elem).bind fun i => bif (i == 4) then (q_1i c (⟨a.elem, a.fin, (-1)⟩ : Step) 0 2 (-1)).bind fun j => some [j] else (q_2k b a.elem a.fin).bind fun k => loopR (q_70 b c a rc h k) (0, ([] : List Road))
noncomputable def q_9f (b : Plan) (c : Road) (d : Port) (e : (List Int)) : Option (List Road) :=
 recF (fun (rc : (Plan × Road × Port × (List Int)) -> Option (List Road)) (a : (Plan × Road × Port × (List Int))) => q_3a rc a.1 a.2.1 a.2.2.1 a.2.2.2) 1000 (b, c, d, e)
theorem w_a2 (rc : (Plan × Road × Port × (List Int)) -> Option (List Road)) (hrec : ∀ (b : Plan) (c : Road) (d : Port) (e : (List Int)) (r : (List Road)), rc (b, c, d, e) = some r -> Fun Tryz.prog 105 [.agg (planC b), .agg (roadC c), .agg (portC d), .slice 1 (e.map intC)] (· = .slice 9 (r.map roadC))) (b : Plan) (c : Road) (d : Port) (e : (List Int)) (r : (List Road)) (h : q_3a rc b c d e = some r) : Fun Tryz.prog 105 [.agg (planC b), .agg (roadC c), .agg (portC d), .slice 1 (e.map intC)] (· = .slice 9 (r.map roadC)) := by
 refine fn env_ok Tryz.func105 rfl rfl 128 rfl [.tmp 8] rfl [(0, .p (.agg (planC b))), (1, .p (.agg (roadC c))), (2, .p (.agg (portC d))), (3, .p (.slice 1 (e.map intC)))] rfl rfl fun A hA => ?_
 unfold q_3a at h
 refine rs env_ok <| rl rfl <| dwp_seq ?_
 refine jb (fun q : Bool => ⟨128, [(3, ls 1 intC e), (4, .lpb 0 0), (5, .lpb 1 0), (6, .lpb 2 0), (26, lb q)], [(0, .box [ls 3 elemC b.elems, ls 4 joinC b.joins, ls 4 signalC b.signals, ls 2 lineC b.lines, li b.top, li b.brake, li b.margin, li b.throw, lb b.hard]), (1, .box [li c.frm, li c.to, li c.fin, ls 3 stepC c.steps, ls 2 needC c.needs, ls 2 needC c.guards, ls 1 intC c.zone, ls 1 intC c.holds, lb c.bare]), (2, .box [li d.elem, li d.fin])], 3⟩) h (fun q ak => ?_) (fun q am => ?_) <;> clear h
 .refine rg env_ok <| rn 3 rfl ?_
  obtain ⟨b7, bb, al⟩ := bd ak; clear ak
  refine sx rfl (o_call (w_15 _ _ _ bb) (.inl rfl) rfl rfl rfl ?_)
  refine rn 1 rfl ?_
  refine gs 21 al rfl rfl rfl (fun bl => ?_) (fun bm => ?_) <;> clear al
  .refine rl rfl ?_
   cases bl
   exact npn (wf hA (gi 3 []) rfl rfl rfl)
  .refine rn 2 rfl ?_
   refine sx rfl (o_len rfl rfl ?_)
   refine rl rfl ?_
   cases bm
   exact npn (wf hA (gi 3 []) rfl rfl rfl)
 .refine cd rfl am (fun bn => ?_) (fun an => ?_) <;> clear am
  .refine rs env_ok <| rl rfl <| dwp_ret <| thenD_r ?_
   cases bn
   exact er rfl (Le.nil _)
  .refine dwp_skip <| thenD_n <| dwp_seq ?_
   obtain ⟨j, g, ao⟩ := bd an; clear an
   obtain ⟨k, i, ap⟩ := bd ao; clear ao
   refine rgdT env_ok mixed (.picks [1, 3] (.alt 0 [] (.alt 2 [4, 5, 6, 7] .done (.alt 4 [] (.alt 2 [5, 6, 7] .done (.alt 5 [2, 6, 7] .done .nil)) .nil)) (.alt 4 [0] (.alt 2 [5, 6, 7] .done (.alt 5 [2, 6, 7] .done .nil)) .nil))) 8 ⟨128, [(3, .lsl 0 1 0 k.length), (4, .lpb 1 0), (5, .lpb 2 0), (6, .lpb 3 0)], [(0, .row 3 1 (k.map intC)), (1, .box [ls 3 elemC b.elems, ls 4 joinC b.joins, ls 4 signalC b.signals, ls 2 lineC b.lines, li b.top, li b.brake, li b.margin, li b.throw, lb b.hard]), (2, .box [li c.frm, li c.to, li c.fin, ls 3 stepC c.steps, ls 2 needC c.needs, ls 2 needC c.guards, ls 1 intC c.zone, ls 1 intC c.holds, lb c.bare]), (3, .box [li d.elem, li d.fin])], 4⟩ (by kernel_rfl) rfl ?_ ?_
   .refine drT_p ?_
    refine rlD rfl ?_
    refine drT_a ?_ ?_
    .refine rlD rfl ?_
     refine drT_a ?_ ?_
     .refine sxD rfl (opD_app (o_app1 (enc := intC) (l := ([] : List Int)) (m := e) g (fun _ => ⟨rfl, rfl⟩) rfl rfl rfl rfl rfl rfl ?_))
      refine rnD 2 rfl ?_
      refine sxD rfl (opD_app (o_app1 (enc := intC) (l := j) (m := [d.elem]) i (fun _ => ⟨rfl, rfl⟩) rfl rfl rfl rfl rfl rfl ?_))
      refine rlD rfl ?_
      exact drT_d (wf hA [(0, 9), (1, 0), (2, 1), (3, 2)] rfl rfl rfl)
     refine drT_a ?_ ?_
     .refine rlD rfl ?_
      refine drT_a ?_ ?_
      .refine sxD rfl (opD_app (o_app1 (enc := intC) (l := ([] : List Int)) (m := e) g (fun _ => ⟨rfl, rfl⟩) rfl rfl rfl rfl rfl rfl ?_))
       refine rnD 1 rfl ?_
       refine sxD rfl (opD_app (o_app1 (enc := intC) (l := j) (m := [d.elem]) i (fun _ => ⟨rfl, rfl⟩) rfl rfl rfl rfl rfl rfl ?_))
       refine rlD rfl ?_
       exact drT_d (wf hA [(0, 9), (1, 0), (2, 1), (3, 2)] rfl rfl rfl)
      refine drT_a ?_ ?_
      .refine rnD 1 rfl ?_
       refine sxD rfl (opD_app (o_app1 (enc := intC) (l := ([] : List Int)) (m := e) g (fun _ => ⟨rfl, rfl⟩) rfl rfl rfl rfl rfl rfl ?_))
       refine sxD rfl (opD_app (o_app1 (enc := intC) (l := j) (m := [d.elem]) i (fun _ => ⟨rfl, rfl⟩) rfl rfl rfl rfl rfl rfl ?_))
       refine rlD rfl ?_
       exact drT_d (wf hA [(0, 9), (1, 0), (2, 1), (3, 2)] rfl rfl rfl)
      exact drT_n
     exact drT_n
    refine drT_a ?_ ?_
    .refine rlD rfl ?_
     refine drT_a ?_ ?_
     .refine sxD rfl (opD_app (o_app1 (enc := intC) (l := ([] : List Int)) (m := e) g (fun _ => ⟨rfl, rfl⟩) rfl rfl rfl rfl rfl rfl ?_))
      refine rnD 1 rfl ?_
      refine sxD rfl (opD_app (o_app1 (enc := intC) (l := j) (m := [d.elem]) i (fun _ => ⟨rfl, rfl⟩) rfl rfl rfl rfl rfl rfl ?_))
      refine rlD rfl ?_
      exact drT_d (wf hA [(0, 9), (1, 0), (2, 1), (3, 2)] rfl rfl rfl)
     refine drT_a ?_ ?_
     .refine rnD 1 rfl ?_
      refine sxD rfl (opD_app (o_app1 (enc := intC) (l := ([] : List Int)) (m := e) g (fun _ => ⟨rfl, rfl⟩) rfl rfl rfl rfl rfl rfl ?_))
      refine sxD rfl (opD_app (o_app1 (enc := intC) (l := j) (m := [d.elem]) i (fun _ => ⟨rfl, rfl⟩) rfl rfl rfl rfl rfl rfl ?_))
      refine rlD rfl ?_
      exact drT_d (wf hA [(0, 9), (1, 0), (2, 1), (3, 2)] rfl rfl rfl)
     exact drT_n
    exact drT_n
   .refine thenD_n <| dwp_seq <| rs env_ok <| rn 3 rfl ?_
    obtain ⟨b8, bc, aq⟩ := bd ap; clear ap
    refine sx rfl (o_call (w_1c _ _ _ bc) (.inl rfl) rfl rfl rfl ?_)
    refine rl rfl ?_
    refine cd rfl aq (fun ar => ?_) (fun au => ?_) <;> clear aq
    .refine rs env_ok <| rn 6 rfl ?_
     obtain ⟨bs, be, bo⟩ := bd ar; clear ar
     refine sx rfl (o_call (w_39 _ _ _ _ _ _ be) (.inr rfl) rfl rfl rfl ?_)
     refine rl rfl <| dwp_ret <| thenD_r ?_
     cases bo
     exact er (rd1 rfl (.one (.own (enc := roadC) ([bs] : List Road) rfl rfl))) Le.rfl
    .refine dwp_skip <| thenD_n <| rs env_ok <| rl rfl <| rs env_ok <| rn 5 rfl ?_
     obtain ⟨aw, bf, av⟩ := bd au; clear au
     refine sx rfl (o_call (w_7n _ _ _ _ bf) (.inr rfl) rfl rfl rfl ?_)
     refine rl rfl <| dwp_seq <| rs env_ok <| rl rfl <| dwp_block ?_
     apply lp (a := r) (fun f : (Int × (List Road)) => ⟨128, [(3, ls 1 intC k), (4, .lpb 0 0), (5, .lpb 1 0), (6, .lpb 2 0), (9, .lsl 3 9 0 f.2.length), (10, ls 2 wayC aw), (11, li f.1)], [(0, .box [ls 3 elemC b.elems, ls 4 joinC b.joins, ls 4 signalC b.signals, ls 2 lineC b.lines, li b.top, li b.brake, li b.margin, li b.throw, lb b.hard]), (1, .box [li c.frm, li c.to, li c.fin, ls 3 stepC c.steps, ls 2 needC c.needs, ls 2 needC c.guards, ls 1 intC c.zone, ls 1 intC c.holds, lb c.bare]), (2, .box [li d.elem, li d.fin]), (3, .row 36 9 (f.2.map roadC))], 4⟩) av <;> clear av
     . exact Weak.trans (weak_frz 0 (own_dv (enc := intC) (l := k) rfl) (.cons 3 .hit (.cons 4 (.same _) (.cons 5 (.same _) (.cons 6 (.same _) (.cons 9 (.same _) (.cons 10 (.same _) (.cons 11 (.same _) .nil))))))) (.cons 1 rfl rfl (.same _) (.cons 2 rfl rfl (.same _) (.cons 3 rfl rfl (.same _) .nil)))) (Weak.trans (weak_ghost 9 36 9 rfl) (wf hA [(0, 1), (1, 2), (2, 3), (3, 4)] rfl rfl rfl))
     intro f bu o
     unfold q_70 at o
     refine dwp_seq <| rs env_ok <| rn 2 rfl ?_
     refine sx rfl (o_len rfl rfl ?_)
     refine rl rfl ?_
     refine cd rfl o (fun s => ?_) (fun aj => ?_) <;> clear o
     .refine dwp_skip <| thenD_n ?_
      refine jb (fun n : (List Road) => ⟨128, [(3, ls 1 intC k), (4, .lpb 0 0), (5, .lpb 1 0), (6, .lpb 2 0), (9, .lsl 3 9 0 n.length), (10, ls 2 wayC aw), (11, li f.1)], [(0, .box [ls 3 elemC b.elems, ls 4 joinC b.joins, ls 4 signalC b.signals, ls 2 lineC b.lines, li b.top, li b.brake, li b.margin, li b.throw, lb b.hard]), (1, .box [li c.frm, li c.to, li c.fin, ls 3 stepC c.steps, ls 2 needC c.needs, ls 2 needC c.guards, ls 1 intC c.zone, ls 1 intC c.holds, lb c.bare]), (2, .box [li d.elem, li d.fin]), (3, .row 36 9 (n.map roadC))], 4⟩) s (fun n t => ?_) (fun n bj => ?_) <;> clear s
      .refine dwp_block <| dwp_seq ?_
       refine rgd env_ok mixed [0, 1, 2, 3, 4, 5, 6, 7, 8, 9] 10 (by kernel_rfl) rfl rfl rfl ?_
       refine rnD 4 rfl ?_
       obtain ⟨bv, ax, u⟩ := bd t; clear t
       refine sxD rfl (opD_plain rfl (o_idx ax rfl rfl rfl ?_))
       refine rlD rfl <| thenD_n <| dwp_seq ?_
       refine rgd env_ok mixed [0, 1, 2, 3, 4, 5, 6, 7, 8, 9, 10, 11] 12 (by kernel_rfl) rfl rfl rfl ?_
       refine rnD 6 rfl ?_
       obtain ⟨bw, ay, v⟩ := bd u; clear u
       refine sxD rfl (opD_plain rfl (o_idx ay rfl rfl rfl ?_))
       refine rlD rfl <| thenD_n <| dwp_seq <| rs env_ok <| rn 2 rfl ?_
       obtain ⟨bx, az, w⟩ := bd v; clear v
       refine sx rfl (o_call (w_11 _ _ _ az) (.inl rfl) rfl rfl rfl ?_)
       refine rl rfl <| rs env_ok <| rl rfl ?_
       refine cd rfl w (fun x => ?_) (fun aa => ?_) <;> clear w
       .refine dwp_seq ?_
        refine rgd env_ok mixed [0, 1, 2, 3, 4, 5, 6, 7, 8, 9, 10, 11, 12] 13 (by kernel_rfl) rfl rfl rfl ?_
        refine rnD 5 rfl ?_
        obtain ⟨bz, a0, y⟩ := bd x; clear x
        refine sxD rfl (opD_plain rfl (o_idx a0 rfl rfl rfl ?_))
        refine rnD 3 rfl ?_
        obtain ⟨bp, a1, z⟩ := bd y; clear y
        refine sxD rfl (o_callD (w_39 _ _ _ _ _ _ a1) (.inr rfl) rfl rfl rfl ?_)
        refine rnD 1 rfl ?_
        obtain ⟨b0, a2, bg⟩ := bd z; clear z
        refine sxD rfl (opD_app (o_app1 (enc := roadC) (l := f.2) (m := [bp]) a2 (fun _ => ⟨rfl, rfl⟩) rfl rfl rfl rfl rfl rfl ?_))
        refine rlD rfl <| thenD_n <| dwp_exit <| thenD_x <| inB_x ?_
        have hr := Option.some.inj bg; subst hr
        exact npn (wf hA (gi 3 [(3, 37)]) rfl rfl rfl)
       .refine dwp_skip <| thenD_n <| rs env_ok <| rn 2 rfl ?_
        obtain ⟨b1, a3, ab⟩ := bd aa; clear aa
        refine sx rfl (o_call (w_7 _ _ _ a3) (.inl rfl) rfl rfl rfl ?_)
        refine rl rfl <| dwp_seq <| rs env_ok <| rl rfl ?_
        refine cd rfl ab (fun ac => ?_) (fun af => ?_) <;> clear ab
        .refine dwp_seq ?_
         refine rgd env_ok mixed [0, 1, 2, 3, 4, 5, 6, 7, 8, 9, 10, 11] 12 (by kernel_rfl) rfl rfl rfl ?_
         refine rnD 5 rfl ?_
         obtain ⟨b2, a4, ad⟩ := bd ac; clear ac
         refine sxD rfl (opD_plain rfl (o_idx a4 rfl rfl rfl ?_))
         refine rnD 2 rfl ?_
         obtain ⟨bq, a5, ae⟩ := bd ad; clear ad
         refine sxD rfl (o_callD (w_39 _ _ _ _ _ _ a5) (.inr rfl) rfl rfl rfl ?_)
         refine rnD 1 rfl ?_
         obtain ⟨b3, a6, bh⟩ := bd ae; clear ae
         refine sxD rfl (opD_app (o_app1 (enc := roadC) (l := f.2) (m := [bq]) a6 (fun _ => ⟨rfl, rfl⟩) rfl rfl rfl rfl rfl rfl ?_))
         refine rlD rfl <| thenD_n <| dwp_exit <| thenD_x <| inB_x ?_
         have hr := Option.some.inj bh; subst hr
         exact npn (wf hA (gi 3 [(3, 37)]) rfl rfl rfl)
        .refine dwp_skip <| thenD_n ?_
         refine rgd env_ok mixed [0, 1, 2, 3, 4, 5, 6, 7, 8, 9, 10, 11, 12, 13, 14] 15 (by kernel_rfl) rfl rfl rfl ?_
         refine rnD 6 rfl ?_
         obtain ⟨b4, a7, ag⟩ := bd af; clear af
         refine sxD rfl (opD_plain rfl (o_idx a7 rfl rfl rfl ?_))
         refine rnD 2 rfl ?_
         obtain ⟨b5, a8, ah⟩ := bd ag; clear ag
         refine sxD rfl (o_callD (w_39 _ _ _ _ _ _ a8) (.inr rfl) rfl rfl rfl ?_)
         refine rnD 2 rfl ?_
         obtain ⟨br, a9, ai⟩ := bd ah; clear ah
         refine sxD rfl (o_callD (hrec _ _ _ _ _ a9) (.inr rfl) rfl rfl rfl ?_)
         obtain ⟨b6, ba, bi⟩ := bd ai; clear ai
         refine sxD rfl (opD_app (o_app1 (enc := roadC) (l := f.2) (m := br) ba (fun _ => ⟨rfl, rfl⟩) rfl rfl rfl rfl rfl rfl ?_))
         refine rlD rfl <| inB_n ?_
         have hr := Option.some.inj bi; subst hr
         exact npn (wf hA (gi 3 [(3, 40)]) rfl rfl rfl)
      .refine rg env_ok <| rl rfl ?_
       cases bj
       exact lpn (wf hA (gi 4 []) rfl rfl rfl)
     .refine dwp_exit <| thenD_x ?_
      obtain ⟨bt, bk, rfl⟩ := mps aj; clear aj
      refine lpx <| inB_x <| thenD_n <| rs env_ok <| rl rfl <| dwp_ret ?_
      cases bk
      exact er (rd1 rfl (.one (.own (enc := roadC) f.2 rfl rfl))) Le.rfl
theorem w_ab (b : Plan) (c : Road) (d : Port) (e : (List Int)) (r : (List Road)) (h : q_9f b c d e = some r) : Fun Tryz.prog 105 [.agg (planC b), .agg (roadC c), .agg (portC d), .slice 1 (e.map intC)] (· = .slice 9 (r.map roadC)) :=
 recF_holds (F := fun (rc : (Plan × Road × Port × (List Int)) -> Option (List Road)) (a : (Plan × Road × Port × (List Int))) => q_3a rc a.1 a.2.1 a.2.2.1 a.2.2.2) (C := fun (a : (Plan × Road × Port × (List Int))) (r : (List Road)) => Fun Tryz.prog 105 [.agg (planC a.1), .agg (roadC a.2.1), .agg (portC a.2.2.1), .slice 1 (a.2.2.2.map intC)] (· = .slice 9 (r.map roadC))) (fun rc hrec a r h => w_a2 rc (fun f g i j r h => hrec (f, g, i, j) r h) a.1 a.2.1 a.2.2.1 a.2.2.2 r h) 1000 (b, c, d, e) r h
end Go.E
/- Plain functions, and walks in step with them. Written by a program (gen.py). No condition. -/
set_option maxRecDepth 100000
namespace Go.E
open Go Go.RowKit Go.Proofs
noncomputable def q_6c (a : Plan) (c : Int) : Option (List Road) :=
 (q_5i a c).bind fun b => bif (!b.2) then some [] else (q_4 a b.1).bind fun d => bif (!d.2) then some [] else (q_9f a (⟨c, 0, 0, [], [], [], [], [], false⟩ : Road) d.1 ([b.1.elem] : (List Int))).bind fun e => some e
theorem w_98 (a : Plan) (b : Int) (r : (List Road)) (h : q_6c a b = some r) : Fun Tryz.prog 38 [.agg (planC a), .int .i64 b] (· = .slice 9 (r.map roadC)) := by
 refine fn env_ok Tryz.func38 rfl rfl 33 rfl [.tmp 4] rfl [(0, .p (.agg (planC a))), (1, .p (.int .i64 b))] rfl rfl fun A hA => ?_
 unfold q_6c at h
 refine rs env_ok <| rl rfl <| rs env_ok <| rn 2 rfl ?_
 obtain ⟨n, j, e⟩ := bd h; clear h
 refine sx rfl (o_call (w_8r _ _ _ j) (.inl rfl) rfl rfl rfl ?_)
 refine rl rfl <| dwp_seq <| rs env_ok <| rl rfl ?_
 refine cd rfl e (fun m => ?_) (fun f => ?_) <;> clear e
 .refine rs env_ok <| rl rfl <| dwp_ret <| thenD_r ?_
  cases m
  exact er rfl (Le.nil _)
 .refine dwp_skip <| thenD_n <| rs env_ok <| rn 2 rfl ?_
  obtain ⟨o, g, c⟩ := bd f; clear f
  refine sx rfl (o_call (w_7 _ _ _ g) (.inl rfl) rfl rfl rfl ?_)
  refine rl rfl <| dwp_seq <| rs env_ok <| rl rfl ?_
  refine cd rfl c (fun k => ?_) (fun d => ?_) <;> clear c
  .refine rs env_ok <| rl rfl <| dwp_ret <| thenD_r ?_
   cases k
   exact er rfl (Le.nil _)
  .refine dwp_skip <| thenD_n <| rs env_ok <| rn 7 rfl ?_
   obtain ⟨q, i, l⟩ := bd d; clear d
   refine sx rfl (o_call2 (Fun.le (w_ab _ _ _ _ _ i) (.cons Le.rfl (.cons (Le.agg' (.cons Le.rfl (.cons Le.rfl (.cons Le.rfl (.cons (Le.nil _) (.cons (Le.nil _) (.cons (Le.nil _) (.cons (Le.nil _) (.cons (Le.nil _) (.cons Le.rfl .nil)))))))))) (.cons Le.rfl (.cons Le.rfl .nil))))) rfl rfl rfl (LdA.eq (.cons (.one (.p _)) (.cons (.one (.p _)) (.cons (.one (.p _)) (.cons (.one (.own (enc := intC) ([n.1.elem] : List Int) rfl rfl)) .nil))))) rfl ?_)
   refine rl rfl <| dwp_ret ?_
   have hr := Option.some.inj l; subst hr
   exact er rfl Le.rfl
noncomputable def q_1 (a : (List Step)) : Option (List Step) :=
 nilS a (some []) ((appI ([] : List Step) a).bind fun b => some b)
theorem w_5d (a : (List Step)) (r : (List Step)) (h : q_1 a = some r) : Fun Tryz.prog 45 [.slice 3 (a.map stepC)] (· = .slice 3 (r.map stepC)) := by
 refine fn env_ok Tryz.func45 rfl rfl 8 rfl [.tmp 2] rfl [(0, .p (.slice 3 (a.map stepC)))] rfl rfl fun A hA => ?_
 unfold q_1 at h
 refine rs env_ok <| rl rfl <| dwp_seq <| rs env_ok <| rn 1 rfl ?_
 refine sx rfl (o_nilE h rfl rfl rfl (fun e => ?_) (fun b => ?_)) <;> clear h
 .refine rl rfl <| cdt rfl <| rs env_ok <| rl rfl <| dwp_ret <| thenD_r ?_
  cases e
  exact er rfl (Le.nil _)
 .refine rl rfl <| cdf rfl <| dwp_skip <| thenD_n <| rs env_ok <| rn 2 rfl ?_
  obtain ⟨f, c, d⟩ := bd b; clear b
  refine sx rfl (o_app1 (enc := stepC) (l := ([] : List Step)) (m := a) c (fun _ => ⟨rfl, rfl⟩) rfl rfl rfl rfl rfl rfl ?_)
  refine rl rfl <| dwp_ret ?_
  have hr := Option.some.inj d; subst hr
  exact er (rd1 rfl (.one (.own (enc := stepC) f rfl rfl))) Le.rfl
theorem w_o (a : (List Step)) (r : (List Step)) (h : q_1 a = some r) : FunN Tryz.prog 45 [.slice 3 (a.map stepC)] 65 3 (r.map stepC) := by
 refine fnN (enc := stepC) (fun _ => ⟨rfl, rfl⟩) Tryz.func45 rfl rfl 8 rfl 2 rfl [(0, .p (.slice 3 (a.map stepC)))] rfl rfl fun A hA => ?_
 unfold q_1 at h
 refine rs env_ok <| rl rfl <| dwp_seq <| rs env_ok <| rn 1 rfl ?_
 refine sx rfl (o_nilE h rfl rfl rfl (fun e => ?_) (fun b => ?_)) <;> clear h
 .refine rl rfl <| cdt rfl <| rs env_ok <| rl rfl <| dwp_ret <| thenD_r ?_
  cases e
  exact erNn rfl
 .refine rl rfl <| cdf rfl <| dwp_skip <| thenD_n <| rs env_ok <| rn 2 rfl ?_
  obtain ⟨f, c, d⟩ := bd b; clear b
  refine sx rfl (o_app1 (enc := stepC) (l := ([] : List Step)) (m := a) c (fun _ => ⟨rfl, rfl⟩) rfl rfl rfl rfl rfl rfl ?_)
  refine rl rfl <| dwp_ret ?_
  have hr := Option.some.inj d; subst hr
  exact erN rfl rfl rfl
noncomputable def q_6 (a : (List Need)) : Option (List Need) :=
 nilS a (some []) ((appI ([] : List Need) a).bind fun b => some b)
theorem w_5e (a : (List Need)) (r : (List Need)) (h : q_6 a = some r) : Fun Tryz.prog 46 [.slice 2 (a.map needC)] (· = .slice 2 (r.map needC)) := by
 refine fn env_ok Tryz.func46 rfl rfl 8 rfl [.tmp 2] rfl [(0, .p (.slice 2 (a.map needC)))] rfl rfl fun A hA => ?_
 unfold q_6 at h
 refine rs env_ok <| rl rfl <| dwp_seq <| rs env_ok <| rn 1 rfl ?_
 refine sx rfl (o_nilE h rfl rfl rfl (fun e => ?_) (fun b => ?_)) <;> clear h
 .refine rl rfl <| cdt rfl <| rs env_ok <| rl rfl <| dwp_ret <| thenD_r ?_
  cases e
  exact er rfl (Le.nil _)
 .refine rl rfl <| cdf rfl <| dwp_skip <| thenD_n <| rs env_ok <| rn 2 rfl ?_
  obtain ⟨f, c, d⟩ := bd b; clear b
  refine sx rfl (o_app1 (enc := needC) (l := ([] : List Need)) (m := a) c (fun _ => ⟨rfl, rfl⟩) rfl rfl rfl rfl rfl rfl ?_)
  refine rl rfl <| dwp_ret ?_
  have hr := Option.some.inj d; subst hr
  exact er (rd1 rfl (.one (.own (enc := needC) f rfl rfl))) Le.rfl
theorem w_47 (a : (List Need)) (r : (List Need)) (h : q_6 a = some r) : FunN Tryz.prog 46 [.slice 2 (a.map needC)] 91 2 (r.map needC) := by
 refine fnN (enc := needC) (fun _ => ⟨rfl, rfl⟩) Tryz.func46 rfl rfl 8 rfl 2 rfl [(0, .p (.slice 2 (a.map needC)))] rfl rfl fun A hA => ?_
 unfold q_6 at h
 refine rs env_ok <| rl rfl <| dwp_seq <| rs env_ok <| rn 1 rfl ?_
 refine sx rfl (o_nilE h rfl rfl rfl (fun e => ?_) (fun b => ?_)) <;> clear h
 .refine rl rfl <| cdt rfl <| rs env_ok <| rl rfl <| dwp_ret <| thenD_r ?_
  cases e
  exact erNn rfl
 .refine rl rfl <| cdf rfl <| dwp_skip <| thenD_n <| rs env_ok <| rn 2 rfl ?_
  obtain ⟨f, c, d⟩ := bd b; clear b
  refine sx rfl (o_app1 (enc := needC) (l := ([] : List Need)) (m := a) c (fun _ => ⟨rfl, rfl⟩) rfl rfl rfl rfl rfl rfl ?_)
  refine rl rfl <| dwp_ret ?_
  have hr := Option.some.inj d; subst hr
  exact erN rfl rfl rfl
noncomputable def q_z (a : Net) : Option Plan :=
 (q_38 a.p).bind fun b => some b
theorem w_25 (a : Net) (r : Plan) (h : q_z a = some r) : Fun Tryz.prog 47 [.place (netC a) 0] (· = .agg (planC r)) := by
 refine fn env_ok Tryz.func47 rfl rfl 8 rfl [.cell 2 27] rfl [(0, .p (.place (netC a) 0))] rfl rfl fun A hA => ?_
 unfold q_z at h
 refine rs env_ok <| rl rfl <| rs env_ok <| rn 4 rfl ?_
 obtain ⟨d, b, c⟩ := bd h; clear h
 refine sx rfl (o_call (w_8q _ _ b) (.inr rfl) rfl rfl rfl ?_)
 refine rl rfl <| dwp_ret ?_
 have hr := Option.some.inj c; subst hr
 exact er rfl Le.rfl
noncomputable def q_28 (b : Net) (a : Int) : Option Elem :=
 ((bif decide (a < 0) then some true else some (decide ((b.p.elems.length : Int) <= a)) : Option (Bool))).bind fun (c : Bool) => bif c then some (⟨ByteArray.empty, 0, 0⟩ : Elem) else (idx b.p.elems a).bind fun d => some d
theorem w_8u (a : Net) (b : Int) (r : Elem) (h : q_28 a b = some r) : Fun Tryz.prog 119 [.place (netC a) 0, .int .i64 b] (· = .agg (elemC r)) := by
 refine fn env_ok Tryz.func119 rfl rfl 26 rfl [.cell 4 152] rfl [(0, .p (.place (netC a) 0)), (1, .p (.int .i64 b))] rfl rfl fun A hA => ?_
 unfold q_28 at h
 refine rs env_ok <| rl rfl <| dwp_seq ?_
 refine jb (fun c : Bool => ⟨26, [(0, lq (netC a)), (1, li b), (4, .lpb 0 0), (16, lb c)], [(0, .box [.p (.str ByteArray.empty), li 0, li 0])], 1⟩) h (fun c d => ?_) (fun c e => ?_) <;> clear h
 .refine rg env_ok <| rn 3 rfl ?_
  refine gs 7 d rfl rfl rfl (fun i => ?_) (fun j => ?_) <;> clear d
  .refine rl rfl ?_
   cases i
   exact npn (wf hA [(0, 0)] rfl rfl rfl)
  .refine rn 6 rfl ?_
   refine sx rfl (o_len rfl rfl ?_)
   refine rl rfl ?_
   cases j
   exact npn (wf hA [(0, 0)] rfl rfl rfl)
 .refine cd rfl e (fun k => ?_) (fun f => ?_) <;> clear e
  .refine rs env_ok <| rl rfl <| dwp_ret <| thenD_r ?_
   cases k
   exact er rfl Le.rfl
  .refine dwp_skip <| thenD_n <| rs env_ok <| rn 6 rfl ?_
   obtain ⟨m, g, l⟩ := bd f; clear f
   refine sx rfl (o_idx g rfl rfl rfl ?_)
   refine rl rfl <| dwp_ret ?_
   have hr := Option.some.inj l; subst hr
   exact er rfl Le.rfl
noncomputable def q_5 (a : Net) (b : Int) : Option Int :=
 (q_28 a b).bind fun c => some c.kind
theorem w_a (a : Net) (b : Int) (r : Int) (h : q_5 a b = some r) : Fun Tryz.prog 54 [.place (netC a) 0, .int .i64 b] (· = .int .i64 r) := by
 refine fn env_ok Tryz.func54 rfl rfl 9 rfl [.tmp 4] rfl [(0, .p (.place (netC a) 0)), (1, .p (.int .i64 b))] rfl rfl fun A hA => ?_
 unfold q_5 at h
 refine rs env_ok <| rl rfl <| rs env_ok <| rn 2 rfl ?_
 obtain ⟨e, c, d⟩ := bd h; clear h
 refine sx rfl (o_call (w_8u _ _ _ c) (.inl rfl) rfl rfl rfl ?_)
 refine rl rfl <| dwp_ret ?_
 cases d
 exact er rfl Le.rfl
noncomputable def q_0 (a : Net) (b : Port) : Option (Port × Bool) :=
 some (((assoc a.next b).getD (⟨0, 0⟩ : Port)), (assoc a.next b).isSome)
theorem w_2 (a : Net) (b : Port) (r : (Port × Bool)) (h : q_0 a b = some r) : Fun Tryz.prog 49 [.place (netC a) 0, .agg (portC b)] (· = .tup [.agg (portC r.1), .bool r.2]) := by
 refine fn env_ok Tryz.func49 rfl rfl 19 rfl [.cell 4 96, .tmp 5] rfl [(0, .p (.place (netC a) 0)), (1, .p (.agg (portC b)))] rfl rfl fun A hA => ?_
 unfold q_0 at h
 refine rs env_ok <| rl rfl <| dwp_seq ?_
 refine rgd env_ok mixed [0, 1, 2, 3, 4, 5, 6, 7, 8, 9, 10, 11] 12 (by kernel_rfl) rfl rfl rfl ?_
 refine rnD 5 rfl ?_
 refine sxD rfl (opD_plain rfl (o_lk2 (et := 96) (ke := (fun x => .agg (portC x))) (ve := (fun x => .agg (portC x))) (mp := a.next) (y := b) (⟨0, 0⟩ : Port) keyE_96 rfl rfl rfl rfl ?_))
 refine rlD rfl <| thenD_n <| rs env_ok <| rl rfl <| dwp_ret ?_
 cases h
 exact er rfl Le.rfl
noncomputable def q_4p (g : Net) (e : (Int × (List Port))) (c : Step) (b : (List Int)) (a : Int × (List Port)) : Option ((Int × (List Port)) ⊕ ((Int × (List Port)) ⊕ (List Port))) :=
 bif decide (a.1 < (b.length : Int)) then (((idx b a.1).bind fun d => (q_0 g (⟨c.elem, d⟩ : Port)).bind fun h => bif h.2 then (appI a.2 [(⟨c.elem, d⟩ : Port)]).bind fun i => some i else some a.2 : Option ((List Port)))).bind fun (f : (List Port)) => some (.inl (wi64 (a.1 + 1), f)) else some (.inr (.inl (wi64 (e.1 + 1), a.2)))
noncomputable def q_4q (c : Net) (d : Road) (b : Int × (List Port)) : Option ((Int × (List Port)) ⊕ (List Port)) :=
 bif decide (b.1 < (d.steps.length : Int)) then (idx d.steps b.1).bind fun a => (((q_5 c a.elem).bind fun e => bif (e == 2) then some [wi64 (3 - (if a.out > a.in_ then a.out else a.in_))] else bif (e == 3) then bif decide (1 < a.in_) then some [0, 1] else some [2, 3] else some ([] : List Int) : Option ((List Int)))).bind fun (f : (List Int)) => loopR (q_4p c b a f) (0, b.2) else some (.inr b.2)
noncomputable def q_1z (a : Net) (b : Road) : Option (List Port) :=
 loopR (q_4q a b) (0, ([] : List Port))
theorem w_7m (f : Net) (b : Road) (r : (List Port)) (h : q_1z f b = some r) : Fun Tryz.prog 48 [.place (netC f) 0, .agg (roadC b)] (· = .slice 2 (r.map portC)) := by
 refine fn env_ok Tryz.func48 rfl rfl 67 rfl [.tmp 4] rfl [(0, .p (.place (netC f) 0)), (1, .p (.agg (roadC b)))] rfl rfl fun A hA => ?_
 unfold q_1z at h
 refine rs env_ok <| rl rfl <| rs env_ok <| rl rfl <| dwp_seq <| rs env_ok <| rn 2 rfl ?_
 refine sx rfl (o_len rfl rfl ?_)
 refine rl rfl <| dwp_block ?_
 apply lp (a := r) (fun c : (Int × (List Port)) => ⟨67, [(0, lq (netC f)), (5, .lsl 0 2 0 c.2.length), (16, ls 3 stepC b.steps), (17, li (b.steps.length : Int)), (18, li c.1)], [(0, .row 96 2 (c.2.map portC))], 1⟩) h <;> clear h
 . exact Weak.trans (weak_ghost 5 96 2 rfl) (wf hA [(0, 1)] rfl rfl rfl)
 intro c ae j
 unfold q_4q at j
 refine rs env_ok <| rl rfl <| dwp_seq ?_
 refine cd rfl j (fun o => ?_) (fun ad => ?_) <;> clear j
 .refine dwp_skip <| thenD_n <| dwp_seq <| dwp_block <| rs env_ok ?_
  obtain ⟨e, af, q⟩ := bd o; clear o
  refine sx rfl (o_idx af rfl rfl rfl ?_)
  refine rl rfl <| rs env_ok <| rl rfl ?_
  refine jb (fun d : (List Int) => ⟨67, [(0, lq (netC f)), (5, .lsl 0 2 0 c.2.length), (7, .lpb 1 0), (8, .lsl 2 1 0 d.length), (16, ls 3 stepC b.steps), (17, li (b.steps.length : Int)), (18, li c.1)], [(0, .row 96 2 (c.2.map portC)), (1, .box [li e.elem, li e.in_, li e.out]), (2, .row 3 1 (d.map intC))], 3⟩) q (fun d s => ?_) (fun d w => ?_) <;> clear q
  .refine rs env_ok <| rn 3 rfl ?_
   obtain ⟨ay, ag, t⟩ := bd s; clear s
   refine sx rfl (o_call (w_a _ _ _ ag) (.inl rfl) rfl rfl rfl ?_)
   refine rl rfl <| dwp_block <| rs env_ok <| rl rfl ?_
   refine cd rfl t (fun aj => ?_) (fun u => ?_) <;> clear t
   .refine rs env_ok <| rl rfl <| rg env_ok <| rl rfl <| inB_n ?_
    cases aj
    exact npn (wf hA (gi 3 []) rfl rfl rfl)
   .refine rs env_ok <| rl rfl ?_
    refine cd rfl u (fun v => ?_) (fun am => ?_) <;> clear u
    .refine rs env_ok <| rl rfl <| rs env_ok <| rl rfl ?_
     refine cd rfl v (fun ak => ?_) (fun al => ?_) <;> clear v
     .refine rg env_ok <| rl rfl <| inB_n ?_
      cases ak
      exact npn (wf hA [(0, 0), (1, 1), (2, 3)] rfl rfl rfl)
     .refine dwp_skip <| inB_n ?_
      cases al
      exact npn (wf hA (gi 3 []) rfl rfl rfl)
    .refine dwp_skip <| inB_n ?_
     cases am
     exact npn (Weak.trans (weak_ghost 8 3 1 rfl) (wf hA (gi 3 []) rfl rfl rfl))
  .refine rs env_ok <| rl rfl <| dwp_block ?_
   apply lp (a := ae) (fun g : (Int × (List Port)) => ⟨67, [(0, lq (netC f)), (5, .lsl 0 2 0 g.2.length), (7, .lpb 1 0), (16, ls 3 stepC b.steps), (17, li (b.steps.length : Int)), (18, li c.1), (43, .lsl 2 1 0 d.length), (44, li (d.length : Int)), (45, li g.1)], [(0, .row 96 2 (g.2.map portC)), (1, .box [li e.elem, li e.in_, li e.out]), (2, .row 3 1 (d.map intC))], 3⟩) w <;> clear w
   . exact wf hA (gi 3 []) rfl rfl rfl
   intro g ax k
   unfold q_4p at k
   refine rs env_ok <| rl rfl <| dwp_seq ?_
   refine cd rfl k (fun x => ?_) (fun ac => ?_) <;> clear k
   .refine dwp_skip <| thenD_n ?_
    refine jb (fun i : (List Port) => ⟨67, [(0, lq (netC f)), (5, .lsl 0 2 0 i.length), (7, .lpb 1 0), (16, ls 3 stepC b.steps), (17, li (b.steps.length : Int)), (18, li c.1), (43, .lsl 2 1 0 d.length), (44, li (d.length : Int)), (45, li g.1)], [(0, .row 96 2 (i.map portC)), (1, .box [li e.elem, li e.in_, li e.out]), (2, .row 3 1 (d.map intC))], 3⟩) x (fun i y => ?_) (fun i ap => ?_) <;> clear x
    .refine dwp_block <| rs env_ok ?_
     obtain ⟨au, n, z⟩ := bd y; clear y
     refine sx rfl (o_idxO n rfl rfl rfl rfl ?_)
     refine sx rfl (o_ldO n rfl rfl rfl ?_)
     refine rl rfl <| rs env_ok <| rl rfl <| rs env_ok <| rn 2 rfl ?_
     obtain ⟨az, ah, aa⟩ := bd z; clear z
     refine sx rfl (o_call (w_2 _ _ _ ah) (.inl rfl) rfl rfl rfl ?_)
     refine rl rfl <| rs env_ok <| rl rfl ?_
     refine cd rfl aa (fun ab => ?_) (fun ao => ?_) <;> clear aa
     .refine rg env_ok <| rn 3 rfl ?_
      obtain ⟨a0, ai, an⟩ := bd ab; clear ab
      refine sx rfl (o_app1 (enc := portC) (l := g.2) (m := [(⟨e.elem, au⟩ : Port)]) ai (fun _ => ⟨rfl, rfl⟩) rfl rfl rfl rfl rfl rfl ?_)
      refine rl rfl <| inB_n ?_
      have hr := Option.some.inj an; subst hr
      exact npn (wf hA [(0, 6), (1, 1), (2, 2)] rfl rfl rfl)
     .refine dwp_skip <| inB_n ?_
      cases ao
      exact npn (wf hA (gi 3 []) rfl rfl rfl)
    .refine rg env_ok <| rl rfl ?_
     cases ap
     exact lpn (wf hA (gi 3 []) rfl rfl rfl)
   .refine dwp_exit <| thenD_x ?_
    obtain ⟨av, aq, rfl⟩ := mps ac; clear ac
    refine lpx <| inB_x <| inB_n <| thenD_n <| rg env_ok <| rl rfl ?_
    cases aq
    exact lpn (wf hA [(0, 0)] rfl rfl rfl)
 .refine dwp_exit <| thenD_x ?_
  obtain ⟨aw, ar, rfl⟩ := mps ad; clear ad
  refine lpx <| inB_x <| thenD_n <| rs env_ok <| rl rfl <| dwp_ret ?_
  cases ar
  exact er (rd1 rfl (.one (.own (enc := portC) c.2 rfl rfl))) Le.rfl
noncomputable def q_46 (a : Step) (b : Int) : Option Bool :=
 some (a.elem == b)
theorem w_9g (a : Step) (b : Int) (r : Bool) (h : q_46 a b = some r) : Fun Tryz.prog 117 [.agg (stepC a), .place (intC b) 0] (· = .bool r) := by
 refine fn env_ok Tryz.func117 rfl rfl 8 rfl [.tmp 3] rfl [(0, .p (.agg (stepC a))), (1, .p (.place (intC b) 0))] rfl rfl fun A hA => ?_
 unfold q_46 at h
 refine rs env_ok <| rl rfl <| rs env_ok <| rl rfl <| dwp_ret ?_
 cases h
 exact er rfl Le.rfl
noncomputable def q_71 (b : Road) (c : Int) (a : Int) : Option (Int ⊕ Int) :=
 bif decide (a < (b.steps.length : Int)) then (idx b.steps a).bind fun d => (q_46 d c).bind fun e => bif e then some (.inr a) else some (.inl (wi64 (a + 1))) else some (.inr (-1))
noncomputable def q_1y (c : Road) (d : Int) : Option Bool :=
 ((((loopR (q_71 c d) 0 : Option (Int))).bind fun (b : Int) => some (decide (0 <= b)) : Option (Bool))).bind fun (a : Bool) => some a
theorem w_6b (b : Road) (d : Int) (r : Bool) (h : q_1y b d = some r) : Fun Tryz.prog 51 [.agg (roadC b), .int .i64 d] (· = .bool r) := by
 refine fn env_ok Tryz.func51 rfl rfl 9 rfl [.tmp 4] rfl [(0, .p (.agg (roadC b))), (1, .p (.int .i64 d))] rfl rfl fun A hA => ?_
 unfold q_1y at h
 refine rs env_ok <| rl rfl <| rs env_ok <| rn 3 rfl ?_
 refine sx rfl (o_in env_ok (fun e : Bool => lb e) (fun e : Bool => [(0, .box [li b.frm, li b.to, li b.fin, ls 3 stepC b.steps, ls 2 needC b.needs, ls 2 needC b.guards, ls 1 intC b.zone, ls 1 intC b.holds, lb b.bare]), (1, .box [li d])]) 2 h Tryz.func96 9 [.tmp 4] [(0, ls 3 stepC b.steps), (1, .fn 117 [.lpb 1 0])] rfl rfl rfl rfl rfl rfl rfl rfl (fun A hA e i => ?_) (fun e x => ?_)) <;> clear h
 .refine rs env_ok <| rl rfl <| rs env_ok <| rn 2 rfl ?_
  refine sx rfl (o_in env_ok (fun c : Int => li c) (fun c : Int => [(0, .box [li b.frm, li b.to, li b.fin, ls 3 stepC b.steps, ls 2 needC b.needs, ls 2 needC b.guards, ls 1 intC b.zone, ls 1 intC b.holds, lb b.bare]), (1, .box [li d])]) 2 i Tryz.func149 19 [.tmp 4] [(0, ls 3 stepC b.steps), (1, .fn 117 [.lpb 1 0])] rfl rfl rfl rfl rfl rfl rfl rfl (fun A hA c j => ?_) (fun c w => ?_)) <;> clear i
  .refine rs env_ok <| rl rfl <| dwp_seq <| rs env_ok <| rn 1 rfl ?_
   refine sx rfl (o_len rfl rfl ?_)
   refine rl rfl <| dwp_block ?_
   apply lp (a := c) (fun g : Int => ⟨19, [(0, ls 3 stepC b.steps), (1, .fn 117 [.lpb 1 0]), (7, li (b.steps.length : Int)), (8, li g)], [(0, .box [li b.frm, li b.to, li b.fin, ls 3 stepC b.steps, ls 2 needC b.needs, ls 2 needC b.guards, ls 1 intC b.zone, ls 1 intC b.holds, lb b.bare]), (1, .box [li d])], 2⟩) j <;> clear j
   . exact wj hA [(0, 0), (1, 1)] rfl rfl rfl rfl
   intro g aa f
   unfold q_71 at f
   refine rs env_ok <| rl rfl <| dwp_seq ?_
   refine cd rfl f (fun k => ?_) (fun o => ?_) <;> clear f
   .refine dwp_skip <| thenD_n <| dwp_seq <| dwp_block <| rs env_ok <| rl rfl <| rs env_ok <| rn 3 rfl ?_
    obtain ⟨ab, q, l⟩ := bd k; clear k
    refine sx rfl (o_idx q rfl rfl rfl ?_)
    refine rn 1 rfl ?_
    obtain ⟨ac, s, m⟩ := bd l; clear l
    refine sx rfl (o_call (w_9g _ _ _ s) (.inl rfl) rfl rfl (LdA.eq (.cons (.one (.p _)) (.cons (.box rfl (.cons (.p _) .nil)) .nil))) ?_)
    refine rl rfl ?_
    refine cd rfl m (fun n => ?_) (fun u => ?_) <;> clear m
    .refine rs env_ok <| rl rfl <| dwp_ret <| inB_r <| thenD_r ?_
     obtain ⟨y, t, rfl⟩ := mps n; clear n
     refine lpt <| inB_r <| thenD_r ?_
     have hr := Option.some.inj t; subst hr
     exact ipr (nt := 19) (sl := [(4, li g)]) (wj hA [(0, 0), (1, 1)] rfl rfl rfl rfl) rfl
    .refine dwp_skip <| inB_n <| thenD_n <| rg env_ok <| rl rfl ?_
     cases u
     exact lpn (wj hA [(0, 0), (1, 1)] rfl rfl rfl rfl)
   .refine dwp_exit <| thenD_x ?_
    obtain ⟨z, v, rfl⟩ := mps o; clear o
    refine lpx <| inB_x <| thenD_n <| rs env_ok <| rl rfl <| dwp_ret ?_
    cases v
    exact ipr (nt := 19) (sl := [(4, li (-1))]) (wj hA [(0, 0), (1, 1)] rfl rfl rfl rfl) rfl
  .refine rl rfl <| dwp_ret ?_
   cases w
   exact ipr (nt := 9) (sl := [(4, lb (decide (0 <= c)))]) (wj hA [(0, 0), (1, 1)] rfl rfl rfl rfl) rfl
 .refine rl rfl <| dwp_ret ?_
  have hr := Option.some.inj x; subst hr
  exact er rfl Le.rfl
noncomputable def q_c (a : Net) (b : Port) : Option Int :=
 bif (assoc a.reads b).isSome then some ((assoc a.reads b).getD 0) else some (-1)
theorem w_f (a : Net) (b : Port) (r : Int) (h : q_c a b = some r) : Fun Tryz.prog 52 [.place (netC a) 0, .agg (portC b)] (· = .int .i64 r) := by
 refine fn env_ok Tryz.func52 rfl rfl 18 rfl [.tmp 4] rfl [(0, .p (.place (netC a) 0)), (1, .p (.agg (portC b)))] rfl rfl fun A hA => ?_
 unfold q_c at h
 refine rs env_ok <| rl rfl <| dwp_seq <| dwp_seq ?_
 refine rgd env_ok mixed [0, 1, 2, 3, 4, 5, 6, 7, 8, 9, 10] 11 (by kernel_rfl) rfl rfl rfl ?_
 refine rnD 5 rfl ?_
 refine sxD rfl (opD_plain rfl (o_lk2 (et := 3) (ke := (fun x => .agg (portC x))) (ve := (.int .i64)) (mp := a.reads) (y := b) 0 keyE_96 rfl rfl rfl rfl ?_))
 refine rlD rfl <| thenD_n <| rs env_ok <| rl rfl ?_
 refine cd rfl h (fun c => ?_) (fun d => ?_) <;> clear h
 .refine rs env_ok <| rl rfl <| dwp_ret <| thenD_r ?_
  cases c
  exact er rfl Le.rfl
 .refine dwp_skip <| thenD_n <| rs env_ok <| rl rfl <| dwp_ret ?_
  cases d
  exact er rfl Le.rfl
noncomputable def q_1t (b : (List Int)) (c : Int) (a : Int) : Option (Int ⊕ Int) :=
 bif decide (a < (b.length : Int)) then (idx b a).bind fun d => bif (c == d) then some (.inr a) else some (.inl (wi64 (a + 1))) else some (.inr (-1))
noncomputable def q_1e (a : (List Int)) (b : Int) : Option Int :=
 loopR (q_1t a b) 0
theorem w_83 (b : (List Int)) (c : Int) (r : Int) (h : q_1e b c = some r) : Fun Tryz.prog 118 [.slice 1 (b.map intC), .int .i64 c] (· = .int .i64 r) := by
 refine fn env_ok Tryz.func118 rfl rfl 19 rfl [.tmp 4] rfl [(0, .p (.slice 1 (b.map intC))), (1, .p (.int .i64 c))] rfl rfl fun A hA => ?_
 unfold q_1e at h
 refine rs env_ok <| rl rfl <| dwp_seq <| rs env_ok <| rn 1 rfl ?_
 refine sx rfl (o_len rfl rfl ?_)
 refine rl rfl <| dwp_block ?_
 apply lp (a := r) (fun j : Int => ⟨19, [(0, ls 1 intC b), (1, li c), (7, li (b.length : Int)), (8, li j)], [], 0⟩) h <;> clear h
 . exact wf hA [] rfl rfl rfl
 intro j s d
 unfold q_1t at d
 refine rs env_ok <| rl rfl <| dwp_seq ?_
 refine cd rfl d (fun i => ?_) (fun g => ?_) <;> clear d
 .refine dwp_skip <| thenD_n <| dwp_seq <| dwp_block <| rs env_ok <| rl rfl <| rs env_ok <| rn 3 rfl ?_
  obtain ⟨t, k, e⟩ := bd i; clear i
  refine sx rfl (o_idx k rfl rfl rfl ?_)
  refine rl rfl ?_
  refine cd rfl e (fun f => ?_) (fun m => ?_) <;> clear e
  .refine rs env_ok <| rl rfl <| dwp_ret <| inB_r <| thenD_r ?_
   obtain ⟨o, l, rfl⟩ := mps f; clear f
   refine lpt <| inB_r <| thenD_r ?_
   have hr := Option.some.inj l; subst hr
   exact er rfl Le.rfl
  .refine dwp_skip <| inB_n <| thenD_n <| rg env_ok <| rl rfl ?_
   cases m
   exact lpn (wf hA [] rfl rfl rfl)
 .refine dwp_exit <| thenD_x ?_
  obtain ⟨q, n, rfl⟩ := mps g; clear g
  refine lpx <| inB_x <| thenD_n <| rs env_ok <| rl rfl <| dwp_ret ?_
  cases n
  exact er rfl Le.rfl
noncomputable def q_3 (a : (List Int)) (b : Int) : Option Bool :=
 (q_1e a b).bind fun c => some (decide (0 <= c))
theorem w_9 (a : (List Int)) (b : Int) (r : Bool) (h : q_3 a b = some r) : Fun Tryz.prog 53 [.slice 1 (a.map intC), .int .i64 b] (· = .bool r) := by
 refine fn env_ok Tryz.func53 rfl rfl 9 rfl [.tmp 4] rfl [(0, .p (.slice 1 (a.map intC))), (1, .p (.int .i64 b))] rfl rfl fun A hA => ?_
 unfold q_3 at h
 refine rs env_ok <| rl rfl <| rs env_ok <| rn 2 rfl ?_
 obtain ⟨e, c, d⟩ := bd h; clear h
 refine sx rfl (o_call (w_83 _ _ _ c) (.inl rfl) rfl rfl rfl ?_)
 refine rl rfl <| dwp_ret ?_
 cases d
 exact er rfl Le.rfl
noncomputable def q_1a (b : (List Need)) (c : Need) (a : Int) : Option (Int ⊕ Int) :=
 bif decide (a < (b.length : Int)) then (idx b a).bind fun d => bif (c == d) then some (.inr a) else some (.inl (wi64 (a + 1))) else some (.inr (-1))
noncomputable def q_w (a : (List Need)) (b : Need) : Option Int :=
 loopR (q_1a a b) 0
theorem w_5f (c : (List Need)) (b : Need) (r : Int) (h : q_w c b = some r) : Fun Tryz.prog 120 [.slice 2 (c.map needC), .agg (needC b)] (· = .int .i64 r) := by
 refine fn env_ok Tryz.func120 rfl rfl 19 rfl [.tmp 4] rfl [(0, .p (.slice 2 (c.map needC))), (1, .p (.agg (needC b)))] rfl rfl fun A hA => ?_
 unfold q_w at h
 refine rs env_ok <| rl rfl <| dwp_seq <| rs env_ok <| rn 1 rfl ?_
 refine sx rfl (o_len rfl rfl ?_)
 refine rl rfl <| dwp_block ?_
 apply lp (a := r) (fun j : Int => ⟨19, [(0, ls 2 needC c), (3, .lpb 0 0), (7, li (c.length : Int)), (8, li j)], [(0, .box [li b.elem, li b.pos])], 1⟩) h <;> clear h
 . exact wf hA [(0, 0)] rfl rfl rfl
 intro j t d
 unfold q_1a at d
 refine rs env_ok <| rl rfl <| dwp_seq ?_
 refine cd rfl d (fun i => ?_) (fun g => ?_) <;> clear d
 .refine dwp_skip <| thenD_n <| dwp_seq <| dwp_block <| rs env_ok <| rl rfl <| dwp_seq ?_
  refine rgd env_ok mixed [0, 1, 2, 3, 4, 5] 6 (by kernel_rfl) rfl rfl rfl ?_
  refine rnD 3 rfl ?_
  obtain ⟨o, k, e⟩ := bd i; clear i
  refine sxD rfl (opD_plain rfl (o_idx k rfl rfl rfl ?_))
  refine rnD 1 rfl ?_
  refine sxD rfl (o_eqAD (eqE_Need b o) rfl rfl rfl rfl rfl ?_)
  refine rlD rfl <| thenD_n ?_
  refine cd rfl e (fun f => ?_) (fun m => ?_) <;> clear e
  .refine rs env_ok <| rl rfl <| dwp_ret <| inB_r <| thenD_r ?_
   obtain ⟨q, l, rfl⟩ := mps f; clear f
   refine lpt <| inB_r <| thenD_r ?_
   have hr := Option.some.inj l; subst hr
   exact er rfl Le.rfl
  .refine dwp_skip <| inB_n <| thenD_n <| rg env_ok <| rl rfl ?_
   cases m
   exact lpn (wf hA [(0, 0)] rfl rfl rfl)
 .refine dwp_exit <| thenD_x ?_
  obtain ⟨s, n, rfl⟩ := mps g; clear g
  refine lpx <| inB_x <| thenD_n <| rs env_ok <| rl rfl <| dwp_ret ?_
  cases n
  exact er rfl Le.rfl
noncomputable def q_8 (a : (List Need)) (b : Need) : Option Bool :=
 (q_w a b).bind fun c => some (decide (0 <= c))
theorem w_j (a : (List Need)) (b : Need) (r : Bool) (h : q_8 a b = some r) : Fun Tryz.prog 56 [.slice 2 (a.map needC), .agg (needC b)] (· = .bool r) := by
 refine fn env_ok Tryz.func56 rfl rfl 9 rfl [.tmp 4] rfl [(0, .p (.slice 2 (a.map needC))), (1, .p (.agg (needC b)))] rfl rfl fun A hA => ?_
 unfold q_8 at h
 refine rs env_ok <| rl rfl <| rs env_ok <| rn 2 rfl ?_
 obtain ⟨e, c, d⟩ := bd h; clear h
 refine sx rfl (o_call (w_5f _ _ _ c) (.inl rfl) rfl rfl rfl ?_)
 refine rl rfl <| dwp_ret ?_
 cases d
 exact er rfl Le.rfl
noncomputable def q_d (c : Net) (d : Int) (a : Int) : Option (List Way) :=
 ((bif decide (a < 0) then some true else (q_5 c d).bind fun f => (q_1o f).bind fun g => some (decide (g <= a)) : Option (Bool))).bind fun (e : Bool) => bif e then some [] else (q_5 c d).bind fun b => bif (b == 1) then some [(⟨wi64 (1 - a), 0⟩ : Way)] else bif (b == 3) then (idx ([1, 0, 3, 2] : List Int) a).bind fun h => some [(⟨h, 0⟩ : Way)] else bif (b == 2) then bif (a == 0) then some [(⟨1, 1⟩ : Way), (⟨2, 2⟩ : Way)] else (idx ([0, 1, 2] : List Int) a).bind fun i => some [(⟨0, i⟩ : Way)] else some []
theorem w_y (b : Net) (c : Int) (a : Int) (r : (List Way)) (h : q_d b c a = some r) : Fun Tryz.prog 99 [.place (netC b) 0, .int .i64 c, .int .i64 a] (· = .slice 2 (r.map wayC)) := by
 refine fn env_ok Tryz.func99 rfl rfl 47 rfl [.tmp 6] rfl [(0, .p (.place (netC b) 0)), (1, .p (.int .i64 c)), (2, .p (.int .i64 a))] rfl rfl fun A hA => ?_
 unfold q_d at h
 refine rs env_ok <| rl rfl <| dwp_seq ?_
 refine jb (fun d : Bool => ⟨47, [(0, lq (netC b)), (1, li c), (2, li a), (17, lb d)], [], 0⟩) h (fun d f => ?_) (fun d k => ?_) <;> clear h
 .refine rg env_ok <| rn 3 rfl ?_
  refine gs 10 f rfl rfl rfl (fun aa => ?_) (fun i => ?_) <;> clear f
  .refine rl rfl ?_
   cases aa
   exact npn (wf hA [] rfl rfl rfl)
  .refine rn 3 rfl ?_
   obtain ⟨ak, v, j⟩ := bd i; clear i
   refine sx rfl (o_call (w_a _ _ _ v) (.inl rfl) rfl rfl rfl ?_)
   obtain ⟨al, w, ab⟩ := bd j; clear j
   refine sx rfl (o_call (w_57 _ _ w) (.inl rfl) rfl rfl rfl ?_)
   refine rl rfl ?_
   cases ab
   exact npn (wf hA [] rfl rfl rfl)
 .refine cd rfl k (fun ac => ?_) (fun m => ?_) <;> clear k
  .refine rs env_ok <| rl rfl <| dwp_ret <| thenD_r ?_
   cases ac
   exact er rfl (Le.nil _)
  .refine dwp_skip <| thenD_n <| dwp_seq <| rs env_ok <| rn 2 rfl ?_
   obtain ⟨am, x, n⟩ := bd m; clear m
   refine sx rfl (o_call (w_a _ _ _ x) (.inl rfl) rfl rfl rfl ?_)
   refine rl rfl <| dwp_block <| rs env_ok <| rl rfl ?_
   refine cd rfl n (fun ad => ?_) (fun o => ?_) <;> clear n
   .refine rs env_ok <| rl rfl <| dwp_ret <| inB_r <| thenD_r ?_
    cases ad
    exact er (rd1 rfl (.one (.own (enc := wayC) ([(⟨wi64 (1 - a), 0⟩ : Way)] : List Way) rfl rfl))) Le.rfl
   .refine rs env_ok <| rl rfl ?_
    refine cd rfl o (fun q => ?_) (fun s => ?_) <;> clear o
    .refine rs env_ok <| rl rfl <| rs env_ok <| rn 1 rfl ?_
     obtain ⟨ai, e, ae⟩ := bd q; clear q
     refine sx rfl (o_ixP (l := ([1, 0, 3, 2] : List Int)) e rfl rfl rfl rfl ?_)
     refine sx rfl (o_ldX (g := fun y => .p (.int .i64 y)) e rfl rfl rfl rfl ?_)
     refine rl rfl <| dwp_ret <| inB_r <| thenD_r ?_
     cases ae
     exact er (rd1 rfl (.one (.own (enc := wayC) ([(⟨ai, 0⟩ : Way)] : List Way) rfl rfl))) Le.rfl
    .refine rs env_ok <| rl rfl ?_
     refine cd rfl s (fun t => ?_) (fun ah => ?_) <;> clear s
     .refine dwp_seq <| rs env_ok <| rl rfl ?_
      refine cd rfl t (fun af => ?_) (fun u => ?_) <;> clear t
      .refine rs env_ok <| rl rfl <| dwp_ret <| thenD_r <| inB_r <| thenD_r ?_
       cases af
       exact er (rd1 rfl (.one (.own (enc := wayC) ([(⟨1, 1⟩ : Way), (⟨2, 2⟩ : Way)] : List Way) rfl rfl))) Le.rfl
      .refine dwp_skip <| thenD_n <| rs env_ok <| rn 2 rfl ?_
       obtain ⟨aj, z, ag⟩ := bd u; clear u
       refine sx rfl (o_ixA (l := ([0, 1, 2] : List Int)) (g := fun y => .int .i64 y) z rfl rfl rfl rfl ?_)
       refine rl rfl <| dwp_ret <| inB_r <| thenD_r ?_
       cases ag
       exact er (rd1 rfl (.one (.own (enc := wayC) ([(⟨0, aj⟩ : Way)] : List Way) rfl rfl))) Le.rfl
     .refine dwp_skip <| inB_n <| thenD_n <| rs env_ok <| rl rfl <| dwp_ret ?_
      cases ah
      exact er rfl (Le.nil _)
noncomputable def q_24 (e : Int) (c : (List Way)) (a : Int) : Option (Int ⊕ (Int × Bool)) :=
 bif decide (a < (c.length : Int)) then (idx c a).bind fun b => ((bif (b.pos == 0) then some true else some (b.pos == e) : Option (Bool))).bind fun (d : Bool) => bif d then some (.inr (b.out, true)) else some (.inl (wi64 (a + 1))) else some (.inr (0, false))
noncomputable def q_1m (a : Net) (b : Int) (c : Int) (d : Int) : Option (Int × Bool) :=
 (q_d a b c).bind fun e => loopR (q_24 d e) 0
theorem w_89 (g : Net) (i : Int) (j : Int) (b : Int) (r : (Int × Bool)) (h : q_1m g i j b = some r) : Fun Tryz.prog 121 [.place (netC g) 0, .int .i64 i, .int .i64 j, .int .i64 b] (· = .tup [.int .i64 r.1, .bool r.2]) := by
 refine fn env_ok Tryz.func121 rfl rfl 33 rfl [.tmp 8, .tmp 9] rfl [(0, .p (.place (netC g) 0)), (1, .p (.int .i64 i)), (2, .p (.int .i64 j)), (3, .p (.int .i64 b))] rfl rfl fun A hA => ?_
 unfold q_1m at h
 refine rs env_ok <| rl rfl <| dwp_seq <| rs env_ok <| rn 3 rfl ?_
 obtain ⟨c, u, k⟩ := bd h; clear h
 refine sx rfl (o_call (w_y _ _ _ _ u) (.inr rfl) rfl rfl rfl ?_)
 refine sx rfl (o_len rfl rfl ?_)
 refine rl rfl <| dwp_block ?_
 apply lp (a := r) (fun e : Int => ⟨33, [(3, li b), (15, ls 2 wayC c), (16, li (c.length : Int)), (17, li e)], [], 0⟩) k <;> clear k
 . exact wf hA [] rfl rfl rfl
 intro e ad d
 unfold q_24 at d
 refine rs env_ok <| rl rfl <| dwp_seq ?_
 refine cd rfl d (fun l => ?_) (fun s => ?_) <;> clear d
 .refine dwp_skip <| thenD_n <| dwp_seq <| dwp_block <| rs env_ok ?_
  obtain ⟨t, v, m⟩ := bd l; clear l
  refine sx rfl (o_idx v rfl rfl rfl ?_)
  refine rl rfl ?_
  refine jb (fun f : Bool => ⟨33, [(3, li b), (11, .lpb 0 0), (15, ls 2 wayC c), (16, li (c.length : Int)), (17, li e), (29, lb f)], [(0, .box [li t.out, li t.pos])], 1⟩) m (fun f n => ?_) (fun f o => ?_) <;> clear m
  .refine rg env_ok <| rn 4 rfl ?_
   refine gs 24 n rfl rfl rfl (fun w => ?_) (fun x => ?_) <;> clear n
   .refine rl rfl ?_
    cases w
    exact npn (wf hA [(0, 0)] rfl rfl rfl)
   .refine rl rfl ?_
    cases x
    exact npn (wf hA [(0, 0)] rfl rfl rfl)
  .refine cd rfl o (fun q => ?_) (fun z => ?_) <;> clear o
   .refine rs env_ok <| rl rfl <| dwp_ret <| inB_r <| thenD_r ?_
    obtain ⟨ab, y, rfl⟩ := mps q; clear q
    refine lpt <| inB_r <| thenD_r ?_
    cases y
    exact er rfl Le.rfl
   .refine dwp_skip <| inB_n <| thenD_n <| rg env_ok <| rl rfl ?_
    cases z
    exact lpn (wf hA [] rfl rfl rfl)
 .refine dwp_exit <| thenD_x ?_
  obtain ⟨ac, aa, rfl⟩ := mps s; clear s
  refine lpx <| inB_x <| thenD_n <| rs env_ok <| rl rfl <| dwp_ret ?_
  cases aa
  exact er rfl Le.rfl
noncomputable def q_29 (b : Net) (c : Int) (d : Int) (e : Int) : Option (Int × Bool) :=
 (q_1m b c d e).bind fun a => some (a.1, a.2)
theorem w_8v (a : Net) (b : Int) (c : Int) (d : Int) (r : (Int × Bool)) (h : q_29 a b c d = some r) : Fun Tryz.prog 57 [.place (netC a) 0, .int .i64 b, .int .i64 c, .int .i64 d] (· = .tup [.int .i64 r.1, .bool r.2]) := by
 refine fn env_ok Tryz.func57 rfl rfl 17 rfl [.tmp 8, .tmp 9] rfl [(0, .p (.place (netC a) 0)), (1, .p (.int .i64 b)), (2, .p (.int .i64 c)), (3, .p (.int .i64 d))] rfl rfl fun A hA => ?_
 unfold q_29 at h
 refine rs env_ok <| rl rfl <| rs env_ok <| rn 4 rfl ?_
 obtain ⟨g, e, f⟩ := bd h; clear h
 refine sx rfl (o_call (w_89 _ _ _ _ _ e) (.inl rfl) rfl rfl rfl ?_)
 refine rl rfl <| dwp_ret ?_
 cases f
 exact er rfl Le.rfl
end Go.E
/- Plain functions, and walks in step with them. Written by a program (gen.py). No condition. -/
set_option maxRecDepth 100000
namespace Go.E
open Go Go.RowKit Go.Proofs
noncomputable def q_72 (d : Net) (e : Road) (r : (List Step)) (l : (List Need)) (am : Plan) (a : Bool × (List (Port × Bool)) × (List Need) × (List Int) × (List Int) × (List Port)) : Option ((Bool × (List (Port × Bool)) × (List Need) × (List Int) × (List Int) × (List Port)) ⊕ Road) :=
 bif decide (0 < (a.2.2.2.2.2.length : Int)) then (idx a.2.2.2.2.2 (wi64 ((a.2.2.2.2.2.length : Int) - 1))).bind fun b => (slO a.2.2.2.2.2 0 (wi64 ((a.2.2.2.2.2.length : Int) - 1))).bind fun c => (((q_1y (⟨e.frm, e.to, e.fin, r, l, a.2.2.1, a.2.2.2.1, a.2.2.2.2.1, a.1⟩ : Road) b.elem).bind fun an => bif an then some true else some ((assoc a.2.1 b).getD false) : Option (Bool))).bind fun (y : Bool) => bif y then some (.inl (a.1, a.2.1, a.2.2.1, a.2.2.2.1, a.2.2.2.2.1, c)) else (q_c d b).bind fun m => ((bif decide (0 <= m) then some (!am.hard) else some false : Option (Bool))).bind fun (z : Bool) => bif z then (((q_3 a.2.2.2.2.1 m).bind fun ao => bif (!ao) then (appI a.2.2.2.2.1 [m]).bind fun ap => some ap else some a.2.2.2.2.1 : Option ((List Int)))).bind fun (aa : (List Int)) => some (.inl (a.1, aput b true a.2.1, a.2.2.1, a.2.2.2.1, aa, c)) else (q_5 d b.elem).bind fun s => bif (s == 4) then some (.inl (true, aput b true a.2.1, a.2.2.1, a.2.2.2.1, a.2.2.2.2.1, c)) else bif (s == 2) then bif (b.fin == 0) then (((((q_3 a.2.2.2.1 b.elem).bind fun aq => bif aq then some (true, a.1, a.2.2.2.1) else bif decide (12 <= (a.2.2.2.1.length : Int)) then some (false, true, a.2.2.2.1) else (appI a.2.2.2.1 [b.elem]).bind fun ar => some (true, a.1, ar) : Option (Bool × Bool × (List Int)))).bind fun (h : Bool × Bool × (List Int)) => bif h.1 then (((q_0 d (⟨b.elem, 2⟩ : Port)).bind fun t => bif t.2 then (appI c [t.1]).bind fun au => some au else some c : Option ((List Port)))).bind fun (n : (List Port)) => (((q_0 d (⟨b.elem, 1⟩ : Port)).bind fun u => bif u.2 then (appI n [u.1]).bind fun av => some av else some n : Option ((List Port)))).bind fun (ab : (List Port)) => some (h.2.1, h.2.2, ab) else some (h.2.1, h.2.2, c) : Option (Bool × (List Int) × (List Port)))).bind fun (k : Bool × (List Int) × (List Port)) => some (.inl (k.1, aput b true a.2.1, a.2.2.1, k.2.1, a.2.2.2.2.1, k.2.2)) else (((q_8 l (⟨b.elem, b.fin⟩ : Need)).bind fun ac => bif ac then some true else (q_8 a.2.2.1 (⟨b.elem, b.fin⟩ : Need)).bind fun ad => some ad : Option (Bool))).bind fun (v : Bool) => bif v then (((((q_3 a.2.2.2.1 b.elem).bind fun ae => bif ae then some (true, a.1, a.2.2.2.1) else bif decide (12 <= (a.2.2.2.1.length : Int)) then some (false, true, a.2.2.2.1) else (appI a.2.2.2.1 [b.elem]).bind fun af => some (true, a.1, af) : Option (Bool × Bool × (List Int)))).bind fun (f : Bool × Bool × (List Int)) => bif f.1 then (((q_0 d (⟨b.elem, 0⟩ : Port)).bind fun o => bif o.2 then (appI c [o.1]).bind fun ag => some ag else some c : Option ((List Port)))).bind fun (w : (List Port)) => some (f.2.1, f.2.2, w) else some (f.2.1, f.2.2, c) : Option (Bool × (List Int) × (List Port)))).bind fun (i : Bool × (List Int) × (List Port)) => some (.inl (i.1, aput b true a.2.1, a.2.2.1, i.2.1, a.2.2.2.2.1, i.2.2)) else (q_8 a.2.2.1 (⟨b.elem, wi64 (3 - b.fin)⟩ : Need)).bind fun ah => bif (!ah) then (appI a.2.2.1 [(⟨b.elem, wi64 (3 - b.fin)⟩ : Need)]).bind fun ai => some (.inl (a.1, aput b true a.2.1, ai, a.2.2.2.1, a.2.2.2.2.1, c)) else some (.inl (a.1, aput b true a.2.1, a.2.2.1, a.2.2.2.1, a.2.2.2.2.1, c)) else (q_29 d b.elem b.fin 0).bind fun p => ((bif p.2 then (((q_3 a.2.2.2.1 b.elem).bind fun aj => bif aj then some (true, a.1, a.2.2.2.1) else bif decide (12 <= (a.2.2.2.1.length : Int)) then some (false, true, a.2.2.2.1) else (appI a.2.2.2.1 [b.elem]).bind fun ak => some (true, a.1, ak) : Option (Bool × Bool × (List Int)))).bind fun (j : Bool × Bool × (List Int)) => some (j.1, j.2.1, j.2.2) else some (false, a.1, a.2.2.2.1) : Option (Bool × Bool × (List Int)))).bind fun (g : Bool × Bool × (List Int)) => bif g.1 then (((q_0 d (⟨b.elem, p.1⟩ : Port)).bind fun q => bif q.2 then (appI c [q.1]).bind fun al => some al else some c : Option ((List Port)))).bind fun (x : (List Port)) => some (.inl (g.2.1, aput b true a.2.1, a.2.2.1, g.2.2, a.2.2.2.2.1, x)) else some (.inl (g.2.1, aput b true a.2.1, a.2.2.1, g.2.2, a.2.2.2.2.1, c)) else some (.inr (⟨e.frm, e.to, e.fin, r, l, a.2.2.1, a.2.2.2.1, a.2.2.2.2.1, a.1⟩ : Road))
noncomputable def q_73 (b : Net) (c : Road) (i : (List Step)) (j : (List Need)) (d : Plan) (e : (List Port)) (a : Int × (List Port)) : Option ((Int × (List Port)) ⊕ Road) :=
 bif decide (0 <= a.1) then (idx e a.1).bind fun f => (q_0 b f).bind fun g => (appI a.2 [g.1]).bind fun h => some (.inl (wi64 (a.1 - 1), h)) else (loopR (q_72 b c i j d) (false, [], ([] : List Need), ([] : List Int), ([] : List Int), a.2)).map .inr
noncomputable def q_37 (b : Net) (a : Road) : Option Road :=
 (q_1 a.steps).bind fun d => (q_6 a.needs).bind fun e => (q_z b).bind fun f => (q_1z b (⟨a.frm, a.to, a.fin, d, e, [], [], [], false⟩ : Road)).bind fun c => loopR (q_73 b a d e f c) (wi64 ((c.length : Int) - 1), ([] : List Port))
theorem w_8j (e : Net) (c : Road) (r : Road) (h : q_37 e c = some r) : Fun Tryz.prog 14 [.place (netC e) 0, .agg (roadC c)] (· = .agg (roadC r)) := by
 refine fn env_ok Tryz.func14 rfl rfl 187 rfl [.cell 4 36] rfl [(0, .p (.place (netC e) 0)), (1, .p (.agg (roadC c)))] rfl rfl fun A hA => ?_
 unfold q_37 at h
 refine rs env_ok <| rl rfl <| sc <| dwp_seq ?_
 refine rgd env_ok mixed [0, 1, 2, 3, 4, 5, 6, 7, 8, 9] 10 (by kernel_rfl) rfl rfl rfl ?_
 refine rnD 2 rfl ?_
 obtain ⟨g, dd, bq⟩ := bd h; clear h
 refine sxD rfl (o_callD (w_5d _ _ dd) (.inr rfl) rfl rfl rfl ?_)
 refine rnD 2 rfl ?_
 obtain ⟨i, de, br⟩ := bd bq; clear bq
 refine sxD rfl (o_callD (w_5e _ _ de) (.inr rfl) rfl rfl rfl ?_)
 refine rlD rfl <| thenD_n <| rs env_ok <| rl rfl <| rs env_ok <| rn 1 rfl ?_
 obtain ⟨o, c8, bj⟩ := bd br; clear br
 refine sx rfl (o_call (w_25 _ _ c8) (.inr rfl) rfl rfl rfl ?_)
 refine rl rfl <| rs env_ok <| rl rfl <| rs env_ok <| rl rfl <| rs env_ok <| rn 2 rfl ?_
 obtain ⟨e3, c9, bk⟩ := bd bj; clear bj
 refine sx rfl (o_call (Fun.le (w_7m _ _ _ c9) (.cons Le.rfl (.cons (Le.agg' (.cons Le.rfl (.cons Le.rfl (.cons Le.rfl (.cons Le.rfl (.cons Le.rfl (.cons (Le.nil _) (.cons (Le.nil _) (.cons (Le.nil _) (.cons Le.rfl .nil)))))))))) .nil))) (.inr rfl) rfl rfl rfl ?_)
 refine rl rfl <| dwp_seq <| rs env_ok <| rn 1 rfl ?_
 refine sx rfl (o_len rfl rfl ?_)
 refine rl rfl <| dwp_block ?_
 apply lp (a := r) (fun v : (Int × (List Port)) => ⟨187, [(2, .lpb 0 0), (3, .lpb 1 0), (4, .lpb 2 0), (5, lb o.hard), (6, .lmap 3), (7, .lpb 4 0), (8, ls 2 portC e3), (9, li v.1)], [(0, .box [lq (netC e)]), (1, .box [li c.frm, li c.to, li c.fin, ls 3 stepC g, ls 2 needC i, .p (.nils), .p (.nils), .p (.nils), lb false]), (2, .box [li 0, li 0, li 0, .p (.nils), .p (.nils), .p (.nils), .p (.nils), .p (.nils), lb false]), (3, .map (mapD (fun x => .agg (portC x)) .bool [])), (4, .box [.lsl 5 2 0 v.2.length]), (5, .row 96 2 (v.2.map portC))], 6⟩) bk <;> clear bk
 . exact Weak.trans (weak_ghostB 14 0 96 2 rfl rfl rfl rfl) (wf hA (gi 3 [(3, 13), (4, 14), (5, 15)]) rfl rfl rfl)
 intro v e8 ae
 unfold q_73 at ae
 refine dwp_seq <| rs env_ok <| rl rfl ?_
 refine cd rfl ae (fun bl => ?_) (fun bo => ?_) <;> clear ae
 .refine dwp_skip <| thenD_n <| dwp_seq <| dwp_block <| dwp_seq ?_
  refine rgd env_ok mixed [0, 1, 2, 3, 4, 5, 6, 7, 8, 9, 10, 11] 12 (by kernel_rfl) rfl rfl rfl ?_
  refine rnD 3 rfl ?_
  obtain ⟨fk, da, bm⟩ := bd bl; clear bl
  refine sxD rfl (opD_plain rfl (o_idx da rfl rfl rfl ?_))
  refine rnD 1 rfl ?_
  obtain ⟨e4, db, bn⟩ := bd bm; clear bm
  refine sxD rfl (o_callD (w_2 _ _ _ db) (.inl rfl) rfl rfl rfl ?_)
  refine rlD rfl <| thenD_n <| rg env_ok <| rn 3 rfl ?_
  obtain ⟨fl, dc, ed⟩ := bd bn; clear bn
  refine sx rfl (o_app1 (enc := portC) (l := v.2) (m := [e4.1]) dc (fun _ => ⟨rfl, rfl⟩) rfl rfl rfl rfl rfl rfl ?_)
  refine rl rfl <| inB_n <| thenD_n <| rg env_ok <| rl rfl ?_
  cases ed
  exact lpn (wf hA (gi 5 [(5, 19)]) rfl rfl rfl)
 .refine dwp_exit <| thenD_x ?_
  obtain ⟨cu, bp, rfl⟩ := mp bo; clear bo
  refine lpx <| inB_x <| thenD_n <| rs env_ok <| rl rfl <| dwp_seq <| dwp_label <| thenD_n <| dwp_seq <| dwp_block ?_
  apply lp (a := cu) (fun b : (Bool × (List (Port × Bool)) × (List Need) × (List Int) × (List Int) × (List Port)) => ⟨187, [(2, .lpb 0 0), (3, .lpb 1 0), (4, .lpb 2 0), (5, lb o.hard), (6, .lmap 3), (7, .lpb 4 0), (12, .fn 50 [.lpb 0 0, .lpb 4 0])], [(0, .box [lq (netC e)]), (1, .box [li c.frm, li c.to, li c.fin, ls 3 stepC g, ls 2 needC i, .lsl 5 2 0 b.2.2.1.length, .lsl 6 1 0 b.2.2.2.1.length, .lsl 7 1 0 b.2.2.2.2.1.length, lb b.1]), (2, .box [li 0, li 0, li 0, .p (.nils), .p (.nils), .p (.nils), .p (.nils), .p (.nils), lb false]), (3, .map (mapD (fun x => .agg (portC x)) .bool b.2.1)), (4, .box [.lsl 8 2 0 b.2.2.2.2.2.length]), (5, .row 91 2 (b.2.2.1.map needC)), (6, .row 3 1 (b.2.2.2.1.map intC)), (7, .row 3 1 (b.2.2.2.2.1.map intC)), (8, .row 96 2 (b.2.2.2.2.2.map portC))], 9⟩) bp <;> clear bp
  . exact Weak.trans (weak_ghostB 1 5 91 2 rfl rfl rfl rfl) (Weak.trans (weak_ghostB 1 6 3 1 rfl rfl rfl rfl) (Weak.trans (weak_ghostB 1 7 3 1 rfl rfl rfl rfl) (wf hA (gi 5 [(5, 6), (6, 7), (7, 8), (8, 5)]) rfl rfl rfl)))
  intro b e9 af
  unfold q_72 at af
  refine dwp_seq <| rs env_ok <| rl rfl ?_
  refine cd rfl af (fun bs => ?_) (fun bi => ?_) <;> clear af
  .refine dwp_skip <| thenD_n <| dwp_block <| rs env_ok <| rn 4 rfl ?_
   obtain ⟨d, aj, bt⟩ := bd bs; clear bs
   refine sx rfl (o_idxO aj rfl rfl rfl rfl ?_)
   refine sx rfl (o_ldO aj rfl rfl rfl ?_)
   refine rl rfl <| rs env_ok <| rn 4 rfl ?_
   obtain ⟨f, ad, bu⟩ := bd bt; clear bt
   refine sx rfl (o_slB (l := b.2.2.2.2.2) ad rfl rfl rfl rfl ?_)
   refine rl rfl <| dwp_seq ?_
   refine jb (fun ah : Bool => ⟨187, [(2, .lpb 0 0), (3, .lpb 1 0), (4, .lpb 2 0), (5, lb o.hard), (6, .lmap 3), (7, .lpb 4 0), (12, .fn 50 [.lpb 0 0, .lpb 4 0]), (13, .lpb 5 0), (81, lb ah)], [(0, .box [lq (netC e)]), (1, .box [li c.frm, li c.to, li c.fin, ls 3 stepC g, ls 2 needC i, .lsl 6 2 0 b.2.2.1.length, .lsl 7 1 0 b.2.2.2.1.length, .lsl 8 1 0 b.2.2.2.2.1.length, lb b.1]), (2, .box [li 0, li 0, li 0, .p (.nils), .p (.nils), .p (.nils), .p (.nils), .p (.nils), lb false]), (3, .map (mapD (fun x => .agg (portC x)) .bool b.2.1)), (4, .box [.lsl 9 2 0 f.length]), (5, .box [li d.elem, li d.fin]), (6, .row 91 2 (b.2.2.1.map needC)), (7, .row 3 1 (b.2.2.2.1.map intC)), (8, .row 3 1 (b.2.2.2.2.1.map intC)), (9, .row 96 2 (f.map portC))], 10⟩) bu (fun ah bv => ?_) (fun ah bx => ?_) <;> clear bu
   .refine rg env_ok <| rn 3 rfl ?_
    obtain ⟨fm, df, bw⟩ := bd bv; clear bv
    refine sx rfl (o_call (w_6b _ _ _ df) (.inl rfl) rfl rfl (LdA.eq (.cons (.agg (.cons (.p _) (.cons (.p _) (.cons (.p _) (.cons (.p _) (.cons (.p _) (.cons (.own (enc := needC) b.2.2.1 rfl rfl) (.cons (.own (enc := intC) b.2.2.2.1 rfl rfl) (.cons (.own (enc := intC) b.2.2.2.2.1 rfl rfl) (.cons (.p _) .nil)))))))))) (.cons (.one (.p _)) .nil))) ?_)
    refine rn 1 rfl ?_
    refine gs 77 bw rfl rfl rfl (fun ee => ?_) (fun ef => ?_) <;> clear bw
    .refine rl rfl ?_
     cases ee
     exact npn (Weak.trans (weak_cut 8 ad rfl rfl) (wf hA (gi 5 [(5, 9), (6, 5), (7, 6), (8, 7), (9, 8)]) rfl rfl rfl))
    .refine rn 2 rfl ?_
     refine sx rfl (o_lk1 (et := 4) (ke := (fun x => .agg (portC x))) (ve := .bool) (mp := b.2.1) (y := d) false keyE_96 rfl rfl rfl rfl ?_)
     refine rl rfl ?_
     cases ef
     exact npn (Weak.trans (weak_cut 8 ad rfl rfl) (wf hA (gi 5 [(5, 9), (6, 5), (7, 6), (8, 7), (9, 8)]) rfl rfl rfl))
   .refine cd rfl bx (fun eg => ?_) (fun bz => ?_) <;> clear bx
    .refine dwp_exit <| thenD_x <| inB_x ?_
     cases eg
     exact lpn (wf hA (gi 5 [(5, 6), (6, 7), (7, 8), (8, 9)]) rfl rfl rfl)
    .refine dwp_skip <| thenD_n <| rs env_ok <| rn 2 rfl ?_
     refine sx rfl (o_mup (et := 4) (ke := (fun x => .agg (portC x))) (ve := .bool) (mp := b.2.1) (y := d) (z := true) keyE_96 rfl rfl rfl rfl rfl rfl ?_)
     refine rl rfl <| dwp_seq <| rs env_ok <| rn 2 rfl ?_
     obtain ⟨ct, dg, b0⟩ := bd bz; clear bz
     refine sx rfl (o_call (w_f _ _ _ dg) (.inl rfl) rfl rfl rfl ?_)
     refine rl rfl ?_
     refine jb (fun ai : Bool => ⟨187, [(2, .lpb 0 0), (3, .lpb 1 0), (4, .lpb 2 0), (5, lb o.hard), (6, .lmap 3), (7, .lpb 4 0), (12, .fn 50 [.lpb 0 0, .lpb 4 0]), (13, .lpb 5 0), (14, li ct), (92, lb ai)], [(0, .box [lq (netC e)]), (1, .box [li c.frm, li c.to, li c.fin, ls 3 stepC g, ls 2 needC i, .lsl 6 2 0 b.2.2.1.length, .lsl 7 1 0 b.2.2.2.1.length, .lsl 8 1 0 b.2.2.2.2.1.length, lb b.1]), (2, .box [li 0, li 0, li 0, .p (.nils), .p (.nils), .p (.nils), .p (.nils), .p (.nils), lb false]), (3, .map (mapD (fun x => .agg (portC x)) .bool (aput d true b.2.1))), (4, .box [.lsl 9 2 0 f.length]), (5, .box [li d.elem, li d.fin]), (6, .row 91 2 (b.2.2.1.map needC)), (7, .row 3 1 (b.2.2.2.1.map intC)), (8, .row 3 1 (b.2.2.2.2.1.map intC)), (9, .row 96 2 (f.map portC))], 10⟩) b0 (fun ai b1 => ?_) (fun ai b2 => ?_) <;> clear b0
     .refine rg env_ok <| rn 3 rfl ?_
      refine gs 89 b1 rfl rfl rfl (fun eh => ?_) (fun ei => ?_) <;> clear b1
      .refine rl rfl ?_
       cases eh
       exact npn (wf hA (gi 10 []) rfl rfl rfl)
      .refine rl rfl ?_
       cases ei
       exact npn (wf hA (gi 10 []) rfl rfl rfl)
     .refine cd rfl b2 (fun b3 => ?_) (fun b7 => ?_) <;> clear b2
      .refine jb (fun ac : (List Int) => ⟨187, [(2, .lpb 0 0), (3, .lpb 1 0), (4, .lpb 2 0), (5, lb o.hard), (6, .lmap 3), (7, .lpb 4 0), (12, .fn 50 [.lpb 0 0, .lpb 4 0])], [(0, .box [lq (netC e)]), (1, .box [li c.frm, li c.to, li c.fin, ls 3 stepC g, ls 2 needC i, .lsl 5 2 0 b.2.2.1.length, .lsl 6 1 0 b.2.2.2.1.length, .lsl 7 1 0 ac.length, lb b.1]), (2, .box [li 0, li 0, li 0, .p (.nils), .p (.nils), .p (.nils), .p (.nils), .p (.nils), lb false]), (3, .map (mapD (fun x => .agg (portC x)) .bool (aput d true b.2.1))), (4, .box [.lsl 8 2 0 f.length]), (5, .row 91 2 (b.2.2.1.map needC)), (6, .row 3 1 (b.2.2.2.1.map intC)), (7, .row 3 1 (ac.map intC)), (8, .row 96 2 (f.map portC))], 9⟩) b3 (fun ac b4 => ?_) (fun ac el => ?_) <;> clear b3
       .refine rs env_ok <| rn 3 rfl ?_
        obtain ⟨fo, dh, b5⟩ := bd b4; clear b4
        refine sx rfl (o_call (w_9 _ _ _ dh) (.inl rfl) rfl rfl (LdA.eq (.cons (.one (.own (enc := intC) b.2.2.2.2.1 rfl rfl)) (.cons (.one (.p _)) .nil))) ?_)
        refine rl rfl ?_
        refine cd rfl b5 (fun b6 => ?_) (fun ek => ?_) <;> clear b5
        .refine rg env_ok <| rn 4 rfl ?_
         obtain ⟨fp, di, ej⟩ := bd b6; clear b6
         refine sx rfl (o_app1 (enc := intC) (l := b.2.2.2.2.1) (m := [ct]) di (fun _ => ⟨rfl, rfl⟩) rfl rfl rfl rfl rfl rfl ?_)
         refine rl rfl ?_
         have hr := Option.some.inj ej; subst hr
         exact npn (wf hA (gi 5 [(5, 6), (6, 7), (7, 11), (8, 9)]) rfl rfl rfl)
        .refine dwp_skip ?_
         cases ek
         exact npn (wf hA (gi 5 [(5, 6), (6, 7), (7, 8), (8, 9)]) rfl rfl rfl)
       .refine dwp_exit <| thenD_x <| inB_x ?_
        cases el
        exact lpn (wf hA (gi 9 []) rfl rfl rfl)
      .refine dwp_skip <| thenD_n <| rs env_ok <| rn 3 rfl ?_
       obtain ⟨fq, dj, b8⟩ := bd b7; clear b7
       refine sx rfl (o_call (w_a _ _ _ dj) (.inl rfl) rfl rfl rfl ?_)
       refine rl rfl <| dwp_block <| rs env_ok <| rl rfl ?_
       refine cd rfl b8 (fun em => ?_) (fun b9 => ?_) <;> clear b8
       .refine rg env_ok <| rl rfl <| inB_n <| inB_n ?_
        cases em
        exact lpn (wf hA (gi 5 [(5, 6), (6, 7), (7, 8), (8, 9)]) rfl rfl rfl)
       .refine rs env_ok <| rl rfl ?_
        refine cd rfl b9 (fun ca => ?_) (fun a4 => ?_) <;> clear b9
        .refine dwp_seq <| rs env_ok <| rl rfl ?_
         refine cd rfl ca (fun cb => ?_) (fun cr => ?_) <;> clear ca
         .refine jb (fun t : (Bool × (List Int) × (List Port)) => ⟨187, [(2, .lpb 0 0), (3, .lpb 1 0), (4, .lpb 2 0), (5, lb o.hard), (6, .lmap 3), (7, .lpb 4 0), (12, .fn 50 [.lpb 0 0, .lpb 4 0])], [(0, .box [lq (netC e)]), (1, .box [li c.frm, li c.to, li c.fin, ls 3 stepC g, ls 2 needC i, .lsl 5 2 0 b.2.2.1.length, .lsl 6 1 0 t.2.1.length, .lsl 7 1 0 b.2.2.2.2.1.length, lb t.1]), (2, .box [li 0, li 0, li 0, .p (.nils), .p (.nils), .p (.nils), .p (.nils), .p (.nils), lb false]), (3, .map (mapD (fun x => .agg (portC x)) .bool (aput d true b.2.1))), (4, .box [.lsl 8 2 0 t.2.2.length]), (5, .row 91 2 (b.2.2.1.map needC)), (6, .row 3 1 (t.2.1.map intC)), (7, .row 3 1 (b.2.2.2.2.1.map intC)), (8, .row 96 2 (t.2.2.map portC))], 9⟩) cb (fun t cc => ?_) (fun t e0 => ?_) <;> clear cb
          .refine rs env_ok <| rn 2 rfl ?_
           refine sx rfl (o_in env_ok (fun j : (Bool × Bool × (List Int)) => lb j.1) (fun j : (Bool × Bool × (List Int)) => [(0, .box [lq (netC e)]), (1, .box [li c.frm, li c.to, li c.fin, ls 3 stepC g, ls 2 needC i, .lsl 6 2 0 b.2.2.1.length, .lsl 10 1 0 j.2.2.length, .lsl 8 1 0 b.2.2.2.2.1.length, lb j.2.1]), (2, .box [li 0, li 0, li 0, .p (.nils), .p (.nils), .p (.nils), .p (.nils), .p (.nils), lb false]), (3, .map (mapD (fun x => .agg (portC x)) .bool (aput d true b.2.1))), (4, .box [.lsl 9 2 0 f.length]), (5, .box [li d.elem, li d.fin]), (6, .row 91 2 (b.2.2.1.map needC)), (8, .row 3 1 (b.2.2.2.2.1.map intC)), (9, .row 96 2 (f.map portC)), (10, .row 3 1 (j.2.2.map intC))]) 11 cc Tryz.func55 30 [.tmp 4] [(0, .lpb 1 0), (1, li d.elem)] rfl rfl rfl rfl rfl rfl rfl rfl (fun A hA j ce => ?_) (fun j ci => ?_)) <;> clear cc
           .refine rs env_ok <| rl rfl <| dwp_seq <| rs env_ok <| rn 5 rfl ?_
            obtain ⟨fr, dk, cf⟩ := bd ce; clear ce
            refine sx rfl (o_call (w_9 _ _ _ dk) (.inl rfl) rfl rfl (LdA.eq (.cons (.one (.own (enc := intC) b.2.2.2.1 rfl rfl)) (.cons (.one (.p _)) .nil))) ?_)
            refine rl rfl ?_
            refine cd rfl cf (fun eo => ?_) (fun cg => ?_) <;> clear cf
            .refine rs env_ok <| rl rfl <| dwp_ret <| thenD_r ?_
             cases eo
             exact ipr (nt := 30) (sl := [(4, lb true)]) (wj hA (gi 7 [(8, 8), (9, 9), (10, 7), (7, 7)]) rfl rfl rfl rfl) rfl
            .refine dwp_skip <| thenD_n <| dwp_seq <| rs env_ok <| rl rfl ?_
             refine cd rfl cg (fun ep => ?_) (fun ch => ?_) <;> clear cg
             .refine rs env_ok <| rl rfl <| rs env_ok <| rl rfl <| dwp_ret <| thenD_r ?_
              cases ep
              exact ipr (nt := 30) (sl := [(4, lb false)]) (wj hA (gi 7 [(8, 8), (9, 9), (10, 7), (7, 7)]) rfl rfl rfl rfl) rfl
             .refine dwp_skip <| thenD_n <| rs env_ok <| rn 7 rfl ?_
              obtain ⟨fs, dl, es⟩ := bd ch; clear ch
              refine sx rfl (o_app1 (enc := intC) (l := b.2.2.2.1) (m := [d.elem]) dl (fun _ => ⟨rfl, rfl⟩) rfl rfl rfl rfl rfl rfl ?_)
              refine rl rfl <| rs env_ok <| rl rfl <| dwp_ret ?_
              cases es
              exact ipr (nt := 30) (sl := [(4, lb true)]) (wj hA (gi 7 [(8, 8), (9, 9), (10, 11), (7, 7)]) rfl rfl rfl rfl) rfl
           .refine rl rfl ?_
            refine cd rfl ci (fun cj => ?_) (fun ez => ?_) <;> clear ci
            .refine rs env_ok <| rn 3 rfl ?_
             refine sx rfl (o_in env_ok (fun u : (List Port) => .tup []) (fun u : (List Port) => [(0, .box [lq (netC e)]), (1, .box [li c.frm, li c.to, li c.fin, ls 3 stepC g, ls 2 needC i, .lsl 6 2 0 b.2.2.1.length, .lsl 10 1 0 j.2.2.length, .lsl 8 1 0 b.2.2.2.2.1.length, lb j.2.1]), (2, .box [li 0, li 0, li 0, .p (.nils), .p (.nils), .p (.nils), .p (.nils), .p (.nils), lb false]), (3, .map (mapD (fun x => .agg (portC x)) .bool (aput d true b.2.1))), (4, .box [.lsl 11 2 0 u.length]), (5, .box [li d.elem, li d.fin]), (6, .row 91 2 (b.2.2.1.map needC)), (8, .row 3 1 (b.2.2.2.2.1.map intC)), (10, .row 3 1 (j.2.2.map intC)), (11, .row 96 2 (u.map portC))]) 12 cj Tryz.func50 21 [] [(0, li d.elem), (1, li 2), (2, .lpb 0 0), (3, .lpb 4 0)] rfl rfl rfl rfl rfl rfl rfl rfl (fun A hA u ck => ?_) (fun u cn => ?_)) <;> clear cj
             .refine rs env_ok <| rn 4 rfl ?_
              obtain ⟨e5, dm, cl⟩ := bd ck; clear ck
              refine sx rfl (o_call (w_2 _ _ _ dm) (.inl rfl) rfl rfl rfl ?_)
              refine rl rfl <| rs env_ok <| rl rfl ?_
              refine cd rfl cl (fun cm => ?_) (fun ev => ?_) <;> clear cl
              .refine rg env_ok <| rn 3 rfl ?_
               obtain ⟨ft, dn, eu⟩ := bd cm; clear cm
               refine sx rfl (o_app1 (enc := portC) (l := f) (m := [e5.1]) dn (fun _ => ⟨rfl, rfl⟩) rfl rfl rfl rfl rfl rfl ?_)
               refine rl rfl ?_
               have hr := Option.some.inj eu; subst hr
               exact ipn (nt := 21) (sl := []) (wj hA (gi 9 [(10, 10), (11, 13), (9, 9)]) rfl rfl rfl rfl) rfl
              .refine dwp_skip ?_
               have hr := Option.some.inj ev; subst hr
               exact ipn (nt := 21) (sl := []) (wj hA (gi 9 [(10, 10), (11, 9), (9, 9)]) rfl rfl rfl rfl) rfl
             .refine rl rfl <| rg env_ok <| rn 3 rfl ?_
              refine sx rfl (o_in env_ok (fun ab : (List Port) => .tup []) (fun ab : (List Port) => [(0, .box [lq (netC e)]), (1, .box [li c.frm, li c.to, li c.fin, ls 3 stepC g, ls 2 needC i, .lsl 6 2 0 b.2.2.1.length, .lsl 10 1 0 j.2.2.length, .lsl 8 1 0 b.2.2.2.2.1.length, lb j.2.1]), (2, .box [li 0, li 0, li 0, .p (.nils), .p (.nils), .p (.nils), .p (.nils), .p (.nils), lb false]), (3, .map (mapD (fun x => .agg (portC x)) .bool (aput d true b.2.1))), (4, .box [.lsl 12 2 0 ab.length]), (5, .box [li d.elem, li d.fin]), (6, .row 91 2 (b.2.2.1.map needC)), (8, .row 3 1 (b.2.2.2.2.1.map intC)), (10, .row 3 1 (j.2.2.map intC)), (12, .row 96 2 (ab.map portC))]) 13 cn Tryz.func50 21 [] [(0, li d.elem), (1, li 1), (2, .lpb 0 0), (3, .lpb 4 0)] rfl rfl rfl rfl rfl rfl rfl rfl (fun A hA ab co => ?_) (fun ab ey => ?_)) <;> clear cn
              .refine rs env_ok <| rn 4 rfl ?_
               obtain ⟨e6, dp, cp⟩ := bd co; clear co
               refine sx rfl (o_call (w_2 _ _ _ dp) (.inl rfl) rfl rfl rfl ?_)
               refine rl rfl <| rs env_ok <| rl rfl ?_
               refine cd rfl cp (fun cq => ?_) (fun ex => ?_) <;> clear cp
               .refine rg env_ok <| rn 3 rfl ?_
                obtain ⟨fu, dq, ew⟩ := bd cq; clear cq
                refine sx rfl (o_app1 (enc := portC) (l := u) (m := [e6.1]) dq (fun _ => ⟨rfl, rfl⟩) rfl rfl rfl rfl rfl rfl ?_)
                refine rl rfl ?_
                have hr := Option.some.inj ew; subst hr
                exact ipn (nt := 21) (sl := []) (wj hA (gi 11 [(12, 14), (11, 11)]) rfl rfl rfl rfl) rfl
               .refine dwp_skip ?_
                have hr := Option.some.inj ex; subst hr
                exact ipn (nt := 21) (sl := []) (wj hA (gi 11 [(12, 11), (11, 11)]) rfl rfl rfl rfl) rfl
              .refine rl rfl ?_
               cases ey
               exact npn (wf hA (gi 5 [(5, 6), (6, 10), (7, 8), (8, 12)]) rfl rfl rfl)
            .refine dwp_skip ?_
             cases ez
             exact npn (wf hA (gi 5 [(5, 6), (6, 10), (7, 8), (8, 9)]) rfl rfl rfl)
          .refine dwp_exit <| thenD_x <| inB_y rfl <| inB_x ?_
           cases e0
           exact lpn (wf hA (gi 9 []) rfl rfl rfl)
         .refine dwp_skip <| thenD_n <| rs env_ok <| rl rfl <| dwp_seq ?_
          refine jb (fun ag : Bool => ⟨187, [(2, .lpb 0 0), (3, .lpb 1 0), (4, .lpb 2 0), (5, lb o.hard), (6, .lmap 3), (7, .lpb 4 0), (12, .fn 50 [.lpb 0 0, .lpb 4 0]), (13, .lpb 5 0), (161, lb ag)], [(0, .box [lq (netC e)]), (1, .box [li c.frm, li c.to, li c.fin, ls 3 stepC g, ls 2 needC i, .lsl 6 2 0 b.2.2.1.length, .lsl 7 1 0 b.2.2.2.1.length, .lsl 8 1 0 b.2.2.2.2.1.length, lb b.1]), (2, .box [li 0, li 0, li 0, .p (.nils), .p (.nils), .p (.nils), .p (.nils), .p (.nils), lb false]), (3, .map (mapD (fun x => .agg (portC x)) .bool (aput d true b.2.1))), (4, .box [.lsl 9 2 0 f.length]), (5, .box [li d.elem, li d.fin]), (6, .row 91 2 (b.2.2.1.map needC)), (7, .row 3 1 (b.2.2.2.1.map intC)), (8, .row 3 1 (b.2.2.2.2.1.map intC)), (9, .row 96 2 (f.map portC))], 10⟩) cr (fun ag ak => ?_) (fun ag an => ?_) <;> clear cr
          .refine rg env_ok <| rn 3 rfl ?_
           obtain ⟨fa, cv, al⟩ := bd ak; clear ak
           refine sx rfl (o_call (w_j _ _ _ cv) (.inl rfl) rfl rfl rfl ?_)
           refine rn 1 rfl ?_
           refine gs 156 al rfl rfl rfl (fun dr => ?_) (fun am => ?_) <;> clear al
           .refine rl rfl ?_
            cases dr
            exact npn (wf hA (gi 10 []) rfl rfl rfl)
           .refine rn 3 rfl ?_
            obtain ⟨fb, cw, ds⟩ := bd am; clear am
            refine sx rfl (o_call (w_j _ _ _ cw) (.inl rfl) rfl rfl (LdA.eq (.cons (.one (.own (enc := needC) b.2.2.1 rfl rfl)) (.cons (.one (.p _)) .nil))) ?_)
            refine rl rfl ?_
            have hr := Option.some.inj ds; subst hr
            exact npn (wf hA (gi 10 []) rfl rfl rfl)
          .refine cd rfl an (fun ao => ?_) (fun a1 => ?_) <;> clear an
           .refine jb (fun q : (Bool × (List Int) × (List Port)) => ⟨187, [(2, .lpb 0 0), (3, .lpb 1 0), (4, .lpb 2 0), (5, lb o.hard), (6, .lmap 3), (7, .lpb 4 0), (12, .fn 50 [.lpb 0 0, .lpb 4 0])], [(0, .box [lq (netC e)]), (1, .box [li c.frm, li c.to, li c.fin, ls 3 stepC g, ls 2 needC i, .lsl 5 2 0 b.2.2.1.length, .lsl 6 1 0 q.2.1.length, .lsl 7 1 0 b.2.2.2.2.1.length, lb q.1]), (2, .box [li 0, li 0, li 0, .p (.nils), .p (.nils), .p (.nils), .p (.nils), .p (.nils), lb false]), (3, .map (mapD (fun x => .agg (portC x)) .bool (aput d true b.2.1))), (4, .box [.lsl 8 2 0 q.2.2.length]), (5, .row 91 2 (b.2.2.1.map needC)), (6, .row 3 1 (q.2.1.map intC)), (7, .row 3 1 (b.2.2.2.2.1.map intC)), (8, .row 96 2 (q.2.2.map portC))], 9⟩) ao (fun q ap => ?_) (fun q d0 => ?_) <;> clear ao
            .refine rs env_ok <| rn 2 rfl ?_
             refine sx rfl (o_in env_ok (fun k : (Bool × Bool × (List Int)) => lb k.1) (fun k : (Bool × Bool × (List Int)) => [(0, .box [lq (netC e)]), (1, .box [li c.frm, li c.to, li c.fin, ls 3 stepC g, ls 2 needC i, .lsl 6 2 0 b.2.2.1.length, .lsl 10 1 0 k.2.2.length, .lsl 8 1 0 b.2.2.2.2.1.length, lb k.2.1]), (2, .box [li 0, li 0, li 0, .p (.nils), .p (.nils), .p (.nils), .p (.nils), .p (.nils), lb false]), (3, .map (mapD (fun x => .agg (portC x)) .bool (aput d true b.2.1))), (4, .box [.lsl 9 2 0 f.length]), (5, .box [li d.elem, li d.fin]), (6, .row 91 2 (b.2.2.1.map needC)), (8, .row 3 1 (b.2.2.2.2.1.map intC)), (9, .row 96 2 (f.map portC)), (10, .row 3 1 (k.2.2.map intC))]) 11 ap Tryz.func55 30 [.tmp 4] [(0, .lpb 1 0), (1, li d.elem)] rfl rfl rfl rfl rfl rfl rfl rfl (fun A hA k aq => ?_) (fun k aw => ?_)) <;> clear ap
             .refine rs env_ok <| rl rfl <| dwp_seq <| rs env_ok <| rn 5 rfl ?_
              obtain ⟨fc, cx, ar⟩ := bd aq; clear aq
              refine sx rfl (o_call (w_9 _ _ _ cx) (.inl rfl) rfl rfl (LdA.eq (.cons (.one (.own (enc := intC) b.2.2.2.1 rfl rfl)) (.cons (.one (.p _)) .nil))) ?_)
              refine rl rfl ?_
              refine cd rfl ar (fun dt => ?_) (fun au => ?_) <;> clear ar
              .refine rs env_ok <| rl rfl <| dwp_ret <| thenD_r ?_
               cases dt
               exact ipr (nt := 30) (sl := [(4, lb true)]) (wj hA (gi 7 [(8, 8), (9, 9), (10, 7), (7, 7)]) rfl rfl rfl rfl) rfl
              .refine dwp_skip <| thenD_n <| dwp_seq <| rs env_ok <| rl rfl ?_
               refine cd rfl au (fun du => ?_) (fun av => ?_) <;> clear au
               .refine rs env_ok <| rl rfl <| rs env_ok <| rl rfl <| dwp_ret <| thenD_r ?_
                cases du
                exact ipr (nt := 30) (sl := [(4, lb false)]) (wj hA (gi 7 [(8, 8), (9, 9), (10, 7), (7, 7)]) rfl rfl rfl rfl) rfl
               .refine dwp_skip <| thenD_n <| rs env_ok <| rn 7 rfl ?_
                obtain ⟨fd, cy, dv⟩ := bd av; clear av
                refine sx rfl (o_app1 (enc := intC) (l := b.2.2.2.1) (m := [d.elem]) cy (fun _ => ⟨rfl, rfl⟩) rfl rfl rfl rfl rfl rfl ?_)
                refine rl rfl <| rs env_ok <| rl rfl <| dwp_ret ?_
                cases dv
                exact ipr (nt := 30) (sl := [(4, lb true)]) (wj hA (gi 7 [(8, 8), (9, 9), (10, 11), (7, 7)]) rfl rfl rfl rfl) rfl
             .refine rl rfl ?_
              refine cd rfl aw (fun ax => ?_) (fun dz => ?_) <;> clear aw
              .refine rg env_ok <| rn 3 rfl ?_
               refine sx rfl (o_in env_ok (fun w : (List Port) => .tup []) (fun w : (List Port) => [(0, .box [lq (netC e)]), (1, .box [li c.frm, li c.to, li c.fin, ls 3 stepC g, ls 2 needC i, .lsl 6 2 0 b.2.2.1.length, .lsl 10 1 0 k.2.2.length, .lsl 8 1 0 b.2.2.2.2.1.length, lb k.2.1]), (2, .box [li 0, li 0, li 0, .p (.nils), .p (.nils), .p (.nils), .p (.nils), .p (.nils), lb false]), (3, .map (mapD (fun x => .agg (portC x)) .bool (aput d true b.2.1))), (4, .box [.lsl 11 2 0 w.length]), (5, .box [li d.elem, li d.fin]), (6, .row 91 2 (b.2.2.1.map needC)), (8, .row 3 1 (b.2.2.2.2.1.map intC)), (10, .row 3 1 (k.2.2.map intC)), (11, .row 96 2 (w.map portC))]) 12 ax Tryz.func50 21 [] [(0, li d.elem), (1, li 0), (2, .lpb 0 0), (3, .lpb 4 0)] rfl rfl rfl rfl rfl rfl rfl rfl (fun A hA w ay => ?_) (fun w dy => ?_)) <;> clear ax
               .refine rs env_ok <| rn 4 rfl ?_
                obtain ⟨e1, cz, az⟩ := bd ay; clear ay
                refine sx rfl (o_call (w_2 _ _ _ cz) (.inl rfl) rfl rfl rfl ?_)
                refine rl rfl <| rs env_ok <| rl rfl ?_
                refine cd rfl az (fun a0 => ?_) (fun dx => ?_) <;> clear az
                .refine rg env_ok <| rn 3 rfl ?_
                 obtain ⟨fe, c0, dw⟩ := bd a0; clear a0
                 refine sx rfl (o_app1 (enc := portC) (l := f) (m := [e1.1]) c0 (fun _ => ⟨rfl, rfl⟩) rfl rfl rfl rfl rfl rfl ?_)
                 refine rl rfl ?_
                 have hr := Option.some.inj dw; subst hr
                 exact ipn (nt := 21) (sl := []) (wj hA (gi 9 [(10, 10), (11, 13), (9, 9)]) rfl rfl rfl rfl) rfl
                .refine dwp_skip ?_
                 have hr := Option.some.inj dx; subst hr
                 exact ipn (nt := 21) (sl := []) (wj hA (gi 9 [(10, 10), (11, 9), (9, 9)]) rfl rfl rfl rfl) rfl
               .refine rl rfl ?_
                cases dy
                exact npn (wf hA (gi 5 [(5, 6), (6, 10), (7, 8), (8, 11)]) rfl rfl rfl)
              .refine dwp_skip ?_
               cases dz
               exact npn (wf hA (gi 5 [(5, 6), (6, 10), (7, 8), (8, 9)]) rfl rfl rfl)
            .refine dwp_exit <| thenD_x <| inB_y rfl <| inB_x ?_
             cases d0
             exact lpn (wf hA (gi 9 []) rfl rfl rfl)
           .refine dwp_skip <| thenD_n <| rs env_ok <| rl rfl <| rs env_ok <| rn 3 rfl ?_
            obtain ⟨ff, c1, a2⟩ := bd a1; clear a1
            refine sx rfl (o_call (w_j _ _ _ c1) (.inl rfl) rfl rfl (LdA.eq (.cons (.one (.own (enc := needC) b.2.2.1 rfl rfl)) (.cons (.one (.p _)) .nil))) ?_)
            refine rl rfl ?_
            refine cd rfl a2 (fun a3 => ?_) (fun d2 => ?_) <;> clear a2
            .refine rg env_ok <| rn 4 rfl ?_
             obtain ⟨fg, c2, d1⟩ := bd a3; clear a3
             refine sx rfl (o_app1 (enc := needC) (l := b.2.2.1) (m := [(⟨d.elem, wi64 (3 - d.fin)⟩ : Need)]) c2 (fun _ => ⟨rfl, rfl⟩) rfl rfl rfl rfl rfl rfl ?_)
             refine rl rfl <| inB_n <| inB_n ?_
             cases d1
             exact lpn (wf hA (gi 5 [(5, 12), (6, 7), (7, 8), (8, 9)]) rfl rfl rfl)
            .refine dwp_skip <| inB_n <| inB_n ?_
             cases d2
             exact lpn (wf hA (gi 5 [(5, 6), (6, 7), (7, 8), (8, 9)]) rfl rfl rfl)
        .refine rs env_ok <| rn 5 rfl ?_
         obtain ⟨cs, c3, a5⟩ := bd a4; clear a4
         refine sx rfl (o_call (w_8v _ _ _ _ _ c3) (.inl rfl) rfl rfl rfl ?_)
         refine rl rfl ?_
         refine jb (fun n : (Bool × Bool × (List Int)) => ⟨187, [(2, .lpb 0 0), (3, .lpb 1 0), (4, .lpb 2 0), (5, lb o.hard), (6, .lmap 3), (7, .lpb 4 0), (12, .fn 50 [.lpb 0 0, .lpb 4 0]), (13, .lpb 5 0), (17, li cs.1), (122, lb n.1)], [(0, .box [lq (netC e)]), (1, .box [li c.frm, li c.to, li c.fin, ls 3 stepC g, ls 2 needC i, .lsl 6 2 0 b.2.2.1.length, .lsl 7 1 0 n.2.2.length, .lsl 8 1 0 b.2.2.2.2.1.length, lb n.2.1]), (2, .box [li 0, li 0, li 0, .p (.nils), .p (.nils), .p (.nils), .p (.nils), .p (.nils), lb false]), (3, .map (mapD (fun x => .agg (portC x)) .bool (aput d true b.2.1))), (4, .box [.lsl 9 2 0 f.length]), (5, .box [li d.elem, li d.fin]), (6, .row 91 2 (b.2.2.1.map needC)), (7, .row 3 1 (n.2.2.map intC)), (8, .row 3 1 (b.2.2.2.2.1.map intC)), (9, .row 96 2 (f.map portC))], 10⟩) a5 (fun n a6 => ?_) (fun n bc => ?_) <;> clear a5
         .refine rg env_ok <| rn 2 rfl ?_
          refine gs 118 a6 rfl rfl rfl (fun a7 => ?_) (fun d7 => ?_) <;> clear a6
          .refine rn 2 rfl ?_
           refine sx rfl (o_in env_ok (fun s : (Bool × Bool × (List Int)) => lb s.1) (fun s : (Bool × Bool × (List Int)) => [(0, .box [lq (netC e)]), (1, .box [li c.frm, li c.to, li c.fin, ls 3 stepC g, ls 2 needC i, .lsl 6 2 0 b.2.2.1.length, .lsl 10 1 0 s.2.2.length, .lsl 8 1 0 b.2.2.2.2.1.length, lb s.2.1]), (2, .box [li 0, li 0, li 0, .p (.nils), .p (.nils), .p (.nils), .p (.nils), .p (.nils), lb false]), (3, .map (mapD (fun x => .agg (portC x)) .bool (aput d true b.2.1))), (4, .box [.lsl 9 2 0 f.length]), (5, .box [li d.elem, li d.fin]), (6, .row 91 2 (b.2.2.1.map needC)), (8, .row 3 1 (b.2.2.2.2.1.map intC)), (9, .row 96 2 (f.map portC)), (10, .row 3 1 (s.2.2.map intC))]) 11 a7 Tryz.func55 30 [.tmp 4] [(0, .lpb 1 0), (1, li d.elem)] rfl rfl rfl rfl rfl rfl rfl rfl (fun A hA s a8 => ?_) (fun s d6 => ?_)) <;> clear a7
           .refine rs env_ok <| rl rfl <| dwp_seq <| rs env_ok <| rn 5 rfl ?_
            obtain ⟨fh, c4, a9⟩ := bd a8; clear a8
            refine sx rfl (o_call (w_9 _ _ _ c4) (.inl rfl) rfl rfl (LdA.eq (.cons (.one (.own (enc := intC) b.2.2.2.1 rfl rfl)) (.cons (.one (.p _)) .nil))) ?_)
            refine rl rfl ?_
            refine cd rfl a9 (fun d3 => ?_) (fun ba => ?_) <;> clear a9
            .refine rs env_ok <| rl rfl <| dwp_ret <| thenD_r ?_
             cases d3
             exact ipr (nt := 30) (sl := [(4, lb true)]) (wj hA (gi 7 [(8, 8), (9, 9), (10, 7), (7, 7)]) rfl rfl rfl rfl) rfl
            .refine dwp_skip <| thenD_n <| dwp_seq <| rs env_ok <| rl rfl ?_
             refine cd rfl ba (fun d4 => ?_) (fun bb => ?_) <;> clear ba
             .refine rs env_ok <| rl rfl <| rs env_ok <| rl rfl <| dwp_ret <| thenD_r ?_
              cases d4
              exact ipr (nt := 30) (sl := [(4, lb false)]) (wj hA (gi 7 [(8, 8), (9, 9), (10, 7), (7, 7)]) rfl rfl rfl rfl) rfl
             .refine dwp_skip <| thenD_n <| rs env_ok <| rn 7 rfl ?_
              obtain ⟨fi, c5, d5⟩ := bd bb; clear bb
              refine sx rfl (o_app1 (enc := intC) (l := b.2.2.2.1) (m := [d.elem]) c5 (fun _ => ⟨rfl, rfl⟩) rfl rfl rfl rfl rfl rfl ?_)
              refine rl rfl <| rs env_ok <| rl rfl <| dwp_ret ?_
              cases d5
              exact ipr (nt := 30) (sl := [(4, lb true)]) (wj hA (gi 7 [(8, 8), (9, 9), (10, 11), (7, 7)]) rfl rfl rfl rfl) rfl
           .refine rl rfl ?_
            cases d6
            exact npn (wf hA (gi 7 [(7, 10), (8, 8), (9, 9)]) rfl rfl rfl)
          .refine rl rfl ?_
           cases d7
           exact npn (wf hA (gi 10 []) rfl rfl rfl)
         .refine cd rfl bc (fun be => ?_) (fun eb => ?_) <;> clear bc
          .refine rg env_ok <| rn 4 rfl ?_
           refine sx rfl (o_in env_ok (fun aa : (List Port) => .tup []) (fun aa : (List Port) => [(0, .box [lq (netC e)]), (1, .box [li c.frm, li c.to, li c.fin, ls 3 stepC g, ls 2 needC i, .lsl 6 2 0 b.2.2.1.length, .lsl 7 1 0 n.2.2.length, .lsl 8 1 0 b.2.2.2.2.1.length, lb n.2.1]), (2, .box [li 0, li 0, li 0, .p (.nils), .p (.nils), .p (.nils), .p (.nils), .p (.nils), lb false]), (3, .map (mapD (fun x => .agg (portC x)) .bool (aput d true b.2.1))), (4, .box [.lsl 10 2 0 aa.length]), (5, .box [li d.elem, li d.fin]), (6, .row 91 2 (b.2.2.1.map needC)), (7, .row 3 1 (n.2.2.map intC)), (8, .row 3 1 (b.2.2.2.2.1.map intC)), (10, .row 96 2 (aa.map portC))]) 11 be Tryz.func50 21 [] [(0, li d.elem), (1, li cs.1), (2, .lpb 0 0), (3, .lpb 4 0)] rfl rfl rfl rfl rfl rfl rfl rfl (fun A hA aa bf => ?_) (fun aa ea => ?_)) <;> clear be
           .refine rs env_ok <| rn 4 rfl ?_
            obtain ⟨e2, c6, bg⟩ := bd bf; clear bf
            refine sx rfl (o_call (w_2 _ _ _ c6) (.inl rfl) rfl rfl rfl ?_)
            refine rl rfl <| rs env_ok <| rl rfl ?_
            refine cd rfl bg (fun bh => ?_) (fun d9 => ?_) <;> clear bg
            .refine rg env_ok <| rn 3 rfl ?_
             obtain ⟨fj, c7, d8⟩ := bd bh; clear bh
             refine sx rfl (o_app1 (enc := portC) (l := f) (m := [e2.1]) c7 (fun _ => ⟨rfl, rfl⟩) rfl rfl rfl rfl rfl rfl ?_)
             refine rl rfl ?_
             have hr := Option.some.inj d8; subst hr
             exact ipn (nt := 21) (sl := []) (wj hA (gi 9 [(10, 12), (9, 9)]) rfl rfl rfl rfl) rfl
            .refine dwp_skip ?_
             have hr := Option.some.inj d9; subst hr
             exact ipn (nt := 21) (sl := []) (wj hA (gi 9 [(10, 9), (9, 9)]) rfl rfl rfl rfl) rfl
           .refine rl rfl <| inB_n <| inB_n ?_
            cases ea
            exact lpn (wf hA (gi 5 [(5, 6), (6, 7), (7, 8), (8, 10)]) rfl rfl rfl)
          .refine dwp_skip <| inB_n <| inB_n ?_
           cases eb
           exact lpn (wf hA (gi 5 [(5, 6), (6, 7), (7, 8), (8, 9)]) rfl rfl rfl)
  .refine dwp_exit <| thenD_x ?_
   obtain ⟨e7, ec, rfl⟩ := mps bi; clear bi
   refine lpx <| inB_x <| thenD_n <| rs env_ok <| rl rfl <| dwp_ret <| sc_r ?_
   cases ec
   exact er (rd1 rfl (.agg (.cons (.p _) (.cons (.p _) (.cons (.p _) (.cons (.p _) (.cons (.p _) (.cons (.own (enc := needC) b.2.2.1 rfl rfl) (.cons (.own (enc := intC) b.2.2.2.1 rfl rfl) (.cons (.own (enc := intC) b.2.2.2.2.1 rfl rfl) (.cons (.p _) .nil))))))))))) Le.rfl
end Go.E
/- Plain functions, and walks in step with them. Written by a program (gen.py). No condition. -/
set_option maxRecDepth 100000
namespace Go.E
open Go Go.RowKit Go.Proofs
noncomputable def q_84 (b : Plan) (a : Int × (List Road)) : Option ((Int × (List Road)) ⊕ ((List Road) × Int)) :=
 bif decide (a.1 < (b.signals.length : Int)) then (q_6c b a.1).bind fun d => (appI a.2 d).bind fun c => bif decide (64 < (c.length : Int)) then some (.inr (([] : List Road), 3)) else some (.inl (wi64 (a.1 + 1), c)) else some (.inr (a.2, 0))
noncomputable def q_7r (a : Plan) : Option ((List Road) × Int) :=
 loopR (q_84 a) (0, ([] : List Road))
theorem w_a5 (b : Plan) (r : ((List Road) × Int)) (h : q_7r b = some r) : MutC Tryz.prog 44 [] 0 [.p (.agg (planC b))] (.tup [.lsl 0 9 0 r.1.length, li r.2]) [(0, .row 36 9 (r.1.map roadC))] 1 := by
 refine fnM env_ok Tryz.func44 22 [.tmp 2, .tmp 3] [(0, .p (.agg (planC b)))] rfl rfl rfl rfl rfl rfl (fun A hA => ?_)
 unfold q_7r at h
 refine rs env_ok <| rl rfl <| rs env_ok <| rl rfl <| dwp_seq <| rs env_ok <| rl rfl <| dwp_block ?_
 apply lp (a := r) (fun c : (Int × (List Road)) => ⟨22, [(1, .lpb 0 0), (4, .lsl 1 9 0 c.2.length), (5, li c.1)], [(0, .box [ls 3 elemC b.elems, ls 4 joinC b.joins, ls 4 signalC b.signals, ls 2 lineC b.lines, li b.top, li b.brake, li b.margin, li b.throw, lb b.hard]), (1, .row 36 9 (c.2.map roadC))], 2⟩) h <;> clear h
 . exact Weak.trans (weak_ghost 4 36 9 rfl) (wj hA [(0, 0), (1, 1)] rfl rfl rfl rfl)
 intro c w d
 unfold q_84 at d
 refine dwp_seq <| rs env_ok <| rn 3 rfl ?_
 refine sx rfl (o_len rfl rfl ?_)
 refine rl rfl ?_
 refine cd rfl d (fun e => ?_) (fun j => ?_) <;> clear d
 .refine dwp_skip <| thenD_n <| dwp_seq <| dwp_block <| rs env_ok <| rn 3 rfl ?_
  obtain ⟨t, k, f⟩ := bd e; clear e
  refine sx rfl (o_call (w_98 _ _ _ k) (.inr rfl) rfl rfl rfl ?_)
  obtain ⟨x, n, g⟩ := bd f; clear f
  refine sx rfl (o_app1 (enc := roadC) (l := c.2) (m := t) n (fun _ => ⟨rfl, rfl⟩) rfl rfl rfl rfl rfl rfl ?_)
  refine rl rfl <| rs env_ok <| rl rfl ?_
  refine cd rfl g (fun i => ?_) (fun q => ?_) <;> clear g
  .refine rs env_ok <| rl rfl <| dwp_ret <| inB_r <| thenD_r ?_
   obtain ⟨u, o, rfl⟩ := mps i; clear i
   refine lpt <| inB_r <| thenD_r ?_
   cases o
   exact ipr (nt := 22) (sl := [(2, .lsl 0 9 0 ([] : List Road).length), (3, li 3)]) (Weak.trans (weak_ghost 2 36 9 rfl) (wj hA [(0, 3)] rfl rfl rfl rfl)) rfl
  .refine dwp_skip <| inB_n <| thenD_n <| rg env_ok <| rl rfl ?_
   cases q
   exact lpn (wj hA [(0, 0), (1, 2)] rfl rfl rfl rfl)
 .refine dwp_exit <| thenD_x ?_
  obtain ⟨v, s, rfl⟩ := mps j; clear j
  refine lpx <| inB_x <| thenD_n <| rs env_ok <| rl rfl <| dwp_ret ?_
  cases s
  exact ipr (nt := 22) (sl := [(2, .lsl 0 9 0 c.2.length), (3, li 0)]) (wj hA [(0, 1)] rfl rfl rfl rfl) rfl
end Go.E
/- Plain functions, and walks in step with them. Written by a program (gen.py). No condition. -/
set_option maxRecDepth 100000
namespace Go.E
open Go Go.RowKit Go.Proofs
noncomputable def q_h (a : Net) : Option Int :=
 some (a.p.signals.length : Int)
theorem w_1j (a : Net) (r : Int) (h : q_h a = some r) : Fun Tryz.prog 87 [.place (netC a) 0] (· = .int .i64 r) := by
 refine fn env_ok Tryz.func87 rfl rfl 9 rfl [.tmp 2] rfl [(0, .p (.place (netC a) 0))] rfl rfl fun A hA => ?_
 unfold q_h at h
 refine rs env_ok <| rl rfl <| rs env_ok <| rn 5 rfl ?_
 refine sx rfl (o_len rfl rfl ?_)
 refine rl rfl <| dwp_ret ?_
 cases h
 exact er rfl Le.rfl
noncomputable def q_1v (b : Net) (a : Int) : Option (Port × Bool) :=
 ((bif decide (a < 0) then some true else some (decide ((b.p.signals.length : Int) <= a)) : Option (Bool))).bind fun (c : Bool) => bif c then some ((⟨0, 0⟩ : Port), false) else (idx b.p.signals a).bind fun d => some (d.at_, true)
theorem w_7c (a : Net) (b : Int) (r : (Port × Bool)) (h : q_1v a b = some r) : Fun Tryz.prog 95 [.place (netC a) 0, .int .i64 b] (· = .tup [.agg (portC r.1), .bool r.2]) := by
 refine fn env_ok Tryz.func95 rfl rfl 28 rfl [.cell 4 96, .tmp 5] rfl [(0, .p (.place (netC a) 0)), (1, .p (.int .i64 b))] rfl rfl fun A hA => ?_
 unfold q_1v at h
 refine rs env_ok <| rl rfl <| dwp_seq ?_
 refine jb (fun c : Bool => ⟨28, [(0, lq (netC a)), (1, li b), (4, .lpb 0 0), (17, lb c)], [(0, .box [li 0, li 0])], 1⟩) h (fun c d => ?_) (fun c e => ?_) <;> clear h
 .refine rg env_ok <| rn 3 rfl ?_
  refine gs 8 d rfl rfl rfl (fun i => ?_) (fun j => ?_) <;> clear d
  .refine rl rfl ?_
   cases i
   exact npn (wf hA [(0, 0)] rfl rfl rfl)
  .refine rn 6 rfl ?_
   refine sx rfl (o_len rfl rfl ?_)
   refine rl rfl ?_
   cases j
   exact npn (wf hA [(0, 0)] rfl rfl rfl)
 .refine cd rfl e (fun k => ?_) (fun f => ?_) <;> clear e
  .refine rs env_ok <| rl rfl <| dwp_ret <| thenD_r ?_
   cases k
   exact er rfl Le.rfl
  .refine dwp_skip <| thenD_n <| rs env_ok <| rn 6 rfl ?_
   obtain ⟨m, g, l⟩ := bd f; clear f
   refine sx rfl (o_idx g rfl rfl rfl ?_)
   refine rl rfl <| dwp_ret ?_
   cases l
   exact er rfl Le.rfl
noncomputable def q_1k (a : Step) (b : Int) : Option Bool :=
 some (a.elem == b)
theorem w_85 (a : Step) (b : Int) (r : Bool) (h : q_1k a b = some r) : Fun Tryz.prog 209 [.agg (stepC a), .place (intC b) 0] (· = .bool r) := by
 refine fn env_ok Tryz.func209 rfl rfl 8 rfl [.tmp 3] rfl [(0, .p (.agg (stepC a))), (1, .p (.place (intC b) 0))] rfl rfl fun A hA => ?_
 unfold q_1k at h
 refine rs env_ok <| rl rfl <| rs env_ok <| rl rfl <| dwp_ret ?_
 cases h
 exact er rfl Le.rfl
noncomputable def q_e (b : (List Step)) (x1_0 : Int) (a : Int) : Option (Int ⊕ Int) :=
 bif decide (a < (b.length : Int)) then (idx b a).bind fun c => (q_1k c x1_0).bind fun d => bif d then some (.inr a) else some (.inl (wi64 (a + 1))) else some (.inr (-1))
noncomputable def q_b (b : (List Step)) (x1_0 : Int) : Option Bool :=
 ((loopR (q_e b x1_0) 0 : Option (Int))).bind fun (a : Int) => some (decide (0 <= a))
theorem w_1l (b : (List Step)) (x1_0 : Int) (r : Bool) (h : q_b b x1_0 = some r) : Fun Tryz.prog 96 [.slice 3 (b.map stepC), .fn 209 [.place (intC x1_0) 0]] (· = .bool r) := by
 refine fn env_ok Tryz.func96 rfl rfl 9 rfl [.tmp 4] rfl [(0, .p (.slice 3 (b.map stepC))), (1, .p (.fn 209 [.place (intC x1_0) 0]))] rfl rfl fun A hA => ?_
 unfold q_b at h
 refine dwp_weak (weak_fnp 1 rfl) ?_
 refine rs env_ok <| rl rfl <| rs env_ok <| rn 2 rfl ?_
 refine sx rfl (o_in env_ok (fun c : Int => li c) (fun c : Int => []) 0 h Tryz.func149 19 [.tmp 4] [(0, ls 3 stepC b), (1, .fn 209 [lq (intC x1_0)])] rfl rfl rfl rfl rfl rfl rfl rfl (fun A hA c f => ?_) (fun c t => ?_)) <;> clear h
 .refine rs env_ok <| rl rfl <| dwp_seq <| rs env_ok <| rn 1 rfl ?_
  refine sx rfl (o_len rfl rfl ?_)
  refine rl rfl <| dwp_block ?_
  apply lp (a := c) (fun e : Int => ⟨19, [(0, ls 3 stepC b), (1, .fn 209 [lq (intC x1_0)]), (7, li (b.length : Int)), (8, li e)], [], 0⟩) f <;> clear f
  . exact wj hA [] rfl rfl rfl rfl
  intro e w d
  unfold q_e at d
  refine rs env_ok <| rl rfl <| dwp_seq ?_
  refine cd rfl d (fun g => ?_) (fun l => ?_) <;> clear d
  .refine dwp_skip <| thenD_n <| dwp_seq <| dwp_block <| rs env_ok <| rl rfl <| rs env_ok <| rn 3 rfl ?_
   obtain ⟨x, m, i⟩ := bd g; clear g
   refine sx rfl (o_idx m rfl rfl rfl ?_)
   refine rn 1 rfl ?_
   obtain ⟨y, n, j⟩ := bd i; clear i
   refine sx rfl (o_call (w_85 _ _ _ n) (.inl rfl) rfl rfl rfl ?_)
   refine rl rfl ?_
   refine cd rfl j (fun k => ?_) (fun q => ?_) <;> clear j
   .refine rs env_ok <| rl rfl <| dwp_ret <| inB_r <| thenD_r ?_
    obtain ⟨u, o, rfl⟩ := mps k; clear k
    refine lpt <| inB_r <| thenD_r ?_
    have hr := Option.some.inj o; subst hr
    exact ipr (nt := 19) (sl := [(4, li e)]) (wj hA [] rfl rfl rfl rfl) rfl
   .refine dwp_skip <| inB_n <| thenD_n <| rg env_ok <| rl rfl ?_
    cases q
    exact lpn (wj hA [] rfl rfl rfl rfl)
  .refine dwp_exit <| thenD_x ?_
   obtain ⟨v, s, rfl⟩ := mps l; clear l
   refine lpx <| inB_x <| thenD_n <| rs env_ok <| rl rfl <| dwp_ret ?_
   cases s
   exact ipr (nt := 19) (sl := [(4, li (-1))]) (wj hA [] rfl rfl rfl rfl) rfl
 .refine rl rfl <| dwp_ret ?_
  cases t
  exact er rfl Le.rfl
end Go.E
/- Plain functions, and walks in step with them. Written by a program (gen.py). No condition. -/
set_option maxRecDepth 100000
namespace Go.E
open Go Go.RowKit Go.Proofs
noncomputable def q_1w (a : RoadPath) (b : Int) : Option Bool :=
 ((bif decide ((a.steps.length : Int) < 12) then bif (b != a.berth) then (q_b a.steps b).bind fun d => some (!d) else some false else some false : Option (Bool))).bind fun (c : Bool) => some c
theorem w_8i (b : RoadPath) (c : Int) (r : Bool) (h : q_1w b c = some r) : Fun Tryz.prog 189 [.place (roadPathC b) 0, .int .i64 c] (· = .bool r) := by
 refine fn env_ok Tryz.func189 rfl rfl 28 rfl [.tmp 4] rfl [(0, .p (.place (roadPathC b) 0)), (1, .p (.int .i64 c))] rfl rfl fun A hA => ?_
 unfold q_1w at h
 refine rs env_ok <| rl rfl ?_
 refine jb (fun a : Bool => ⟨28, [(4, lb a)], [], 0⟩) h (fun a e => ?_) (fun a l => ?_) <;> clear h
 .refine rgd env_ok mixed [0, 1, 2, 3, 4, 5, 6, 7, 8, 9, 10, 11, 12, 13, 14, 15, 16, 17, 18, 19, 20, 21, 22, 23] 24 (by kernel_rfl) rfl rfl rfl ?_
  refine rnD 4 rfl ?_
  refine sxD rfl (o_lenD rfl rfl ?_)
  refine rnD 2 rfl ?_
  refine gsD 11 e rfl rfl rfl (fun f => ?_) (fun k => ?_) <;> clear e
  .refine rnD 8 rfl ?_
   refine gsD 19 f rfl rfl rfl (fun d => ?_) (fun j => ?_) <;> clear f
   .refine rnD 5 rfl ?_
    obtain ⟨m, g, i⟩ := bd d; clear d
    refine sxD rfl (o_callD (w_1l _ _ _ g) (.inl rfl) rfl rfl (LdA.eq (.cons (.one (.p _)) (.cons (.fn (.box rfl (.cons (.p _) .nil) .nil)) .nil))) ?_)
    refine rlD rfl ?_
    cases i
    exact npn (wf hA [] rfl rfl rfl)
   .refine rlD rfl ?_
    cases j
    exact npn (wf hA [] rfl rfl rfl)
  .refine rlD rfl ?_
   cases k
   exact npn (wf hA [] rfl rfl rfl)
 .refine dwp_ret ?_
  have hr := Option.some.inj l; subst hr
  exact er rfl Le.rfl
noncomputable def q_7d (b : ((List Step) × (List Int) × (List (List Way)))) (d : (List Step)) (a : Int × (List Need)) : Option ((Int × (List Need)) ⊕ ((List Step) × (List Need))) :=
 bif decide (a.1 < (b.1.length : Int)) then (((idx b.1 a.1).bind fun e => (idx b.2.1 a.1).bind fun f => bif (f != 0) then (idx b.2.1 a.1).bind fun g => (appI a.2 [(⟨e.elem, g⟩ : Need)]).bind fun h => some h else some a.2 : Option ((List Need)))).bind fun (c : (List Need)) => some (.inl (wi64 (a.1 + 1), c)) else some (.inr (d, a.2))
noncomputable def q_7e (a : ((List Road) × (List Step) × (List Int) × (List (List Way)))) (c : Way) (d : Step) (f : (List Step)) (b : Int × (List Need)) : Option ((Int × (List Need)) ⊕ ((List Step) × (List Need))) :=
 bif decide (b.1 < ((setI a.2.1 (wi64 ((a.2.1.length : Int) - 1)) (⟨d.elem, d.in_, c.out⟩ : Step)).length : Int)) then (((idx (setI a.2.1 (wi64 ((a.2.1.length : Int) - 1)) (⟨d.elem, d.in_, c.out⟩ : Step)) b.1).bind fun g => (idx (setI a.2.2.1 (wi64 ((a.2.1.length : Int) - 1)) c.pos) b.1).bind fun h => bif (h != 0) then (idx (setI a.2.2.1 (wi64 ((a.2.1.length : Int) - 1)) c.pos) b.1).bind fun i => (appI b.2 [(⟨g.elem, i⟩ : Need)]).bind fun j => some j else some b.2 : Option ((List Need)))).bind fun (e : (List Need)) => some (.inl (wi64 (b.1 + 1), e)) else some (.inr (f, b.2))
noncomputable def q_7f (a : ((List Road) × (List Step) × (List Int) × (List (List Way)))) (c : Way) (d : Step) (f : (List Step)) (b : Int × (List Need)) : Option ((Int × (List Need)) ⊕ ((List Step) × (List Need))) :=
 bif decide (b.1 < ((setI a.2.1 (wi64 ((a.2.1.length : Int) - 1)) (⟨d.elem, d.in_, c.out⟩ : Step)).length : Int)) then (((idx (setI a.2.1 (wi64 ((a.2.1.length : Int) - 1)) (⟨d.elem, d.in_, c.out⟩ : Step)) b.1).bind fun g => (idx (setI a.2.2.1 (wi64 ((a.2.1.length : Int) - 1)) c.pos) b.1).bind fun h => bif (h != 0) then (idx (setI a.2.2.1 (wi64 ((a.2.1.length : Int) - 1)) c.pos) b.1).bind fun i => (appI b.2 [(⟨g.elem, i⟩ : Need)]).bind fun j => some j else some b.2 : Option ((List Need)))).bind fun (e : (List Need)) => some (.inl (wi64 (b.1 + 1), e)) else some (.inr (f, b.2))
noncomputable def q_7g (i : Net) (j : Int) (a : (List Road) × (List Step) × (List Int) × (List (List Way))) : Option (((List Road) × (List Step) × (List Int) × (List (List Way))) ⊕ ((Int × Int × (List Road) × (List Step) × (List Int) × (List (List Way))) ⊕ (List Road))) :=
 bif decide (0 < (a.2.1.length : Int)) then (idx a.2.2.2 (wi64 ((a.2.1.length : Int) - 1))).bind fun n => bif ((n.length : Int) == 0) then (((slO a.2.1 0 (wi64 ((a.2.1.length : Int) - 1))).bind fun o => (slO a.2.2.1 0 (wi64 ((a.2.1.length : Int) - 1))).bind fun p => (slO a.2.2.2 0 (wi64 ((a.2.1.length : Int) - 1))).bind fun q => some (o, p, q) : Option ((List Step) × (List Int) × (List (List Way))))).bind fun (d : (List Step) × (List Int) × (List (List Way))) => some (.inl (a.1, d.1, d.2.1, d.2.2)) else (idx a.2.2.2 (wi64 ((a.2.1.length : Int) - 1))).bind fun r => (idx r 0).bind fun c => (idx a.2.2.2 (wi64 ((a.2.1.length : Int) - 1))).bind fun k => (slI k 1 (k.length : Int)).bind fun e => (idx a.2.2.2 (wi64 ((a.2.1.length : Int) - 1))).bind fun w => (idx a.2.1 (wi64 ((a.2.1.length : Int) - 1))).bind fun b => (idx a.2.2.1 (wi64 ((a.2.1.length : Int) - 1))).bind fun x => (idx (setI a.2.1 (wi64 ((a.2.1.length : Int) - 1)) (⟨b.elem, b.in_, c.out⟩ : Step)) (wi64 ((a.2.1.length : Int) - 1))).bind fun l => (q_c i (⟨l.elem, c.out⟩ : Port)).bind fun m => bif decide (0 <= m) then (((q_1 (setI a.2.1 (wi64 ((a.2.1.length : Int) - 1)) (⟨b.elem, b.in_, c.out⟩ : Step))).bind fun s => loopR (q_7e a c b s) (0, ([] : List Need)) : Option ((List Step) × (List Need)))).bind fun (g : (List Step) × (List Need)) => (appI a.1 ([(⟨j, m, 1, g.1, g.2, ([] : List Need), ([] : List Int), ([] : List Int), false⟩ : Road)])).bind fun t => some (.inl (t, setI a.2.1 (wi64 ((a.2.1.length : Int) - 1)) (⟨b.elem, b.in_, c.out⟩ : Step), setI a.2.2.1 (wi64 ((a.2.1.length : Int) - 1)) c.pos, setI a.2.2.2 (wi64 ((a.2.1.length : Int) - 1)) e)) else (q_0 i (⟨l.elem, c.out⟩ : Port)).bind fun f => bif (!f.2) then (((q_1 (setI a.2.1 (wi64 ((a.2.1.length : Int) - 1)) (⟨b.elem, b.in_, c.out⟩ : Step))).bind fun u => loopR (q_7f a c b u) (0, ([] : List Need)) : Option ((List Step) × (List Need)))).bind fun (h : (List Step) × (List Need)) => (appI a.1 ([(⟨j, (-1), 3, h.1, h.2, ([] : List Need), ([] : List Int), ([] : List Int), false⟩ : Road)])).bind fun v => some (.inl (v, setI a.2.1 (wi64 ((a.2.1.length : Int) - 1)) (⟨b.elem, b.in_, c.out⟩ : Step), setI a.2.2.1 (wi64 ((a.2.1.length : Int) - 1)) c.pos, setI a.2.2.2 (wi64 ((a.2.1.length : Int) - 1)) e)) else some (.inr (.inl (f.1.elem, f.1.fin, a.1, setI a.2.1 (wi64 ((a.2.1.length : Int) - 1)) (⟨b.elem, b.in_, c.out⟩ : Step), setI a.2.2.1 (wi64 ((a.2.1.length : Int) - 1)) c.pos, setI a.2.2.2 (wi64 ((a.2.1.length : Int) - 1)) e))) else some (.inr (.inr a.1))
noncomputable def q_7h (d : Net) (f : Int) (o : (Port × Bool)) (a : Int × Int × (List Road) × (List Step) × (List Int) × (List (List Way))) : Option ((Int × Int × (List Road) × (List Step) × (List Int) × (List (List Way))) ⊕ (List Road)) :=
 (((q_1w (⟨o.1.elem, a.2.2.2.1, a.2.2.2.2.1, a.2.2.2.2.2⟩ : RoadPath) a.1).bind fun g => bif g then (((appI a.2.2.2.1 [(⟨a.1, a.2.1, (-1)⟩ : Step)]).bind fun h => (appI a.2.2.2.2.1 [0]).bind fun i => (q_d d a.1 a.2.1).bind fun j => (appI a.2.2.2.2.2 [j]).bind fun k => some (h, i, k) : Option ((List Step) × (List Int) × (List (List Way))))).bind fun (b : (List Step) × (List Int) × (List (List Way))) => (q_5 d a.1).bind fun l => bif (l == 4) then (((q_1 b.1).bind fun m => loopR (q_7d b m) (0, ([] : List Need)) : Option ((List Step) × (List Need)))).bind fun (e : (List Step) × (List Need)) => (appI a.2.2.1 ([(⟨f, (-1), 2, e.1, e.2, ([] : List Need), ([] : List Int), ([] : List Int), false⟩ : Road)])).bind fun n => some (n, b.1, b.2.1, b.2.2) else some (a.2.2.1, b.1, b.2.1, b.2.2) else some (a.2.2.1, a.2.2.2.1, a.2.2.2.2.1, a.2.2.2.2.2) : Option ((List Road) × (List Step) × (List Int) × (List (List Way))))).bind fun (c : (List Road) × (List Step) × (List Int) × (List (List Way))) => loopR (q_7g d f) (c.1, c.2.1, c.2.2.1, c.2.2.2)
noncomputable def q_49 (a : Net) (d : Int) : Option (List Road) :=
 (q_1v a d).bind fun c => bif (!c.2) then some [] else (q_0 a c.1).bind fun b => bif (!b.2) then some [] else loopR (q_7h a d c) (b.1.elem, b.1.fin, ([] : List Road), ([] : List Step), ([] : List Int), ([] : List (List Way)))
theorem w_8w (t : Net) (g : Int) (r : (List Road)) (h : q_49 t g = some r) : Fun Tryz.prog 138 [.place (netC t) 0, .int .i64 g] (· = .slice 9 (r.map roadC)) := by
 refine fn env_ok Tryz.func138 rfl rfl 157 rfl [.tmp 4] rfl [(0, .p (.place (netC t) 0)), (1, .p (.int .i64 g))] rfl rfl fun A hA => ?_
 unfold q_49 at h
 refine rs env_ok <| rl rfl <| sc <| rs env_ok <| rn 2 rfl ?_
 obtain ⟨j, ds, c4⟩ := bd h; clear h
 refine sx rfl (o_call (w_7c _ _ _ ds) (.inl rfl) rfl rfl rfl ?_)
 refine rl rfl <| dwp_seq <| rs env_ok <| rl rfl ?_
 refine cd rfl c4 (fun eg => ?_) (fun c5 => ?_) <;> clear c4
 .refine rs env_ok <| rl rfl <| dwp_ret <| thenD_r <| sc_r ?_
  cases eg
  exact er rfl (Le.nil _)
 .refine dwp_skip <| thenD_n <| rs env_ok <| rn 2 rfl ?_
  obtain ⟨e1, c7, a7⟩ := bd c5; clear c5
  refine sx rfl (o_call (w_2 _ _ _ c7) (.inl rfl) rfl rfl rfl ?_)
  refine rl rfl <| dwp_seq <| rs env_ok <| rl rfl ?_
  refine cd rfl a7 (fun dt => ?_) (fun a8 => ?_) <;> clear a7
  .refine rs env_ok <| rl rfl <| dwp_ret <| thenD_r <| sc_r ?_
   cases dt
   exact er rfl (Le.nil _)
  .refine dwp_skip <| thenD_n <| rs env_ok <| rl rfl <| rs env_ok <| rl rfl <| dwp_seq <| dwp_label <| thenD_n <| dwp_seq <| dwp_block ?_
   apply lp (a := r) (fun d : (Int × Int × (List Road) × (List Step) × (List Int) × (List (List Way))) => ⟨157, [(0, lq (netC t)), (1, li g), (7, .lpb 0 0), (8, .lsl 1 9 0 d.2.2.1.length), (9, .lpb 2 0)], [(0, .box [li d.1, li d.2.1]), (1, .row 36 9 (d.2.2.1.map roadC)), (2, .box [li j.1.elem, .lsl 3 3 0 d.2.2.2.1.length, .lsl 4 1 0 d.2.2.2.2.1.length, .lsl 5 1 0 d.2.2.2.2.2.length]), (3, .row 65 3 (d.2.2.2.1.map stepC)), (4, .row 3 1 (d.2.2.2.2.1.map intC)), (5, .row 145 1 (d.2.2.2.2.2.map (rowC 2 wayC)))], 6⟩) a8 <;> clear a8
   . exact Weak.trans (weak_ghost 8 36 9 rfl) (Weak.trans (weak_ghostB 2 1 65 3 rfl rfl rfl rfl) (Weak.trans (weak_ghostB 2 2 3 1 rfl rfl rfl rfl) (Weak.trans (weak_ghostB 2 3 145 1 rfl rfl rfl rfl) (wf hA [(0, 1), (1, 3), (2, 2), (3, 4), (4, 5), (5, 6)] rfl rfl rfl))))
   intro d c6 aj
   unfold q_7h at aj
   refine dwp_block <| sc ?_
   refine jb (fun k : ((List Road) × (List Step) × (List Int) × (List (List Way))) => ⟨157, [(0, lq (netC t)), (1, li g), (7, .lpb 0 0), (8, .lsl 1 9 0 k.1.length), (9, .lpb 2 0)], [(0, .box [li d.1, li d.2.1]), (1, .row 36 9 (k.1.map roadC)), (2, .box [li j.1.elem, .lsl 3 3 0 k.2.1.length, .lsl 4 1 0 k.2.2.1.length, .lsl 5 1 0 k.2.2.2.length]), (3, .row 65 3 (k.2.1.map stepC)), (4, .row 3 1 (k.2.2.1.map intC)), (5, .row 145 1 (k.2.2.2.map (rowC 2 wayC)))], 6⟩) aj (fun k a9 => ?_) (fun k bu => ?_) <;> clear aj
   .refine rs env_ok <| rn 3 rfl ?_
    obtain ⟨e2, c8, ba⟩ := bd a9; clear a9
    refine sx rfl (o_call (w_8i _ _ _ c8) (.inl rfl) rfl rfl (LdA.eq (.cons (.box rfl (.cons (.p _) (.cons (.own (enc := stepC) d.2.2.2.1 rfl rfl) (.cons (.own (enc := intC) d.2.2.2.2.1 rfl rfl) (.cons (.own (enc := (rowC 2 wayC)) d.2.2.2.2.2 rfl rfl) .nil))))) (.cons (.one (.p _)) .nil))) ?_)
    refine rl rfl ?_
    refine cd rfl ba (fun bb => ?_) (fun d1 => ?_) <;> clear ba
    .refine rs env_ok <| rn 3 rfl ?_
     refine sx rfl (o_in env_ok (fun f : ((List Step) × (List Int) × (List (List Way))) => .tup []) (fun f : ((List Step) × (List Int) × (List (List Way))) => [(0, .box [li d.1, li d.2.1]), (1, .row 36 9 (d.2.2.1.map roadC)), (2, .box [li j.1.elem, .lsl 6 3 0 f.1.length, .lsl 7 1 0 f.2.1.length, .lsl 8 1 0 f.2.2.length]), (6, .row 65 3 (f.1.map stepC)), (7, .row 3 1 (f.2.1.map intC)), (8, .row 145 1 (f.2.2.map (rowC 2 wayC)))]) 9 bb Tryz.func190 44 [] [(0, .lpb 2 0), (1, lq (netC t)), (2, .p (.agg [.int .i64 d.1, .int .i64 d.2.1]))] rfl rfl rfl rfl rfl rfl rfl rfl (fun A hA f bc => ?_) (fun f bh => ?_)) <;> clear bb
     .refine rs env_ok <| rl rfl <| dwp_seq ?_
      refine rgd env_ok mixed [0, 1, 2, 3, 4, 5, 6, 7, 8, 9, 10, 11, 12, 13, 14] 15 (by kernel_rfl) rfl rfl rfl ?_
      refine rnD 11 rfl ?_
      obtain ⟨e3, c9, be⟩ := bd bc; clear bc
      refine sxD rfl (opD_app (o_app1 (enc := stepC) (l := d.2.2.2.1) (m := [(⟨d.1, d.2.1, (-1)⟩ : Step)]) c9 (fun _ => ⟨rfl, rfl⟩) rfl rfl rfl rfl rfl rfl ?_))
      refine rlD rfl <| thenD_n <| rs env_ok <| rn 6 rfl ?_
      obtain ⟨e4, da, bf⟩ := bd be; clear be
      refine sx rfl (o_app1 (enc := intC) (l := d.2.2.2.2.1) (m := [0]) da (fun _ => ⟨rfl, rfl⟩) rfl rfl rfl rfl rfl rfl ?_)
      refine rl rfl ?_
      refine rgd env_ok mixed [0, 1, 2, 3, 4, 5, 6, 7, 8, 9, 10, 11, 12, 13, 14, 15] 16 (by kernel_rfl) rfl rfl rfl ?_
      refine rnD 10 rfl ?_
      obtain ⟨eh, db, bg⟩ := bd bf; clear bf
      refine sxD rfl (o_callD (w_y _ _ _ _ db) (.inr rfl) rfl rfl rfl ?_)
      refine rnD 1 rfl ?_
      obtain ⟨e5, dc, du⟩ := bd bg; clear bg
      refine sxD rfl (opD_app (o_app1 (enc := (rowC 2 wayC)) (l := d.2.2.2.2.2) (m := [eh]) dc (fun _ => ⟨rfl, rfl⟩) rfl rfl rfl rfl rfl rfl ?_))
      refine rlD rfl ?_
      cases du
      exact ipn (nt := 44) (sl := []) (wj hA (gi 6 [(6, 18), (7, 23), (8, 36)]) rfl rfl rfl rfl) rfl
     .refine rl rfl <| rs env_ok <| rn 3 rfl ?_
      obtain ⟨e6, dd, bi⟩ := bd bh; clear bh
      refine sx rfl (o_call (w_a _ _ _ dd) (.inl rfl) rfl rfl rfl ?_)
      refine rl rfl ?_
      refine cd rfl bi (fun bj => ?_) (fun d0 => ?_) <;> clear bi
      .refine rg env_ok <| rn 3 rfl ?_
       refine sx rfl (o_in env_ok (fun n : ((List Step) × (List Need)) => .p (.agg [.int .i64 g, .int .i64 (-1), .int .i64 2, .slice 3 (n.1.map stepC), .slice 2 (n.2.map needC), .slice 2 (([] : List Need).map needC), .slice 1 (([] : List Int).map intC), .slice 1 (([] : List Int).map intC), .bool false])) (fun n : ((List Step) × (List Need)) => [(0, .box [li d.1, li d.2.1]), (1, .row 36 9 (d.2.2.1.map roadC)), (2, .box [li j.1.elem, .lsl 6 3 0 f.1.length, .lsl 7 1 0 f.2.1.length, .lsl 8 1 0 f.2.2.length]), (6, .row 65 3 (f.1.map stepC)), (7, .row 3 1 (f.2.1.map intC)), (8, .row 145 1 (f.2.2.map (rowC 2 wayC))), (9, .box [li g, li (-1), li 2, ls 3 stepC n.1, ls 2 needC n.2, ls 2 needC ([] : List Need), ls 1 intC ([] : List Int), ls 1 intC ([] : List Int), lb false])]) 10 bj Tryz.func191 56 [.cell 8 36] [(0, .lpb 2 0), (1, li g), (2, li (-1)), (3, li 2)] rfl rfl rfl rfl rfl rfl rfl rfl (fun A hA n bk => ?_) (fun n bt => ?_)) <;> clear bj
       .refine rs env_ok <| rl rfl <| rs env_ok <| rn 7 rfl ?_
        obtain ⟨ab, de, bl⟩ := bd bk; clear bk
        refine sx rfl (o_callNF (w_o _ _ de) (fun _ => rfl) rfl rfl (LdA.eq (.cons (.one (.own (enc := stepC) f.1 rfl rfl)) .nil)) ?_)
        refine rl rfl <| dwp_seq <| rs env_ok <| rl rfl <| dwp_block ?_
        apply lp (a := n) (fun u : (Int × (List Need)) => ⟨56, [(0, .lpb 2 0), (8, .lpb 9 0), (9, .lpb 10 0), (24, .lsl 6 3 0 f.1.length), (25, li (f.1.length : Int)), (26, li u.1)], [(0, .box [li d.1, li d.2.1]), (1, .row 36 9 (d.2.2.1.map roadC)), (2, .box [li j.1.elem, .lsl 6 3 0 f.1.length, .lsl 7 1 0 f.2.1.length, .lsl 8 1 0 f.2.2.length]), (6, .row 65 3 (f.1.map stepC)), (7, .row 3 1 (f.2.1.map intC)), (8, .row 145 1 (f.2.2.map (rowC 2 wayC))), (9, .box [li 0, li 0, li 0, .p (.nils), .p (.nils), .p (.nils), .p (.nils), .p (.nils), lb false]), (10, .box [li g, li (-1), li 2, .lsl 11 3 0 ab.length, .lsl 12 2 0 u.2.length, .p (.nils), .p (.nils), .p (.nils), lb false]), (11, .row 65 3 (ab.map stepC)), (12, .row 91 2 (u.2.map needC))], 13⟩) bl <;> clear bl
        . exact Weak.trans (weak_ghostB 11 4 91 2 rfl rfl rfl rfl) (wj hA (gi 10 [(10, 11), (11, 10), (12, 12)]) rfl rfl rfl rfl)
        intro u ex ak
        unfold q_7d at ak
        refine rs env_ok <| rl rfl <| dwp_seq ?_
        refine cd rfl ak (fun bm => ?_) (fun bs => ?_) <;> clear ak
        .refine dwp_skip <| thenD_n ?_
         refine jb (fun af : (List Need) => ⟨56, [(0, .lpb 2 0), (8, .lpb 9 0), (9, .lpb 10 0), (24, .lsl 6 3 0 f.1.length), (25, li (f.1.length : Int)), (26, li u.1)], [(0, .box [li d.1, li d.2.1]), (1, .row 36 9 (d.2.2.1.map roadC)), (2, .box [li j.1.elem, .lsl 6 3 0 f.1.length, .lsl 7 1 0 f.2.1.length, .lsl 8 1 0 f.2.2.length]), (6, .row 65 3 (f.1.map stepC)), (7, .row 3 1 (f.2.1.map intC)), (8, .row 145 1 (f.2.2.map (rowC 2 wayC))), (9, .box [li 0, li 0, li 0, .p (.nils), .p (.nils), .p (.nils), .p (.nils), .p (.nils), lb false]), (10, .box [li g, li (-1), li 2, .lsl 11 3 0 ab.length, .lsl 12 2 0 af.length, .p (.nils), .p (.nils), .p (.nils), lb false]), (11, .row 65 3 (ab.map stepC)), (12, .row 91 2 (af.map needC))], 13⟩) bm (fun af bn => ?_) (fun af dx => ?_) <;> clear bm
         .refine dwp_block <| rs env_ok <| rn 1 rfl ?_
          obtain ⟨ei, ao, bo⟩ := bd bn; clear bn
          refine sx rfl (o_idxO ao rfl rfl rfl rfl ?_)
          refine sx rfl (o_ldO ao rfl rfl rfl ?_)
          refine rl rfl <| rs env_ok <| rn 5 rfl ?_
          obtain ⟨e7, ap, bp⟩ := bd bo; clear bo
          refine sx rfl (o_idxO ap rfl rfl rfl rfl ?_)
          refine sx rfl (o_ldO ap rfl rfl rfl ?_)
          refine rl rfl ?_
          refine cd rfl bp (fun bq => ?_) (fun dw => ?_) <;> clear bp
          .refine rgd env_ok mixed [0, 1, 2, 3, 4, 5, 6, 7, 8, 9, 10, 11, 12, 13, 14, 15] 16 (by kernel_rfl) rfl rfl rfl ?_
           refine rnD 9 rfl ?_
           obtain ⟨ej, aq, br⟩ := bd bq; clear bq
           refine sxD rfl (opD_plain rfl (o_idxO aq rfl rfl rfl rfl ?_))
           refine sxD rfl (opD_ld rfl (o_ldO aq rfl rfl rfl ?_))
           refine rnD 2 rfl ?_
           obtain ⟨e8, df, dv⟩ := bd br; clear br
           refine sxD rfl (opD_app (o_app1 (enc := needC) (l := u.2) (m := [(⟨ei.elem, ej⟩ : Need)]) df (fun _ => ⟨rfl, rfl⟩) rfl rfl rfl rfl rfl rfl ?_))
           refine rlD rfl <| inB_n ?_
           have hr := Option.some.inj dv; subst hr
           exact npn (wj hA (gi 12 [(12, 27)]) rfl rfl rfl rfl)
          .refine dwp_skip <| inB_n ?_
           cases dw
           exact npn (wj hA (gi 13 []) rfl rfl rfl rfl)
         .refine rg env_ok <| rl rfl ?_
          cases dx
          exact lpn (wj hA (gi 13 []) rfl rfl rfl rfl)
        .refine dwp_exit <| thenD_x ?_
         obtain ⟨ep, dy, rfl⟩ := mps bs; clear bs
         refine lpx <| inB_x <| thenD_n <| rs env_ok <| rl rfl <| dwp_ret ?_
         cases dy
         exact ipr (nt := 56) (sl := [(8, .lpb 9 0)]) (Weak.trans (weak_frz 11 (own_dv (enc := stepC) (l := ab) rfl) (.cons 8 (.same _) .nil) (.cons 0 rfl rfl (.same _) (.cons 1 rfl rfl (.same _) (.cons 2 rfl rfl (.same _) (.cons 6 rfl rfl (.same _) (.cons 7 rfl rfl (.same _) (.cons 8 rfl rfl (.same _) (.cons 9 rfl rfl (.box (.cons (.same _) (.cons (.same _) (.cons (.same _) (.cons .hit (.cons (.same _) (.cons (.same _) (.cons (.same _) (.cons (.same _) (.cons (.same _) .nil)))))))))) (.cons 10 rfl rfl (.box (.cons (.same _) (.cons (.same _) (.cons (.same _) (.cons .hit (.cons (.same _) (.cons (.same _) (.cons (.same _) (.cons (.same _) (.cons (.same _) .nil)))))))))) (.cons 12 rfl rfl (.same _) .nil)))))))))) (Weak.trans (weak_frz 12 (own_dv (enc := needC) (l := u.2) rfl) (.cons 8 (.same _) .nil) (.cons 0 rfl rfl (.same _) (.cons 1 rfl rfl (.same _) (.cons 2 rfl rfl (.same _) (.cons 6 rfl rfl (.same _) (.cons 7 rfl rfl (.same _) (.cons 8 rfl rfl (.same _) (.cons 9 rfl rfl (.box (.cons (.same _) (.cons (.same _) (.cons (.same _) (.cons (.same _) (.cons .hit (.cons (.same _) (.cons (.same _) (.cons (.same _) (.cons (.same _) .nil)))))))))) (.cons 10 rfl rfl (.box (.cons (.same _) (.cons (.same _) (.cons (.same _) (.cons (.same _) (.cons .hit (.cons (.same _) (.cons (.same _) (.cons (.same _) (.cons (.same _) .nil)))))))))) .nil))))))))) (Weak.trans (weak_nil0 (.cons 8 (.same _) .nil) (.cons 0 rfl rfl (.same _) (.cons 1 rfl rfl (.same _) (.cons 2 rfl rfl (.same _) (.cons 6 rfl rfl (.same _) (.cons 7 rfl rfl (.same _) (.cons 8 rfl rfl (.same _) (.cons 9 rfl rfl (.box (.cons (.same _) (.cons (.same _) (.cons (.same _) (.cons (.same _) (.cons (.same _) (.cons (.nil 2) (.cons (.same _) (.cons (.same _) (.cons (.same _) .nil)))))))))) (.cons 10 rfl rfl (.same _) .nil))))))))) (Weak.trans (weak_nil0 (.cons 8 (.same _) .nil) (.cons 0 rfl rfl (.same _) (.cons 1 rfl rfl (.same _) (.cons 2 rfl rfl (.same _) (.cons 6 rfl rfl (.same _) (.cons 7 rfl rfl (.same _) (.cons 8 rfl rfl (.same _) (.cons 9 rfl rfl (.box (.cons (.same _) (.cons (.same _) (.cons (.same _) (.cons (.same _) (.cons (.same _) (.cons (.same _) (.cons (.nil 1) (.cons (.same _) (.cons (.same _) .nil)))))))))) (.cons 10 rfl rfl (.same _) .nil))))))))) (Weak.trans (weak_nil0 (.cons 8 (.same _) .nil) (.cons 0 rfl rfl (.same _) (.cons 1 rfl rfl (.same _) (.cons 2 rfl rfl (.same _) (.cons 6 rfl rfl (.same _) (.cons 7 rfl rfl (.same _) (.cons 8 rfl rfl (.same _) (.cons 9 rfl rfl (.box (.cons (.same _) (.cons (.same _) (.cons (.same _) (.cons (.same _) (.cons (.same _) (.cons (.same _) (.cons (.same _) (.cons (.nil 1) (.cons (.same _) .nil)))))))))) (.cons 10 rfl rfl (.same _) .nil))))))))) (wj hA (gi 10 []) rfl rfl rfl rfl)))))) rfl
       .refine rn 1 rfl ?_
        obtain ⟨e9, dg, dz⟩ := bd bt; clear bt
        refine sx rfl (o_app1 (enc := roadC) (l := d.2.2.1) (m := [(⟨g, (-1), 2, n.1, n.2, ([] : List Need), ([] : List Int), ([] : List Int), false⟩ : Road)]) dg (fun _ => ⟨rfl, rfl⟩) rfl rfl rfl rfl rfl rfl ?_)
        refine rl rfl ?_
        cases dz
        exact npn (wf hA [(0, 0), (1, 11), (2, 2), (3, 6), (4, 7), (5, 8)] rfl rfl rfl)
      .refine dwp_skip ?_
       cases d0
       exact npn (wf hA (gi 3 [(3, 6), (4, 7), (5, 8)]) rfl rfl rfl)
    .refine dwp_skip ?_
     cases d1
     exact npn (wf hA (gi 6 []) rfl rfl rfl)
   .refine dwp_seq <| dwp_label <| thenD_n <| dwp_seq <| dwp_block ?_
    apply lp (a := c6) (fun b : ((List Road) × (List Step) × (List Int) × (List (List Way))) => ⟨157, [(0, lq (netC t)), (1, li g), (7, .lpb 0 0), (8, .lsl 1 9 0 b.1.length), (9, .lpb 2 0)], [(0, .box [li d.1, li d.2.1]), (1, .row 36 9 (b.1.map roadC)), (2, .box [li j.1.elem, .lsl 3 3 0 b.2.1.length, .lsl 4 1 0 b.2.2.1.length, .lsl 5 1 0 b.2.2.2.length]), (3, .row 65 3 (b.2.1.map stepC)), (4, .row 3 1 (b.2.2.1.map intC)), (5, .row 145 1 (b.2.2.2.map (rowC 2 wayC)))], 6⟩) bu <;> clear bu
    . exact wf hA (gi 6 []) rfl rfl rfl
    intro b ey al
    unfold q_7g at al
    refine dwp_seq <| rs env_ok <| rl rfl ?_
    refine cd rfl al (fun bv => ?_) (fun c2 => ?_) <;> clear al
    .refine dwp_skip <| thenD_n <| dwp_block <| rs env_ok <| rl rfl <| dwp_seq <| rs env_ok <| rn 5 rfl ?_
     obtain ⟨fa, ar, bw⟩ := bd bv; clear bv
     refine sx rfl (o_idxO ar rfl rfl rfl rfl ?_)
     refine sx rfl (o_ldO ar rfl rfl rfl ?_)
     refine sx rfl (o_len rfl rfl ?_)
     refine rl rfl ?_
     refine cd rfl bw (fun bx => ?_) (fun b2 => ?_) <;> clear bw
     .refine rs env_ok <| rn 1 rfl ?_
      refine sx rfl (o_in env_ok (fun s : ((List Step) × (List Int) × (List (List Way))) => .tup []) (fun s : ((List Step) × (List Int) × (List (List Way))) => [(0, .box [li d.1, li d.2.1]), (1, .row 36 9 (b.1.map roadC)), (2, .box [li j.1.elem, .lsl 3 3 0 s.1.length, .lsl 4 1 0 s.2.1.length, .lsl 5 1 0 s.2.2.length]), (3, .row 65 3 (s.1.map stepC)), (4, .row 3 1 (s.2.1.map intC)), (5, .row 145 1 (s.2.2.map (rowC 2 wayC)))]) 6 bx Tryz.func192 36 [] [(0, .lpb 2 0)] rfl rfl rfl rfl rfl rfl rfl rfl (fun A hA s bz => ?_) (fun s d3 => ?_)) <;> clear bx
      .refine rs env_ok <| rl rfl ?_
       refine rgd env_ok mixed [0, 1, 2, 3, 4, 5, 6, 7, 8, 9, 10, 11, 12, 13, 14, 15, 16, 17, 18, 19, 20, 21, 22, 23, 24, 25, 26, 27, 28, 29] 30 (by kernel_rfl) rfl rfl rfl ?_
       refine rnD 8 rfl ?_
       obtain ⟨fb, au, b0⟩ := bd bz; clear bz
       refine sxD rfl (opD_plain rfl (o_slB (l := b.2.1) au rfl rfl rfl rfl ?_))
       refine rnD 5 rfl ?_
       obtain ⟨fc, av, b1⟩ := bd b0; clear b0
       refine sxD rfl (opD_plain rfl (o_slB (l := b.2.2.1) av rfl rfl rfl rfl ?_))
       refine rnD 5 rfl ?_
       obtain ⟨fd, aw, d2⟩ := bd b1; clear b1
       refine sxD rfl (opD_plain rfl (o_slB (l := b.2.2.2) aw rfl rfl rfl rfl ?_))
       refine rlD rfl ?_
       cases d2
       exact ipn (nt := 36) (sl := []) (Weak.trans (weak_cut 3 au rfl rfl) (Weak.trans (weak_cut 4 av rfl rfl) (Weak.trans (weak_cut 5 aw rfl rfl) (wj hA (gi 6 []) rfl rfl rfl rfl)))) rfl
      .refine rl rfl <| dwp_exit <| thenD_x <| inB_x ?_
       cases d3
       exact lpn (wf hA (gi 6 []) rfl rfl rfl)
     .refine dwp_skip <| thenD_n <| rs env_ok <| rn 5 rfl ?_
      obtain ⟨fe, ax, b3⟩ := bd b2; clear b2
      refine sx rfl (o_idxO ax rfl rfl rfl rfl ?_)
      refine sx rfl (o_ldO ax rfl rfl rfl ?_)
      obtain ⟨c, dh, b4⟩ := bd b3; clear b3
      refine sx rfl (o_idx dh rfl rfl rfl ?_)
      refine rl rfl <| dwp_seq ?_
      refine rgd env_ok mixed [0, 1, 2, 3, 4, 5, 6, 7, 8, 9, 10, 11, 12, 13, 14] 15 (by kernel_rfl) rfl rfl rfl ?_
      refine rnD 10 rfl ?_
      obtain ⟨ff, ay, b5⟩ := bd b4; clear b4
      refine sxD rfl (opD_plain rfl (o_idxO ay rfl rfl rfl rfl ?_))
      refine sxD rfl (opD_ld rfl (o_ldO ay rfl rfl rfl ?_))
      obtain ⟨i, di, b6⟩ := bd b5; clear b5
      refine sxD rfl (opD_plain rfl (o_slc di rfl rfl rfl rfl ?_))
      obtain ⟨fg, az, b7⟩ := bd b6; clear b6
      refine sxD rfl (opD_plain rfl (o_idxO az rfl rfl rfl rfl ?_))
      refine sxD rfl (opD_st rfl (o_stO (z := i) az rfl rfl rfl rfl rfl rfl rfl rfl ?_))
      refine rlD rfl <| thenD_n <| dwp_seq ?_
      obtain ⟨e, ai, b8⟩ := bd b7; clear b7
      obtain ⟨fh, ae, b9⟩ := bd b8; clear b8
      refine rgdT env_ok mixed (.picks [0, 1, 2, 3, 4, 5, 6, 7, 8, 9, 10, 11, 12, 14, 15] (.alt 13 [16, 17, 18] .done (.alt 16 [13, 17, 18] .done .nil))) 19 ⟨157, [(0, lq (netC t)), (1, li g), (7, .lpb 0 0), (8, .lsl 1 9 0 b.1.length), (9, .lpb 2 0), (10, li (wi64 ((b.2.1.length : Int) - 1))), (11, .lpb 3 0)], [(0, .box [li d.1, li d.2.1]), (1, .row 36 9 (b.1.map roadC)), (2, .box [li j.1.elem, .lsl 4 3 0 (setI b.2.1 (wi64 ((b.2.1.length : Int) - 1)) (⟨e.elem, e.in_, c.out⟩ : Step)).length, .lsl 5 1 0 (setI b.2.2.1 (wi64 ((b.2.1.length : Int) - 1)) c.pos).length, .lsl 6 1 0 (setI b.2.2.2 (wi64 ((b.2.1.length : Int) - 1)) i).length]), (3, .box [li c.out, li c.pos]), (4, .row 65 3 ((setI b.2.1 (wi64 ((b.2.1.length : Int) - 1)) (⟨e.elem, e.in_, c.out⟩ : Step)).map stepC)), (5, .row 3 1 ((setI b.2.2.1 (wi64 ((b.2.1.length : Int) - 1)) c.pos).map intC)), (6, .row 145 1 ((setI b.2.2.2 (wi64 ((b.2.1.length : Int) - 1)) i).map (rowC 2 wayC)))], 7⟩ (by kernel_rfl) rfl ?_ ?_
      .refine drT_p ?_
       refine rnD 13 rfl ?_
       refine sxD rfl (opD_plain rfl (o_idxO ai rfl rfl rfl rfl ?_))
       refine rlD rfl ?_
       refine drT_a ?_ ?_
       .refine rnD 1 rfl ?_
        refine sxD rfl (opD_st rfl (o_stO (z := (⟨e.elem, e.in_, c.out⟩ : Step)) ai rfl rfl rfl rfl rfl rfl rfl rfl ?_))
        refine sxD rfl (opD_plain rfl (o_idxO ae rfl rfl rfl rfl ?_))
        refine sxD rfl (opD_st rfl (o_stO (z := c.pos) ae rfl rfl rfl rfl rfl rfl rfl rfl ?_))
        refine rlD rfl ?_
        exact drT_d (wk (gi 3 [(3, 6), (4, 3), (5, 4), (6, 5)]) (free hA _) rfl rfl rfl (.cons rfl (.cons rfl (.cons rfl (.cons rfl (.cons rfl (.cons rfl (.cons rfl .nil))))))) (.cons rfl rfl (.cons rfl rfl (.cons rfl (by simp only [setI_len]; rfl) (.cons rfl rfl (.cons rfl rfl (.cons rfl rfl (.cons rfl rfl .nil))))))))
       refine drT_a ?_ ?_
       .refine sxD rfl (opD_st rfl (o_stO (z := (⟨e.elem, e.in_, c.out⟩ : Step)) ai rfl rfl rfl rfl rfl rfl rfl rfl ?_))
        refine rnD 1 rfl ?_
        refine sxD rfl (opD_plain rfl (o_idxO ae rfl rfl rfl rfl ?_))
        refine sxD rfl (opD_st rfl (o_stO (z := c.pos) ae rfl rfl rfl rfl rfl rfl rfl rfl ?_))
        refine rlD rfl ?_
        exact drT_d (wk (gi 3 [(3, 6), (4, 3), (5, 4), (6, 5)]) (free hA _) rfl rfl rfl (.cons rfl (.cons rfl (.cons rfl (.cons rfl (.cons rfl (.cons rfl (.cons rfl .nil))))))) (.cons rfl rfl (.cons rfl rfl (.cons rfl (by simp only [setI_len]; rfl) (.cons rfl rfl (.cons rfl rfl (.cons rfl rfl (.cons rfl rfl .nil))))))))
       exact drT_n
      .refine thenD_n <| dwp_seq ?_
       refine rgd env_ok mixed [0, 1, 2, 3, 4, 5, 6, 7, 8, 9, 10, 11, 12] 13 (by kernel_rfl) rfl rfl rfl ?_
       refine rnD 5 rfl ?_
       obtain ⟨x, a0, ca⟩ := bd b9; clear b9
       refine sxD rfl (opD_plain rfl (o_idxO a0 rfl rfl rfl (by simp only [setI_len]) ?_))
       refine rnD 1 rfl ?_
       refine sxD rfl (opD_ld rfl (o_ldO a0 rfl rfl rfl ?_))
       refine rlD rfl <| thenD_n <| dwp_seq <| rs env_ok <| rn 2 rfl ?_
       obtain ⟨y, dj, cb⟩ := bd ca; clear ca
       refine sx rfl (o_call (w_f _ _ _ dj) (.inl rfl) rfl rfl rfl ?_)
       refine rl rfl <| rs env_ok <| rl rfl ?_
       refine cd rfl cb (fun cc => ?_) (fun co => ?_) <;> clear cb
       .refine rs env_ok <| rn 4 rfl ?_
        refine sx rfl (o_in env_ok (fun o : ((List Step) × (List Need)) => .p (.agg [.int .i64 g, .int .i64 y, .int .i64 1, .slice 3 (o.1.map stepC), .slice 2 (o.2.map needC), .slice 2 (([] : List Need).map needC), .slice 1 (([] : List Int).map intC), .slice 1 (([] : List Int).map intC), .bool false])) (fun o : ((List Step) × (List Need)) => [(0, .box [li d.1, li d.2.1]), (1, .row 36 9 (b.1.map roadC)), (2, .box [li j.1.elem, .lsl 4 3 0 (setI b.2.1 (wi64 ((b.2.1.length : Int) - 1)) (⟨e.elem, e.in_, c.out⟩ : Step)).length, .lsl 5 1 0 (setI b.2.2.1 (wi64 ((b.2.1.length : Int) - 1)) c.pos).length, .lsl 6 1 0 (setI b.2.2.2 (wi64 ((b.2.1.length : Int) - 1)) i).length]), (3, .box [li c.out, li c.pos]), (4, .row 65 3 ((setI b.2.1 (wi64 ((b.2.1.length : Int) - 1)) (⟨e.elem, e.in_, c.out⟩ : Step)).map stepC)), (5, .row 3 1 ((setI b.2.2.1 (wi64 ((b.2.1.length : Int) - 1)) c.pos).map intC)), (6, .row 145 1 ((setI b.2.2.2 (wi64 ((b.2.1.length : Int) - 1)) i).map (rowC 2 wayC))), (18, .box [li x.elem, li c.out]), (20, .box [li g, li y, li 1, ls 3 stepC o.1, ls 2 needC o.2, ls 2 needC ([] : List Need), ls 1 intC ([] : List Int), ls 1 intC ([] : List Int), lb false])]) 21 cc Tryz.func191 56 [.cell 8 36] [(0, .lpb 2 0), (1, li g), (2, li y), (3, li 1)] rfl rfl rfl rfl rfl rfl rfl rfl (fun A hA o ce => ?_) (fun o cn => ?_)) <;> clear cc
        .refine rs env_ok <| rl rfl <| rs env_ok <| rn 7 rfl ?_
         obtain ⟨ac, dk, cf⟩ := bd ce; clear ce
         refine sx rfl (o_callNF (w_o _ _ dk) (fun _ => rfl) rfl rfl (LdA.eq (.cons (.one (.own (enc := stepC) (setI b.2.1 (wi64 ((b.2.1.length : Int) - 1)) (⟨e.elem, e.in_, c.out⟩ : Step)) rfl (by simp only [setI_len]))) .nil)) ?_)
         refine rl rfl <| dwp_seq <| rs env_ok <| rl rfl <| dwp_block ?_
         apply lp (a := o) (fun v : (Int × (List Need)) => ⟨56, [(0, .lpb 2 0), (8, .lpb 20 0), (9, .lpb 21 0), (24, .lsl 4 3 0 (setI b.2.1 (wi64 ((b.2.1.length : Int) - 1)) (⟨e.elem, e.in_, c.out⟩ : Step)).length), (25, li ((setI b.2.1 (wi64 ((b.2.1.length : Int) - 1)) (⟨e.elem, e.in_, c.out⟩ : Step)).length : Int)), (26, li v.1)], [(0, .box [li d.1, li d.2.1]), (1, .row 36 9 (b.1.map roadC)), (2, .box [li j.1.elem, .lsl 4 3 0 (setI b.2.1 (wi64 ((b.2.1.length : Int) - 1)) (⟨e.elem, e.in_, c.out⟩ : Step)).length, .lsl 5 1 0 (setI b.2.2.1 (wi64 ((b.2.1.length : Int) - 1)) c.pos).length, .lsl 6 1 0 (setI b.2.2.2 (wi64 ((b.2.1.length : Int) - 1)) i).length]), (3, .box [li c.out, li c.pos]), (4, .row 65 3 ((setI b.2.1 (wi64 ((b.2.1.length : Int) - 1)) (⟨e.elem, e.in_, c.out⟩ : Step)).map stepC)), (5, .row 3 1 ((setI b.2.2.1 (wi64 ((b.2.1.length : Int) - 1)) c.pos).map intC)), (6, .row 145 1 ((setI b.2.2.2 (wi64 ((b.2.1.length : Int) - 1)) i).map (rowC 2 wayC))), (18, .box [li x.elem, li c.out]), (20, .box [li 0, li 0, li 0, .p (.nils), .p (.nils), .p (.nils), .p (.nils), .p (.nils), lb false]), (21, .box [li g, li y, li 1, .lsl 22 3 0 ac.length, .lsl 23 2 0 v.2.length, .p (.nils), .p (.nils), .p (.nils), lb false]), (22, .row 65 3 (ac.map stepC)), (23, .row 91 2 (v.2.map needC))], 24⟩) cf <;> clear cf
         . exact Weak.trans (weak_ghostB 22 4 91 2 rfl rfl rfl rfl) (wk (gi 21 [(21, 22), (22, 21), (23, 23)]) (kept hA _ rfl) rfl rfl rfl (.cons rfl (.cons rfl (.cons rfl (.cons (by simp only [setI_len]; rfl) (.cons rfl (.cons rfl .nil)))))) (.cons rfl rfl (.cons rfl rfl (.cons rfl (by simp only [setI_len]; rfl) (.cons rfl rfl (.cons rfl rfl (.cons rfl rfl (.cons rfl rfl (.cons rfl rfl (.cons rfl rfl (.cons rfl rfl (.cons rfl rfl (.cons rfl rfl .nil)))))))))))))
         intro v ez am
         unfold q_7e at am
         refine rs env_ok <| rl rfl <| dwp_seq ?_
         refine cd rfl am (fun cg => ?_) (fun cm => ?_) <;> clear am
         .refine dwp_skip <| thenD_n ?_
          refine jb (fun ag : (List Need) => ⟨56, [(0, .lpb 2 0), (8, .lpb 20 0), (9, .lpb 21 0), (24, .lsl 4 3 0 (setI b.2.1 (wi64 ((b.2.1.length : Int) - 1)) (⟨e.elem, e.in_, c.out⟩ : Step)).length), (25, li ((setI b.2.1 (wi64 ((b.2.1.length : Int) - 1)) (⟨e.elem, e.in_, c.out⟩ : Step)).length : Int)), (26, li v.1)], [(0, .box [li d.1, li d.2.1]), (1, .row 36 9 (b.1.map roadC)), (2, .box [li j.1.elem, .lsl 4 3 0 (setI b.2.1 (wi64 ((b.2.1.length : Int) - 1)) (⟨e.elem, e.in_, c.out⟩ : Step)).length, .lsl 5 1 0 (setI b.2.2.1 (wi64 ((b.2.1.length : Int) - 1)) c.pos).length, .lsl 6 1 0 (setI b.2.2.2 (wi64 ((b.2.1.length : Int) - 1)) i).length]), (3, .box [li c.out, li c.pos]), (4, .row 65 3 ((setI b.2.1 (wi64 ((b.2.1.length : Int) - 1)) (⟨e.elem, e.in_, c.out⟩ : Step)).map stepC)), (5, .row 3 1 ((setI b.2.2.1 (wi64 ((b.2.1.length : Int) - 1)) c.pos).map intC)), (6, .row 145 1 ((setI b.2.2.2 (wi64 ((b.2.1.length : Int) - 1)) i).map (rowC 2 wayC))), (18, .box [li x.elem, li c.out]), (20, .box [li 0, li 0, li 0, .p (.nils), .p (.nils), .p (.nils), .p (.nils), .p (.nils), lb false]), (21, .box [li g, li y, li 1, .lsl 22 3 0 ac.length, .lsl 23 2 0 ag.length, .p (.nils), .p (.nils), .p (.nils), lb false]), (22, .row 65 3 (ac.map stepC)), (23, .row 91 2 (ag.map needC))], 24⟩) cg (fun ag ch => ?_) (fun ag d6 => ?_) <;> clear cg
          .refine dwp_block <| rs env_ok <| rn 1 rfl ?_
           obtain ⟨ek, a1, ci⟩ := bd ch; clear ch
           refine sx rfl (o_idxO a1 rfl rfl rfl (by simp only [setI_len]) ?_)
           refine sx rfl (o_ldO a1 rfl rfl rfl ?_)
           refine rl rfl <| rs env_ok <| rn 5 rfl ?_
           obtain ⟨fi, a2, cj⟩ := bd ci; clear ci
           refine sx rfl (o_idxO a2 rfl rfl rfl (by simp only [setI_len]) ?_)
           refine sx rfl (o_ldO a2 rfl rfl rfl ?_)
           refine rl rfl ?_
           refine cd rfl cj (fun ck => ?_) (fun d5 => ?_) <;> clear cj
           .refine rgd env_ok mixed [0, 1, 2, 3, 4, 5, 6, 7, 8, 9, 10, 11, 12, 13, 14, 15] 16 (by kernel_rfl) rfl rfl rfl ?_
            refine rnD 9 rfl ?_
            obtain ⟨el, a3, cl⟩ := bd ck; clear ck
            refine sxD rfl (opD_plain rfl (o_idxO a3 rfl rfl rfl (by simp only [setI_len]) ?_))
            refine sxD rfl (opD_ld rfl (o_ldO a3 rfl rfl rfl ?_))
            refine rnD 2 rfl ?_
            obtain ⟨fj, dl, d4⟩ := bd cl; clear cl
            refine sxD rfl (opD_app (o_app1 (enc := needC) (l := v.2) (m := [(⟨ek.elem, el⟩ : Need)]) dl (fun _ => ⟨rfl, rfl⟩) rfl rfl rfl rfl rfl rfl ?_))
            refine rlD rfl <| inB_n ?_
            have hr := Option.some.inj d4; subst hr
            exact npn (wk (gi 23 [(23, 38)]) (kept hA _ rfl) rfl rfl rfl (.cons rfl (.cons rfl (.cons rfl (.cons (by simp only [setI_len]; rfl) (.cons rfl (.cons rfl .nil)))))) (.cons rfl rfl (.cons rfl rfl (.cons rfl (by simp only [setI_len]; rfl) (.cons rfl rfl (.cons rfl rfl (.cons rfl rfl (.cons rfl rfl (.cons rfl rfl (.cons rfl rfl (.cons rfl rfl (.cons rfl rfl (.cons rfl rfl .nil)))))))))))))
           .refine dwp_skip <| inB_n ?_
            cases d5
            exact npn (wk (gi 24 []) (kept hA _ rfl) rfl rfl rfl (.cons rfl (.cons rfl (.cons rfl (.cons (by simp only [setI_len]; rfl) (.cons rfl (.cons rfl .nil)))))) (.cons rfl rfl (.cons rfl rfl (.cons rfl (by simp only [setI_len]; rfl) (.cons rfl rfl (.cons rfl rfl (.cons rfl rfl (.cons rfl rfl (.cons rfl rfl (.cons rfl rfl (.cons rfl rfl (.cons rfl rfl (.cons rfl rfl .nil)))))))))))))
          .refine rg env_ok <| rl rfl ?_
           cases d6
           exact lpn (wk (gi 24 []) (kept hA _ rfl) rfl rfl rfl (.cons rfl (.cons rfl (.cons rfl (.cons (by simp only [setI_len]; rfl) (.cons rfl (.cons rfl .nil)))))) (.cons rfl rfl (.cons rfl rfl (.cons rfl (by simp only [setI_len]; rfl) (.cons rfl rfl (.cons rfl rfl (.cons rfl rfl (.cons rfl rfl (.cons rfl rfl (.cons rfl rfl (.cons rfl rfl (.cons rfl rfl (.cons rfl rfl .nil)))))))))))))
         .refine dwp_exit <| thenD_x ?_
          obtain ⟨es, d7, rfl⟩ := mps cm; clear cm
          refine lpx <| inB_x <| thenD_n <| rs env_ok <| rl rfl <| dwp_ret ?_
          cases d7
          exact ipr (nt := 56) (sl := [(8, .lpb 20 0)]) (Weak.trans (weak_frz 22 (own_dv (enc := stepC) (l := ac) rfl) (.cons 8 (.same _) .nil) (.cons 0 rfl rfl (.same _) (.cons 1 rfl rfl (.same _) (.cons 2 rfl rfl (.same _) (.cons 3 rfl rfl (.same _) (.cons 4 rfl rfl (.same _) (.cons 5 rfl rfl (.same _) (.cons 6 rfl rfl (.same _) (.cons 18 rfl rfl (.same _) (.cons 20 rfl rfl (.box (.cons (.same _) (.cons (.same _) (.cons (.same _) (.cons .hit (.cons (.same _) (.cons (.same _) (.cons (.same _) (.cons (.same _) (.cons (.same _) .nil)))))))))) (.cons 21 rfl rfl (.box (.cons (.same _) (.cons (.same _) (.cons (.same _) (.cons .hit (.cons (.same _) (.cons (.same _) (.cons (.same _) (.cons (.same _) (.cons (.same _) .nil)))))))))) (.cons 23 rfl rfl (.same _) .nil)))))))))))) (Weak.trans (weak_frz 23 (own_dv (enc := needC) (l := v.2) rfl) (.cons 8 (.same _) .nil) (.cons 0 rfl rfl (.same _) (.cons 1 rfl rfl (.same _) (.cons 2 rfl rfl (.same _) (.cons 3 rfl rfl (.same _) (.cons 4 rfl rfl (.same _) (.cons 5 rfl rfl (.same _) (.cons 6 rfl rfl (.same _) (.cons 18 rfl rfl (.same _) (.cons 20 rfl rfl (.box (.cons (.same _) (.cons (.same _) (.cons (.same _) (.cons (.same _) (.cons .hit (.cons (.same _) (.cons (.same _) (.cons (.same _) (.cons (.same _) .nil)))))))))) (.cons 21 rfl rfl (.box (.cons (.same _) (.cons (.same _) (.cons (.same _) (.cons (.same _) (.cons .hit (.cons (.same _) (.cons (.same _) (.cons (.same _) (.cons (.same _) .nil)))))))))) .nil))))))))))) (Weak.trans (weak_nil0 (.cons 8 (.same _) .nil) (.cons 0 rfl rfl (.same _) (.cons 1 rfl rfl (.same _) (.cons 2 rfl rfl (.same _) (.cons 3 rfl rfl (.same _) (.cons 4 rfl rfl (.same _) (.cons 5 rfl rfl (.same _) (.cons 6 rfl rfl (.same _) (.cons 18 rfl rfl (.same _) (.cons 20 rfl rfl (.box (.cons (.same _) (.cons (.same _) (.cons (.same _) (.cons (.same _) (.cons (.same _) (.cons (.nil 2) (.cons (.same _) (.cons (.same _) (.cons (.same _) .nil)))))))))) (.cons 21 rfl rfl (.same _) .nil))))))))))) (Weak.trans (weak_nil0 (.cons 8 (.same _) .nil) (.cons 0 rfl rfl (.same _) (.cons 1 rfl rfl (.same _) (.cons 2 rfl rfl (.same _) (.cons 3 rfl rfl (.same _) (.cons 4 rfl rfl (.same _) (.cons 5 rfl rfl (.same _) (.cons 6 rfl rfl (.same _) (.cons 18 rfl rfl (.same _) (.cons 20 rfl rfl (.box (.cons (.same _) (.cons (.same _) (.cons (.same _) (.cons (.same _) (.cons (.same _) (.cons (.same _) (.cons (.nil 1) (.cons (.same _) (.cons (.same _) .nil)))))))))) (.cons 21 rfl rfl (.same _) .nil))))))))))) (Weak.trans (weak_nil0 (.cons 8 (.same _) .nil) (.cons 0 rfl rfl (.same _) (.cons 1 rfl rfl (.same _) (.cons 2 rfl rfl (.same _) (.cons 3 rfl rfl (.same _) (.cons 4 rfl rfl (.same _) (.cons 5 rfl rfl (.same _) (.cons 6 rfl rfl (.same _) (.cons 18 rfl rfl (.same _) (.cons 20 rfl rfl (.box (.cons (.same _) (.cons (.same _) (.cons (.same _) (.cons (.same _) (.cons (.same _) (.cons (.same _) (.cons (.same _) (.cons (.nil 1) (.cons (.same _) .nil)))))))))) (.cons 21 rfl rfl (.same _) .nil))))))))))) (wk (gi 21 []) (kept hA _ rfl) rfl rfl rfl (.cons rfl .nil) (.cons rfl rfl (.cons rfl rfl (.cons rfl (by simp only [setI_len]; rfl) (.cons rfl rfl (.cons rfl rfl (.cons rfl rfl (.cons rfl rfl (.cons rfl rfl (.cons rfl rfl .nil))))))))))))))) rfl
        .refine rn 1 rfl ?_
         obtain ⟨fk, dm, d8⟩ := bd cn; clear cn
         refine sx rfl (o_app1 (enc := roadC) (l := b.1) (m := [(⟨g, y, 1, o.1, o.2, ([] : List Need), ([] : List Int), ([] : List Int), false⟩ : Road)]) dm (fun _ => ⟨rfl, rfl⟩) rfl rfl rfl rfl rfl rfl ?_)
         refine rl rfl <| dwp_exit <| thenD_x <| inB_x ?_
         cases d8
         exact lpn (wk [(0, 0), (1, 22), (2, 2), (3, 4), (4, 5), (5, 6)] (free hA _) rfl rfl rfl (.cons rfl (.cons rfl (.cons rfl (.cons rfl (.cons rfl .nil))))) (.cons rfl rfl (.cons rfl rfl (.cons rfl (by simp only [setI_len]; rfl) (.cons rfl rfl (.cons rfl rfl (.cons rfl rfl .nil)))))))
       .refine dwp_skip <| thenD_n <| rs env_ok <| rn 2 rfl ?_
        obtain ⟨aa, dn, cp⟩ := bd co; clear co
        refine sx rfl (o_call (w_2 _ _ _ dn) (.inl rfl) rfl rfl rfl ?_)
        refine rl rfl <| dwp_seq <| rs env_ok <| rl rfl ?_
        refine cd rfl cp (fun cq => ?_) (fun c1 => ?_) <;> clear cp
        .refine rs env_ok <| rn 3 rfl ?_
         refine sx rfl (o_in env_ok (fun q : ((List Step) × (List Need)) => .p (.agg [.int .i64 g, .int .i64 (-1), .int .i64 3, .slice 3 (q.1.map stepC), .slice 2 (q.2.map needC), .slice 2 (([] : List Need).map needC), .slice 1 (([] : List Int).map intC), .slice 1 (([] : List Int).map intC), .bool false])) (fun q : ((List Step) × (List Need)) => [(0, .box [li d.1, li d.2.1]), (1, .row 36 9 (b.1.map roadC)), (2, .box [li j.1.elem, .lsl 4 3 0 (setI b.2.1 (wi64 ((b.2.1.length : Int) - 1)) (⟨e.elem, e.in_, c.out⟩ : Step)).length, .lsl 5 1 0 (setI b.2.2.1 (wi64 ((b.2.1.length : Int) - 1)) c.pos).length, .lsl 6 1 0 (setI b.2.2.2 (wi64 ((b.2.1.length : Int) - 1)) i).length]), (3, .box [li c.out, li c.pos]), (4, .row 65 3 ((setI b.2.1 (wi64 ((b.2.1.length : Int) - 1)) (⟨e.elem, e.in_, c.out⟩ : Step)).map stepC)), (5, .row 3 1 ((setI b.2.2.1 (wi64 ((b.2.1.length : Int) - 1)) c.pos).map intC)), (6, .row 145 1 ((setI b.2.2.2 (wi64 ((b.2.1.length : Int) - 1)) i).map (rowC 2 wayC))), (18, .box [li x.elem, li c.out]), (20, .box [li aa.1.elem, li aa.1.fin]), (21, .box [li g, li (-1), li 3, ls 3 stepC q.1, ls 2 needC q.2, ls 2 needC ([] : List Need), ls 1 intC ([] : List Int), ls 1 intC ([] : List Int), lb false])]) 22 cq Tryz.func191 56 [.cell 8 36] [(0, .lpb 2 0), (1, li g), (2, li (-1)), (3, li 3)] rfl rfl rfl rfl rfl rfl rfl rfl (fun A hA q cr => ?_) (fun q c0 => ?_)) <;> clear cq
         .refine rs env_ok <| rl rfl <| rs env_ok <| rn 7 rfl ?_
          obtain ⟨ad, dp, cs⟩ := bd cr; clear cr
          refine sx rfl (o_callNF (w_o _ _ dp) (fun _ => rfl) rfl rfl (LdA.eq (.cons (.one (.own (enc := stepC) (setI b.2.1 (wi64 ((b.2.1.length : Int) - 1)) (⟨e.elem, e.in_, c.out⟩ : Step)) rfl (by simp only [setI_len]))) .nil)) ?_)
          refine rl rfl <| dwp_seq <| rs env_ok <| rl rfl <| dwp_block ?_
          apply lp (a := q) (fun w : (Int × (List Need)) => ⟨56, [(0, .lpb 2 0), (8, .lpb 21 0), (9, .lpb 22 0), (24, .lsl 4 3 0 (setI b.2.1 (wi64 ((b.2.1.length : Int) - 1)) (⟨e.elem, e.in_, c.out⟩ : Step)).length), (25, li ((setI b.2.1 (wi64 ((b.2.1.length : Int) - 1)) (⟨e.elem, e.in_, c.out⟩ : Step)).length : Int)), (26, li w.1)], [(0, .box [li d.1, li d.2.1]), (1, .row 36 9 (b.1.map roadC)), (2, .box [li j.1.elem, .lsl 4 3 0 (setI b.2.1 (wi64 ((b.2.1.length : Int) - 1)) (⟨e.elem, e.in_, c.out⟩ : Step)).length, .lsl 5 1 0 (setI b.2.2.1 (wi64 ((b.2.1.length : Int) - 1)) c.pos).length, .lsl 6 1 0 (setI b.2.2.2 (wi64 ((b.2.1.length : Int) - 1)) i).length]), (3, .box [li c.out, li c.pos]), (4, .row 65 3 ((setI b.2.1 (wi64 ((b.2.1.length : Int) - 1)) (⟨e.elem, e.in_, c.out⟩ : Step)).map stepC)), (5, .row 3 1 ((setI b.2.2.1 (wi64 ((b.2.1.length : Int) - 1)) c.pos).map intC)), (6, .row 145 1 ((setI b.2.2.2 (wi64 ((b.2.1.length : Int) - 1)) i).map (rowC 2 wayC))), (18, .box [li x.elem, li c.out]), (20, .box [li aa.1.elem, li aa.1.fin]), (21, .box [li 0, li 0, li 0, .p (.nils), .p (.nils), .p (.nils), .p (.nils), .p (.nils), lb false]), (22, .box [li g, li (-1), li 3, .lsl 23 3 0 ad.length, .lsl 24 2 0 w.2.length, .p (.nils), .p (.nils), .p (.nils), lb false]), (23, .row 65 3 (ad.map stepC)), (24, .row 91 2 (w.2.map needC))], 25⟩) cs <;> clear cs
          . exact Weak.trans (weak_ghostB 23 4 91 2 rfl rfl rfl rfl) (wk (gi 22 [(22, 23), (23, 22), (24, 24)]) (kept hA _ rfl) rfl rfl rfl (.cons rfl (.cons rfl (.cons rfl (.cons (by simp only [setI_len]; rfl) (.cons rfl (.cons rfl .nil)))))) (.cons rfl rfl (.cons rfl rfl (.cons rfl (by simp only [setI_len]; rfl) (.cons rfl rfl (.cons rfl rfl (.cons rfl rfl (.cons rfl rfl (.cons rfl rfl (.cons rfl rfl (.cons rfl rfl (.cons rfl rfl (.cons rfl rfl (.cons rfl rfl .nil))))))))))))))
          intro w e0 an
          unfold q_7f at an
          refine rs env_ok <| rl rfl <| dwp_seq ?_
          refine cd rfl an (fun ct => ?_) (fun cz => ?_) <;> clear an
          .refine dwp_skip <| thenD_n ?_
           refine jb (fun ah : (List Need) => ⟨56, [(0, .lpb 2 0), (8, .lpb 21 0), (9, .lpb 22 0), (24, .lsl 4 3 0 (setI b.2.1 (wi64 ((b.2.1.length : Int) - 1)) (⟨e.elem, e.in_, c.out⟩ : Step)).length), (25, li ((setI b.2.1 (wi64 ((b.2.1.length : Int) - 1)) (⟨e.elem, e.in_, c.out⟩ : Step)).length : Int)), (26, li w.1)], [(0, .box [li d.1, li d.2.1]), (1, .row 36 9 (b.1.map roadC)), (2, .box [li j.1.elem, .lsl 4 3 0 (setI b.2.1 (wi64 ((b.2.1.length : Int) - 1)) (⟨e.elem, e.in_, c.out⟩ : Step)).length, .lsl 5 1 0 (setI b.2.2.1 (wi64 ((b.2.1.length : Int) - 1)) c.pos).length, .lsl 6 1 0 (setI b.2.2.2 (wi64 ((b.2.1.length : Int) - 1)) i).length]), (3, .box [li c.out, li c.pos]), (4, .row 65 3 ((setI b.2.1 (wi64 ((b.2.1.length : Int) - 1)) (⟨e.elem, e.in_, c.out⟩ : Step)).map stepC)), (5, .row 3 1 ((setI b.2.2.1 (wi64 ((b.2.1.length : Int) - 1)) c.pos).map intC)), (6, .row 145 1 ((setI b.2.2.2 (wi64 ((b.2.1.length : Int) - 1)) i).map (rowC 2 wayC))), (18, .box [li x.elem, li c.out]), (20, .box [li aa.1.elem, li aa.1.fin]), (21, .box [li 0, li 0, li 0, .p (.nils), .p (.nils), .p (.nils), .p (.nils), .p (.nils), lb false]), (22, .box [li g, li (-1), li 3, .lsl 23 3 0 ad.length, .lsl 24 2 0 ah.length, .p (.nils), .p (.nils), .p (.nils), lb false]), (23, .row 65 3 (ad.map stepC)), (24, .row 91 2 (ah.map needC))], 25⟩) ct (fun ah cu => ?_) (fun ah eb => ?_) <;> clear ct
           .refine dwp_block <| rs env_ok <| rn 1 rfl ?_
            obtain ⟨em, a4, cv⟩ := bd cu; clear cu
            refine sx rfl (o_idxO a4 rfl rfl rfl (by simp only [setI_len]) ?_)
            refine sx rfl (o_ldO a4 rfl rfl rfl ?_)
            refine rl rfl <| rs env_ok <| rn 5 rfl ?_
            obtain ⟨fl, a5, cw⟩ := bd cv; clear cv
            refine sx rfl (o_idxO a5 rfl rfl rfl (by simp only [setI_len]) ?_)
            refine sx rfl (o_ldO a5 rfl rfl rfl ?_)
            refine rl rfl ?_
            refine cd rfl cw (fun cx => ?_) (fun ea => ?_) <;> clear cw
            .refine rgd env_ok mixed [0, 1, 2, 3, 4, 5, 6, 7, 8, 9, 10, 11, 12, 13, 14, 15] 16 (by kernel_rfl) rfl rfl rfl ?_
             refine rnD 9 rfl ?_
             obtain ⟨eo, a6, cy⟩ := bd cx; clear cx
             refine sxD rfl (opD_plain rfl (o_idxO a6 rfl rfl rfl (by simp only [setI_len]) ?_))
             refine sxD rfl (opD_ld rfl (o_ldO a6 rfl rfl rfl ?_))
             refine rnD 2 rfl ?_
             obtain ⟨fm, dq, d9⟩ := bd cy; clear cy
             refine sxD rfl (opD_app (o_app1 (enc := needC) (l := w.2) (m := [(⟨em.elem, eo⟩ : Need)]) dq (fun _ => ⟨rfl, rfl⟩) rfl rfl rfl rfl rfl rfl ?_))
             refine rlD rfl <| inB_n ?_
             have hr := Option.some.inj d9; subst hr
             exact npn (wk (gi 24 [(24, 39)]) (kept hA _ rfl) rfl rfl rfl (.cons rfl (.cons rfl (.cons rfl (.cons (by simp only [setI_len]; rfl) (.cons rfl (.cons rfl .nil)))))) (.cons rfl rfl (.cons rfl rfl (.cons rfl (by simp only [setI_len]; rfl) (.cons rfl rfl (.cons rfl rfl (.cons rfl rfl (.cons rfl rfl (.cons rfl rfl (.cons rfl rfl (.cons rfl rfl (.cons rfl rfl (.cons rfl rfl (.cons rfl rfl .nil))))))))))))))
            .refine dwp_skip <| inB_n ?_
             cases ea
             exact npn (wk (gi 25 []) (kept hA _ rfl) rfl rfl rfl (.cons rfl (.cons rfl (.cons rfl (.cons (by simp only [setI_len]; rfl) (.cons rfl (.cons rfl .nil)))))) (.cons rfl rfl (.cons rfl rfl (.cons rfl (by simp only [setI_len]; rfl) (.cons rfl rfl (.cons rfl rfl (.cons rfl rfl (.cons rfl rfl (.cons rfl rfl (.cons rfl rfl (.cons rfl rfl (.cons rfl rfl (.cons rfl rfl (.cons rfl rfl .nil))))))))))))))
           .refine rg env_ok <| rl rfl ?_
            cases eb
            exact lpn (wk (gi 25 []) (kept hA _ rfl) rfl rfl rfl (.cons rfl (.cons rfl (.cons rfl (.cons (by simp only [setI_len]; rfl) (.cons rfl (.cons rfl .nil)))))) (.cons rfl rfl (.cons rfl rfl (.cons rfl (by simp only [setI_len]; rfl) (.cons rfl rfl (.cons rfl rfl (.cons rfl rfl (.cons rfl rfl (.cons rfl rfl (.cons rfl rfl (.cons rfl rfl (.cons rfl rfl (.cons rfl rfl (.cons rfl rfl .nil))))))))))))))
          .refine dwp_exit <| thenD_x ?_
           obtain ⟨et, ec, rfl⟩ := mps cz; clear cz
           refine lpx <| inB_x <| thenD_n <| rs env_ok <| rl rfl <| dwp_ret ?_
           cases ec
           exact ipr (nt := 56) (sl := [(8, .lpb 21 0)]) (Weak.trans (weak_frz 23 (own_dv (enc := stepC) (l := ad) rfl) (.cons 8 (.same _) .nil) (.cons 0 rfl rfl (.same _) (.cons 1 rfl rfl (.same _) (.cons 2 rfl rfl (.same _) (.cons 3 rfl rfl (.same _) (.cons 4 rfl rfl (.same _) (.cons 5 rfl rfl (.same _) (.cons 6 rfl rfl (.same _) (.cons 18 rfl rfl (.same _) (.cons 20 rfl rfl (.same _) (.cons 21 rfl rfl (.box (.cons (.same _) (.cons (.same _) (.cons (.same _) (.cons .hit (.cons (.same _) (.cons (.same _) (.cons (.same _) (.cons (.same _) (.cons (.same _) .nil)))))))))) (.cons 22 rfl rfl (.box (.cons (.same _) (.cons (.same _) (.cons (.same _) (.cons .hit (.cons (.same _) (.cons (.same _) (.cons (.same _) (.cons (.same _) (.cons (.same _) .nil)))))))))) (.cons 24 rfl rfl (.same _) .nil))))))))))))) (Weak.trans (weak_frz 24 (own_dv (enc := needC) (l := w.2) rfl) (.cons 8 (.same _) .nil) (.cons 0 rfl rfl (.same _) (.cons 1 rfl rfl (.same _) (.cons 2 rfl rfl (.same _) (.cons 3 rfl rfl (.same _) (.cons 4 rfl rfl (.same _) (.cons 5 rfl rfl (.same _) (.cons 6 rfl rfl (.same _) (.cons 18 rfl rfl (.same _) (.cons 20 rfl rfl (.same _) (.cons 21 rfl rfl (.box (.cons (.same _) (.cons (.same _) (.cons (.same _) (.cons (.same _) (.cons .hit (.cons (.same _) (.cons (.same _) (.cons (.same _) (.cons (.same _) .nil)))))))))) (.cons 22 rfl rfl (.box (.cons (.same _) (.cons (.same _) (.cons (.same _) (.cons (.same _) (.cons .hit (.cons (.same _) (.cons (.same _) (.cons (.same _) (.cons (.same _) .nil)))))))))) .nil)))))))))))) (Weak.trans (weak_nil0 (.cons 8 (.same _) .nil) (.cons 0 rfl rfl (.same _) (.cons 1 rfl rfl (.same _) (.cons 2 rfl rfl (.same _) (.cons 3 rfl rfl (.same _) (.cons 4 rfl rfl (.same _) (.cons 5 rfl rfl (.same _) (.cons 6 rfl rfl (.same _) (.cons 18 rfl rfl (.same _) (.cons 20 rfl rfl (.same _) (.cons 21 rfl rfl (.box (.cons (.same _) (.cons (.same _) (.cons (.same _) (.cons (.same _) (.cons (.same _) (.cons (.nil 2) (.cons (.same _) (.cons (.same _) (.cons (.same _) .nil)))))))))) (.cons 22 rfl rfl (.same _) .nil)))))))))))) (Weak.trans (weak_nil0 (.cons 8 (.same _) .nil) (.cons 0 rfl rfl (.same _) (.cons 1 rfl rfl (.same _) (.cons 2 rfl rfl (.same _) (.cons 3 rfl rfl (.same _) (.cons 4 rfl rfl (.same _) (.cons 5 rfl rfl (.same _) (.cons 6 rfl rfl (.same _) (.cons 18 rfl rfl (.same _) (.cons 20 rfl rfl (.same _) (.cons 21 rfl rfl (.box (.cons (.same _) (.cons (.same _) (.cons (.same _) (.cons (.same _) (.cons (.same _) (.cons (.same _) (.cons (.nil 1) (.cons (.same _) (.cons (.same _) .nil)))))))))) (.cons 22 rfl rfl (.same _) .nil)))))))))))) (Weak.trans (weak_nil0 (.cons 8 (.same _) .nil) (.cons 0 rfl rfl (.same _) (.cons 1 rfl rfl (.same _) (.cons 2 rfl rfl (.same _) (.cons 3 rfl rfl (.same _) (.cons 4 rfl rfl (.same _) (.cons 5 rfl rfl (.same _) (.cons 6 rfl rfl (.same _) (.cons 18 rfl rfl (.same _) (.cons 20 rfl rfl (.same _) (.cons 21 rfl rfl (.box (.cons (.same _) (.cons (.same _) (.cons (.same _) (.cons (.same _) (.cons (.same _) (.cons (.same _) (.cons (.same _) (.cons (.nil 1) (.cons (.same _) .nil)))))))))) (.cons 22 rfl rfl (.same _) .nil)))))))))))) (wk (gi 22 []) (kept hA _ rfl) rfl rfl rfl (.cons rfl .nil) (.cons rfl rfl (.cons rfl rfl (.cons rfl (by simp only [setI_len]; rfl) (.cons rfl rfl (.cons rfl rfl (.cons rfl rfl (.cons rfl rfl (.cons rfl rfl (.cons rfl rfl (.cons rfl rfl .nil)))))))))))))))) rfl
         .refine rn 1 rfl ?_
          obtain ⟨fo, dr, ed⟩ := bd c0; clear c0
          refine sx rfl (o_app1 (enc := roadC) (l := b.1) (m := [(⟨g, (-1), 3, q.1, q.2, ([] : List Need), ([] : List Int), ([] : List Int), false⟩ : Road)]) dr (fun _ => ⟨rfl, rfl⟩) rfl rfl rfl rfl rfl rfl ?_)
          refine rl rfl <| dwp_exit <| thenD_x <| inB_x ?_
          cases ed
          exact lpn (wk [(0, 0), (1, 23), (2, 2), (3, 4), (4, 5), (5, 6)] (free hA _) rfl rfl rfl (.cons rfl (.cons rfl (.cons rfl (.cons rfl (.cons rfl .nil))))) (.cons rfl rfl (.cons rfl rfl (.cons rfl (by simp only [setI_len]; rfl) (.cons rfl rfl (.cons rfl rfl (.cons rfl rfl .nil)))))))
        .refine dwp_skip <| thenD_n <| rs env_ok <| rl rfl <| dwp_exit <| inB_y rfl ?_
         obtain ⟨eu, ee, rfl⟩ := mps c1; clear c1
         refine lpx <| inB_y rfl <| thenD_x <| sc_x <| inB_x ?_
         cases ee
         exact lpn (wk (gi 3 [(3, 4), (4, 5), (5, 6)]) (free hA _) rfl rfl rfl (.cons rfl (.cons rfl (.cons rfl (.cons rfl (.cons rfl .nil))))) (.cons rfl rfl (.cons rfl rfl (.cons rfl (by simp only [setI_len]; rfl) (.cons rfl rfl (.cons rfl rfl (.cons rfl rfl .nil)))))))
    .refine dwp_exit <| thenD_x ?_
     obtain ⟨ev, c3, rfl⟩ := mps c2; clear c2
     refine lpx <| inB_x <| thenD_n <| dwp_exit <| sc_x <| inB_y rfl ?_
     obtain ⟨ew, ef, rfl⟩ := mps c3; clear c3
     refine lpx <| inB_x <| thenD_n <| rs env_ok <| rl rfl <| dwp_ret <| sc_r ?_
     cases ef
     exact er (rd1 rfl (.one (.own (enc := roadC) b.1 rfl rfl))) Le.rfl
end Go.E
/- Plain functions, and walks in step with them. Written by a program (gen.py). No condition. -/
set_option maxRecDepth 100000
namespace Go.E
open Go Go.RowKit Go.Proofs
noncomputable def q_6m (b : Net) (e : Int) (a : Int × (List Road)) : Option ((Int × (List Road)) ⊕ ((List Road) × Int)) :=
 bif decide (a.1 < e) then (q_49 b a.1).bind fun c => (appI a.2 c).bind fun d => some (.inl (wi64 (a.1 + 1), d)) else (bif decide (64 < (a.2.length : Int)) then some (([] : List Road), 3) else some (a.2, 0)).map .inr
noncomputable def q_6a (a : Net) : Option ((List Road) × Int) :=
 (q_h a).bind fun b => loopR (q_6m a b) (0, ([] : List Road))
theorem w_9x (c : Net) (r : ((List Road) × Int)) (h : q_6a c = some r) : MutC Tryz.prog 135 [] 0 [lq (netC c)] (.tup [.lsl 0 9 0 r.1.length, li r.2]) [(0, .row 36 9 (r.1.map roadC))] 1 := by
 refine fnM env_ok Tryz.func135 21 [.tmp 2, .tmp 3] [(0, lq (netC c))] rfl rfl rfl rfl rfl rfl (fun A hA => ?_)
 unfold q_6a at h
 refine rs env_ok <| rl rfl <| rs env_ok <| rl rfl <| dwp_seq <| rs env_ok <| rn 1 rfl ?_
 obtain ⟨u, o, j⟩ := bd h; clear h
 refine sx rfl (o_call (w_1j _ _ o) (.inl rfl) rfl rfl rfl ?_)
 refine rl rfl <| dwp_block ?_
 apply lp (a := r) (fun b : (Int × (List Road)) => ⟨21, [(0, lq (netC c)), (4, .lsl 0 9 0 b.2.length), (7, li u), (8, li b.1)], [(0, .row 36 9 (b.2.map roadC))], 1⟩) j <;> clear j
 . exact Weak.trans (weak_ghost 4 36 9 rfl) (wj hA [(0, 0)] rfl rfl rfl rfl)
 intro b w d
 unfold q_6m at d
 refine rs env_ok <| rl rfl <| dwp_seq ?_
 refine cd rfl d (fun e => ?_) (fun g => ?_) <;> clear d
 .refine dwp_skip <| thenD_n <| dwp_seq <| dwp_block <| rs env_ok <| rl rfl <| rg env_ok <| rn 3 rfl ?_
  obtain ⟨t, k, f⟩ := bd e; clear e
  refine sx rfl (o_call (w_8w _ _ _ k) (.inr rfl) rfl rfl rfl ?_)
  obtain ⟨x, n, p⟩ := bd f; clear f
  refine sx rfl (o_app1 (enc := roadC) (l := b.2) (m := t) n (fun _ => ⟨rfl, rfl⟩) rfl rfl rfl rfl rfl rfl ?_)
  refine rl rfl <| inB_n <| thenD_n <| rg env_ok <| rl rfl ?_
  cases p
  exact lpn (wj hA [(0, 1)] rfl rfl rfl rfl)
 .refine dwp_exit <| thenD_x ?_
  obtain ⟨v, i, rfl⟩ := mp g; clear g
  refine lpx <| inB_x <| thenD_n <| dwp_seq <| rs env_ok <| rl rfl ?_
  refine cd rfl i (fun q => ?_) (fun s => ?_) <;> clear i
  .refine rs env_ok <| rl rfl <| dwp_ret <| thenD_r ?_
   cases q
   exact ipr (nt := 21) (sl := [(2, .lsl 0 9 0 ([] : List Road).length), (3, li 3)]) (Weak.trans (weak_ghost 2 36 9 rfl) (wj hA [(0, 1)] rfl rfl rfl rfl)) rfl
  .refine dwp_skip <| thenD_n <| rs env_ok <| rl rfl <| dwp_ret ?_
   cases s
   exact ipr (nt := 21) (sl := [(2, .lsl 0 9 0 b.2.length), (3, li 0)]) (wj hA [(0, 0)] rfl rfl rfl rfl) rfl
noncomputable def q_3b (b : Net) (f : ((List Road) × Int)) (a : Int × (List Road)) : Option ((Int × (List Road)) ⊕ (Chart × Int)) :=
 bif decide (a.1 < (f.1.length : Int)) then (idx a.2 a.1).bind fun c => (q_37 b c).bind fun d => (idx a.2 a.1).bind fun g => some (.inl (wi64 (a.1 + 1), setI a.2 a.1 d)) else ((q_z b).bind fun e => some ((⟨e, a.2⟩ : Chart), 0)).map .inr
noncomputable def q_2r (d : Plan) : Option (Chart × Int) :=
 (q_4a d).bind fun a => optM a.1 (bif (a.2 != 0) then some ((⟨(⟨[], [], [], [], 0, 0, 0, 0, false⟩ : Plan), []⟩ : Chart), a.2) else none) fun c => bif (a.2 != 0) then some ((⟨(⟨[], [], [], [], 0, 0, 0, 0, false⟩ : Plan), []⟩ : Chart), a.2) else (q_6a c).bind fun b => bif (b.2 != 0) then some ((⟨(⟨[], [], [], [], 0, 0, 0, 0, false⟩ : Plan), []⟩ : Chart), b.2) else loopR (q_3b c b) (0, b.1)
theorem w_8z (e : Plan) (r : (Chart × Int)) (h : q_2r e = some r) : Fun Tryz.prog 75 [.agg (planC e)] (· = .tup [.agg (chartC r.1), .int .i64 r.2]) := by
 refine fn env_ok Tryz.func75 rfl rfl 45 rfl [.cell 2 68, .tmp 3] rfl [(0, .p (.agg (planC e)))] rfl rfl fun A hA => ?_
 unfold q_2r at h
 refine rs env_ok <| rl rfl <| rs env_ok <| rn 1 rfl ?_
 obtain ⟨af, v, b⟩ := bd h; clear h
 refine sx rfl (o_call (w_8x _ _ v) (.inr rfl) rfl rfl rfl ?_)
 revert b; rcases aj : af.1 with _ | ag <;> intro b
 .replace b := omN b
  refine rl rfl <| dwp_seq <| rs env_ok <| rl rfl ?_
  refine cd rfl b (fun ac => ?_) (fun w => ?_) <;> clear b
  .refine rs env_ok <| rl rfl <| dwp_ret <| thenD_r ?_
   cases ac
   exact er rfl (Le.tup' (.cons (Le.agg' (.cons (Le.nil _) (.cons (Le.nil _) (.cons (Le.nil _) (.cons (Le.nil _) (.cons Le.rfl (.cons Le.rfl (.cons Le.rfl (.cons Le.rfl (.cons Le.rfl (.cons (Le.nil _) .nil))))))))))) (.cons Le.rfl .nil)))
  .refine dwp_skip <| thenD_n <| rs env_ok <| rn 1 rfl ?_
   cases w
 .replace b := omS b
  refine rl rfl <| dwp_seq <| rs env_ok <| rl rfl ?_
  refine cd rfl b (fun y => ?_) (fun n => ?_) <;> clear b
  .refine rs env_ok <| rl rfl <| dwp_ret <| thenD_r ?_
   cases y
   exact er rfl (Le.tup' (.cons (Le.agg' (.cons (Le.nil _) (.cons (Le.nil _) (.cons (Le.nil _) (.cons (Le.nil _) (.cons Le.rfl (.cons Le.rfl (.cons Le.rfl (.cons Le.rfl (.cons Le.rfl (.cons (Le.nil _) .nil))))))))))) (.cons Le.rfl .nil)))
  .refine dwp_skip <| thenD_n <| rs env_ok <| rn 1 rfl ?_
   obtain ⟨ae, u, o⟩ := bd n; clear n
   refine sx rfl (o_callM (c' := 3) (w_9x _ _ u) [] rfl trivial rfl rfl rfl rfl rfl rfl rfl ?_)
   refine rl rfl <| dwp_seq <| rs env_ok <| rl rfl ?_
   refine cd rfl o (fun ab => ?_) (fun q => ?_) <;> clear o
   .refine rs env_ok <| rl rfl <| dwp_ret <| thenD_r ?_
    cases ab
    exact er rfl (Le.tup' (.cons (Le.agg' (.cons (Le.nil _) (.cons (Le.nil _) (.cons (Le.nil _) (.cons (Le.nil _) (.cons Le.rfl (.cons Le.rfl (.cons Le.rfl (.cons Le.rfl (.cons Le.rfl (.cons (Le.nil _) .nil))))))))))) (.cons Le.rfl .nil)))
   .refine dwp_skip <| thenD_n <| dwp_seq <| rs env_ok <| rl rfl <| dwp_block ?_
    apply lp (a := r) (fun c : (Int × (List Road)) => ⟨45, [(2, .lpb 0 0), (4, lq (netC ag)), (6, .lsl 1 9 0 c.2.length), (27, li (ae.1.length : Int)), (28, li c.1)], [(0, .box [.p (.nils), .p (.nils), .p (.nils), .p (.nils), li 0, li 0, li 0, li 0, lb false, .p (.nils)]), (1, .row 36 9 (c.2.map roadC))], 2⟩) q <;> clear q
    . exact wf hA [(0, 1), (1, 2)] rfl rfl rfl
    intro c ai d
    unfold q_3b at d
    refine rs env_ok <| rl rfl <| dwp_seq ?_
    refine cd rfl d (fun i => ?_) (fun l => ?_) <;> clear d
    .refine dwp_skip <| thenD_n <| dwp_seq <| dwp_block <| rs env_ok <| rl rfl <| rg env_ok <| rn 5 rfl ?_
     obtain ⟨ak, f, j⟩ := bd i; clear i
     refine sx rfl (o_idxO f rfl rfl rfl rfl ?_)
     refine sx rfl (o_ldO f rfl rfl rfl ?_)
     obtain ⟨ad, s, k⟩ := bd j; clear j
     refine sx rfl (o_call (w_8j _ _ _ s) (.inr rfl) rfl rfl rfl ?_)
     obtain ⟨al, g, x⟩ := bd k; clear k
     refine sx rfl (o_idxO g rfl rfl rfl rfl ?_)
     refine sx rfl (o_stO (z := ad) g rfl rfl rfl rfl rfl rfl rfl rfl ?_)
     refine rl rfl <| inB_n <| thenD_n <| rg env_ok <| rl rfl ?_
     cases x
     exact lpn (wk [(0, 0), (1, 1)] (free hA _) rfl rfl rfl (.cons rfl (.cons rfl (.cons (by simp only [setI_len]; rfl) (.cons rfl (.cons rfl .nil))))) (.cons rfl rfl (.cons rfl rfl .nil)))
    .refine dwp_exit <| thenD_x ?_
     obtain ⟨ah, m, rfl⟩ := mp l; clear l
     refine lpx <| inB_x <| thenD_n <| rs env_ok <| rn 1 rfl ?_
     obtain ⟨am, t, aa⟩ := bd m; clear m
     refine sx rfl (o_call (w_25 _ _ t) (.inr rfl) rfl rfl rfl ?_)
     refine rl rfl <| dwp_ret ?_
     cases aa
     exact er (rdN rfl (.cons (.agg (.cons (.p _) (.cons (.p _) (.cons (.p _) (.cons (.p _) (.cons (.p _) (.cons (.p _) (.cons (.p _) (.cons (.p _) (.cons (.p _) (.cons (.own (enc := roadC) c.2 rfl rfl) .nil))))))))))) (.cons (.one (.p _)) .nil))) Le.rfl
noncomputable def q_4r (a : Step) (b : Step) : Option Bool :=
 some (a.elem == b.elem)
theorem w_9h (a : Step) (b : Step) (r : Bool) (h : q_4r a b = some r) : Fun Tryz.prog 97 [.agg (stepC a), .place (stepC b) 0] (· = .bool r) := by
 refine fn env_ok Tryz.func97 rfl rfl 9 rfl [.tmp 3] rfl [(0, .p (.agg (stepC a))), (1, .p (.place (stepC b) 0))] rfl rfl fun A hA => ?_
 unfold q_4r at h
 refine rs env_ok <| rl rfl <| rs env_ok <| rl rfl <| dwp_ret ?_
 cases h
 exact er rfl Le.rfl
noncomputable def q_4s (a : Way) (b : Step) : Option Bool :=
 some (a.out == b.out)
theorem w_9i (a : Way) (b : Step) (r : Bool) (h : q_4s a b = some r) : Fun Tryz.prog 100 [.agg (wayC a), .place (stepC b) 0] (· = .bool r) := by
 refine fn env_ok Tryz.func100 rfl rfl 9 rfl [.tmp 3] rfl [(0, .p (.agg (wayC a))), (1, .p (.place (stepC b) 0))] rfl rfl fun A hA => ?_
 unfold q_4s at h
 refine rs env_ok <| rl rfl <| rs env_ok <| rl rfl <| dwp_ret ?_
 cases h
 exact er rfl Le.rfl
noncomputable def q_4t (c : Net) (a : Road) (b : Step) : Option Bool :=
 (q_5 c b.elem).bind fun h => bif (h == 4) then ((bif (a.fin == 2) then some (a.to == (-1)) else some false : Option (Bool))).bind fun (e : Bool) => some e else (q_c c (⟨b.elem, b.out⟩ : Port)).bind fun d => bif decide (0 <= d) then ((bif (a.fin == 1) then some (a.to == d) else some false : Option (Bool))).bind fun (f : Bool) => some f else (q_0 c (⟨b.elem, b.out⟩ : Port)).bind fun i => ((bif (!i.2) then bif (a.fin == 3) then some (a.to == (-1)) else some false else some false : Option (Bool))).bind fun (g : Bool) => some g
theorem w_9j (d : Net) (e : Road) (f : Step) (r : Bool) (h : q_4t d e f = some r) : Fun Tryz.prog 101 [.place (netC d) 0, .agg (roadC e), .agg (stepC f)] (· = .bool r) := by
 refine fn env_ok Tryz.func101 rfl rfl 61 rfl [.tmp 6] rfl [(0, .p (.place (netC d) 0)), (1, .p (.agg (roadC e))), (2, .p (.agg (stepC f)))] rfl rfl fun A hA => ?_
 unfold q_4t at h
 refine rs env_ok <| rl rfl <| dwp_seq <| rs env_ok <| rn 3 rfl ?_
 obtain ⟨ah, u, g⟩ := bd h; clear h
 refine sx rfl (o_call (w_a _ _ _ u) (.inl rfl) rfl rfl rfl ?_)
 refine rl rfl ?_
 refine cd rfl g (fun i => ?_) (fun k => ?_) <;> clear g
 .refine jb (fun a : Bool => ⟨61, [(6, lb a)], [], 0⟩) i (fun a j => ?_) (fun a z => ?_) <;> clear i
  .refine rg env_ok <| rn 4 rfl ?_
   refine gs 19 j rfl rfl rfl (fun x => ?_) (fun y => ?_) <;> clear j
   .refine rl rfl ?_
    cases x
    exact npn (wf hA [] rfl rfl rfl)
   .refine rl rfl ?_
    cases y
    exact npn (wf hA [] rfl rfl rfl)
  .refine dwp_ret <| thenD_r ?_
   have hr := Option.some.inj z; subst hr
   exact er rfl Le.rfl
 .refine dwp_skip <| thenD_n <| rs env_ok <| rl rfl <| dwp_seq <| rs env_ok <| rn 2 rfl ?_
  obtain ⟨ai, v, l⟩ := bd k; clear k
  refine sx rfl (o_call (w_f _ _ _ v) (.inl rfl) rfl rfl rfl ?_)
  refine rl rfl <| rs env_ok <| rl rfl ?_
  refine cd rfl l (fun m => ?_) (fun o => ?_) <;> clear l
  .refine jb (fun b : Bool => ⟨61, [(6, lb b)], [], 0⟩) m (fun b n => ?_) (fun b ac => ?_) <;> clear m
   .refine rg env_ok <| rn 4 rfl ?_
    refine gs 37 n rfl rfl rfl (fun aa => ?_) (fun ab => ?_) <;> clear n
    .refine rl rfl ?_
     cases aa
     exact npn (wf hA [] rfl rfl rfl)
    .refine rl rfl ?_
     cases ab
     exact npn (wf hA [] rfl rfl rfl)
   .refine dwp_ret <| thenD_r ?_
    have hr := Option.some.inj ac; subst hr
    exact er rfl Le.rfl
  .refine dwp_skip <| thenD_n <| rs env_ok <| rn 2 rfl ?_
   obtain ⟨aj, w, q⟩ := bd o; clear o
   refine sx rfl (o_call (w_2 _ _ _ w) (.inl rfl) rfl rfl rfl ?_)
   refine rl rfl ?_
   refine jb (fun c : Bool => ⟨61, [(6, lb c)], [], 0⟩) q (fun c s => ?_) (fun c ag => ?_) <;> clear q
   .refine rg env_ok <| rn 3 rfl ?_
    refine gs 51 s rfl rfl rfl (fun t => ?_) (fun af => ?_) <;> clear s
    .refine rn 5 rfl ?_
     refine gs 56 t rfl rfl rfl (fun ad => ?_) (fun ae => ?_) <;> clear t
     .refine rl rfl ?_
      cases ad
      exact npn (wf hA [] rfl rfl rfl)
     .refine rl rfl ?_
      cases ae
      exact npn (wf hA [] rfl rfl rfl)
    .refine rl rfl ?_
     cases af
     exact npn (wf hA [] rfl rfl rfl)
   .refine dwp_ret ?_
    have hr := Option.some.inj ag; subst hr
    exact er rfl Le.rfl
noncomputable def q_16 (b : (List Need)) (c : (List Need)) (a : Int) : Option (Int ⊕ Bool) :=
 bif decide (a < (b.length : Int)) then (idx b a).bind fun d => (idx c a).bind fun e => bif (!(d == e)) then some (.inr false) else some (.inl (wi64 (a + 1))) else some (.inr true)
noncomputable def q_r (a : (List Need)) (b : (List Need)) : Option Bool :=
 bif ((a.length : Int) != (b.length : Int)) then some false else loopR (q_16 a b) 0
theorem w_4u (b : (List Need)) (c : (List Need)) (r : Bool) (h : q_r b c = some r) : Fun Tryz.prog 102 [.slice 2 (b.map needC), .slice 2 (c.map needC)] (· = .bool r) := by
 refine fn env_ok Tryz.func102 rfl rfl 26 rfl [.tmp 4] rfl [(0, .p (.slice 2 (b.map needC))), (1, .p (.slice 2 (c.map needC)))] rfl rfl fun A hA => ?_
 unfold q_r at h
 refine rs env_ok <| rl rfl <| dwp_seq <| rs env_ok <| rn 1 rfl ?_
 refine sx rfl (o_len rfl rfl ?_)
 refine rn 1 rfl ?_
 refine sx rfl (o_len rfl rfl ?_)
 refine rl rfl ?_
 refine cd rfl h (fun t => ?_) (fun k => ?_) <;> clear h
 .refine rs env_ok <| rl rfl <| dwp_ret <| thenD_r ?_
  cases t
  exact er rfl Le.rfl
 .refine dwp_skip <| thenD_n <| dwp_seq <| rs env_ok <| rn 1 rfl ?_
  refine sx rfl (o_len rfl rfl ?_)
  refine rl rfl <| dwp_block ?_
  apply lp (a := r) (fun l : Int => ⟨26, [(0, ls 2 needC b), (1, ls 2 needC c), (12, li (b.length : Int)), (13, li l)], [], 0⟩) k <;> clear k
  . exact wf hA [] rfl rfl rfl
  intro l y d
  unfold q_16 at d
  refine rs env_ok <| rl rfl <| dwp_seq ?_
  refine cd rfl d (fun e => ?_) (fun j => ?_) <;> clear d
  .refine dwp_skip <| thenD_n <| dwp_seq <| dwp_block <| rs env_ok <| rl rfl <| dwp_seq ?_
   refine rgd env_ok mixed [0, 1, 2, 3, 4, 5, 6, 7, 8] 9 (by kernel_rfl) rfl rfl rfl ?_
   refine rnD 2 rfl ?_
   obtain ⟨u, m, f⟩ := bd e; clear e
   refine sxD rfl (opD_plain rfl (o_idx m rfl rfl rfl ?_))
   refine rnD 3 rfl ?_
   obtain ⟨v, n, g⟩ := bd f; clear f
   refine sxD rfl (opD_plain rfl (o_idx n rfl rfl rfl ?_))
   refine rnD 1 rfl ?_
   refine sxD rfl (o_neAD (eqE_Need u v) rfl rfl rfl rfl rfl ?_)
   refine rlD rfl <| thenD_n ?_
   refine cd rfl g (fun i => ?_) (fun q => ?_) <;> clear g
   .refine rs env_ok <| rl rfl <| dwp_ret <| inB_r <| thenD_r ?_
    obtain ⟨w, o, rfl⟩ := mps i; clear i
    refine lpt <| inB_r <| thenD_r ?_
    cases o
    exact er rfl Le.rfl
   .refine dwp_skip <| inB_n <| thenD_n <| rg env_ok <| rl rfl ?_
    cases q
    exact lpn (wf hA [] rfl rfl rfl)
  .refine dwp_exit <| thenD_x ?_
   obtain ⟨x, s, rfl⟩ := mps j; clear j
   refine lpx <| inB_x <| thenD_n <| rs env_ok <| rl rfl <| dwp_ret ?_
   cases s
   exact er rfl Le.rfl
noncomputable def q_7i (c : Step) (b : (List Step)) (a : Int) : Option (Int ⊕ Int) :=
 bif decide (a < (b.length : Int)) then (idx b a).bind fun d => (q_4r d c).bind fun e => bif e then some (.inr a) else some (.inl (wi64 (a + 1))) else some (.inr (-1))
noncomputable def q_7j (c : Step) (b : (List Way)) (a : Int) : Option (Int ⊕ Int) :=
 bif decide (a < (b.length : Int)) then (idx b a).bind fun d => (q_4s d c).bind fun e => bif e then some (.inr a) else some (.inl (wi64 (a + 1))) else some (.inr (-1))
noncomputable def q_7k (c : Net) (d : Road) (n : (Port × Bool)) (b : Bool × Int × Int × Int × (List Need)) : Option ((Bool × Int × Int × Int × (List Need)) ⊕ ((List Need) ⊕ Bool)) :=
 bif decide (b.2.1 < (d.steps.length : Int)) then (idx d.steps b.2.1).bind fun a => ((bif (!b.1) then some true else bif (a.elem != b.2.2.1) then some true else bif (a.in_ != b.2.2.2.1) then some true else bif (a.elem == n.1.elem) then some true else (slI d.steps 0 b.2.1).bind fun o => ((((loopR (q_7i a o) 0 : Option (Int))).bind fun (j : Int) => some (decide (0 <= j)) : Option (Bool))).bind fun (i : Bool) => some i : Option (Bool))).bind fun (h : Bool) => bif h then some (.inr (.inr false)) else (q_5 c a.elem).bind fun p => bif (p == 4) then ((bif (!(b.2.1 == (wi64 ((d.steps.length : Int) - 1)))) then some true else some (a.out != (-1)) : Option (Bool))).bind fun (k : Bool) => bif k then some (.inr (.inr false)) else some (.inr (.inl b.2.2.2.2)) else (q_d c a.elem a.in_).bind fun q => ((loopR (q_7j a q) 0 : Option (Int))).bind fun (f : Int) => bif decide (f < 0) then some (.inr (.inr false)) else (((q_d c a.elem a.in_).bind fun r => (idx r f).bind fun g => bif (g.pos != 0) then (appI b.2.2.2.2 [(⟨a.elem, g.pos⟩ : Need)]).bind fun s => some s else some b.2.2.2.2 : Option ((List Need)))).bind fun (l : (List Need)) => ((bif (!(b.2.1 == (wi64 ((d.steps.length : Int) - 1)))) then (q_c c (⟨a.elem, a.out⟩ : Port)).bind fun t => some (decide (0 <= t)) else some false : Option (Bool))).bind fun (m : Bool) => bif m then some (.inr (.inr false)) else (q_0 c (⟨a.elem, a.out⟩ : Port)).bind fun e => some (.inl (e.2, wi64 (b.2.1 + 1), e.1.elem, e.1.fin, l)) else some (.inr (.inl b.2.2.2.2))
noncomputable def q_7l (b : Net) (a : Road) : Option Bool :=
 (q_1v b a.frm).bind fun c => ((bif (!c.2) then some true else bif decide ((a.steps.length : Int) < 1) then some true else some (decide (12 < (a.steps.length : Int))) : Option (Bool))).bind fun (e : Bool) => bif e then some false else (q_0 b c.1).bind fun d => seqR ((loopR (q_7k b a c) (d.2, 0, d.1.elem, d.1.fin, ([] : List Need)) : Option ((List Need) ⊕ Bool))) fun (f : (List Need)) => (((idx a.steps (wi64 ((a.steps.length : Int) - 1))).bind fun h => (q_4t b a h).bind fun i => bif i then (q_r a.needs f).bind fun j => some j else some false : Option (Bool))).bind fun (g : Bool) => some g
theorem w_a4 (f : Net) (b : Road) (r : Bool) (h : q_7l f b = some r) : Fun Tryz.prog 36 [.place (netC f) 0, .agg (roadC b)] (· = .bool r) := by
 refine fn env_ok Tryz.func36 rfl rfl 166 rfl [.tmp 4] rfl [(0, .p (.place (netC f) 0)), (1, .p (.agg (roadC b)))] rfl rfl fun A hA => ?_
 unfold q_7l at h
 refine rs env_ok <| rl rfl <| sc <| rs env_ok <| rn 3 rfl ?_
 obtain ⟨e, b7, ah⟩ := bd h; clear h
 refine sx rfl (o_call (w_7c _ _ _ b7) (.inl rfl) rfl rfl rfl ?_)
 refine rl rfl <| dwp_seq ?_
 refine jb (fun w : Bool => ⟨166, [(0, lq (netC f)), (3, .lpb 0 0), (5, .lpb 1 0), (36, lb w)], [(0, .box [li b.frm, li b.to, li b.fin, ls 3 stepC b.steps, ls 2 needC b.needs, ls 2 needC b.guards, ls 1 intC b.zone, ls 1 intC b.holds, lb b.bare]), (1, .box [li e.1.elem, li e.1.fin])], 2⟩) ah (fun w ac => ?_) (fun w ae => ?_) <;> clear ah
 .refine rg env_ok <| rn 3 rfl ?_
  refine gs 25 ac rfl rfl rfl (fun cq => ?_) (fun ad => ?_) <;> clear ac
  .refine rl rfl ?_
   cases cq
   exact npn (wf hA [(0, 0), (1, 1)] rfl rfl rfl)
  .refine rn 2 rfl ?_
   refine sx rfl (o_len rfl rfl ?_)
   refine rn 3 rfl ?_
   refine gs 31 ad rfl rfl rfl (fun cr => ?_) (fun cs => ?_) <;> clear ad
   .refine rl rfl ?_
    cases cr
    exact npn (wf hA [(0, 0), (1, 1)] rfl rfl rfl)
   .refine rn 2 rfl ?_
    refine sx rfl (o_len rfl rfl ?_)
    refine rl rfl ?_
    cases cs
    exact npn (wf hA [(0, 0), (1, 1)] rfl rfl rfl)
 .refine cd rfl ae (fun ct => ?_) (fun af => ?_) <;> clear ae
  .refine rs env_ok <| rl rfl <| dwp_ret <| thenD_r <| sc_r ?_
   cases ct
   exact er rfl Le.rfl
  .refine dwp_skip <| thenD_n <| rs env_ok <| rn 2 rfl ?_
   obtain ⟨d5, b8, ag⟩ := bd af; clear af
   refine sx rfl (o_call (w_2 _ _ _ b8) (.inl rfl) rfl rfl rfl ?_)
   refine rl rfl <| rs env_ok <| rl rfl <| dwp_seq <| dwp_label <| thenD_n ?_
   apply jn (a := r) (fun k : (List Need) => ⟨166, [(0, lq (netC f)), (3, .lpb 0 0), (9, .lsl 1 2 0 k.length)], [(0, .box [li b.frm, li b.to, li b.fin, ls 3 stepC b.steps, ls 2 needC b.needs, ls 2 needC b.guards, ls 1 intC b.zone, ls 1 intC b.holds, lb b.bare]), (1, .row 91 2 (k.map needC))], 2⟩) ag <;> clear ag
   .intro b6 ai
    refine rs env_ok <| rn 2 rfl ?_
    refine sx rfl (o_len rfl rfl ?_)
    refine rl rfl <| dwp_block ?_
    apply lp (a := b6) (fun c : (Bool × Int × Int × Int × (List Need)) => ⟨166, [(0, lq (netC f)), (3, .lpb 0 0), (5, .lpb 1 0), (7, .lpb 2 0), (8, lb c.1), (9, .lsl 3 2 0 c.2.2.2.2.length), (44, ls 3 stepC b.steps), (45, li (b.steps.length : Int)), (46, li c.2.1)], [(0, .box [li b.frm, li b.to, li b.fin, ls 3 stepC b.steps, ls 2 needC b.needs, ls 2 needC b.guards, ls 1 intC b.zone, ls 1 intC b.holds, lb b.bare]), (1, .box [li e.1.elem, li e.1.fin]), (2, .box [li c.2.2.1, li c.2.2.2.1]), (3, .row 91 2 (c.2.2.2.2.map needC))], 4⟩) ai <;> clear ai
    . exact Weak.trans (weak_ghost 9 91 2 rfl) (wf hA (gi 4 []) rfl rfl rfl)
    intro c d2 q
    unfold q_7k at q
    refine rs env_ok <| rl rfl <| dwp_seq ?_
    refine cd rfl q (fun aj => ?_) (fun b0 => ?_) <;> clear q
    .refine dwp_skip <| thenD_n <| dwp_seq <| dwp_block <| rs env_ok <| rn 1 rfl ?_
     obtain ⟨d, b9, ak⟩ := bd aj; clear aj
     refine sx rfl (o_idx b9 rfl rfl rfl ?_)
     refine rl rfl <| dwp_seq ?_
     refine jb (fun x : Bool => ⟨166, [(0, lq (netC f)), (3, .lpb 0 0), (5, .lpb 1 0), (7, .lpb 2 0), (9, .lsl 3 2 0 c.2.2.2.2.length), (10, li c.2.1), (11, .lpb 4 0), (44, ls 3 stepC b.steps), (45, li (b.steps.length : Int)), (46, li c.2.1), (81, lb x)], [(0, .box [li b.frm, li b.to, li b.fin, ls 3 stepC b.steps, ls 2 needC b.needs, ls 2 needC b.guards, ls 1 intC b.zone, ls 1 intC b.holds, lb b.bare]), (1, .box [li e.1.elem, li e.1.fin]), (2, .box [li c.2.2.1, li c.2.2.2.1]), (3, .row 91 2 (c.2.2.2.2.map needC)), (4, .box [li d.elem, li d.in_, li d.out])], 5⟩) ak (fun x al => ?_) (fun x a0 => ?_) <;> clear ak
     .refine rg env_ok <| rn 3 rfl ?_
      refine gs 53 al rfl rfl rfl (fun cu => ?_) (fun am => ?_) <;> clear al
      .refine rl rfl ?_
       cases cu
       exact npn (wf hA (gi 5 []) rfl rfl rfl)
      .refine rn 7 rfl ?_
       refine gs 60 am rfl rfl rfl (fun cv => ?_) (fun an => ?_) <;> clear am
       .refine rl rfl ?_
        cases cv
        exact npn (wf hA (gi 5 []) rfl rfl rfl)
       .refine rn 7 rfl ?_
        refine gs 67 an rfl rfl rfl (fun cw => ?_) (fun ao => ?_) <;> clear an
        .refine rl rfl ?_
         cases cw
         exact npn (wf hA (gi 5 []) rfl rfl rfl)
        .refine rn 7 rfl ?_
         refine gs 74 ao rfl rfl rfl (fun cx => ?_) (fun ap => ?_) <;> clear ao
         .refine rl rfl ?_
          cases cx
          exact npn (wf hA (gi 5 []) rfl rfl rfl)
         .refine rn 3 rfl ?_
          obtain ⟨o, ca, aq⟩ := bd ap; clear ap
          refine sx rfl (o_slc ca rfl rfl rfl rfl ?_)
          refine rn 1 rfl ?_
          refine sx rfl (o_in env_ok (fun n : Bool => lb n) (fun n : Bool => [(0, .box [li b.frm, li b.to, li b.fin, ls 3 stepC b.steps, ls 2 needC b.needs, ls 2 needC b.guards, ls 1 intC b.zone, ls 1 intC b.holds, lb b.bare]), (1, .box [li e.1.elem, li e.1.fin]), (2, .box [li c.2.2.1, li c.2.2.2.1]), (3, .row 91 2 (c.2.2.2.2.map needC)), (4, .box [li d.elem, li d.in_, li d.out])]) 5 aq Tryz.func96 9 [.tmp 4] [(0, ls 3 stepC o), (1, .fn 97 [.lpb 4 0])] rfl rfl rfl rfl rfl rfl rfl rfl (fun A hA n ar => ?_) (fun n c2 => ?_)) <;> clear aq
          .refine rs env_ok <| rl rfl <| rs env_ok <| rn 2 rfl ?_
           refine sx rfl (o_in env_ok (fun g : Int => li g) (fun g : Int => [(0, .box [li b.frm, li b.to, li b.fin, ls 3 stepC b.steps, ls 2 needC b.needs, ls 2 needC b.guards, ls 1 intC b.zone, ls 1 intC b.holds, lb b.bare]), (1, .box [li e.1.elem, li e.1.fin]), (2, .box [li c.2.2.1, li c.2.2.2.1]), (3, .row 91 2 (c.2.2.2.2.map needC)), (4, .box [li d.elem, li d.in_, li d.out])]) 5 ar Tryz.func149 19 [.tmp 4] [(0, ls 3 stepC o), (1, .fn 97 [.lpb 4 0])] rfl rfl rfl rfl rfl rfl rfl rfl (fun A hA g au => ?_) (fun g c1 => ?_)) <;> clear ar
           .refine rs env_ok <| rl rfl <| dwp_seq <| rs env_ok <| rn 1 rfl ?_
            refine sx rfl (o_len rfl rfl ?_)
            refine rl rfl <| dwp_block ?_
            apply lp (a := g) (fun u : Int => ⟨19, [(0, ls 3 stepC o), (1, .fn 97 [.lpb 4 0]), (7, li (o.length : Int)), (8, li u)], [(0, .box [li b.frm, li b.to, li b.fin, ls 3 stepC b.steps, ls 2 needC b.needs, ls 2 needC b.guards, ls 1 intC b.zone, ls 1 intC b.holds, lb b.bare]), (1, .box [li e.1.elem, li e.1.fin]), (2, .box [li c.2.2.1, li c.2.2.2.1]), (3, .row 91 2 (c.2.2.2.2.map needC)), (4, .box [li d.elem, li d.in_, li d.out])], 5⟩) au <;> clear au
            . exact wj hA (gi 5 []) rfl rfl rfl rfl
            intro u d3 s
            unfold q_7i at s
            refine rs env_ok <| rl rfl <| dwp_seq ?_
            refine cd rfl s (fun av => ?_) (fun az => ?_) <;> clear s
            .refine dwp_skip <| thenD_n <| dwp_seq <| dwp_block <| rs env_ok <| rl rfl <| rs env_ok <| rn 3 rfl ?_
             obtain ⟨d6, cb, aw⟩ := bd av; clear av
             refine sx rfl (o_idx cb rfl rfl rfl ?_)
             refine rn 1 rfl ?_
             obtain ⟨d7, cc, ax⟩ := bd aw; clear aw
             refine sx rfl (o_call (w_9h _ _ _ cc) (.inl rfl) rfl rfl (LdA.eq (.cons (.one (.p _)) (.cons (.box rfl (.cons (.p _) (.cons (.p _) (.cons (.p _) .nil)))) .nil))) ?_)
             refine rl rfl ?_
             refine cd rfl ax (fun ay => ?_) (fun cz => ?_) <;> clear ax
             .refine rs env_ok <| rl rfl <| dwp_ret <| inB_r <| thenD_r ?_
              obtain ⟨dn, cy, rfl⟩ := mps ay; clear ay
              refine lpt <| inB_r <| thenD_r ?_
              have hr := Option.some.inj cy; subst hr
              exact ipr (nt := 19) (sl := [(4, li u)]) (wj hA (gi 5 []) rfl rfl rfl rfl) rfl
             .refine dwp_skip <| inB_n <| thenD_n <| rg env_ok <| rl rfl ?_
              cases cz
              exact lpn (wj hA (gi 5 []) rfl rfl rfl rfl)
            .refine dwp_exit <| thenD_x ?_
             obtain ⟨dp, c0, rfl⟩ := mps az; clear az
             refine lpx <| inB_x <| thenD_n <| rs env_ok <| rl rfl <| dwp_ret ?_
             cases c0
             exact ipr (nt := 19) (sl := [(4, li (-1))]) (wj hA (gi 5 []) rfl rfl rfl rfl) rfl
           .refine rl rfl <| dwp_ret ?_
            cases c1
            exact ipr (nt := 9) (sl := [(4, lb (decide (0 <= g)))]) (wj hA (gi 5 []) rfl rfl rfl rfl) rfl
          .refine rl rfl ?_
           have hr := Option.some.inj c2; subst hr
           exact npn (wf hA (gi 5 []) rfl rfl rfl)
     .refine cd rfl a0 (fun a1 => ?_) (fun a3 => ?_) <;> clear a0
      .refine rs env_ok <| rl rfl <| dwp_ret <| thenD_r <| inB_r <| thenD_r ?_
       obtain ⟨dq, a2, rfl⟩ := mps a1; clear a1
       refine lpt <| inB_r ?_
       obtain ⟨dr, c3, rfl⟩ := mps a2; clear a2
       refine lpt <| sc_r ?_
       cases c3
       exact er rfl Le.rfl
      .refine dwp_skip <| thenD_n <| rs env_ok <| rn 3 rfl ?_
       refine sx rfl (o_len rfl rfl ?_)
       refine rl rfl <| dwp_seq <| rs env_ok <| rn 3 rfl ?_
       obtain ⟨d8, ce, a4⟩ := bd a3; clear a3
       refine sx rfl (o_call (w_a _ _ _ ce) (.inl rfl) rfl rfl rfl ?_)
       refine rl rfl ?_
       refine cd rfl a4 (fun a5 => ?_) (fun bb => ?_) <;> clear a4
       .refine dwp_seq ?_
        refine jb (fun y : Bool => ⟨166, [(0, lq (netC f)), (3, .lpb 0 0), (9, .lsl 1 2 0 c.2.2.2.2.length), (99, lb y)], [(0, .box [li b.frm, li b.to, li b.fin, ls 3 stepC b.steps, ls 2 needC b.needs, ls 2 needC b.guards, ls 1 intC b.zone, ls 1 intC b.holds, lb b.bare]), (1, .row 91 2 (c.2.2.2.2.map needC))], 2⟩) a5 (fun y a6 => ?_) (fun y a7 => ?_) <;> clear a5
        .refine rg env_ok <| rn 3 rfl ?_
         refine gs 95 a6 rfl rfl rfl (fun c4 => ?_) (fun c5 => ?_) <;> clear a6
         .refine rl rfl ?_
          cases c4
          exact npn (wf hA [(0, 0), (1, 3)] rfl rfl rfl)
         .refine rl rfl ?_
          cases c5
          exact npn (wf hA [(0, 0), (1, 3)] rfl rfl rfl)
        .refine cd rfl a7 (fun a8 => ?_) (fun ba => ?_) <;> clear a7
         .refine rs env_ok <| rl rfl <| dwp_ret <| thenD_r <| thenD_r <| inB_r <| thenD_r ?_
          obtain ⟨ds, a9, rfl⟩ := mps a8; clear a8
          refine lpt <| inB_r ?_
          obtain ⟨dt, c6, rfl⟩ := mps a9; clear a9
          refine lpt <| sc_r ?_
          cases c6
          exact er rfl Le.rfl
         .refine dwp_skip <| thenD_n <| dwp_exit <| thenD_x <| inB_y rfl <| thenD_x ?_
          obtain ⟨du, c7, rfl⟩ := mps ba; clear ba
          refine lpx <| inB_x ?_
          cases c7
          exact lpn (wf hA [(0, 0), (1, 1)] rfl rfl rfl)
       .refine dwp_skip <| thenD_n <| rs env_ok <| rn 5 rfl ?_
        obtain ⟨ab, cf, bc⟩ := bd bb; clear bb
        refine sx rfl (o_call (w_y _ _ _ _ cf) (.inr rfl) rfl rfl rfl ?_)
        refine rn 1 rfl ?_
        refine sx rfl (o_in env_ok (fun j : Int => li j) (fun j : Int => [(0, .box [li b.frm, li b.to, li b.fin, ls 3 stepC b.steps, ls 2 needC b.needs, ls 2 needC b.guards, ls 1 intC b.zone, ls 1 intC b.holds, lb b.bare]), (1, .box [li e.1.elem, li e.1.fin]), (2, .box [li c.2.2.1, li c.2.2.2.1]), (3, .row 91 2 (c.2.2.2.2.map needC)), (4, .box [li d.elem, li d.in_, li d.out])]) 5 bc Tryz.func98 19 [.tmp 4] [(0, ls 2 wayC ab), (1, .fn 100 [.lpb 4 0])] rfl rfl rfl rfl rfl rfl rfl rfl (fun A hA j be => ?_) (fun j bk => ?_)) <;> clear bc
        .refine rs env_ok <| rl rfl <| dwp_seq <| rs env_ok <| rn 1 rfl ?_
         refine sx rfl (o_len rfl rfl ?_)
         refine rl rfl <| dwp_block ?_
         apply lp (a := j) (fun v : Int => ⟨19, [(0, ls 2 wayC ab), (1, .fn 100 [.lpb 4 0]), (7, li (ab.length : Int)), (8, li v)], [(0, .box [li b.frm, li b.to, li b.fin, ls 3 stepC b.steps, ls 2 needC b.needs, ls 2 needC b.guards, ls 1 intC b.zone, ls 1 intC b.holds, lb b.bare]), (1, .box [li e.1.elem, li e.1.fin]), (2, .box [li c.2.2.1, li c.2.2.2.1]), (3, .row 91 2 (c.2.2.2.2.map needC)), (4, .box [li d.elem, li d.in_, li d.out])], 5⟩) be <;> clear be
         . exact wj hA (gi 5 []) rfl rfl rfl rfl
         intro v d4 t
         unfold q_7j at t
         refine rs env_ok <| rl rfl <| dwp_seq ?_
         refine cd rfl t (fun bf => ?_) (fun bj => ?_) <;> clear t
         .refine dwp_skip <| thenD_n <| dwp_seq <| dwp_block <| rs env_ok <| rl rfl <| rs env_ok <| rn 3 rfl ?_
          obtain ⟨d9, cg, bg⟩ := bd bf; clear bf
          refine sx rfl (o_idx cg rfl rfl rfl ?_)
          refine rn 1 rfl ?_
          obtain ⟨ea, ch, bh⟩ := bd bg; clear bg
          refine sx rfl (o_call (w_9i _ _ _ ch) (.inl rfl) rfl rfl (LdA.eq (.cons (.one (.p _)) (.cons (.box rfl (.cons (.p _) (.cons (.p _) (.cons (.p _) .nil)))) .nil))) ?_)
          refine rl rfl ?_
          refine cd rfl bh (fun bi => ?_) (fun c9 => ?_) <;> clear bh
          .refine rs env_ok <| rl rfl <| dwp_ret <| inB_r <| thenD_r ?_
           obtain ⟨dv, c8, rfl⟩ := mps bi; clear bi
           refine lpt <| inB_r <| thenD_r ?_
           have hr := Option.some.inj c8; subst hr
           exact ipr (nt := 19) (sl := [(4, li v)]) (wj hA (gi 5 []) rfl rfl rfl rfl) rfl
          .refine dwp_skip <| inB_n <| thenD_n <| rg env_ok <| rl rfl ?_
           cases c9
           exact lpn (wj hA (gi 5 []) rfl rfl rfl rfl)
         .refine dwp_exit <| thenD_x ?_
          obtain ⟨dw, da, rfl⟩ := mps bj; clear bj
          refine lpx <| inB_x <| thenD_n <| rs env_ok <| rl rfl <| dwp_ret ?_
          cases da
          exact ipr (nt := 19) (sl := [(4, li (-1))]) (wj hA (gi 5 []) rfl rfl rfl rfl) rfl
        .refine rl rfl <| dwp_seq <| rs env_ok <| rl rfl ?_
         refine cd rfl bk (fun bl => ?_) (fun bn => ?_) <;> clear bk
         .refine rs env_ok <| rl rfl <| dwp_ret <| thenD_r <| inB_r <| thenD_r ?_
          obtain ⟨dx, bm, rfl⟩ := mps bl; clear bl
          refine lpt <| inB_r ?_
          obtain ⟨dy, db, rfl⟩ := mps bm; clear bm
          refine lpt <| sc_r ?_
          cases db
          exact er rfl Le.rfl
         .refine dwp_skip <| thenD_n ?_
          refine jb (fun i : (List Need) => ⟨166, [(0, lq (netC f)), (3, .lpb 0 0), (5, .lpb 1 0), (7, .lpb 2 0), (9, .lsl 3 2 0 i.length), (11, .lpb 4 0), (12, lb (c.2.1 == (wi64 ((b.steps.length : Int) - 1)))), (44, ls 3 stepC b.steps), (45, li (b.steps.length : Int)), (46, li c.2.1)], [(0, .box [li b.frm, li b.to, li b.fin, ls 3 stepC b.steps, ls 2 needC b.needs, ls 2 needC b.guards, ls 1 intC b.zone, ls 1 intC b.holds, lb b.bare]), (1, .box [li e.1.elem, li e.1.fin]), (2, .box [li c.2.2.1, li c.2.2.2.1]), (3, .row 91 2 (i.map needC)), (4, .box [li d.elem, li d.in_, li d.out])], 5⟩) bn (fun i bo => ?_) (fun i bs => ?_) <;> clear bn
          .refine rs env_ok <| rn 5 rfl ?_
           obtain ⟨eb, ci, bp⟩ := bd bo; clear bo
           refine sx rfl (o_call (w_y _ _ _ _ ci) (.inr rfl) rfl rfl rfl ?_)
           refine rn 1 rfl ?_
           obtain ⟨dm, cj, bq⟩ := bd bp; clear bp
           refine sx rfl (o_idx cj rfl rfl rfl ?_)
           refine rl rfl <| rs env_ok <| rl rfl ?_
           refine cd rfl bq (fun br => ?_) (fun dd => ?_) <;> clear bq
           .refine rg env_ok <| rn 6 rfl ?_
            obtain ⟨ec, ck, dc⟩ := bd br; clear br
            refine sx rfl (o_app1 (enc := needC) (l := c.2.2.2.2) (m := [(⟨d.elem, dm.pos⟩ : Need)]) ck (fun _ => ⟨rfl, rfl⟩) rfl rfl rfl rfl rfl rfl ?_)
            refine rl rfl ?_
            have hr := Option.some.inj dc; subst hr
            exact npn (wf hA (gi 3 [(3, 6), (4, 4)]) rfl rfl rfl)
           .refine dwp_skip ?_
            cases dd
            exact npn (wf hA (gi 5 []) rfl rfl rfl)
          .refine rs env_ok <| rl rfl <| dwp_seq ?_
           refine jb (fun z : Bool => ⟨166, [(0, lq (netC f)), (3, .lpb 0 0), (5, .lpb 1 0), (7, .lpb 2 0), (9, .lsl 3 2 0 i.length), (15, .lpb 4 0), (44, ls 3 stepC b.steps), (45, li (b.steps.length : Int)), (46, li c.2.1), (141, lb z)], [(0, .box [li b.frm, li b.to, li b.fin, ls 3 stepC b.steps, ls 2 needC b.needs, ls 2 needC b.guards, ls 1 intC b.zone, ls 1 intC b.holds, lb b.bare]), (1, .box [li e.1.elem, li e.1.fin]), (2, .box [li c.2.2.1, li c.2.2.2.1]), (3, .row 91 2 (i.map needC)), (4, .box [li d.elem, li d.out])], 5⟩) bs (fun z bt => ?_) (fun z bv => ?_) <;> clear bs
           .refine rg env_ok <| rn 3 rfl ?_
            refine gs 136 bt rfl rfl rfl (fun bu => ?_) (fun df => ?_) <;> clear bt
            .refine rn 2 rfl ?_
             obtain ⟨ed, cl, de⟩ := bd bu; clear bu
             refine sx rfl (o_call (w_f _ _ _ cl) (.inl rfl) rfl rfl rfl ?_)
             refine rl rfl ?_
             cases de
             exact npn (wf hA (gi 4 [(4, 5)]) rfl rfl rfl)
            .refine rl rfl ?_
             cases df
             exact npn (wf hA (gi 4 [(4, 5)]) rfl rfl rfl)
           .refine cd rfl bv (fun bw => ?_) (fun bz => ?_) <;> clear bv
            .refine rs env_ok <| rl rfl <| dwp_ret <| thenD_r <| inB_r <| thenD_r ?_
             obtain ⟨dz, bx, rfl⟩ := mps bw; clear bw
             refine lpt <| inB_r ?_
             obtain ⟨d0, dg, rfl⟩ := mps bx; clear bx
             refine lpt <| sc_r ?_
             cases dg
             exact er rfl Le.rfl
            .refine dwp_skip <| thenD_n <| rg env_ok <| rn 2 rfl ?_
             obtain ⟨ee, cm, dh⟩ := bd bz; clear bz
             refine sx rfl (o_call (w_2 _ _ _ cm) (.inl rfl) rfl rfl rfl ?_)
             refine rl rfl <| inB_n <| thenD_n <| rg env_ok <| rl rfl ?_
             cases dh
             exact lpn (wf hA (gi 4 []) rfl rfl rfl)
    .refine dwp_exit <| thenD_x ?_
     obtain ⟨d1, di, rfl⟩ := mps b0; clear b0
     refine lpx <| inB_x ?_
     cases di
     exact lpn (wf hA [(0, 0), (1, 3)] rfl rfl rfl)
   .intro k b1
    refine jb (fun aa : Bool => ⟨166, [(4, lb aa)], [], 0⟩) b1 (fun aa b2 => ?_) (fun aa dl => ?_) <;> clear b1
    .refine rgd env_ok mixed [0, 1, 2, 3, 4, 5, 6, 7, 8, 9, 10, 11, 12, 13, 14, 15, 16, 17] 18 (by kernel_rfl) rfl rfl rfl ?_
     refine rnD 6 rfl ?_
     refine sxD rfl (o_lenD rfl rfl ?_)
     refine rnD 1 rfl ?_
     obtain ⟨ef, cn, b3⟩ := bd b2; clear b2
     refine sxD rfl (opD_plain rfl (o_idx cn rfl rfl rfl ?_))
     refine rnD 1 rfl ?_
     obtain ⟨eg, co, b4⟩ := bd b3; clear b3
     refine sxD rfl (o_callD (w_9j _ _ _ _ co) (.inl rfl) rfl rfl rfl ?_)
     refine rnD 1 rfl ?_
     refine gsD 160 b4 rfl rfl rfl (fun b5 => ?_) (fun dk => ?_) <;> clear b4
     .refine rnD 3 rfl ?_
      obtain ⟨eh, cp, dj⟩ := bd b5; clear b5
      refine sxD rfl (o_callD (w_4u _ _ _ cp) (.inl rfl) rfl rfl (LdA.eq (.cons (.one (.p _)) (.cons (.one (.own (enc := needC) k rfl rfl)) .nil))) ?_)
      refine rlD rfl ?_
      have hr := Option.some.inj dj; subst hr
      exact npn (wf hA [] rfl rfl rfl)
     .refine rlD rfl ?_
      cases dk
      exact npn (wf hA [] rfl rfl rfl)
    .refine dwp_ret <| sc_r ?_
     have hr := Option.some.inj dl; subst hr
     exact er rfl Le.rfl
end Go.E
/- Plain functions, and walks in step with them. Written by a program (gen.py). No condition. -/
set_option maxRecDepth 100000
namespace Go.E
open Go Go.RowKit Go.Proofs
noncomputable def q_17 (b : (List Step)) (c : (List Step)) (a : Int) : Option (Int ⊕ Bool) :=
 bif decide (a < (b.length : Int)) then (idx b a).bind fun d => (idx c a).bind fun e => bif (!(d == e)) then some (.inr false) else some (.inl (wi64 (a + 1))) else some (.inr true)
noncomputable def q_s (a : (List Step)) (b : (List Step)) : Option Bool :=
 bif ((a.length : Int) != (b.length : Int)) then some false else loopR (q_17 a b) 0
theorem w_4v (b : (List Step)) (c : (List Step)) (r : Bool) (h : q_s b c = some r) : Fun Tryz.prog 137 [.slice 3 (b.map stepC), .slice 3 (c.map stepC)] (· = .bool r) := by
 refine fn env_ok Tryz.func137 rfl rfl 26 rfl [.tmp 4] rfl [(0, .p (.slice 3 (b.map stepC))), (1, .p (.slice 3 (c.map stepC)))] rfl rfl fun A hA => ?_
 unfold q_s at h
 refine rs env_ok <| rl rfl <| dwp_seq <| rs env_ok <| rn 1 rfl ?_
 refine sx rfl (o_len rfl rfl ?_)
 refine rn 1 rfl ?_
 refine sx rfl (o_len rfl rfl ?_)
 refine rl rfl ?_
 refine cd rfl h (fun t => ?_) (fun k => ?_) <;> clear h
 .refine rs env_ok <| rl rfl <| dwp_ret <| thenD_r ?_
  cases t
  exact er rfl Le.rfl
 .refine dwp_skip <| thenD_n <| dwp_seq <| rs env_ok <| rn 1 rfl ?_
  refine sx rfl (o_len rfl rfl ?_)
  refine rl rfl <| dwp_block ?_
  apply lp (a := r) (fun l : Int => ⟨26, [(0, ls 3 stepC b), (1, ls 3 stepC c), (12, li (b.length : Int)), (13, li l)], [], 0⟩) k <;> clear k
  . exact wf hA [] rfl rfl rfl
  intro l y d
  unfold q_17 at d
  refine rs env_ok <| rl rfl <| dwp_seq ?_
  refine cd rfl d (fun e => ?_) (fun j => ?_) <;> clear d
  .refine dwp_skip <| thenD_n <| dwp_seq <| dwp_block <| rs env_ok <| rl rfl <| dwp_seq ?_
   refine rgd env_ok mixed [0, 1, 2, 3, 4, 5, 6, 7, 8] 9 (by kernel_rfl) rfl rfl rfl ?_
   refine rnD 2 rfl ?_
   obtain ⟨u, m, f⟩ := bd e; clear e
   refine sxD rfl (opD_plain rfl (o_idx m rfl rfl rfl ?_))
   refine rnD 3 rfl ?_
   obtain ⟨v, n, g⟩ := bd f; clear f
   refine sxD rfl (opD_plain rfl (o_idx n rfl rfl rfl ?_))
   refine rnD 1 rfl ?_
   refine sxD rfl (o_neAD (eqE_Step u v) rfl rfl rfl rfl rfl ?_)
   refine rlD rfl <| thenD_n ?_
   refine cd rfl g (fun i => ?_) (fun q => ?_) <;> clear g
   .refine rs env_ok <| rl rfl <| dwp_ret <| inB_r <| thenD_r ?_
    obtain ⟨w, o, rfl⟩ := mps i; clear i
    refine lpt <| inB_r <| thenD_r ?_
    cases o
    exact er rfl Le.rfl
   .refine dwp_skip <| inB_n <| thenD_n <| rg env_ok <| rl rfl ?_
    cases q
    exact lpn (wf hA [] rfl rfl rfl)
  .refine dwp_exit <| thenD_x ?_
   obtain ⟨x, s, rfl⟩ := mps j; clear j
   refine lpx <| inB_x <| thenD_n <| rs env_ok <| rl rfl <| dwp_ret ?_
   cases s
   exact er rfl Le.rfl
noncomputable def q_1q (a : Road) (b : Road) : Option Bool :=
 (q_s a.steps b.steps).bind fun c => some c
theorem w_6n (a : Road) (b : Road) (r : Bool) (h : q_1q a b = some r) : Fun Tryz.prog 79 [.agg (roadC a), .agg (roadC b)] (· = .bool r) := by
 refine fn env_ok Tryz.func79 rfl rfl 10 rfl [.tmp 4] rfl [(0, .p (.agg (roadC a))), (1, .p (.agg (roadC b)))] rfl rfl fun A hA => ?_
 unfold q_1q at h
 refine rs env_ok <| rl rfl <| rs env_ok <| rn 4 rfl ?_
 obtain ⟨e, c, d⟩ := bd h; clear h
 refine sx rfl (o_call (w_4v _ _ _ c) (.inl rfl) rfl rfl rfl ?_)
 refine rl rfl <| dwp_ret ?_
 have hr := Option.some.inj d; subst hr
 exact er rfl Le.rfl
noncomputable def q_18 (a : Road) (b : Road) : Option Bool :=
 (q_1q a b).bind fun c => some c
theorem w_4b (a : Road) (b : Road) (r : Bool) (h : q_18 a b = some r) : Fun Tryz.prog 78 [.agg (roadC a), .place (roadC b) 0] (· = .bool r) := by
 refine fn env_ok Tryz.func78 rfl rfl 7 rfl [.tmp 3] rfl [(0, .p (.agg (roadC a))), (1, .p (.place (roadC b) 0))] rfl rfl fun A hA => ?_
 unfold q_18 at h
 refine rs env_ok <| rl rfl <| rs env_ok <| rn 2 rfl ?_
 obtain ⟨e, c, d⟩ := bd h; clear h
 refine sx rfl (o_call (w_6n _ _ _ c) (.inl rfl) rfl rfl rfl ?_)
 refine rl rfl <| dwp_ret ?_
 have hr := Option.some.inj d; subst hr
 exact er rfl Le.rfl
noncomputable def q_1x (a : Road) (b : Road) : Option Bool :=
 (q_1q a b).bind fun c => some c
theorem w_8k (a : Road) (b : Road) (r : Bool) (h : q_1x a b = some r) : Fun Tryz.prog 139 [.agg (roadC a), .place (roadC b) 0] (· = .bool r) := by
 refine fn env_ok Tryz.func139 rfl rfl 7 rfl [.tmp 3] rfl [(0, .p (.agg (roadC a))), (1, .p (.place (roadC b) 0))] rfl rfl fun A hA => ?_
 unfold q_1x at h
 refine rs env_ok <| rl rfl <| rs env_ok <| rn 2 rfl ?_
 obtain ⟨e, c, d⟩ := bd h; clear h
 refine sx rfl (o_call (w_6n _ _ _ c) (.inl rfl) rfl rfl rfl ?_)
 refine rl rfl <| dwp_ret ?_
 have hr := Option.some.inj d; subst hr
 exact er rfl Le.rfl
noncomputable def q_3c (b : (List Road)) (c : Road) (a : Int) : Option (Int ⊕ Int) :=
 bif decide (a < (b.length : Int)) then (idx b a).bind fun d => (q_1x d c).bind fun e => bif e then some (.inr a) else some (.inl (wi64 (a + 1))) else some (.inr (-1))
noncomputable def q_3d (f : (List Road)) (b : Int) (c : (List Road)) (a : Int) : Option (Int ⊕ (Int ⊕ Int)) :=
 bif decide (a < (c.length : Int)) then (idx c a).bind fun g => ((((loopR (q_3c f g) 0 : Option (Int))).bind fun (e : Int) => some (decide (0 <= e)) : Option (Bool))).bind fun (d : Bool) => bif (!d) then some (.inr (.inr b)) else some (.inl (wi64 (a + 1))) else some (.inr (.inl (wi64 (b + 1))))
noncomputable def q_3e (b : Net) (c : (List Road)) (d : Int) (a : Int) : Option (Int ⊕ Int) :=
 bif decide (a < d) then (q_49 b a).bind fun e => loopR (q_3d c a e) 0 else some (.inr (-1))
noncomputable def q_2s (a : Net) (b : (List Road)) : Option Int :=
 (q_h a).bind fun c => loopR (q_3e a b c) 0
theorem w_90 (e : Net) (c : (List Road)) (r : Int) (h : q_2s e c = some r) : Fun Tryz.prog 80 [.place (netC e) 0, .slice 9 (c.map roadC)] (· = .int .i64 r) := by
 refine fn env_ok Tryz.func80 rfl rfl 28 rfl [.tmp 4] rfl [(0, .p (.place (netC e) 0)), (1, .p (.slice 9 (c.map roadC)))] rfl rfl fun A hA => ?_
 unfold q_2s at h
 refine rs env_ok <| rl rfl <| sc <| dwp_seq <| dwp_label <| thenD_n <| dwp_seq <| rs env_ok <| rn 1 rfl ?_
 obtain ⟨ag, aj, m⟩ := bd h; clear h
 refine sx rfl (o_call (w_1j _ _ aj) (.inl rfl) rfl rfl rfl ?_)
 refine rl rfl <| dwp_block ?_
 apply lp (a := r) (fun f : Int => ⟨28, [(0, lq (netC e)), (1, ls 9 roadC c), (9, li ag), (10, li f)], [], 0⟩) m <;> clear m
 . exact wf hA [] rfl rfl rfl
 intro f ai i
 unfold q_3e at i
 refine rs env_ok <| rl rfl <| dwp_seq ?_
 refine cd rfl i (fun n => ?_) (fun ae => ?_) <;> clear i
 .refine dwp_skip <| thenD_n <| dwp_seq <| dwp_block <| rs env_ok <| rl rfl <| dwp_seq <| rs env_ok <| rn 2 rfl ?_
  obtain ⟨ah, ak, o⟩ := bd n; clear n
  refine sx rfl (o_call (w_8w _ _ _ ak) (.inr rfl) rfl rfl rfl ?_)
  refine sx rfl (o_len rfl rfl ?_)
  refine rl rfl <| dwp_block ?_
  apply lp (a := ai) (fun af : Int => ⟨28, [(0, lq (netC e)), (1, ls 9 roadC c), (5, li f), (9, li ag), (10, li f), (15, ls 9 roadC ah), (16, li (ah.length : Int)), (17, li af)], [], 0⟩) o <;> clear o
  . exact wf hA [] rfl rfl rfl
  intro af a4 j
  unfold q_3d at j
  refine rs env_ok <| rl rfl <| dwp_seq ?_
  refine cd rfl j (fun q => ?_) (fun ad => ?_) <;> clear j
  .refine dwp_skip <| thenD_n <| dwp_seq <| dwp_block <| rs env_ok ?_
   obtain ⟨b, al, s⟩ := bd q; clear q
   refine sx rfl (o_idx al rfl rfl rfl ?_)
   refine rl rfl <| rs env_ok <| rn 2 rfl ?_
   refine sx rfl (o_in env_ok (fun g : Bool => lb g) (fun g : Bool => [(0, .box [li b.frm, li b.to, li b.fin, ls 3 stepC b.steps, ls 2 needC b.needs, ls 2 needC b.guards, ls 1 intC b.zone, ls 1 intC b.holds, lb b.bare])]) 1 s Tryz.func77 9 [.tmp 4] [(0, ls 9 roadC c), (1, .fn 139 [.lpb 0 0])] rfl rfl rfl rfl rfl rfl rfl rfl (fun A hA g t => ?_) (fun g aa => ?_)) <;> clear s
   .refine rs env_ok <| rl rfl <| rs env_ok <| rn 2 rfl ?_
    refine sx rfl (o_in env_ok (fun d : Int => li d) (fun d : Int => [(0, .box [li b.frm, li b.to, li b.fin, ls 3 stepC b.steps, ls 2 needC b.needs, ls 2 needC b.guards, ls 1 intC b.zone, ls 1 intC b.holds, lb b.bare])]) 1 t Tryz.func136 19 [.tmp 4] [(0, ls 9 roadC c), (1, .fn 139 [.lpb 0 0])] rfl rfl rfl rfl rfl rfl rfl rfl (fun A hA d u => ?_) (fun d ar => ?_)) <;> clear t
    .refine rs env_ok <| rl rfl <| dwp_seq <| rs env_ok <| rn 1 rfl ?_
     refine sx rfl (o_len rfl rfl ?_)
     refine rl rfl <| dwp_block ?_
     apply lp (a := d) (fun l : Int => ⟨19, [(0, ls 9 roadC c), (1, .fn 139 [.lpb 0 0]), (7, li (c.length : Int)), (8, li l)], [(0, .box [li b.frm, li b.to, li b.fin, ls 3 stepC b.steps, ls 2 needC b.needs, ls 2 needC b.guards, ls 1 intC b.zone, ls 1 intC b.holds, lb b.bare])], 1⟩) u <;> clear u
     . exact wj hA [(0, 0)] rfl rfl rfl rfl
     intro l a5 k
     unfold q_3c at k
     refine rs env_ok <| rl rfl <| dwp_seq ?_
     refine cd rfl k (fun v => ?_) (fun z => ?_) <;> clear k
     .refine dwp_skip <| thenD_n <| dwp_seq <| dwp_block <| rs env_ok <| rl rfl <| rs env_ok <| rn 3 rfl ?_
      obtain ⟨a6, am, w⟩ := bd v; clear v
      refine sx rfl (o_idx am rfl rfl rfl ?_)
      refine rn 1 rfl ?_
      obtain ⟨a7, an, x⟩ := bd w; clear w
      refine sx rfl (o_call (w_8k _ _ _ an) (.inl rfl) rfl rfl (LdA.eq (.cons (.one (.p _)) (.cons (.box rfl (.cons (.p _) (.cons (.p _) (.cons (.p _) (.cons (.p _) (.cons (.p _) (.cons (.p _) (.cons (.p _) (.cons (.p _) (.cons (.p _) .nil)))))))))) .nil))) ?_)
      refine rl rfl ?_
      refine cd rfl x (fun y => ?_) (fun ap => ?_) <;> clear x
      .refine rs env_ok <| rl rfl <| dwp_ret <| inB_r <| thenD_r ?_
       obtain ⟨ay, ao, rfl⟩ := mps y; clear y
       refine lpt <| inB_r <| thenD_r ?_
       have hr := Option.some.inj ao; subst hr
       exact ipr (nt := 19) (sl := [(4, li l)]) (wj hA [(0, 0)] rfl rfl rfl rfl) rfl
      .refine dwp_skip <| inB_n <| thenD_n <| rg env_ok <| rl rfl ?_
       cases ap
       exact lpn (wj hA [(0, 0)] rfl rfl rfl rfl)
     .refine dwp_exit <| thenD_x ?_
      obtain ⟨az, aq, rfl⟩ := mps z; clear z
      refine lpx <| inB_x <| thenD_n <| rs env_ok <| rl rfl <| dwp_ret ?_
      cases aq
      exact ipr (nt := 19) (sl := [(4, li (-1))]) (wj hA [(0, 0)] rfl rfl rfl rfl) rfl
    .refine rl rfl <| dwp_ret ?_
     cases ar
     exact ipr (nt := 9) (sl := [(4, lb (decide (0 <= d)))]) (wj hA [(0, 0)] rfl rfl rfl rfl) rfl
   .refine rl rfl ?_
    refine cd rfl aa (fun ab => ?_) (fun av => ?_) <;> clear aa
    .refine rs env_ok <| rl rfl <| dwp_ret <| inB_r <| thenD_r ?_
     obtain ⟨a0, ac, rfl⟩ := mps ab; clear ab
     refine lpt <| inB_r <| thenD_r <| inB_r <| thenD_r ?_
     obtain ⟨a1, au, rfl⟩ := mps ac; clear ac
     refine lpt <| inB_r <| thenD_r <| sc_r ?_
     have hr := Option.some.inj au; subst hr
     exact er rfl Le.rfl
    .refine dwp_skip <| inB_n <| thenD_n <| rg env_ok <| rl rfl ?_
     cases av
     exact lpn (wf hA [] rfl rfl rfl)
  .refine dwp_exit <| thenD_x ?_
   obtain ⟨a2, aw, rfl⟩ := mps ad; clear ad
   refine lpx <| inB_x <| thenD_n <| dwp_exit <| inB_x <| thenD_n <| rg env_ok <| rl rfl ?_
   cases aw
   exact lpn (wf hA [] rfl rfl rfl)
 .refine dwp_exit <| thenD_x ?_
  obtain ⟨a3, ax, rfl⟩ := mps ae; clear ae
  refine lpx <| inB_x <| thenD_n <| rs env_ok <| rl rfl <| dwp_ret <| sc_r ?_
  cases ax
  exact er rfl Le.rfl
noncomputable def q_3f (f : Net) (g : Road) (c : (List Need)) (a : Int × (List (Int × Int))) : Option ((Int × (List (Int × Int))) ⊕ ((List (Int × Int)) × Bool)) :=
 bif decide (a.1 < (c.length : Int)) then (idx c a.1).bind fun b => ((bif decide ((g.needs.length : Int) <= a.1) then (q_5 f b.elem).bind fun h => bif (h != 2) then some true else bif (b.pos != 1) then some (b.pos != 2) else some false else some false : Option (Bool))).bind fun (d : Bool) => bif d then some (.inr ([], false)) else ((bif (assoc a.2 b.elem).isSome then some (((assoc a.2 b.elem).getD 0) != b.pos) else some false : Option (Bool))).bind fun (e : Bool) => bif e then some (.inr ([], false)) else some (.inl (wi64 (a.1 + 1), aput b.elem b.pos a.2)) else some (.inr (a.2, true))
noncomputable def q_2t (b : Net) (a : Road) : Option ((List (Int × Int)) × Bool) :=
 (q_6 a.needs).bind fun c => (appI c a.guards).bind fun d => loopR (q_3f b a d) (0, [])
theorem w_91 (f : Net) (b : Road) (r : ((List (Int × Int)) × Bool)) (h : q_2t f b = some r) : Fun Tryz.prog 85 [.place (netC f) 0, .agg (roadC b)] (· = .tup [.map (mapD (.int .i64) (.int .i64) r.1), .bool r.2]) := by
 refine fn env_ok Tryz.func85 rfl rfl 67 rfl [.tmp 4, .tmp 5] rfl [(0, .p (.place (netC f) 0)), (1, .p (.agg (roadC b)))] rfl rfl fun A hA => ?_
 unfold q_2t at h
 refine rs env_ok <| rl rfl <| rs env_ok <| rl rfl <| dwp_seq <| dwp_seq ?_
 refine rgd env_okO mixed [0, 1, 3, 4, 2, 7, 5, 6] 8 (by kernel_rfl) rfl rfl rfl ?_
 refine rnD 4 rfl ?_
 obtain ⟨av, ag, n⟩ := bd h; clear h
 refine sxD rfl (o_callNO (w_47 _ _ ag) rfl rfl rfl rfl rfl ?_)
 refine rnD 1 rfl ?_
 obtain ⟨d, ah, o⟩ := bd n; clear n
 refine sxD rfl (opD_app (o_app1 (enc := needC) (l := av) (m := b.guards) ah (fun _ => ⟨rfl, rfl⟩) rfl rfl rfl rfl rfl rfl ?_))
 refine rlD rfl <| thenD_n <| dwp_block ?_
 apply lp (a := r) (fun c : (Int × (List (Int × Int))) => ⟨67, [(0, lq (netC f)), (3, .lpb 0 0), (6, .lmap 1), (17, .lsl 2 2 0 d.length), (18, li (d.length : Int)), (19, li c.1)], [(0, .box [li b.frm, li b.to, li b.fin, ls 3 stepC b.steps, ls 2 needC b.needs, ls 2 needC b.guards, ls 1 intC b.zone, ls 1 intC b.holds, lb b.bare]), (1, .map (mapD (.int .i64) (.int .i64) c.2)), (2, .row 91 2 (d.map needC))], 3⟩) o <;> clear o
 . exact wf hA [(0, 0), (1, 1), (2, 7)] rfl rfl rfl
 intro c az g
 unfold q_3f at g
 refine rs env_ok <| rl rfl <| dwp_seq ?_
 refine cd rfl g (fun q => ?_) (fun af => ?_) <;> clear g
 .refine dwp_skip <| thenD_n <| dwp_seq <| dwp_block <| rs env_ok <| rn 1 rfl ?_
  obtain ⟨e, k, s⟩ := bd q; clear q
  refine sx rfl (o_idxO k rfl rfl rfl rfl ?_)
  refine sx rfl (o_ldO k rfl rfl rfl ?_)
  refine rl rfl <| dwp_seq ?_
  refine jb (fun i : Bool => ⟨67, [(0, lq (netC f)), (3, .lpb 0 0), (6, .lmap 1), (8, .lpb 2 0), (17, .lsl 3 2 0 d.length), (18, li (d.length : Int)), (19, li c.1), (45, lb i)], [(0, .box [li b.frm, li b.to, li b.fin, ls 3 stepC b.steps, ls 2 needC b.needs, ls 2 needC b.guards, ls 1 intC b.zone, ls 1 intC b.holds, lb b.bare]), (1, .map (mapD (.int .i64) (.int .i64) c.2)), (2, .box [li e.elem, li e.pos]), (3, .row 91 2 (d.map needC))], 4⟩) s (fun i t => ?_) (fun i x => ?_) <;> clear s
  .refine rg env_ok <| rn 3 rfl ?_
   refine sx rfl (o_len rfl rfl ?_)
   refine rn 2 rfl ?_
   refine gs 29 t rfl rfl rfl (fun u => ?_) (fun am => ?_) <;> clear t
   .refine rn 3 rfl ?_
    obtain ⟨a0, ai, v⟩ := bd u; clear u
    refine sx rfl (o_call (w_a _ _ _ ai) (.inl rfl) rfl rfl rfl ?_)
    refine rn 2 rfl ?_
    refine gs 35 v rfl rfl rfl (fun aj => ?_) (fun w => ?_) <;> clear v
    .refine rl rfl ?_
     cases aj
     exact npn (wf hA [(0, 0), (1, 1), (2, 3), (3, 2)] rfl rfl rfl)
    .refine rn 4 rfl ?_
     refine gs 39 w rfl rfl rfl (fun ak => ?_) (fun al => ?_) <;> clear w
     .refine rl rfl ?_
      cases ak
      exact npn (wf hA [(0, 0), (1, 1), (2, 3), (3, 2)] rfl rfl rfl)
     .refine rl rfl ?_
      cases al
      exact npn (wf hA [(0, 0), (1, 1), (2, 3), (3, 2)] rfl rfl rfl)
   .refine rl rfl ?_
    cases am
    exact npn (wf hA [(0, 0), (1, 1), (2, 3), (3, 2)] rfl rfl rfl)
  .refine cd rfl x (fun aa => ?_) (fun ab => ?_) <;> clear x
   .refine rs env_ok <| rl rfl <| dwp_ret <| thenD_r <| inB_r <| thenD_r ?_
    obtain ⟨aw, an, rfl⟩ := mps aa; clear aa
    refine lpt <| inB_r <| thenD_r ?_
    cases an
    exact er rfl (Le.tup' (.cons Le.nilm (.cons Le.rfl .nil)))
   .refine dwp_skip <| thenD_n <| dwp_seq <| rs env_ok <| rn 3 rfl ?_
    refine sx rfl (o_lk2 (et := 3) (ke := (.int .i64)) (ve := (.int .i64)) (mp := c.2) (y := e.elem) 0 keyE_3 rfl rfl rfl rfl ?_)
    refine rl rfl ?_
    refine jb (fun j : Bool => ⟨67, [(0, lq (netC f)), (3, .lpb 0 0), (6, .lmap 1), (8, .lpb 2 0), (17, .lsl 3 2 0 d.length), (18, li (d.length : Int)), (19, li c.1), (59, lb j)], [(0, .box [li b.frm, li b.to, li b.fin, ls 3 stepC b.steps, ls 2 needC b.needs, ls 2 needC b.guards, ls 1 intC b.zone, ls 1 intC b.holds, lb b.bare]), (1, .map (mapD (.int .i64) (.int .i64) c.2)), (2, .box [li e.elem, li e.pos]), (3, .row 91 2 (d.map needC))], 4⟩) ab (fun j ac => ?_) (fun j ad => ?_) <;> clear ab
    .refine rg env_ok <| rn 2 rfl ?_
     refine gs 54 ac rfl rfl rfl (fun ao => ?_) (fun ap => ?_) <;> clear ac
     .refine rl rfl ?_
      cases ao
      exact npn (wf hA (gi 4 []) rfl rfl rfl)
     .refine rl rfl ?_
      cases ap
      exact npn (wf hA (gi 4 []) rfl rfl rfl)
    .refine cd rfl ad (fun ae => ?_) (fun ar => ?_) <;> clear ad
     .refine rs env_ok <| rl rfl <| dwp_ret <| thenD_r <| inB_r <| thenD_r ?_
      obtain ⟨ax, aq, rfl⟩ := mps ae; clear ae
      refine lpt <| inB_r <| thenD_r ?_
      cases aq
      exact er rfl (Le.tup' (.cons Le.nilm (.cons Le.rfl .nil)))
     .refine dwp_skip <| thenD_n <| rg env_ok <| rn 5 rfl ?_
      refine sx rfl (o_mup (et := 3) (ke := (.int .i64)) (ve := (.int .i64)) (mp := c.2) (y := e.elem) (z := e.pos) keyE_3 rfl rfl rfl rfl rfl rfl ?_)
      refine rl rfl <| inB_n <| thenD_n <| rg env_ok <| rl rfl ?_
      cases ar
      exact lpn (wf hA [(0, 0), (1, 1), (2, 3)] rfl rfl rfl)
 .refine dwp_exit <| thenD_x ?_
  obtain ⟨ay, au, rfl⟩ := mps af; clear af
  refine lpx <| inB_x <| thenD_n <| rs env_ok <| rl rfl <| dwp_ret ?_
  cases au
  exact er (rdN rfl (.cons (.one (.map rfl)) (.cons (.one (.p _)) .nil))) Le.rfl
noncomputable def q_2u (a : Net) : Option Int :=
 some (a.p.elems.length : Int)
theorem w_92 (a : Net) (r : Int) (h : q_2u a = some r) : Fun Tryz.prog 86 [.place (netC a) 0] (· = .int .i64 r) := by
 refine fn env_ok Tryz.func86 rfl rfl 9 rfl [.tmp 2] rfl [(0, .p (.place (netC a) 0))] rfl rfl fun A hA => ?_
 unfold q_2u at h
 refine rs env_ok <| rl rfl <| rs env_ok <| rn 5 rfl ?_
 refine sx rfl (o_len rfl rfl ?_)
 refine rl rfl <| dwp_ret ?_
 cases h
 exact er rfl Le.rfl
noncomputable def q_3g (c : Port) (d : (List (Int × Int))) (e : (List Way)) (a : Int × (List Int)) : Option ((Int × (List Int)) ⊕ (List Int)) :=
 bif decide (a.1 < (e.length : Int)) then (((idx e a.1).bind fun b => ((bif (b.pos == 0) then some true else bif (!(assoc d c.elem).isSome) then some true else some (b.pos == ((assoc d c.elem).getD 0)) : Option (Bool))).bind fun (g : Bool) => bif g then (appI a.2 [b.out]).bind fun h => some h else some a.2 : Option ((List Int)))).bind fun (f : (List Int)) => some (.inl (wi64 (a.1 + 1), f)) else some (.inr a.2)
noncomputable def q_2v (b : Net) (a : Port) (c : (List (Int × Int))) : Option (List Int) :=
 (q_d b a.elem a.fin).bind fun d => loopR (q_3g a c d) (0, ([] : List Int))
theorem w_93 (j : Net) (c : Port) (d : (List (Int × Int))) (r : (List Int)) (h : q_2v j c d = some r) : Fun Tryz.prog 88 [.place (netC j) 0, .agg (portC c), .map (mapD (.int .i64) (.int .i64) d)] (· = .slice 1 (r.map intC)) := by
 refine fn env_ok Tryz.func88 rfl rfl 50 rfl [.tmp 6] rfl [(0, .p (.place (netC j) 0)), (1, .p (.agg (portC c))), (2, .p (.map (mapD (.int .i64) (.int .i64) d)))] rfl rfl fun A hA => ?_
 unfold q_2v at h
 refine rs env_ok <| rl rfl <| rs env_ok <| rl rfl <| dwp_seq <| rs env_ok <| rn 5 rfl ?_
 obtain ⟨e, z, n⟩ := bd h; clear h
 refine sx rfl (o_call (w_y _ _ _ _ z) (.inr rfl) rfl rfl rfl ?_)
 refine sx rfl (o_len rfl rfl ?_)
 refine rl rfl <| dwp_block ?_
 apply lp (a := r) (fun b : (Int × (List Int)) => ⟨50, [(2, .p (.map (mapD (.int .i64) (.int .i64) d))), (4, .lpb 0 0), (7, .lsl 1 1 0 b.2.length), (17, ls 2 wayC e), (18, li (e.length : Int)), (19, li b.1)], [(0, .box [li c.elem, li c.fin]), (1, .row 3 1 (b.2.map intC))], 2⟩) n <;> clear n
 . exact Weak.trans (weak_ghost 7 3 1 rfl) (wf hA [(0, 0), (1, 1)] rfl rfl rfl)
 intro b ak g
 unfold q_3g at g
 refine rs env_ok <| rl rfl <| dwp_seq ?_
 refine cd rfl g (fun o => ?_) (fun x => ?_) <;> clear g
 .refine dwp_skip <| thenD_n ?_
  refine jb (fun f : (List Int) => ⟨50, [(2, .p (.map (mapD (.int .i64) (.int .i64) d))), (4, .lpb 0 0), (7, .lsl 1 1 0 f.length), (17, ls 2 wayC e), (18, li (e.length : Int)), (19, li b.1)], [(0, .box [li c.elem, li c.fin]), (1, .row 3 1 (f.map intC))], 2⟩) o (fun f q => ?_) (fun f ah => ?_) <;> clear o
  .refine dwp_block <| rs env_ok ?_
   obtain ⟨k, aa, s⟩ := bd q; clear q
   refine sx rfl (o_idx aa rfl rfl rfl ?_)
   refine rl rfl <| rs env_ok <| rn 3 rfl ?_
   refine sx rfl (o_lk2 (et := 3) (ke := (.int .i64)) (ve := (.int .i64)) (mp := d) (y := c.elem) 0 keyE_3 rfl rfl rfl rfl ?_)
   refine rl rfl ?_
   refine jb (fun i : Bool => ⟨50, [(2, .p (.map (mapD (.int .i64) (.int .i64) d))), (4, .lpb 0 0), (7, .lsl 1 1 0 b.2.length), (9, .lpb 2 0), (17, ls 2 wayC e), (18, li (e.length : Int)), (19, li b.1), (42, lb i)], [(0, .box [li c.elem, li c.fin]), (1, .row 3 1 (b.2.map intC)), (2, .box [li k.out, li k.pos])], 3⟩) s (fun i t => ?_) (fun i v => ?_) <;> clear s
   .refine rg env_ok <| rn 4 rfl ?_
    refine gs 33 t rfl rfl rfl (fun ac => ?_) (fun u => ?_) <;> clear t
    .refine rl rfl ?_
     cases ac
     exact npn (wf hA (gi 3 []) rfl rfl rfl)
    .refine rn 4 rfl ?_
     refine gs 37 u rfl rfl rfl (fun ad => ?_) (fun ae => ?_) <;> clear u
     .refine rl rfl ?_
      cases ad
      exact npn (wf hA (gi 3 []) rfl rfl rfl)
     .refine rl rfl ?_
      cases ae
      exact npn (wf hA (gi 3 []) rfl rfl rfl)
   .refine cd rfl v (fun w => ?_) (fun ag => ?_) <;> clear v
    .refine rg env_ok <| rn 4 rfl ?_
     obtain ⟨al, ab, af⟩ := bd w; clear w
     refine sx rfl (o_app1 (enc := intC) (l := b.2) (m := [k.out]) ab (fun _ => ⟨rfl, rfl⟩) rfl rfl rfl rfl rfl rfl ?_)
     refine rl rfl <| inB_n ?_
     have hr := Option.some.inj af; subst hr
     exact npn (wf hA [(0, 0), (1, 4)] rfl rfl rfl)
    .refine dwp_skip <| inB_n ?_
     cases ag
     exact npn (wf hA [(0, 0), (1, 1)] rfl rfl rfl)
  .refine rg env_ok <| rl rfl ?_
   cases ah
   exact lpn (wf hA [(0, 0), (1, 1)] rfl rfl rfl)
 .refine dwp_exit <| thenD_x ?_
  obtain ⟨aj, ai, rfl⟩ := mps x; clear x
  refine lpx <| inB_x <| thenD_n <| rs env_ok <| rl rfl <| dwp_ret ?_
  cases ai
  exact er (rd1 rfl (.one (.own (enc := intC) b.2 rfl rfl))) Le.rfl
noncomputable def q_2f (g : Net) (e : ((List Port) × (List (Port × Bool)))) (b : Port) (c : (List Int)) (a : Int × (List Port)) : Option ((Int × (List Port)) ⊕ (((List Port) × (List (Port × Bool))) ⊕ Bool)) :=
 bif decide (a.1 < (c.length : Int)) then (((idx c a.1).bind fun h => (q_0 g (⟨b.elem, h⟩ : Port)).bind fun d => bif d.2 then (appI a.2 [d.1]).bind fun i => some i else some a.2 : Option ((List Port)))).bind fun (f : (List Port)) => some (.inl (wi64 (a.1 + 1), f)) else some (.inr (.inl (a.2, aput b true e.2)))
noncomputable def q_2g (c : Net) (d : Road) (o : ((List (Int × Int)) × Bool)) (p : Plan) (b : (List Port) × (List (Port × Bool))) : Option (((List Port) × (List (Port × Bool))) ⊕ Bool) :=
 bif decide (0 < (b.1.length : Int)) then (idx b.1 0).bind fun a => (slO b.1 1 (b.1.length : Int)).bind fun e => ((bif ((assoc b.2 a).getD false) then some true else (q_1y d a.elem).bind fun i => bif i then some true else bif (!p.hard) then (q_c c a).bind fun j => bif decide (0 <= j) then (q_c c a).bind fun k => (q_3 d.holds k).bind fun l => some l else some false else some false : Option (Bool))).bind fun (g : Bool) => bif g then some (.inl (e, b.2)) else (q_5 c a.elem).bind fun m => bif (m == 4) then some (.inr false) else (q_2v c a o.1).bind fun f => ((bif decide (0 < (f.length : Int)) then (q_3 d.zone a.elem).bind fun n => some (!n) else some false : Option (Bool))).bind fun (h : Bool) => bif h then some (.inr false) else loopR (q_2f c b a f) (0, e) else some (.inr true)
noncomputable def q_2h (b : Net) (d : Road) (e : ((List (Int × Int)) × Bool)) (f : Plan) (c : (List Port)) (a : Int × (List Port)) : Option ((Int × (List Port)) ⊕ Bool) :=
 bif decide (a.1 < (c.length : Int)) then (idx c a.1).bind fun g => (q_0 b g).bind fun h => (appI a.2 [h.1]).bind fun i => some (.inl (wi64 (a.1 + 1), i)) else (loopR (q_2g b d e f) (a.2, [])).map .inr
noncomputable def q_2i (a : Net) (b : Road) (f : ((List (Int × Int)) × Bool)) (c : Int) : Option (Int ⊕ Bool) :=
 bif decide (c < (b.holds.length : Int)) then (idx b.holds c).bind fun d => ((bif decide (d < 0) then some true else (q_h a).bind fun g => some (decide (g <= d)) : Option (Bool))).bind fun (e : Bool) => bif e then some (.inr false) else some (.inl (wi64 (c + 1))) else ((q_z a).bind fun h => (q_1z a b).bind fun i => loopR (q_2h a b f h i) (0, ([] : List Port))).map .inr
noncomputable def q_2j (d : Net) (a : Road) (f : ((List (Int × Int)) × Bool)) (b : Int) : Option (Int ⊕ Bool) :=
 bif decide (b < (a.zone.length : Int)) then (idx a.zone b).bind fun c => ((bif decide (c < 0) then some true else (q_2u d).bind fun g => bif decide (g <= c) then some true else (q_1y a c).bind fun h => some h : Option (Bool))).bind fun (e : Bool) => bif e then some (.inr false) else some (.inl (wi64 (b + 1))) else (loopR (q_2i d a f) 0).map .inr
noncomputable def q_20 (a : Net) (b : Road) : Option Bool :=
 (q_2t a b).bind fun c => bif (!c.2) then some false else loopR (q_2j a b c) 0
theorem w_8l (d : Net) (b : Road) (r : Bool) (h : q_20 d b = some r) : Fun Tryz.prog 34 [.place (netC d) 0, .agg (roadC b)] (· = .bool r) := by
 refine fn env_ok Tryz.func34 rfl rfl 170 rfl [.tmp 4] rfl [(0, .p (.place (netC d) 0)), (1, .p (.agg (roadC b)))] rfl rfl fun A hA => ?_
 unfold q_20 at h
 refine rs env_ok <| rl rfl <| sc <| rs env_ok <| rn 2 rfl ?_
 obtain ⟨f, cl, bn⟩ := bd h; clear h
 refine sx rfl (o_call (w_91 _ _ _ cl) (.inr rfl) rfl rfl rfl ?_)
 refine rl rfl <| dwp_seq <| rs env_ok <| rl rfl ?_
 refine cd rfl bn (fun dk => ?_) (fun b2 => ?_) <;> clear bn
 .refine rs env_ok <| rl rfl <| dwp_ret <| thenD_r <| sc_r ?_
  cases dk
  exact er rfl Le.rfl
 .refine dwp_skip <| thenD_n <| dwp_seq <| rs env_ok <| rn 2 rfl ?_
  refine sx rfl (o_len rfl rfl ?_)
  refine rl rfl <| dwp_block ?_
  apply lp (a := r) (fun w : Int => ⟨170, [(0, lq (netC d)), (3, .lpb 0 0), (5, .p (.map (mapD (.int .i64) (.int .i64) f.1))), (33, ls 1 intC b.zone), (34, li (b.zone.length : Int)), (35, li w)], [(0, .box [li b.frm, li b.to, li b.fin, ls 3 stepC b.steps, ls 2 needC b.needs, ls 2 needC b.guards, ls 1 intC b.zone, ls 1 intC b.holds, lb b.bare])], 1⟩) b2 <;> clear b2
  . exact wf hA [(0, 0)] rfl rfl rfl
  intro w dw t
  unfold q_2j at t
  refine rs env_ok <| rl rfl <| dwp_seq ?_
  refine cd rfl t (fun bc => ?_) (fun bl => ?_) <;> clear t
  .refine dwp_skip <| thenD_n <| dwp_seq <| dwp_block <| rs env_ok ?_
   obtain ⟨d7, cm, be⟩ := bd bc; clear bc
   refine sx rfl (o_idx cm rfl rfl rfl ?_)
   refine rl rfl ?_
   refine jb (fun ad : Bool => ⟨170, [(0, lq (netC d)), (3, .lpb 0 0), (5, .p (.map (mapD (.int .i64) (.int .i64) f.1))), (33, ls 1 intC b.zone), (34, li (b.zone.length : Int)), (35, li w), (51, lb ad)], [(0, .box [li b.frm, li b.to, li b.fin, ls 3 stepC b.steps, ls 2 needC b.needs, ls 2 needC b.guards, ls 1 intC b.zone, ls 1 intC b.holds, lb b.bare])], 1⟩) be (fun ad bf => ?_) (fun ad bj => ?_) <;> clear be
   .refine rg env_ok <| rn 3 rfl ?_
    refine gs 41 bf rfl rfl rfl (fun db => ?_) (fun bg => ?_) <;> clear bf
    .refine rl rfl ?_
     cases db
     exact npn (wf hA [(0, 0)] rfl rfl rfl)
    .refine rn 2 rfl ?_
     obtain ⟨d8, cn, bh⟩ := bd bg; clear bg
     refine sx rfl (o_call (w_92 _ _ cn) (.inl rfl) rfl rfl rfl ?_)
     refine rn 3 rfl ?_
     refine gs 47 bh rfl rfl rfl (fun dc => ?_) (fun bi => ?_) <;> clear bh
     .refine rl rfl ?_
      cases dc
      exact npn (wf hA [(0, 0)] rfl rfl rfl)
     .refine rn 2 rfl ?_
      obtain ⟨d9, co, dd⟩ := bd bi; clear bi
      refine sx rfl (o_call (w_6b _ _ _ co) (.inl rfl) rfl rfl rfl ?_)
      refine rl rfl ?_
      have hr := Option.some.inj dd; subst hr
      exact npn (wf hA [(0, 0)] rfl rfl rfl)
   .refine cd rfl bj (fun bk => ?_) (fun df => ?_) <;> clear bj
    .refine rs env_ok <| rl rfl <| dwp_ret <| inB_r <| thenD_r ?_
     obtain ⟨dt, de, rfl⟩ := mps bk; clear bk
     refine lpt <| inB_r <| thenD_r <| sc_r ?_
     cases de
     exact er rfl Le.rfl
    .refine dwp_skip <| inB_n <| thenD_n <| rg env_ok <| rl rfl ?_
     cases df
     exact lpn (wf hA [(0, 0)] rfl rfl rfl)
  .refine dwp_exit <| thenD_x ?_
   obtain ⟨b6, bm, rfl⟩ := mp bl; clear bl
   refine lpx <| inB_x <| thenD_n <| dwp_seq <| rs env_ok <| rn 2 rfl ?_
   refine sx rfl (o_len rfl rfl ?_)
   refine rl rfl <| dwp_block ?_
   apply lp (a := b6) (fun aa : Int => ⟨170, [(0, lq (netC d)), (3, .lpb 0 0), (5, .p (.map (mapD (.int .i64) (.int .i64) f.1))), (54, ls 1 intC b.holds), (55, li (b.holds.length : Int)), (56, li aa)], [(0, .box [li b.frm, li b.to, li b.fin, ls 3 stepC b.steps, ls 2 needC b.needs, ls 2 needC b.guards, ls 1 intC b.zone, ls 1 intC b.holds, lb b.bare])], 1⟩) bm <;> clear bm
   . exact wf hA [(0, 0)] rfl rfl rfl
   intro aa dx u
   unfold q_2i at u
   refine rs env_ok <| rl rfl <| dwp_seq ?_
   refine cd rfl u (fun bo => ?_) (fun bu => ?_) <;> clear u
   .refine dwp_skip <| thenD_n <| dwp_seq <| dwp_block <| rs env_ok ?_
    obtain ⟨ea, cp, bp⟩ := bd bo; clear bo
    refine sx rfl (o_idx cp rfl rfl rfl ?_)
    refine rl rfl ?_
    refine jb (fun ae : Bool => ⟨170, [(0, lq (netC d)), (3, .lpb 0 0), (5, .p (.map (mapD (.int .i64) (.int .i64) f.1))), (54, ls 1 intC b.holds), (55, li (b.holds.length : Int)), (56, li aa), (67, lb ae)], [(0, .box [li b.frm, li b.to, li b.fin, ls 3 stepC b.steps, ls 2 needC b.needs, ls 2 needC b.guards, ls 1 intC b.zone, ls 1 intC b.holds, lb b.bare])], 1⟩) bp (fun ae bq => ?_) (fun ae bs => ?_) <;> clear bp
    .refine rg env_ok <| rn 3 rfl ?_
     refine gs 62 bq rfl rfl rfl (fun dg => ?_) (fun br => ?_) <;> clear bq
     .refine rl rfl ?_
      cases dg
      exact npn (wf hA [(0, 0)] rfl rfl rfl)
     .refine rn 2 rfl ?_
      obtain ⟨eb, cq, dh⟩ := bd br; clear br
      refine sx rfl (o_call (w_1j _ _ cq) (.inl rfl) rfl rfl rfl ?_)
      refine rl rfl ?_
      cases dh
      exact npn (wf hA [(0, 0)] rfl rfl rfl)
    .refine cd rfl bs (fun bt => ?_) (fun dj => ?_) <;> clear bs
     .refine rs env_ok <| rl rfl <| dwp_ret <| inB_r <| thenD_r ?_
      obtain ⟨du, di, rfl⟩ := mps bt; clear bt
      refine lpt <| inB_r <| thenD_r <| sc_r ?_
      cases di
      exact er rfl Le.rfl
     .refine dwp_skip <| inB_n <| thenD_n <| rg env_ok <| rl rfl ?_
      cases dj
      exact lpn (wf hA [(0, 0)] rfl rfl rfl)
   .refine dwp_exit <| thenD_x ?_
    obtain ⟨b7, bv, rfl⟩ := mp bu; clear bu
    refine lpx <| inB_x <| thenD_n <| rs env_ok <| rn 1 rfl ?_
    obtain ⟨g, cr, bw⟩ := bd bv; clear bv
    refine sx rfl (o_call (w_25 _ _ cr) (.inr rfl) rfl rfl rfl ?_)
    refine rl rfl <| rs env_ok <| rl rfl <| dwp_seq <| rs env_ok <| rn 2 rfl ?_
    obtain ⟨b5, cs, bx⟩ := bd bw; clear bw
    refine sx rfl (o_call (w_7m _ _ _ cs) (.inr rfl) rfl rfl rfl ?_)
    refine sx rfl (o_len rfl rfl ?_)
    refine rl rfl <| dwp_block ?_
    apply lp (a := b7) (fun k : (Int × (List Port)) => ⟨170, [(0, lq (netC d)), (3, .lpb 0 0), (5, .p (.map (mapD (.int .i64) (.int .i64) f.1))), (11, lb g.hard), (12, .lsl 1 2 0 k.2.length), (74, ls 2 portC b5), (75, li (b5.length : Int)), (76, li k.1)], [(0, .box [li b.frm, li b.to, li b.fin, ls 3 stepC b.steps, ls 2 needC b.needs, ls 2 needC b.guards, ls 1 intC b.zone, ls 1 intC b.holds, lb b.bare]), (1, .row 96 2 (k.2.map portC))], 2⟩) bx <;> clear bx
    . exact Weak.trans (weak_ghost 12 96 2 rfl) (wf hA [(0, 0), (1, 1)] rfl rfl rfl)
    intro k dy v
    unfold q_2h at v
    refine rs env_ok <| rl rfl <| dwp_seq ?_
    refine cd rfl v (fun bz => ?_) (fun b3 => ?_) <;> clear v
    .refine dwp_skip <| thenD_n <| dwp_seq <| dwp_block <| rs env_ok ?_
     obtain ⟨ec, ct, b0⟩ := bd bz; clear bz
     refine sx rfl (o_idx ct rfl rfl rfl ?_)
     refine rl rfl <| rs env_ok <| rn 2 rfl ?_
     obtain ⟨dn, cu, b1⟩ := bd b0; clear b0
     refine sx rfl (o_call (w_2 _ _ _ cu) (.inl rfl) rfl rfl rfl ?_)
     refine rl rfl <| rg env_ok <| rn 3 rfl ?_
     obtain ⟨ed, cv, dl⟩ := bd b1; clear b1
     refine sx rfl (o_app1 (enc := portC) (l := k.2) (m := [dn.1]) cv (fun _ => ⟨rfl, rfl⟩) rfl rfl rfl rfl rfl rfl ?_)
     refine rl rfl <| inB_n <| thenD_n <| rg env_ok <| rl rfl ?_
     cases dl
     exact lpn (wf hA [(0, 0), (1, 5)] rfl rfl rfl)
    .refine dwp_exit <| thenD_x ?_
     obtain ⟨b8, b4, rfl⟩ := mp b3; clear b3
     refine lpx <| inB_x <| thenD_n <| rs env_ok <| rl rfl <| dwp_seq <| dwp_label <| thenD_n <| dwp_seq <| dwp_block ?_
     apply lp (a := b8) (fun e : ((List Port) × (List (Port × Bool))) => ⟨170, [(0, lq (netC d)), (3, .lpb 0 0), (5, .p (.map (mapD (.int .i64) (.int .i64) f.1))), (11, lb g.hard), (12, .lsl 1 2 0 e.1.length), (17, .lmap 2)], [(0, .box [li b.frm, li b.to, li b.fin, ls 3 stepC b.steps, ls 2 needC b.needs, ls 2 needC b.guards, ls 1 intC b.zone, ls 1 intC b.holds, lb b.bare]), (1, .row 96 2 (e.1.map portC)), (2, .map (mapD (fun x => .agg (portC x)) .bool e.2))], 3⟩) b4 <;> clear b4
     . exact wf hA (gi 3 []) rfl rfl rfl
     intro e b9 q
     unfold q_2g at q
     refine dwp_seq <| rs env_ok <| rl rfl ?_
     refine cd rfl q (fun ah => ?_) (fun bb => ?_) <;> clear q
     .refine dwp_skip <| thenD_n <| dwp_block <| rs env_ok <| rn 1 rfl ?_
      obtain ⟨c, af, ai⟩ := bd ah; clear ah
      refine sx rfl (o_idxO af rfl rfl rfl rfl ?_)
      refine sx rfl (o_ldO af rfl rfl rfl ?_)
      refine rl rfl <| rs env_ok <| rn 1 rfl ?_
      obtain ⟨j, ag, aj⟩ := bd ai; clear ai
      refine sx rfl (o_slO (l := e.1) ag rfl rfl rfl rfl rfl ?_)
      refine rl rfl ?_
      refine dwp_weak (st' := ⟨170, [(0, lq (netC d)), (3, .lpb 0 0), (5, .p (.map (mapD (.int .i64) (.int .i64) f.1))), (11, lb g.hard), (12, .lsl 1 2 0 j.length), (17, .lmap 2), (18, .lpb 3 0)], [(0, .box [li b.frm, li b.to, li b.fin, ls 3 stepC b.steps, ls 2 needC b.needs, ls 2 needC b.guards, ls 1 intC b.zone, ls 1 intC b.holds, lb b.bare]), (1, .row 96 2 (j.map portC)), (2, .map (mapD (fun x => .agg (portC x)) .bool e.2)), (3, .box [li c.elem, li c.fin])], 4⟩) (Weak.trans (weak_win 1 (enc := portC) (l := e.1) rfl (slO_sp ag) (.cons 0 (.same _) (.cons 3 (.same _) (.cons 5 (.same _) (.cons 11 (.same _) (.cons 12 .hit (.cons 17 (.same _) (.cons 18 (.same _) .nil))))))) (.cons 0 rfl rfl (.same _) (.cons 2 rfl rfl (.same _) (.cons 3 rfl rfl (.same _) .nil)))) (wf hA [(0, 0), (1, 4), (2, 2), (3, 3)] rfl rfl rfl)) ?_
      refine dwp_seq ?_
      refine jb (fun ab : Bool => ⟨170, [(0, lq (netC d)), (3, .lpb 0 0), (5, .p (.map (mapD (.int .i64) (.int .i64) f.1))), (11, lb g.hard), (12, .lsl 1 2 0 j.length), (17, .lmap 2), (18, .lpb 3 0), (126, lb ab)], [(0, .box [li b.frm, li b.to, li b.fin, ls 3 stepC b.steps, ls 2 needC b.needs, ls 2 needC b.guards, ls 1 intC b.zone, ls 1 intC b.holds, lb b.bare]), (1, .row 96 2 (j.map portC)), (2, .map (mapD (fun x => .agg (portC x)) .bool e.2)), (3, .box [li c.elem, li c.fin])], 4⟩) aj (fun ab ak => ?_) (fun ab au => ?_) <;> clear aj
      .refine rgd env_ok mixed [0, 1, 2, 3, 4, 5, 6, 7, 8, 9, 10, 11, 12, 13, 14, 15, 16, 17, 18, 19, 20, 21, 22, 23, 24, 25, 26] 27 (by kernel_rfl) rfl rfl rfl ?_
       refine rnD 2 rfl ?_
       refine sxD rfl (opD_plain rfl (o_lk1 (et := 4) (ke := (fun x => .agg (portC x))) (ve := .bool) (mp := e.2) (y := c) false keyE_96 rfl rfl rfl rfl ?_))
       refine rnD 1 rfl ?_
       refine gsD 103 ak rfl rfl rfl (fun cw => ?_) (fun al => ?_) <;> clear ak
       .refine rlD rfl ?_
        cases cw
        exact npn (wf hA (gi 4 []) rfl rfl rfl)
       .refine rnD 3 rfl ?_
        obtain ⟨dz, ca, am⟩ := bd al; clear al
        refine sxD rfl (o_callD (w_6b _ _ _ ca) (.inl rfl) rfl rfl rfl ?_)
        refine rnD 2 rfl ?_
        refine gsD 109 am rfl rfl rfl (fun cx => ?_) (fun an => ?_) <;> clear am
        .refine rlD rfl ?_
         cases cx
         exact npn (wf hA (gi 4 []) rfl rfl rfl)
        .refine rnD 3 rfl ?_
         refine gsD 112 an rfl rfl rfl (fun ao => ?_) (fun c0 => ?_) <;> clear an
         .refine rnD 2 rfl ?_
          obtain ⟨d0, cb, ap⟩ := bd ao; clear ao
          refine sxD rfl (o_callD (w_f _ _ _ cb) (.inl rfl) rfl rfl rfl ?_)
          refine rnD 3 rfl ?_
          refine gsD 118 ap rfl rfl rfl (fun aq => ?_) (fun cz => ?_) <;> clear ap
          .refine rnD 4 rfl ?_
           obtain ⟨d1, cc, ar⟩ := bd aq; clear aq
           refine sxD rfl (o_callD (w_f _ _ _ cc) (.inl rfl) rfl rfl rfl ?_)
           obtain ⟨d2, ce, cy⟩ := bd ar; clear ar
           refine sxD rfl (o_callD (w_9 _ _ _ ce) (.inl rfl) rfl rfl rfl ?_)
           refine rlD rfl ?_
           have hr := Option.some.inj cy; subst hr
           exact npn (wf hA (gi 4 []) rfl rfl rfl)
          .refine rlD rfl ?_
           cases cz
           exact npn (wf hA (gi 4 []) rfl rfl rfl)
         .refine rlD rfl ?_
          cases c0
          exact npn (wf hA (gi 4 []) rfl rfl rfl)
      .refine cd rfl au (fun c1 => ?_) (fun av => ?_) <;> clear au
       .refine dwp_exit <| thenD_x <| inB_x ?_
        cases c1
        exact lpn (wf hA (gi 3 []) rfl rfl rfl)
       .refine dwp_skip <| thenD_n <| rs env_ok <| rn 2 rfl ?_
        refine sx rfl (o_mup (et := 4) (ke := (fun x => .agg (portC x))) (ve := .bool) (mp := e.2) (y := c) (z := true) keyE_96 rfl rfl rfl rfl rfl rfl ?_)
        refine rl rfl <| dwp_seq <| rs env_ok <| rn 3 rfl ?_
        obtain ⟨d3, cf, aw⟩ := bd av; clear av
        refine sx rfl (o_call (w_a _ _ _ cf) (.inl rfl) rfl rfl rfl ?_)
        refine rl rfl ?_
        refine cd rfl aw (fun ax => ?_) (fun ay => ?_) <;> clear aw
        .refine rs env_ok <| rl rfl <| dwp_ret <| thenD_r <| inB_r ?_
         obtain ⟨dp, c2, rfl⟩ := mps ax; clear ax
         refine lpt <| inB_r <| thenD_r <| sc_r ?_
         cases c2
         exact er rfl Le.rfl
        .refine dwp_skip <| thenD_n <| rs env_ok <| rn 3 rfl ?_
         obtain ⟨n, cg, az⟩ := bd ay; clear ay
         refine sx rfl (o_call (w_93 _ _ _ _ cg) (.inr rfl) rfl rfl rfl ?_)
         refine rl rfl <| dwp_seq ?_
         refine jb (fun ac : Bool => ⟨170, [(0, lq (netC d)), (3, .lpb 0 0), (5, .p (.map (mapD (.int .i64) (.int .i64) f.1))), (11, lb g.hard), (12, .lsl 1 2 0 j.length), (17, .lmap 2), (18, .lpb 3 0), (19, ls 1 intC n), (148, lb ac)], [(0, .box [li b.frm, li b.to, li b.fin, ls 3 stepC b.steps, ls 2 needC b.needs, ls 2 needC b.guards, ls 1 intC b.zone, ls 1 intC b.holds, lb b.bare]), (1, .row 96 2 (j.map portC)), (2, .map (mapD (fun x => .agg (portC x)) .bool (aput c true e.2))), (3, .box [li c.elem, li c.fin])], 4⟩) az (fun ac a0 => ?_) (fun ac a2 => ?_) <;> clear az
         .refine rg env_ok <| rn 1 rfl ?_
          refine sx rfl (o_len rfl rfl ?_)
          refine rn 2 rfl ?_
          refine gs 141 a0 rfl rfl rfl (fun a1 => ?_) (fun c4 => ?_) <;> clear a0
          .refine rn 4 rfl ?_
           obtain ⟨d4, ch, c3⟩ := bd a1; clear a1
           refine sx rfl (o_call (w_9 _ _ _ ch) (.inl rfl) rfl rfl rfl ?_)
           refine rl rfl ?_
           cases c3
           exact npn (wf hA (gi 4 []) rfl rfl rfl)
          .refine rl rfl ?_
           cases c4
           exact npn (wf hA (gi 4 []) rfl rfl rfl)
         .refine cd rfl a2 (fun a3 => ?_) (fun a4 => ?_) <;> clear a2
          .refine rs env_ok <| rl rfl <| dwp_ret <| thenD_r <| inB_r ?_
           obtain ⟨dq, c5, rfl⟩ := mps a3; clear a3
           refine lpt <| inB_r <| thenD_r <| sc_r ?_
           cases c5
           exact er rfl Le.rfl
          .refine dwp_skip <| thenD_n <| rs env_ok <| rn 1 rfl ?_
           refine sx rfl (o_len rfl rfl ?_)
           refine rl rfl <| dwp_block ?_
           apply lp (a := b9) (fun i : (Int × (List Port)) => ⟨170, [(0, lq (netC d)), (3, .lpb 0 0), (5, .p (.map (mapD (.int .i64) (.int .i64) f.1))), (11, lb g.hard), (12, .lsl 1 2 0 i.2.length), (17, .lmap 2), (18, .lpb 3 0), (149, ls 1 intC n), (150, li (n.length : Int)), (151, li i.1)], [(0, .box [li b.frm, li b.to, li b.fin, ls 3 stepC b.steps, ls 2 needC b.needs, ls 2 needC b.guards, ls 1 intC b.zone, ls 1 intC b.holds, lb b.bare]), (1, .row 96 2 (i.2.map portC)), (2, .map (mapD (fun x => .agg (portC x)) .bool (aput c true e.2))), (3, .box [li c.elem, li c.fin])], 4⟩) a4 <;> clear a4
           . exact wf hA (gi 4 []) rfl rfl rfl
           intro i dv s
           unfold q_2f at s
           refine rs env_ok <| rl rfl <| dwp_seq ?_
           refine cd rfl s (fun a5 => ?_) (fun ba => ?_) <;> clear s
           .refine dwp_skip <| thenD_n ?_
            refine jb (fun o : (List Port) => ⟨170, [(0, lq (netC d)), (3, .lpb 0 0), (5, .p (.map (mapD (.int .i64) (.int .i64) f.1))), (11, lb g.hard), (12, .lsl 1 2 0 o.length), (17, .lmap 2), (18, .lpb 3 0), (149, ls 1 intC n), (150, li (n.length : Int)), (151, li i.1)], [(0, .box [li b.frm, li b.to, li b.fin, ls 3 stepC b.steps, ls 2 needC b.needs, ls 2 needC b.guards, ls 1 intC b.zone, ls 1 intC b.holds, lb b.bare]), (1, .row 96 2 (o.map portC)), (2, .map (mapD (fun x => .agg (portC x)) .bool (aput c true e.2))), (3, .box [li c.elem, li c.fin])], 4⟩) a5 (fun o a6 => ?_) (fun o c8 => ?_) <;> clear a5
            .refine dwp_block <| rs env_ok ?_
             obtain ⟨d5, ci, a7⟩ := bd a6; clear a6
             refine sx rfl (o_idx ci rfl rfl rfl ?_)
             refine rl rfl <| rs env_ok <| rn 5 rfl ?_
             obtain ⟨dm, cj, a8⟩ := bd a7; clear a7
             refine sx rfl (o_call (w_2 _ _ _ cj) (.inl rfl) rfl rfl rfl ?_)
             refine rl rfl <| rs env_ok <| rl rfl ?_
             refine cd rfl a8 (fun a9 => ?_) (fun c7 => ?_) <;> clear a8
             .refine rg env_ok <| rn 3 rfl ?_
              obtain ⟨d6, ck, c6⟩ := bd a9; clear a9
              refine sx rfl (o_app1 (enc := portC) (l := i.2) (m := [dm.1]) ck (fun _ => ⟨rfl, rfl⟩) rfl rfl rfl rfl rfl rfl ?_)
              refine rl rfl <| inB_n ?_
              have hr := Option.some.inj c6; subst hr
              exact npn (wf hA [(0, 0), (1, 6), (2, 2), (3, 3)] rfl rfl rfl)
             .refine dwp_skip <| inB_n ?_
              cases c7
              exact npn (wf hA (gi 4 []) rfl rfl rfl)
            .refine rg env_ok <| rl rfl ?_
             cases c8
             exact lpn (wf hA (gi 4 []) rfl rfl rfl)
           .refine dwp_exit <| thenD_x ?_
            obtain ⟨dr, c9, rfl⟩ := mps ba; clear ba
            refine lpx <| inB_x <| inB_n ?_
            cases c9
            exact lpn (wf hA (gi 3 []) rfl rfl rfl)
     .refine dwp_exit <| thenD_x ?_
      obtain ⟨ds, da, rfl⟩ := mps bb; clear bb
      refine lpx <| inB_x <| thenD_n <| rs env_ok <| rl rfl <| dwp_ret <| sc_r ?_
      cases da
      exact er rfl Le.rfl
end Go.E
