/- Plain functions, and walks in step with them. Written by a program (gen.py). No condition. -/
import Derived.Test.YtceolngncngldaaGreatJ3
set_option linter.unusedVariables false
set_option linter.unusedSimpArgs false
set_option maxRecDepth 100000
namespace Go.E
open Go Go.RowKit Go.Proofs

noncomputable def g_plan_Check_2 (x0 : Int) (x1 : Plan) : Option ByteArray :=
  (idx x1.signals x0).bind fun y3 => some y3.name

theorem f_plan_Check_2 (x0 : Int) (x1 : Plan) (r : ByteArray) (h : g_plan_Check_2 x0 x1 = some r) : Fun Tryz.prog 119 [.int .i64 x0, .place (planC x1) 0] (· = .str r) := by
  refine fn env_ok Tryz.func119 rfl rfl 10 rfl [.tmp 3] rfl [(0, .p (.int .i64 x0)), (1, .p (.place (planC x1) 0))] rfl rfl fun A hA => ?_
  unfold g_plan_Check_2 at h
  refine rs env_ok ?_
  refine rl rfl ?_
  refine rs env_ok ?_
  refine rn 3 rfl ?_
  obtain ⟨y3, ey3, h4⟩ := bd h; clear h
  refine sx rfl (o_idx ey3 rfl rfl rfl ?_)
  refine rl rfl ?_
  refine dwp_ret ?_
  have hr := Option.some.inj h4; subst hr
  exact er rfl Le.rfl

noncomputable def g_plan_Check_3 (x0 : Int) (x1 : Plan) : Option ByteArray :=
  (idx x1.lines x0).bind fun y3 => some y3.name

theorem f_plan_Check_3 (x0 : Int) (x1 : Plan) (r : ByteArray) (h : g_plan_Check_3 x0 x1 = some r) : Fun Tryz.prog 120 [.int .i64 x0, .place (planC x1) 0] (· = .str r) := by
  refine fn env_ok Tryz.func120 rfl rfl 10 rfl [.tmp 3] rfl [(0, .p (.int .i64 x0)), (1, .p (.place (planC x1) 0))] rfl rfl fun A hA => ?_
  unfold g_plan_Check_3 at h
  refine rs env_ok ?_
  refine rl rfl ?_
  refine rs env_ok ?_
  refine rn 3 rfl ?_
  obtain ⟨y3, ey3, h4⟩ := bd h; clear h
  refine sx rfl (o_idx ey3 rfl rfl rfl ?_)
  refine rl rfl ?_
  refine dwp_ret ?_
  have hr := Option.some.inj h4; subst hr
  exact er rfl Le.rfl

noncomputable def g_plan_port (x0 : Plan) (x1 : Port) : Option Bool :=
  ((bif decide (0 ≤ x1.elem) then bif decide (x1.elem < (x0.elems.length : Int)) then bif decide (0 ≤ x1.fin) then (idx x0.elems x1.elem).bind fun y16 => (g_plan_Ends y16.kind).bind fun y18 => some (decide (x1.fin < y18)) else some false else some false else some false : Option (Bool))).bind fun (t11 : Bool) => some t11

theorem f_plan_port (x0 : Plan) (x1 : Port) (r : Bool) (h : g_plan_port x0 x1 = some r) : Fun Tryz.prog 148 [.agg (planC x0), .agg (portC x1)] (· = .bool r) := by
  refine fn env_ok Tryz.func148 rfl rfl 34 rfl [.tmp 4] rfl [(0, .p (.agg (planC x0))), (1, .p (.agg (portC x1)))] rfl rfl fun A hA => ?_
  unfold g_plan_port at h
  refine rs env_ok ?_
  refine rl rfl ?_
  refine jb (fun t11 : Bool => ⟨34, [(4, .p (.bool t11))], [], 0⟩) h (fun t11 h12 => ?_) (fun t11 h23 => ?_) <;> clear h
  · refine rgd env_ok mixed [0, 1, 2, 3, 4, 5, 6, 7, 8, 9, 10, 11, 12, 13, 14, 15, 16, 17, 18, 19, 20, 21, 22, 23, 24, 25, 26, 27, 28, 29] 30 (by kernel_rfl) rfl rfl rfl ?_
    refine rnD 4 rfl ?_
    refine gsD 8 h12 rfl rfl rfl (fun h13 => ?_) (fun h22 => ?_) <;> clear h12
    · refine rnD 4 rfl ?_
      refine sxD rfl (o_lenD rfl rfl ?_)
      refine rnD 3 rfl ?_
      refine gsD 16 h13 rfl rfl rfl (fun h14 => ?_) (fun h21 => ?_) <;> clear h13
      · refine rnD 5 rfl ?_
        refine gsD 21 h14 rfl rfl rfl (fun h15 => ?_) (fun h20 => ?_) <;> clear h14
        · refine rnD 6 rfl ?_
          obtain ⟨y16, ey16, h17⟩ := bd h15; clear h15
          refine sxD rfl (opD_plain rfl (o_idx ey16 rfl rfl rfl ?_))
          refine rnD 2 rfl ?_
          obtain ⟨y18, ey18, h19⟩ := bd h17; clear h17
          refine sxD rfl (o_callD (f_plan_Ends _ _ ey18) (.inl rfl) rfl rfl rfl ?_)
          refine rlD rfl ?_
          have hr := Option.some.inj h19; subst hr
          exact npn (wk [] (free hA _) rfl rfl rfl (.cons rfl .nil) .nil)
        · refine rlD rfl ?_
          have hr := Option.some.inj h20; subst hr
          exact npn (wk [] (free hA _) rfl rfl rfl (.cons rfl .nil) .nil)
      · refine rlD rfl ?_
        have hr := Option.some.inj h21; subst hr
        exact npn (wk [] (free hA _) rfl rfl rfl (.cons rfl .nil) .nil)
    · refine rlD rfl ?_
      have hr := Option.some.inj h22; subst hr
      exact npn (wk [] (free hA _) rfl rfl rfl (.cons rfl .nil) .nil)
  · refine dwp_ret ?_
    have hr := Option.some.inj h23; subst hr
    exact er rfl Le.rfl

noncomputable def g_plan_joined_l2 (x0 : Plan) (s392 : (Int × (List (Port × Port)))) (s946 : Int) : Option (Int ⊕ ((List (Port × Port)) × Bool)) :=
  bif decide (s946 < (x0.elems.length : Int)) then seqR (((idx x0.elems s946).bind fun y1082 => bif (y1082.kind != 4) then some (.inl ()) else ((bif (!(assoc s392.2 (⟨s946, 0⟩ : Port)).isSome) then some true else (idx x0.elems (((assoc s392.2 (⟨s946, 0⟩ : Port)).getD (⟨0, 0⟩ : Port)).elem)).bind fun y1096 => some (y1096.kind == 4) : Option (Bool))).bind fun (t1092 : Bool) => bif t1092 then some (.inr (.inr ([], false))) else some (.inl ()) : Option (Unit ⊕ (Int ⊕ ((List (Port × Port)) × Bool))))) fun (t1077 : Unit) => some (.inl (wi64 (s946 + 1))) else some (.inr (s392.2, true))

noncomputable def g_plan_joined_l1 (x0 : Plan) (s392 : Int × (List (Port × Port))) : Option ((Int × (List (Port × Port))) ⊕ ((List (Port × Port)) × Bool)) :=
  bif decide (s392.1 < (x0.joins.length : Int)) then (idx x0.joins s392.1).bind fun y718 => ((bif (assoc s392.2 y718.a).isSome then some true else bif (assoc s392.2 y718.b).isSome then some true else bif (y718.a == y718.b) then some true else (g_plan_port x0 y718.a).bind fun y769 => bif (!y769) then some true else (g_plan_port x0 y718.b).bind fun y773 => some (!y773) : Option (Bool))).bind fun (t761 : Bool) => bif t761 then some (.inr ([], false)) else some (.inl (wi64 (s392.1 + 1), aput y718.b y718.a (aput y718.a y718.b s392.2))) else (loopR (g_plan_joined_l2 x0 s392) 0).map .inr

noncomputable def g_plan_joined (x0 : Plan) : Option ((List (Port × Port)) × Bool) :=
  loopR (g_plan_joined_l1 x0) (0, [])

theorem f_plan_joined (x0 : Plan) (r : ((List (Port × Port)) × Bool)) (h : g_plan_joined x0 = some r) : Fun Tryz.prog 121 [.agg (planC x0)] (· = .tup [.map (mapD (fun x => .agg (portC x)) (fun x => .agg (portC x)) r.1), .bool r.2]) := by
  refine fn env_ok Tryz.func121 rfl rfl 105 rfl [.tmp 2, .tmp 3] rfl [(0, .p (.agg (planC x0)))] rfl rfl fun A hA => ?_
  unfold g_plan_joined at h
  refine rs env_ok ?_
  refine rl rfl ?_
  refine rs env_ok ?_
  refine rl rfl ?_
  refine dwp_seq ?_
  refine rs env_ok ?_
  refine rn 2 rfl ?_
  refine sx rfl (o_len rfl rfl ?_)
  refine rl rfl ?_
  refine dwp_block ?_
  apply lp (a := r) (fun s392 : (Int × (List (Port × Port))) => ⟨105, [(1, .lpb 0 0), (4, .lmap 1), (17, .p (.slice 4 (x0.joins.map joinC))), (18, .p (.int .i64 (x0.joins.length : Int))), (19, .p (.int .i64 s392.1))], [(0, .box [.p (.slice 3 (x0.elems.map elemC)), .p (.slice 4 (x0.joins.map joinC)), .p (.slice 4 (x0.signals.map signalC)), .p (.slice 2 (x0.lines.map lineC)), .p (.int .i64 x0.top), .p (.int .i64 x0.brake), .p (.int .i64 x0.margin), .p (.int .i64 x0.throw), .p (.bool x0.hard)]), (1, .map (mapD (fun x => .agg (portC x)) (fun x => .agg (portC x)) s392.2))], 2⟩) h <;> clear h
  · exact wk [(0, 0), (1, 1)] (free hA _) rfl rfl rfl (.cons rfl (.cons rfl (.cons rfl (.cons rfl (.cons rfl .nil))))) (.cons rfl rfl (.cons rfl rfl .nil))
  intro s392 b649 h650
  unfold g_plan_joined_l1 at h650
  refine rs env_ok ?_
  refine rl rfl ?_
  refine dwp_seq ?_
  refine cd rfl h650 (fun h653 => ?_) (fun h780 => ?_) <;> clear h650
  · refine dwp_skip ?_
    refine thenD_n ?_
    refine dwp_seq ?_
    refine dwp_block ?_
    refine rs env_ok ?_
    obtain ⟨y718, ey718, h719⟩ := bd h653; clear h653
    refine sx rfl (o_idx ey718 rfl rfl rfl ?_)
    refine rl rfl ?_
    refine rs env_ok ?_
    refine rn 3 rfl ?_
    refine sx rfl (o_lk2 (et := 42) (ke := (fun x => .agg (portC x))) (ve := (fun x => .agg (portC x))) (mp := s392.2) (y := y718.a) (⟨0, 0⟩ : Port) keyE_42 rfl rfl rfl rfl ?_)
    refine rl rfl ?_
    refine rs env_ok ?_
    refine rn 3 rfl ?_
    refine sx rfl (o_lk2 (et := 42) (ke := (fun x => .agg (portC x))) (ve := (fun x => .agg (portC x))) (mp := s392.2) (y := y718.b) (⟨0, 0⟩ : Port) keyE_42 rfl rfl rfl rfl ?_)
    refine rl rfl ?_
    refine dwp_seq ?_
    refine jb (fun t761 : Bool => ⟨105, [(1, .lpb 0 0), (4, .lmap 1), (6, .lpb 2 0), (17, .p (.slice 4 (x0.joins.map joinC))), (18, .p (.int .i64 (x0.joins.length : Int))), (19, .p (.int .i64 s392.1)), (61, .p (.bool t761))], [(0, .box [.p (.slice 3 (x0.elems.map elemC)), .p (.slice 4 (x0.joins.map joinC)), .p (.slice 4 (x0.signals.map signalC)), .p (.slice 2 (x0.lines.map lineC)), .p (.int .i64 x0.top), .p (.int .i64 x0.brake), .p (.int .i64 x0.margin), .p (.int .i64 x0.throw), .p (.bool x0.hard)]), (1, .map (mapD (fun x => .agg (portC x)) (fun x => .agg (portC x)) s392.2)), (2, .box [.p (.int .i64 y718.a.elem), .p (.int .i64 y718.a.fin), .p (.int .i64 y718.b.elem), .p (.int .i64 y718.b.fin)])], 3⟩) h719 (fun t761 h762 => ?_) (fun t761 h775 => ?_) <;> clear h719
    · refine rg env_ok ?_
      refine rn 2 rfl ?_
      refine gs 38 h762 rfl rfl rfl (fun h763 => ?_) (fun h764 => ?_) <;> clear h762
      · refine rl rfl ?_
        have hr := Option.some.inj h763; subst hr
        exact npn (wk [(0, 0), (1, 1), (2, 2)] (free hA _) rfl rfl rfl (.cons rfl (.cons rfl (.cons rfl (.cons rfl (.cons rfl (.cons rfl (.cons rfl .nil))))))) (.cons rfl rfl (.cons rfl rfl (.cons rfl rfl .nil))))
      · refine rn 3 rfl ?_
        refine gs 41 h764 rfl rfl rfl (fun h765 => ?_) (fun h766 => ?_) <;> clear h764
        · refine rl rfl ?_
          have hr := Option.some.inj h765; subst hr
          exact npn (wk [(0, 0), (1, 1), (2, 2)] (free hA _) rfl rfl rfl (.cons rfl (.cons rfl (.cons rfl (.cons rfl (.cons rfl (.cons rfl (.cons rfl .nil))))))) (.cons rfl rfl (.cons rfl rfl (.cons rfl rfl .nil))))
        · refine rn 4 rfl ?_
          refine sx rfl (o_eqA (eqE_Port y718.a y718.b) rfl rfl rfl rfl rfl ?_)
          refine rn 2 rfl ?_
          refine gs 48 h766 rfl rfl rfl (fun h767 => ?_) (fun h768 => ?_) <;> clear h766
          · refine rl rfl ?_
            have hr := Option.some.inj h767; subst hr
            exact npn (wk [(0, 0), (1, 1), (2, 2)] (free hA _) rfl rfl rfl (.cons rfl (.cons rfl (.cons rfl (.cons rfl (.cons rfl (.cons rfl (.cons rfl .nil))))))) (.cons rfl rfl (.cons rfl rfl (.cons rfl rfl .nil))))
          · refine rn 3 rfl ?_
            obtain ⟨y769, ey769, h770⟩ := bd h768; clear h768
            refine sx rfl (o_call (f_plan_port _ _ _ ey769) (.inl rfl) rfl rfl rfl ?_)
            refine rn 3 rfl ?_
            refine gs 55 h770 rfl rfl rfl (fun h771 => ?_) (fun h772 => ?_) <;> clear h770
            · refine rl rfl ?_
              have hr := Option.some.inj h771; subst hr
              exact npn (wk [(0, 0), (1, 1), (2, 2)] (free hA _) rfl rfl rfl (.cons rfl (.cons rfl (.cons rfl (.cons rfl (.cons rfl (.cons rfl (.cons rfl .nil))))))) (.cons rfl rfl (.cons rfl rfl (.cons rfl rfl .nil))))
            · refine rn 3 rfl ?_
              obtain ⟨y773, ey773, h774⟩ := bd h772; clear h772
              refine sx rfl (o_call (f_plan_port _ _ _ ey773) (.inl rfl) rfl rfl rfl ?_)
              refine rl rfl ?_
              have hr := Option.some.inj h774; subst hr
              exact npn (wk [(0, 0), (1, 1), (2, 2)] (free hA _) rfl rfl rfl (.cons rfl (.cons rfl (.cons rfl (.cons rfl (.cons rfl (.cons rfl (.cons rfl .nil))))))) (.cons rfl rfl (.cons rfl rfl (.cons rfl rfl .nil))))
    · refine cd rfl h775 (fun h776 => ?_) (fun h779 => ?_) <;> clear h775
      · refine rs env_ok ?_
        refine rl rfl ?_
        refine dwp_ret ?_
        refine thenD_r ?_
        refine inB_r ?_
        refine thenD_r ?_
        obtain ⟨a777, h778, rfl⟩ := mps h776; clear h776
        refine lpt ?_
        refine inB_r ?_
        refine thenD_r ?_
        have hr := Option.some.inj h778; subst hr
        exact er rfl (Le.tup' (.cons Le.nilm (.cons Le.rfl .nil)))
      · refine dwp_skip ?_
        refine thenD_n ?_
        refine rgd env_ok mixed [0, 1, 2, 3, 4, 5, 6, 7, 8, 9, 10, 11] 12 (by kernel_rfl) rfl rfl rfl ?_
        refine rnD 10 rfl ?_
        refine sxD rfl (opD_plain rfl (o_mup (et := 42) (ke := (fun x => .agg (portC x))) (ve := (fun x => .agg (portC x))) (mp := s392.2) (y := y718.a) (z := y718.b) keyE_42 rfl rfl rfl rfl rfl rfl ?_))
        refine sxD rfl (opD_plain rfl (o_mup (et := 42) (ke := (fun x => .agg (portC x))) (ve := (fun x => .agg (portC x))) (mp := aput y718.a y718.b s392.2) (y := y718.b) (z := y718.a) keyE_42 rfl rfl rfl rfl rfl rfl ?_))
        refine rlD rfl ?_
        refine inB_n ?_
        refine thenD_n ?_
        refine rg env_ok ?_
        refine rl rfl ?_
        have hr := Option.some.inj h779; subst hr
        exact lpn (wk [(0, 0), (1, 1)] (free hA _) rfl rfl rfl (.cons rfl (.cons rfl (.cons rfl (.cons rfl (.cons rfl .nil))))) (.cons rfl rfl (.cons rfl rfl .nil)))
  · refine dwp_exit ?_
    refine thenD_x ?_
    obtain ⟨a781, h782, rfl⟩ := mp h780; clear h780
    refine lpx ?_
    refine inB_x ?_
    refine thenD_n ?_
    refine dwp_seq ?_
    refine rs env_ok ?_
    refine rn 2 rfl ?_
    refine sx rfl (o_len rfl rfl ?_)
    refine rl rfl ?_
    refine dwp_block ?_
    apply lp (a := a781) (fun s946 : Int => ⟨105, [(1, .lpb 0 0), (4, .lmap 1), (74, .p (.slice 3 (x0.elems.map elemC))), (75, .p (.int .i64 (x0.elems.length : Int))), (76, .p (.int .i64 s946))], [(0, .box [.p (.slice 3 (x0.elems.map elemC)), .p (.slice 4 (x0.joins.map joinC)), .p (.slice 4 (x0.signals.map signalC)), .p (.slice 2 (x0.lines.map lineC)), .p (.int .i64 x0.top), .p (.int .i64 x0.brake), .p (.int .i64 x0.margin), .p (.int .i64 x0.throw), .p (.bool x0.hard)]), (1, .map (mapD (fun x => .agg (portC x)) (fun x => .agg (portC x)) s392.2))], 2⟩) h782 <;> clear h782
    · exact wk [(0, 0), (1, 1)] (free hA _) rfl rfl rfl (.cons rfl (.cons rfl (.cons rfl (.cons rfl (.cons rfl .nil))))) (.cons rfl rfl (.cons rfl rfl .nil))
    intro s946 b1051 h1052
    unfold g_plan_joined_l2 at h1052
    refine rs env_ok ?_
    refine rl rfl ?_
    refine dwp_seq ?_
    refine cd rfl h1052 (fun h1055 => ?_) (fun h1106 => ?_) <;> clear h1052
    · refine dwp_skip ?_
      refine thenD_n ?_
      apply jn (a := b1051) (fun t1077 : Unit => ⟨105, [(1, .lpb 0 0), (4, .lmap 1), (74, .p (.slice 3 (x0.elems.map elemC))), (75, .p (.int .i64 (x0.elems.length : Int))), (76, .p (.int .i64 s946))], [(0, .box [.p (.slice 3 (x0.elems.map elemC)), .p (.slice 4 (x0.joins.map joinC)), .p (.slice 4 (x0.signals.map signalC)), .p (.slice 2 (x0.lines.map lineC)), .p (.int .i64 x0.top), .p (.int .i64 x0.brake), .p (.int .i64 x0.margin), .p (.int .i64 x0.throw), .p (.bool x0.hard)]), (1, .map (mapD (fun x => .agg (portC x)) (fun x => .agg (portC x)) s392.2))], 2⟩) h1055 <;> clear h1055
      · intro b1078 h1079
        refine dwp_block ?_
        refine rs env_ok ?_
        refine rn 1 rfl ?_
        obtain ⟨y1082, ey1082, h1083⟩ := bd h1079; clear h1079
        refine sx rfl (o_idx ey1082 rfl rfl rfl ?_)
        refine rl rfl ?_
        refine dwp_seq ?_
        refine rs env_ok ?_
        refine rl rfl ?_
        refine cd rfl h1083 (fun h1086 => ?_) (fun h1087 => ?_) <;> clear h1083
        · refine dwp_exit ?_
          refine thenD_x ?_
          refine inB_x ?_
          have hr := Option.some.inj h1086; subst hr
          exact lpn (wk [(0, 0), (1, 1)] (free hA _) rfl rfl rfl (.cons rfl (.cons rfl (.cons rfl (.cons rfl (.cons rfl .nil))))) (.cons rfl rfl (.cons rfl rfl .nil)))
        · refine dwp_skip ?_
          refine thenD_n ?_
          refine rs env_ok ?_
          refine rn 3 rfl ?_
          refine sx rfl (o_lk2 (et := 42) (ke := (fun x => .agg (portC x))) (ve := (fun x => .agg (portC x))) (mp := s392.2) (y := (⟨s946, 0⟩ : Port)) (⟨0, 0⟩ : Port) keyE_42 rfl rfl rfl rfl ?_)
          refine rl rfl ?_
          refine jb (fun t1092 : Bool => ⟨105, [(1, .lpb 0 0), (4, .lmap 1), (74, .p (.slice 3 (x0.elems.map elemC))), (75, .p (.int .i64 (x0.elems.length : Int))), (76, .p (.int .i64 s946)), (102, .p (.bool t1092))], [(0, .box [.p (.slice 3 (x0.elems.map elemC)), .p (.slice 4 (x0.joins.map joinC)), .p (.slice 4 (x0.signals.map signalC)), .p (.slice 2 (x0.lines.map lineC)), .p (.int .i64 x0.top), .p (.int .i64 x0.brake), .p (.int .i64 x0.margin), .p (.int .i64 x0.throw), .p (.bool x0.hard)]), (1, .map (mapD (fun x => .agg (portC x)) (fun x => .agg (portC x)) s392.2))], 2⟩) h1087 (fun t1092 h1093 => ?_) (fun t1092 h1098 => ?_) <;> clear h1087
          · refine rg env_ok ?_
            refine rn 3 rfl ?_
            refine gs 93 h1093 rfl rfl rfl (fun h1094 => ?_) (fun h1095 => ?_) <;> clear h1093
            · refine rl rfl ?_
              have hr := Option.some.inj h1094; subst hr
              exact npn (wk [(0, 0), (1, 1)] (free hA _) rfl rfl rfl (.cons rfl (.cons rfl (.cons rfl (.cons rfl (.cons rfl (.cons rfl .nil)))))) (.cons rfl rfl (.cons rfl rfl .nil)))
            · refine rn 4 rfl ?_
              obtain ⟨y1096, ey1096, h1097⟩ := bd h1095; clear h1095
              refine sx rfl (o_idx ey1096 rfl rfl rfl ?_)
              refine rl rfl ?_
              have hr := Option.some.inj h1097; subst hr
              exact npn (wk [(0, 0), (1, 1)] (free hA _) rfl rfl rfl (.cons rfl (.cons rfl (.cons rfl (.cons rfl (.cons rfl (.cons rfl .nil)))))) (.cons rfl rfl (.cons rfl rfl .nil)))
          · refine cd rfl h1098 (fun h1099 => ?_) (fun h1104 => ?_) <;> clear h1098
            · refine rs env_ok ?_
              refine rl rfl ?_
              refine dwp_ret ?_
              refine inB_r ?_
              obtain ⟨a1100, h1101, rfl⟩ := mps h1099; clear h1099
              refine lpt ?_
              obtain ⟨a1102, h1103, rfl⟩ := mps h1101; clear h1101
              refine lpt ?_
              refine inB_r ?_
              refine thenD_r ?_
              have hr := Option.some.inj h1103; subst hr
              exact er rfl (Le.tup' (.cons Le.nilm (.cons Le.rfl .nil)))
            · refine dwp_skip ?_
              refine inB_n ?_
              have hr := Option.some.inj h1104; subst hr
              exact lpn (wk [(0, 0), (1, 1)] (free hA _) rfl rfl rfl (.cons rfl (.cons rfl (.cons rfl (.cons rfl (.cons rfl .nil))))) (.cons rfl rfl (.cons rfl rfl .nil)))
      · intro t1077 h1105
        refine rg env_ok ?_
        refine rl rfl ?_
        have hr := Option.some.inj h1105; subst hr
        exact lpn (wk [(0, 0), (1, 1)] (free hA _) rfl rfl rfl (.cons rfl (.cons rfl (.cons rfl (.cons rfl (.cons rfl .nil))))) (.cons rfl rfl (.cons rfl rfl .nil)))
    · refine dwp_exit ?_
      refine thenD_x ?_
      obtain ⟨a1107, h1108, rfl⟩ := mps h1106; clear h1106
      refine lpx ?_
      refine inB_x ?_
      refine thenD_n ?_
      refine rs env_ok ?_
      refine rl rfl ?_
      refine dwp_ret ?_
      have hr := Option.some.inj h1108; subst hr
      exact er (rdN rfl (.cons (.one (.map rfl)) (.cons (.one (.p _)) .nil))) Le.rfl

noncomputable def g_plan_signals_l2 (x0 : Plan) (s516 : (Int × (List (Port × Bool)))) (s1128 : Int) : Option (Int ⊕ Bool) :=
  bif decide (s1128 < (x0.elems.length : Int)) then (idx x0.elems s1128).bind fun y1209 => ((bif (y1209.kind == 4) then some (!((assoc s516.2 (⟨s1128, 0⟩ : Port)).getD false)) else some false : Option (Bool))).bind fun (t1213 : Bool) => bif t1213 then some (.inr false) else some (.inl (wi64 (s1128 + 1))) else some (.inr true)

noncomputable def g_plan_signals_l1 (x0 : Plan) (x1 : (List (Port × Port))) (s516 : Int × (List (Port × Bool))) : Option ((Int × (List (Port × Bool))) ⊕ Bool) :=
  bif decide (s516.1 < (x0.signals.length : Int)) then (idx x0.signals s516.1).bind fun y942 => (((g_plan_port x0 y942.at_).bind fun y963 => bif (!y963) then some true else some ((assoc s516.2 y942.at_).getD false) : Option (Bool))).bind fun (t961 : Bool) => bif t961 then some (.inr false) else (idx x0.elems y942.at_.elem).bind fun y987 => ((bif (y987.kind != 1) then some (y987.kind != 4) else some false : Option (Bool))).bind fun (t991 : Bool) => bif t991 then some (.inr false) else ((bif (!(assoc x1 y942.at_).isSome) then some true else (idx x0.elems (((assoc x1 y942.at_).getD (⟨0, 0⟩ : Port)).elem)).bind fun y1021 => some (y1021.kind == 4) : Option (Bool))).bind fun (t1017 : Bool) => bif t1017 then some (.inr false) else some (.inl (wi64 (s516.1 + 1), aput y942.at_ true s516.2)) else (loopR (g_plan_signals_l2 x0 s516) 0).map .inr

noncomputable def g_plan_signals (x0 : Plan) (x1 : (List (Port × Port))) : Option Bool :=
  loopR (g_plan_signals_l1 x0 x1) (0, [])

theorem f_plan_signals (x0 : Plan) (x1 : (List (Port × Port))) (r : Bool) (h : g_plan_signals x0 x1 = some r) : Fun Tryz.prog 122 [.agg (planC x0), .map (mapD (fun x => .agg (portC x)) (fun x => .agg (portC x)) x1)] (· = .bool r) := by
  refine fn env_ok Tryz.func122 rfl rfl 88 rfl [.tmp 4] rfl [(0, .p (.agg (planC x0))), (1, .p (.map (mapD (fun x => .agg (portC x)) (fun x => .agg (portC x)) x1)))] rfl rfl fun A hA => ?_
  unfold g_plan_signals at h
  refine rs env_ok ?_
  refine rl rfl ?_
  refine rs env_ok ?_
  refine rl rfl ?_
  refine dwp_seq ?_
  refine rs env_ok ?_
  refine rn 2 rfl ?_
  refine sx rfl (o_len rfl rfl ?_)
  refine rl rfl ?_
  refine dwp_block ?_
  apply lp (a := r) (fun s516 : (Int × (List (Port × Bool))) => ⟨88, [(1, .p (.map (mapD (fun x => .agg (portC x)) (fun x => .agg (portC x)) x1))), (2, .lpb 0 0), (5, .lmap 1), (15, .p (.slice 4 (x0.signals.map signalC))), (16, .p (.int .i64 (x0.signals.length : Int))), (17, .p (.int .i64 s516.1))], [(0, .box [.p (.slice 3 (x0.elems.map elemC)), .p (.slice 4 (x0.joins.map joinC)), .p (.slice 4 (x0.signals.map signalC)), .p (.slice 2 (x0.lines.map lineC)), .p (.int .i64 x0.top), .p (.int .i64 x0.brake), .p (.int .i64 x0.margin), .p (.int .i64 x0.throw), .p (.bool x0.hard)]), (1, .map (mapD (fun x => .agg (portC x)) .bool s516.2))], 2⟩) h <;> clear h
  · exact wk [(0, 0), (1, 1)] (free hA _) rfl rfl rfl (.cons rfl (.cons rfl (.cons rfl (.cons rfl (.cons rfl (.cons rfl .nil)))))) (.cons rfl rfl (.cons rfl rfl .nil))
  intro s516 b853 h854
  unfold g_plan_signals_l1 at h854
  refine rs env_ok ?_
  refine rl rfl ?_
  refine dwp_seq ?_
  refine cd rfl h854 (fun h857 => ?_) (fun h1028 => ?_) <;> clear h854
  · refine dwp_skip ?_
    refine thenD_n ?_
    refine dwp_seq ?_
    refine dwp_block ?_
    refine rs env_ok ?_
    obtain ⟨y942, ey942, h943⟩ := bd h857; clear h857
    refine sx rfl (o_idx ey942 rfl rfl rfl ?_)
    refine rl rfl ?_
    refine dwp_seq ?_
    refine jb (fun t961 : Bool => ⟨88, [(1, .p (.map (mapD (fun x => .agg (portC x)) (fun x => .agg (portC x)) x1))), (2, .lpb 0 0), (5, .lmap 1), (7, .lpb 2 0), (15, .p (.slice 4 (x0.signals.map signalC))), (16, .p (.int .i64 (x0.signals.length : Int))), (17, .p (.int .i64 s516.1)), (31, .p (.bool t961))], [(0, .box [.p (.slice 3 (x0.elems.map elemC)), .p (.slice 4 (x0.joins.map joinC)), .p (.slice 4 (x0.signals.map signalC)), .p (.slice 2 (x0.lines.map lineC)), .p (.int .i64 x0.top), .p (.int .i64 x0.brake), .p (.int .i64 x0.margin), .p (.int .i64 x0.throw), .p (.bool x0.hard)]), (1, .map (mapD (fun x => .agg (portC x)) .bool s516.2)), (2, .box [.p (.str y942.name), .p (.int .i64 y942.at_.elem), .p (.int .i64 y942.at_.fin), .p (.bool y942.auto)])], 3⟩) h943 (fun t961 h962 => ?_) (fun t961 h967 => ?_) <;> clear h943
    · refine rg env_ok ?_
      refine rn 3 rfl ?_
      obtain ⟨y963, ey963, h964⟩ := bd h962; clear h962
      refine sx rfl (o_call (f_plan_port _ _ _ ey963) (.inl rfl) rfl rfl rfl ?_)
      refine rn 2 rfl ?_
      refine gs 26 h964 rfl rfl rfl (fun h965 => ?_) (fun h966 => ?_) <;> clear h964
      · refine rl rfl ?_
        have hr := Option.some.inj h965; subst hr
        exact npn (wk [(0, 0), (1, 1), (2, 2)] (free hA _) rfl rfl rfl (.cons rfl (.cons rfl (.cons rfl (.cons rfl (.cons rfl (.cons rfl (.cons rfl (.cons rfl .nil)))))))) (.cons rfl rfl (.cons rfl rfl (.cons rfl rfl .nil))))
      · refine rn 3 rfl ?_
        refine sx rfl (o_lk1 (et := 4) (ke := (fun x => .agg (portC x))) (ve := .bool) (mp := s516.2) (y := y942.at_) false keyE_42 rfl rfl rfl rfl ?_)
        refine rl rfl ?_
        have hr := Option.some.inj h966; subst hr
        exact npn (wk [(0, 0), (1, 1), (2, 2)] (free hA _) rfl rfl rfl (.cons rfl (.cons rfl (.cons rfl (.cons rfl (.cons rfl (.cons rfl (.cons rfl (.cons rfl .nil)))))))) (.cons rfl rfl (.cons rfl rfl (.cons rfl rfl .nil))))
    · refine cd rfl h967 (fun h968 => ?_) (fun h971 => ?_) <;> clear h967
      · refine rs env_ok ?_
        refine rl rfl ?_
        refine dwp_ret ?_
        refine thenD_r ?_
        refine inB_r ?_
        refine thenD_r ?_
        obtain ⟨a969, h970, rfl⟩ := mps h968; clear h968
        refine lpt ?_
        refine inB_r ?_
        refine thenD_r ?_
        have hr := Option.some.inj h970; subst hr
        exact er rfl Le.rfl
      · refine dwp_skip ?_
        refine thenD_n ?_
        refine dwp_seq ?_
        refine rs env_ok ?_
        refine rn 5 rfl ?_
        obtain ⟨y987, ey987, h988⟩ := bd h971; clear h971
        refine sx rfl (o_idx ey987 rfl rfl rfl ?_)
        refine rl rfl ?_
        refine jb (fun t991 : Bool => ⟨88, [(1, .p (.map (mapD (fun x => .agg (portC x)) (fun x => .agg (portC x)) x1))), (2, .lpb 0 0), (5, .lmap 1), (7, .lpb 2 0), (15, .p (.slice 4 (x0.signals.map signalC))), (16, .p (.int .i64 (x0.signals.length : Int))), (17, .p (.int .i64 s516.1)), (45, .p (.bool t991))], [(0, .box [.p (.slice 3 (x0.elems.map elemC)), .p (.slice 4 (x0.joins.map joinC)), .p (.slice 4 (x0.signals.map signalC)), .p (.slice 2 (x0.lines.map lineC)), .p (.int .i64 x0.top), .p (.int .i64 x0.brake), .p (.int .i64 x0.margin), .p (.int .i64 x0.throw), .p (.bool x0.hard)]), (1, .map (mapD (fun x => .agg (portC x)) .bool s516.2)), (2, .box [.p (.str y942.name), .p (.int .i64 y942.at_.elem), .p (.int .i64 y942.at_.fin), .p (.bool y942.auto)])], 3⟩) h988 (fun t991 h992 => ?_) (fun t991 h995 => ?_) <;> clear h988
        · refine rg env_ok ?_
          refine rn 3 rfl ?_
          refine gs 42 h992 rfl rfl rfl (fun h993 => ?_) (fun h994 => ?_) <;> clear h992
          · refine rl rfl ?_
            have hr := Option.some.inj h993; subst hr
            exact npn (wk [(0, 0), (1, 1), (2, 2)] (free hA _) rfl rfl rfl (.cons rfl (.cons rfl (.cons rfl (.cons rfl (.cons rfl (.cons rfl (.cons rfl (.cons rfl .nil)))))))) (.cons rfl rfl (.cons rfl rfl (.cons rfl rfl .nil))))
          · refine rl rfl ?_
            have hr := Option.some.inj h994; subst hr
            exact npn (wk [(0, 0), (1, 1), (2, 2)] (free hA _) rfl rfl rfl (.cons rfl (.cons rfl (.cons rfl (.cons rfl (.cons rfl (.cons rfl (.cons rfl (.cons rfl .nil)))))))) (.cons rfl rfl (.cons rfl rfl (.cons rfl rfl .nil))))
        · refine cd rfl h995 (fun h996 => ?_) (fun h999 => ?_) <;> clear h995
          · refine rs env_ok ?_
            refine rl rfl ?_
            refine dwp_ret ?_
            refine thenD_r ?_
            refine inB_r ?_
            refine thenD_r ?_
            obtain ⟨a997, h998, rfl⟩ := mps h996; clear h996
            refine lpt ?_
            refine inB_r ?_
            refine thenD_r ?_
            have hr := Option.some.inj h998; subst hr
            exact er rfl Le.rfl
          · refine dwp_skip ?_
            refine thenD_n ?_
            refine rs env_ok ?_
            refine rn 3 rfl ?_
            refine sx rfl (o_lk2 (et := 42) (ke := (fun x => .agg (portC x))) (ve := (fun x => .agg (portC x))) (mp := x1) (y := y942.at_) (⟨0, 0⟩ : Port) keyE_42 rfl rfl rfl rfl ?_)
            refine rl rfl ?_
            refine dwp_seq ?_
            refine jb (fun t1017 : Bool => ⟨88, [(1, .p (.map (mapD (fun x => .agg (portC x)) (fun x => .agg (portC x)) x1))), (2, .lpb 0 0), (5, .lmap 1), (7, .lpb 2 0), (15, .p (.slice 4 (x0.signals.map signalC))), (16, .p (.int .i64 (x0.signals.length : Int))), (17, .p (.int .i64 s516.1)), (64, .p (.bool t1017))], [(0, .box [.p (.slice 3 (x0.elems.map elemC)), .p (.slice 4 (x0.joins.map joinC)), .p (.slice 4 (x0.signals.map signalC)), .p (.slice 2 (x0.lines.map lineC)), .p (.int .i64 x0.top), .p (.int .i64 x0.brake), .p (.int .i64 x0.margin), .p (.int .i64 x0.throw), .p (.bool x0.hard)]), (1, .map (mapD (fun x => .agg (portC x)) .bool s516.2)), (2, .box [.p (.str y942.name), .p (.int .i64 y942.at_.elem), .p (.int .i64 y942.at_.fin), .p (.bool y942.auto)])], 3⟩) h999 (fun t1017 h1018 => ?_) (fun t1017 h1023 => ?_) <;> clear h999
            · refine rg env_ok ?_
              refine rn 3 rfl ?_
              refine gs 55 h1018 rfl rfl rfl (fun h1019 => ?_) (fun h1020 => ?_) <;> clear h1018
              · refine rl rfl ?_
                have hr := Option.some.inj h1019; subst hr
                exact npn (wk [(0, 0), (1, 1), (2, 2)] (free hA _) rfl rfl rfl (.cons rfl (.cons rfl (.cons rfl (.cons rfl (.cons rfl (.cons rfl (.cons rfl (.cons rfl .nil)))))))) (.cons rfl rfl (.cons rfl rfl (.cons rfl rfl .nil))))
              · refine rn 4 rfl ?_
                obtain ⟨y1021, ey1021, h1022⟩ := bd h1020; clear h1020
                refine sx rfl (o_idx ey1021 rfl rfl rfl ?_)
                refine rl rfl ?_
                have hr := Option.some.inj h1022; subst hr
                exact npn (wk [(0, 0), (1, 1), (2, 2)] (free hA _) rfl rfl rfl (.cons rfl (.cons rfl (.cons rfl (.cons rfl (.cons rfl (.cons rfl (.cons rfl (.cons rfl .nil)))))))) (.cons rfl rfl (.cons rfl rfl (.cons rfl rfl .nil))))
            · refine cd rfl h1023 (fun h1024 => ?_) (fun h1027 => ?_) <;> clear h1023
              · refine rs env_ok ?_
                refine rl rfl ?_
                refine dwp_ret ?_
                refine thenD_r ?_
                refine inB_r ?_
                refine thenD_r ?_
                obtain ⟨a1025, h1026, rfl⟩ := mps h1024; clear h1024
                refine lpt ?_
                refine inB_r ?_
                refine thenD_r ?_
                have hr := Option.some.inj h1026; subst hr
                exact er rfl Le.rfl
              · refine dwp_skip ?_
                refine thenD_n ?_
                refine rg env_ok ?_
                refine rn 3 rfl ?_
                refine sx rfl (o_mup (et := 4) (ke := (fun x => .agg (portC x))) (ve := .bool) (mp := s516.2) (y := y942.at_) (z := true) keyE_42 rfl rfl rfl rfl rfl rfl ?_)
                refine rl rfl ?_
                refine inB_n ?_
                refine thenD_n ?_
                refine rg env_ok ?_
                refine rl rfl ?_
                have hr := Option.some.inj h1027; subst hr
                exact lpn (wk [(0, 0), (1, 1)] (free hA _) rfl rfl rfl (.cons rfl (.cons rfl (.cons rfl (.cons rfl (.cons rfl (.cons rfl .nil)))))) (.cons rfl rfl (.cons rfl rfl .nil)))
  · refine dwp_exit ?_
    refine thenD_x ?_
    obtain ⟨a1029, h1030, rfl⟩ := mp h1028; clear h1028
    refine lpx ?_
    refine inB_x ?_
    refine thenD_n ?_
    refine dwp_seq ?_
    refine rs env_ok ?_
    refine rn 2 rfl ?_
    refine sx rfl (o_len rfl rfl ?_)
    refine rl rfl ?_
    refine dwp_block ?_
    apply lp (a := a1029) (fun s1128 : Int => ⟨88, [(5, .lmap 0), (70, .p (.slice 3 (x0.elems.map elemC))), (71, .p (.int .i64 (x0.elems.length : Int))), (72, .p (.int .i64 s1128))], [(0, .map (mapD (fun x => .agg (portC x)) .bool s516.2))], 1⟩) h1030 <;> clear h1030
    · exact wk [(0, 1)] (free hA _) rfl rfl rfl (.cons rfl (.cons rfl (.cons rfl (.cons rfl .nil)))) (.cons rfl rfl .nil)
    intro s1128 b1189 h1190
    unfold g_plan_signals_l2 at h1190
    refine rs env_ok ?_
    refine rl rfl ?_
    refine dwp_seq ?_
    refine cd rfl h1190 (fun h1193 => ?_) (fun h1222 => ?_) <;> clear h1190
    · refine dwp_skip ?_
      refine thenD_n ?_
      refine dwp_seq ?_
      refine dwp_block ?_
      refine rs env_ok ?_
      refine rn 1 rfl ?_
      obtain ⟨y1209, ey1209, h1210⟩ := bd h1193; clear h1193
      refine sx rfl (o_idx ey1209 rfl rfl rfl ?_)
      refine rl rfl ?_
      refine jb (fun t1213 : Bool => ⟨88, [(5, .lmap 0), (70, .p (.slice 3 (x0.elems.map elemC))), (71, .p (.int .i64 (x0.elems.length : Int))), (72, .p (.int .i64 s1128)), (86, .p (.bool t1213))], [(0, .map (mapD (fun x => .agg (portC x)) .bool s516.2))], 1⟩) h1210 (fun t1213 h1214 => ?_) (fun t1213 h1217 => ?_) <;> clear h1210
      · refine rg env_ok ?_
        refine rn 4 rfl ?_
        refine gs 80 h1214 rfl rfl rfl (fun h1215 => ?_) (fun h1216 => ?_) <;> clear h1214
        · refine rn 3 rfl ?_
          refine sx rfl (o_lk1 (et := 4) (ke := (fun x => .agg (portC x))) (ve := .bool) (mp := s516.2) (y := (⟨s1128, 0⟩ : Port)) false keyE_42 rfl rfl rfl rfl ?_)
          refine rl rfl ?_
          have hr := Option.some.inj h1215; subst hr
          exact npn (wk [(0, 0)] (free hA _) rfl rfl rfl (.cons rfl (.cons rfl (.cons rfl (.cons rfl (.cons rfl .nil))))) (.cons rfl rfl .nil))
        · refine rl rfl ?_
          have hr := Option.some.inj h1216; subst hr
          exact npn (wk [(0, 0)] (free hA _) rfl rfl rfl (.cons rfl (.cons rfl (.cons rfl (.cons rfl (.cons rfl .nil))))) (.cons rfl rfl .nil))
      · refine cd rfl h1217 (fun h1218 => ?_) (fun h1221 => ?_) <;> clear h1217
        · refine rs env_ok ?_
          refine rl rfl ?_
          refine dwp_ret ?_
          refine inB_r ?_
          refine thenD_r ?_
          obtain ⟨a1219, h1220, rfl⟩ := mps h1218; clear h1218
          refine lpt ?_
          refine inB_r ?_
          refine thenD_r ?_
          have hr := Option.some.inj h1220; subst hr
          exact er rfl Le.rfl
        · refine dwp_skip ?_
          refine inB_n ?_
          refine thenD_n ?_
          refine rg env_ok ?_
          refine rl rfl ?_
          have hr := Option.some.inj h1221; subst hr
          exact lpn (wk [(0, 0)] (free hA _) rfl rfl rfl (.cons rfl (.cons rfl (.cons rfl (.cons rfl .nil)))) (.cons rfl rfl .nil))
    · refine dwp_exit ?_
      refine thenD_x ?_
      obtain ⟨a1223, h1224, rfl⟩ := mps h1222; clear h1222
      refine lpx ?_
      refine inB_x ?_
      refine thenD_n ?_
      refine rs env_ok ?_
      refine rl rfl ?_
      refine dwp_ret ?_
      have hr := Option.some.inj h1224; subst hr
      exact er rfl Le.rfl

noncomputable def g_plan_row_l2 (x0 : (List Int)) (x1 : (List (Port × Port))) (s464 : Int × Int) : Option ((Int × Int) ⊕ Bool) :=
  bif decide (s464.2 < (x0.length : Int)) then (idx x0 (wi64 (s464.2 - 1))).bind fun y630 => ((bif (!(assoc x1 (⟨y630, s464.1⟩ : Port)).isSome) then some true else (idx x0 s464.2).bind fun y653 => some ((((assoc x1 (⟨y630, s464.1⟩ : Port)).getD (⟨0, 0⟩ : Port)).elem) != y653) : Option (Bool))).bind fun (t649 : Bool) => bif t649 then some (.inr false) else some (.inl (wi64 (1 - (((assoc x1 (⟨y630, s464.1⟩ : Port)).getD (⟨0, 0⟩ : Port)).fin)), wi64 (s464.2 + 1))) else some (.inr true)

noncomputable def g_plan_row_l1 (x0 : (List Int)) (x1 : (List (Port × Port))) (s133 : Int × Int) : Option ((Int × Int) ⊕ Bool) :=
  bif decide (0 ≤ s133.2) then (((idx x0 0).bind fun y242 => ((bif (assoc x1 (⟨y242, s133.2⟩ : Port)).isSome then (idx x0 1).bind fun y251 => some ((((assoc x1 (⟨y242, s133.2⟩ : Port)).getD (⟨0, 0⟩ : Port)).elem) == y251) else some false : Option (Bool))).bind fun (t248 : Bool) => bif t248 then some s133.2 else some s133.1 : Option (Int))).bind fun (t238 : Int) => some (.inl (t238, wi64 (s133.2 - 1))) else (bif decide (s133.1 < 0) then some false else loopR (g_plan_row_l2 x0 x1) (s133.1, 1)).map .inr

noncomputable def g_plan_row (x0 : (List Int)) (x1 : (List (Port × Port))) : Option Bool :=
  bif decide ((x0.length : Int) < 2) then some true else loopR (g_plan_row_l1 x0 x1) ((-1), 1)

theorem f_plan_row (x0 : (List Int)) (x1 : (List (Port × Port))) (r : Bool) (h : g_plan_row x0 x1 = some r) : Fun Tryz.prog 149 [.slice 1 (x0.map intC), .map (mapD (fun x => .agg (portC x)) (fun x => .agg (portC x)) x1)] (· = .bool r) := by
  refine fn env_ok Tryz.func149 rfl rfl 73 rfl [.tmp 4] rfl [(0, .p (.slice 1 (x0.map intC))), (1, .p (.map (mapD (fun x => .agg (portC x)) (fun x => .agg (portC x)) x1)))] rfl rfl fun A hA => ?_
  unfold g_plan_row at h
  refine rs env_ok ?_
  refine rl rfl ?_
  refine dwp_seq ?_
  refine rs env_ok ?_
  refine rn 1 rfl ?_
  refine sx rfl (o_len rfl rfl ?_)
  refine rl rfl ?_
  refine cd rfl h (fun h3 => ?_) (fun h4 => ?_) <;> clear h
  · refine rs env_ok ?_
    refine rl rfl ?_
    refine dwp_ret ?_
    refine thenD_r ?_
    have hr := Option.some.inj h3; subst hr
    exact er rfl Le.rfl
  · refine dwp_skip ?_
    refine thenD_n ?_
    refine rs env_ok ?_
    refine rl rfl ?_
    refine dwp_seq ?_
    refine rs env_ok ?_
    refine rl rfl ?_
    refine dwp_block ?_
    apply lp (a := r) (fun s133 : (Int × Int) => ⟨73, [(0, .p (.slice 1 (x0.map intC))), (1, .p (.map (mapD (fun x => .agg (portC x)) (fun x => .agg (portC x)) x1))), (5, .p (.int .i64 s133.1)), (6, .p (.int .i64 s133.2))], [], 0⟩) h4 <;> clear h4
    · exact wk [] (free hA _) rfl rfl rfl (.cons rfl (.cons rfl (.cons rfl (.cons rfl .nil)))) .nil
    intro s133 b216 h217
    unfold g_plan_row_l1 at h217
    refine dwp_seq ?_
    refine rs env_ok ?_
    refine rl rfl ?_
    refine cd rfl h217 (fun h220 => ?_) (fun h258 => ?_) <;> clear h217
    · refine dwp_skip ?_
      refine thenD_n ?_
      refine jb (fun t238 : Int => ⟨73, [(0, .p (.slice 1 (x0.map intC))), (1, .p (.map (mapD (fun x => .agg (portC x)) (fun x => .agg (portC x)) x1))), (5, .p (.int .i64 t238)), (6, .p (.int .i64 s133.2))], [], 0⟩) h220 (fun t238 h239 => ?_) (fun t238 h257 => ?_) <;> clear h220
      · refine dwp_block ?_
        refine rs env_ok ?_
        refine rn 2 rfl ?_
        obtain ⟨y242, ey242, h243⟩ := bd h239; clear h239
        refine sx rfl (o_idx ey242 rfl rfl rfl ?_)
        refine rn 3 rfl ?_
        refine sx rfl (o_lk2 (et := 42) (ke := (fun x => .agg (portC x))) (ve := (fun x => .agg (portC x))) (mp := x1) (y := (⟨y242, s133.2⟩ : Port)) (⟨0, 0⟩ : Port) keyE_42 rfl rfl rfl rfl ?_)
        refine rl rfl ?_
        refine jb (fun t248 : Bool => ⟨73, [(0, .p (.slice 1 (x0.map intC))), (1, .p (.map (mapD (fun x => .agg (portC x)) (fun x => .agg (portC x)) x1))), (5, .p (.int .i64 s133.1)), (6, .p (.int .i64 s133.2)), (37, .p (.bool t248))], [], 0⟩) h243 (fun t248 h249 => ?_) (fun t248 h254 => ?_) <;> clear h243
        · refine rgd env_ok mixed [0, 1, 2, 3, 4, 5, 6, 7, 8] 9 (by kernel_rfl) rfl rfl rfl ?_
          refine rnD 2 rfl ?_
          refine gsD 30 h249 rfl rfl rfl (fun h250 => ?_) (fun h253 => ?_) <;> clear h249
          · refine rnD 3 rfl ?_
            obtain ⟨y251, ey251, h252⟩ := bd h250; clear h250
            refine sxD rfl (opD_plain rfl (o_idx ey251 rfl rfl rfl ?_))
            refine rlD rfl ?_
            have hr := Option.some.inj h252; subst hr
            exact npn (wk [] (free hA _) rfl rfl rfl (.cons rfl (.cons rfl (.cons rfl (.cons rfl (.cons rfl .nil))))) .nil)
          · refine rlD rfl ?_
            have hr := Option.some.inj h253; subst hr
            exact npn (wk [] (free hA _) rfl rfl rfl (.cons rfl (.cons rfl (.cons rfl (.cons rfl (.cons rfl .nil))))) .nil)
        · refine cd rfl h254 (fun h255 => ?_) (fun h256 => ?_) <;> clear h254
          · refine rg env_ok ?_
            refine rl rfl ?_
            refine inB_n ?_
            have hr := Option.some.inj h255; subst hr
            exact npn (wk [] (free hA _) rfl rfl rfl (.cons rfl (.cons rfl (.cons rfl (.cons rfl .nil)))) .nil)
          · refine dwp_skip ?_
            refine inB_n ?_
            have hr := Option.some.inj h256; subst hr
            exact npn (wk [] (free hA _) rfl rfl rfl (.cons rfl (.cons rfl (.cons rfl (.cons rfl .nil)))) .nil)
      · refine rg env_ok ?_
        refine rl rfl ?_
        have hr := Option.some.inj h257; subst hr
        exact lpn (wk [] (free hA _) rfl rfl rfl (.cons rfl (.cons rfl (.cons rfl (.cons rfl .nil)))) .nil)
    · refine dwp_exit ?_
      refine thenD_x ?_
      obtain ⟨a259, h260, rfl⟩ := mp h258; clear h258
      refine lpx ?_
      refine inB_x ?_
      refine thenD_n ?_
      refine dwp_seq ?_
      refine rs env_ok ?_
      refine rl rfl ?_
      refine cd rfl h260 (fun h263 => ?_) (fun h264 => ?_) <;> clear h260
      · refine rs env_ok ?_
        refine rl rfl ?_
        refine dwp_ret ?_
        refine thenD_r ?_
        have hr := Option.some.inj h263; subst hr
        exact er rfl Le.rfl
      · refine dwp_skip ?_
        refine thenD_n ?_
        refine dwp_seq ?_
        refine rs env_ok ?_
        refine rl rfl ?_
        refine dwp_block ?_
        apply lp (a := a259) (fun s464 : (Int × Int) => ⟨73, [(0, .p (.slice 1 (x0.map intC))), (1, .p (.map (mapD (fun x => .agg (portC x)) (fun x => .agg (portC x)) x1))), (5, .p (.int .i64 s464.1)), (9, .p (.int .i64 s464.2))], [], 0⟩) h264 <;> clear h264
        · exact wk [] (free hA _) rfl rfl rfl (.cons rfl (.cons rfl (.cons rfl (.cons rfl .nil)))) .nil
        intro s464 b593 h594
        unfold g_plan_row_l2 at h594
        refine dwp_seq ?_
        refine rs env_ok ?_
        refine rn 2 rfl ?_
        refine sx rfl (o_len rfl rfl ?_)
        refine rl rfl ?_
        refine cd rfl h594 (fun h597 => ?_) (fun h660 => ?_) <;> clear h594
        · refine dwp_skip ?_
          refine thenD_n ?_
          refine dwp_seq ?_
          refine dwp_block ?_
          refine rs env_ok ?_
          refine rn 4 rfl ?_
          obtain ⟨y630, ey630, h631⟩ := bd h597; clear h597
          refine sx rfl (o_idx ey630 rfl rfl rfl ?_)
          refine rn 3 rfl ?_
          refine sx rfl (o_lk2 (et := 42) (ke := (fun x => .agg (portC x))) (ve := (fun x => .agg (portC x))) (mp := x1) (y := (⟨y630, s464.1⟩ : Port)) (⟨0, 0⟩ : Port) keyE_42 rfl rfl rfl rfl ?_)
          refine rl rfl ?_
          refine dwp_seq ?_
          refine jb (fun t649 : Bool => ⟨73, [(0, .p (.slice 1 (x0.map intC))), (1, .p (.map (mapD (fun x => .agg (portC x)) (fun x => .agg (portC x)) x1))), (9, .p (.int .i64 s464.2)), (10, .lpb 0 0), (69, .p (.bool t649))], [(0, .box [.p (.int .i64 (((assoc x1 (⟨y630, s464.1⟩ : Port)).getD (⟨0, 0⟩ : Port)).elem)), .p (.int .i64 (((assoc x1 (⟨y630, s464.1⟩ : Port)).getD (⟨0, 0⟩ : Port)).fin))])], 1⟩) h631 (fun t649 h650 => ?_) (fun t649 h655 => ?_) <;> clear h631
          · refine rgd env_ok mixed [0, 1, 2, 3, 4, 5, 6, 7, 8, 9, 10] 11 (by kernel_rfl) rfl rfl rfl ?_
            refine rnD 3 rfl ?_
            refine gsD 61 h650 rfl rfl rfl (fun h651 => ?_) (fun h652 => ?_) <;> clear h650
            · refine rlD rfl ?_
              have hr := Option.some.inj h651; subst hr
              exact npn (wk [(0, 0)] (free hA _) rfl rfl rfl (.cons rfl (.cons rfl (.cons rfl (.cons rfl (.cons rfl .nil))))) (.cons rfl rfl .nil))
            · refine rnD 4 rfl ?_
              obtain ⟨y653, ey653, h654⟩ := bd h652; clear h652
              refine sxD rfl (opD_plain rfl (o_idx ey653 rfl rfl rfl ?_))
              refine rlD rfl ?_
              have hr := Option.some.inj h654; subst hr
              exact npn (wk [(0, 0)] (free hA _) rfl rfl rfl (.cons rfl (.cons rfl (.cons rfl (.cons rfl (.cons rfl .nil))))) (.cons rfl rfl .nil))
          · refine cd rfl h655 (fun h656 => ?_) (fun h659 => ?_) <;> clear h655
            · refine rs env_ok ?_
              refine rl rfl ?_
              refine dwp_ret ?_
              refine thenD_r ?_
              refine inB_r ?_
              refine thenD_r ?_
              obtain ⟨a657, h658, rfl⟩ := mps h656; clear h656
              refine lpt ?_
              refine inB_r ?_
              refine thenD_r ?_
              have hr := Option.some.inj h658; subst hr
              exact er rfl Le.rfl
            · refine dwp_skip ?_
              refine thenD_n ?_
              refine rg env_ok ?_
              refine rl rfl ?_
              refine inB_n ?_
              refine thenD_n ?_
              refine rg env_ok ?_
              refine rl rfl ?_
              have hr := Option.some.inj h659; subst hr
              exact lpn (wk [] (free hA _) rfl rfl rfl (.cons rfl (.cons rfl (.cons rfl (.cons rfl .nil)))) .nil)
        · refine dwp_exit ?_
          refine thenD_x ?_
          obtain ⟨a661, h662, rfl⟩ := mps h660; clear h660
          refine lpx ?_
          refine inB_x ?_
          refine thenD_n ?_
          refine rs env_ok ?_
          refine rl rfl ?_
          refine dwp_ret ?_
          have hr := Option.some.inj h662; subst hr
          exact er rfl Le.rfl

end Go.E
/- Plain functions, and walks in step with them. Written by a program (gen.py). No condition. -/
set_option maxRecDepth 100000
namespace Go.E
open Go Go.RowKit Go.Proofs

noncomputable def g_plan_lines_l2 (x0 : Plan) (x1 : (List (Port × Port))) (s3648 : (Int × (List (Int × Bool)))) (y6684 : Line) (s6987 : Int × (List (Int × Bool))) : Option ((Int × (List (Int × Bool))) ⊕ ((Int × (List (Int × Bool))) ⊕ Bool)) :=
  bif decide (s6987.1 < (y6684.elems.length : Int)) then (idx y6684.elems s6987.1).bind fun y7233 => ((bif decide (y7233 < 0) then some true else bif decide ((x0.elems.length : Int) ≤ y7233) then some true else (idx x0.elems y7233).bind fun y7270 => bif (y7270.kind != 1) then some true else some ((assoc s6987.2 y7233).getD false) : Option (Bool))).bind fun (t7264 : Bool) => bif t7264 then some (.inr (.inr false)) else some (.inl (wi64 (s6987.1 + 1), aput y7233 true s6987.2)) else ((g_plan_row y6684.elems x1).bind fun y7286 => bif (!y7286) then some (.inr false) else some (.inl (wi64 (s3648.1 + 1), s6987.2))).map .inr

noncomputable def g_plan_lines_l1 (x0 : Plan) (x1 : (List (Port × Port))) (s3648 : Int × (List (Int × Bool))) : Option ((Int × (List (Int × Bool))) ⊕ Bool) :=
  bif decide (s3648.1 < (x0.lines.length : Int)) then (idx x0.lines s3648.1).bind fun y6684 => bif ((y6684.elems.length : Int) == 0) then some (.inr false) else loopR (g_plan_lines_l2 x0 x1 s3648 y6684) (0, s3648.2) else some (.inr true)

noncomputable def g_plan_lines (x0 : Plan) (x1 : (List (Port × Port))) : Option Bool :=
  loopR (g_plan_lines_l1 x0 x1) (0, [])

theorem f_plan_lines (x0 : Plan) (x1 : (List (Port × Port))) (r : Bool) (h : g_plan_lines x0 x1 = some r) : Fun Tryz.prog 123 [.agg (planC x0), .map (mapD (fun x => .agg (portC x)) (fun x => .agg (portC x)) x1)] (· = .bool r) := by
  refine fn env_ok Tryz.func123 rfl rfl 61 rfl [.tmp 4] rfl [(0, .p (.agg (planC x0))), (1, .p (.map (mapD (fun x => .agg (portC x)) (fun x => .agg (portC x)) x1)))] rfl rfl fun A hA => ?_
  unfold g_plan_lines at h
  refine rs env_ok ?_
  refine rl rfl ?_
  refine rs env_ok ?_
  refine rl rfl ?_
  refine dwp_seq ?_
  refine rs env_ok ?_
  refine rn 2 rfl ?_
  refine sx rfl (o_len rfl rfl ?_)
  refine rl rfl ?_
  refine dwp_block ?_
  apply lp (a := r) (fun s3648 : (Int × (List (Int × Bool))) => ⟨61, [(1, .p (.map (mapD (fun x => .agg (portC x)) (fun x => .agg (portC x)) x1))), (2, .lpb 0 0), (5, .lmap 1), (12, .p (.slice 2 (x0.lines.map lineC))), (13, .p (.int .i64 (x0.lines.length : Int))), (14, .p (.int .i64 s3648.1))], [(0, .box [.p (.slice 3 (x0.elems.map elemC)), .p (.slice 4 (x0.joins.map joinC)), .p (.slice 4 (x0.signals.map signalC)), .p (.slice 2 (x0.lines.map lineC)), .p (.int .i64 x0.top), .p (.int .i64 x0.brake), .p (.int .i64 x0.margin), .p (.int .i64 x0.throw), .p (.bool x0.hard)]), (1, .map (mapD (.int .i64) .bool s3648.2))], 2⟩) h <;> clear h
  · exact wk [(0, 0), (1, 1)] (free hA _) rfl rfl rfl (.cons rfl (.cons rfl (.cons rfl (.cons rfl (.cons rfl (.cons rfl .nil)))))) (.cons rfl rfl (.cons rfl rfl .nil))
  intro s3648 b6073 h6074
  unfold g_plan_lines_l1 at h6074
  refine rs env_ok ?_
  refine rl rfl ?_
  refine dwp_seq ?_
  refine cd rfl h6074 (fun h6077 => ?_) (fun h7292 => ?_) <;> clear h6074
  · refine dwp_skip ?_
    refine thenD_n ?_
    refine dwp_seq ?_
    refine dwp_block ?_
    refine rs env_ok ?_
    obtain ⟨y6684, ey6684, h6685⟩ := bd h6077; clear h6077
    refine sx rfl (o_idx ey6684 rfl rfl rfl ?_)
    refine rl rfl ?_
    refine dwp_seq ?_
    refine rs env_ok ?_
    refine rn 2 rfl ?_
    refine sx rfl (o_len rfl rfl ?_)
    refine rl rfl ?_
    refine cd rfl h6685 (fun h6688 => ?_) (fun h6691 => ?_) <;> clear h6685
    · refine rs env_ok ?_
      refine rl rfl ?_
      refine dwp_ret ?_
      refine thenD_r ?_
      refine inB_r ?_
      refine thenD_r ?_
      obtain ⟨a6689, h6690, rfl⟩ := mps h6688; clear h6688
      refine lpt ?_
      refine inB_r ?_
      refine thenD_r ?_
      have hr := Option.some.inj h6690; subst hr
      exact er rfl Le.rfl
    · refine dwp_skip ?_
      refine thenD_n ?_
      refine dwp_seq ?_
      refine rs env_ok ?_
      refine rn 2 rfl ?_
      refine sx rfl (o_len rfl rfl ?_)
      refine rl rfl ?_
      refine dwp_block ?_
      apply lp (a := b6073) (fun s6987 : (Int × (List (Int × Bool))) => ⟨61, [(1, .p (.map (mapD (fun x => .agg (portC x)) (fun x => .agg (portC x)) x1))), (2, .lpb 0 0), (5, .lmap 1), (7, .lpb 2 0), (12, .p (.slice 2 (x0.lines.map lineC))), (13, .p (.int .i64 (x0.lines.length : Int))), (14, .p (.int .i64 s3648.1)), (23, .p (.slice 1 (y6684.elems.map intC))), (24, .p (.int .i64 (y6684.elems.length : Int))), (25, .p (.int .i64 s6987.1))], [(0, .box [.p (.slice 3 (x0.elems.map elemC)), .p (.slice 4 (x0.joins.map joinC)), .p (.slice 4 (x0.signals.map signalC)), .p (.slice 2 (x0.lines.map lineC)), .p (.int .i64 x0.top), .p (.int .i64 x0.brake), .p (.int .i64 x0.margin), .p (.int .i64 x0.throw), .p (.bool x0.hard)]), (1, .map (mapD (.int .i64) .bool s6987.2)), (2, .box [.p (.str y6684.name), .p (.slice 1 (y6684.elems.map intC))])], 3⟩) h6691 <;> clear h6691
      · exact wk [(0, 0), (1, 1), (2, 2)] (free hA _) rfl rfl rfl (.cons rfl (.cons rfl (.cons rfl (.cons rfl (.cons rfl (.cons rfl (.cons rfl (.cons rfl (.cons rfl (.cons rfl .nil)))))))))) (.cons rfl rfl (.cons rfl rfl (.cons rfl rfl .nil)))
      intro s6987 b7180 h7181
      unfold g_plan_lines_l2 at h7181
      refine rs env_ok ?_
      refine rl rfl ?_
      refine dwp_seq ?_
      refine cd rfl h7181 (fun h7184 => ?_) (fun h7281 => ?_) <;> clear h7181
      · refine dwp_skip ?_
        refine thenD_n ?_
        refine dwp_seq ?_
        refine dwp_block ?_
        refine rs env_ok ?_
        obtain ⟨y7233, ey7233, h7234⟩ := bd h7184; clear h7184
        refine sx rfl (o_idx ey7233 rfl rfl rfl ?_)
        refine rl rfl ?_
        refine dwp_seq ?_
        refine jb (fun t7264 : Bool => ⟨61, [(1, .p (.map (mapD (fun x => .agg (portC x)) (fun x => .agg (portC x)) x1))), (2, .lpb 0 0), (5, .lmap 1), (7, .lpb 2 0), (9, .p (.int .i64 y7233)), (12, .p (.slice 2 (x0.lines.map lineC))), (13, .p (.int .i64 (x0.lines.length : Int))), (14, .p (.int .i64 s3648.1)), (23, .p (.slice 1 (y6684.elems.map intC))), (24, .p (.int .i64 (y6684.elems.length : Int))), (25, .p (.int .i64 s6987.1)), (51, .p (.bool t7264))], [(0, .box [.p (.slice 3 (x0.elems.map elemC)), .p (.slice 4 (x0.joins.map joinC)), .p (.slice 4 (x0.signals.map signalC)), .p (.slice 2 (x0.lines.map lineC)), .p (.int .i64 x0.top), .p (.int .i64 x0.brake), .p (.int .i64 x0.margin), .p (.int .i64 x0.throw), .p (.bool x0.hard)]), (1, .map (mapD (.int .i64) .bool s6987.2)), (2, .box [.p (.str y6684.name), .p (.slice 1 (y6684.elems.map intC))])], 3⟩) h7234 (fun t7264 h7265 => ?_) (fun t7264 h7274 => ?_) <;> clear h7234
        · refine rg env_ok ?_
          refine rn 3 rfl ?_
          refine gs 31 h7265 rfl rfl rfl (fun h7266 => ?_) (fun h7267 => ?_) <;> clear h7265
          · refine rl rfl ?_
            have hr := Option.some.inj h7266; subst hr
            exact npn (wk [(0, 0), (1, 1), (2, 2)] (free hA _) rfl rfl rfl (.cons rfl (.cons rfl (.cons rfl (.cons rfl (.cons rfl (.cons rfl (.cons rfl (.cons rfl (.cons rfl (.cons rfl (.cons rfl (.cons rfl .nil)))))))))))) (.cons rfl rfl (.cons rfl rfl (.cons rfl rfl .nil))))
          · refine rn 3 rfl ?_
            refine sx rfl (o_len rfl rfl ?_)
            refine rn 3 rfl ?_
            refine gs 38 h7267 rfl rfl rfl (fun h7268 => ?_) (fun h7269 => ?_) <;> clear h7267
            · refine rl rfl ?_
              have hr := Option.some.inj h7268; subst hr
              exact npn (wk [(0, 0), (1, 1), (2, 2)] (free hA _) rfl rfl rfl (.cons rfl (.cons rfl (.cons rfl (.cons rfl (.cons rfl (.cons rfl (.cons rfl (.cons rfl (.cons rfl (.cons rfl (.cons rfl (.cons rfl .nil)))))))))))) (.cons rfl rfl (.cons rfl rfl (.cons rfl rfl .nil))))
            · refine rn 3 rfl ?_
              obtain ⟨y7270, ey7270, h7271⟩ := bd h7269; clear h7269
              refine sx rfl (o_idx ey7270 rfl rfl rfl ?_)
              refine rn 5 rfl ?_
              refine gs 47 h7271 rfl rfl rfl (fun h7272 => ?_) (fun h7273 => ?_) <;> clear h7271
              · refine rl rfl ?_
                have hr := Option.some.inj h7272; subst hr
                exact npn (wk [(0, 0), (1, 1), (2, 2)] (free hA _) rfl rfl rfl (.cons rfl (.cons rfl (.cons rfl (.cons rfl (.cons rfl (.cons rfl (.cons rfl (.cons rfl (.cons rfl (.cons rfl (.cons rfl (.cons rfl .nil)))))))))))) (.cons rfl rfl (.cons rfl rfl (.cons rfl rfl .nil))))
              · refine rn 2 rfl ?_
                refine sx rfl (o_lk1 (et := 4) (ke := (.int .i64)) (ve := .bool) (mp := s6987.2) (y := y7233) false keyE_3 rfl rfl rfl rfl ?_)
                refine rl rfl ?_
                have hr := Option.some.inj h7273; subst hr
                exact npn (wk [(0, 0), (1, 1), (2, 2)] (free hA _) rfl rfl rfl (.cons rfl (.cons rfl (.cons rfl (.cons rfl (.cons rfl (.cons rfl (.cons rfl (.cons rfl (.cons rfl (.cons rfl (.cons rfl (.cons rfl .nil)))))))))))) (.cons rfl rfl (.cons rfl rfl (.cons rfl rfl .nil))))
        · refine cd rfl h7274 (fun h7275 => ?_) (fun h7280 => ?_) <;> clear h7274
          · refine rs env_ok ?_
            refine rl rfl ?_
            refine dwp_ret ?_
            refine thenD_r ?_
            refine inB_r ?_
            refine thenD_r ?_
            obtain ⟨a7276, h7277, rfl⟩ := mps h7275; clear h7275
            refine lpt ?_
            refine inB_r ?_
            refine thenD_r ?_
            refine inB_r ?_
            refine thenD_r ?_
            obtain ⟨a7278, h7279, rfl⟩ := mps h7277; clear h7277
            refine lpt ?_
            refine inB_r ?_
            refine thenD_r ?_
            have hr := Option.some.inj h7279; subst hr
            exact er rfl Le.rfl
          · refine dwp_skip ?_
            refine thenD_n ?_
            refine rg env_ok ?_
            refine rn 2 rfl ?_
            refine sx rfl (o_mup (et := 4) (ke := (.int .i64)) (ve := .bool) (mp := s6987.2) (y := y7233) (z := true) keyE_3 rfl rfl rfl rfl rfl rfl ?_)
            refine rl rfl ?_
            refine inB_n ?_
            refine thenD_n ?_
            refine rg env_ok ?_
            refine rl rfl ?_
            have hr := Option.some.inj h7280; subst hr
            exact lpn (wk [(0, 0), (1, 1), (2, 2)] (free hA _) rfl rfl rfl (.cons rfl (.cons rfl (.cons rfl (.cons rfl (.cons rfl (.cons rfl (.cons rfl (.cons rfl (.cons rfl (.cons rfl .nil)))))))))) (.cons rfl rfl (.cons rfl rfl (.cons rfl rfl .nil))))
      · refine dwp_exit ?_
        refine thenD_x ?_
        obtain ⟨a7282, h7283, rfl⟩ := mp h7281; clear h7281
        refine lpx ?_
        refine inB_x ?_
        refine thenD_n ?_
        refine rs env_ok ?_
        refine rn 3 rfl ?_
        obtain ⟨y7286, ey7286, h7287⟩ := bd h7283; clear h7283
        refine sx rfl (o_call (f_plan_row _ _ _ ey7286) (.inl rfl) rfl rfl rfl ?_)
        refine rl rfl ?_
        refine cd rfl h7287 (fun h7288 => ?_) (fun h7291 => ?_) <;> clear h7287
        · refine rs env_ok ?_
          refine rl rfl ?_
          refine dwp_ret ?_
          refine inB_r ?_
          refine thenD_r ?_
          obtain ⟨a7289, h7290, rfl⟩ := mps h7288; clear h7288
          refine lpt ?_
          refine inB_r ?_
          refine thenD_r ?_
          have hr := Option.some.inj h7290; subst hr
          exact er rfl Le.rfl
        · refine dwp_skip ?_
          refine inB_n ?_
          refine thenD_n ?_
          refine rg env_ok ?_
          refine rl rfl ?_
          have hr := Option.some.inj h7291; subst hr
          exact lpn (wk [(0, 0), (1, 1)] (free hA _) rfl rfl rfl (.cons rfl (.cons rfl (.cons rfl (.cons rfl (.cons rfl (.cons rfl .nil)))))) (.cons rfl rfl (.cons rfl rfl .nil)))
  · refine dwp_exit ?_
    refine thenD_x ?_
    obtain ⟨a7293, h7294, rfl⟩ := mps h7292; clear h7292
    refine lpx ?_
    refine inB_x ?_
    refine thenD_n ?_
    refine rs env_ok ?_
    refine rl rfl ?_
    refine dwp_ret ?_
    have hr := Option.some.inj h7294; subst hr
    exact er rfl Le.rfl

noncomputable def g_plan_Stop_l1 (x1 : Int) (s52 : Int × Int) : Option ((Int × Int) ⊕ Int) :=
  bif decide (0 < s52.1) then some (.inl (wi64 (s52.1 - x1), wi64 (s52.2 + s52.1))) else some (.inr s52.2)

noncomputable def g_plan_Stop (x0 : Int) (x1 : Int) : Option Int :=
  ((bif decide (x0 < 0) then some true else bif decide (60 < x0) then some true else bif decide (x1 < 1) then some true else some (decide (10 < x1)) : Option (Bool))).bind fun (t24 : Bool) => bif t24 then some 0 else loopR (g_plan_Stop_l1 x1) (wi64 (x0 - x1), 0)

theorem f_plan_Stop (x0 : Int) (x1 : Int) (r : Int) (h : g_plan_Stop x0 x1 = some r) : Fun Tryz.prog 150 [.int .i64 x0, .int .i64 x1] (· = .int .i64 r) := by
  refine fn env_ok Tryz.func150 rfl rfl 32 rfl [.tmp 4] rfl [(0, .p (.int .i64 x0)), (1, .p (.int .i64 x1))] rfl rfl fun A hA => ?_
  unfold g_plan_Stop at h
  refine rs env_ok ?_
  refine rl rfl ?_
  refine dwp_seq ?_
  refine jb (fun t24 : Bool => ⟨32, [(0, .p (.int .i64 x0)), (1, .p (.int .i64 x1)), (19, .p (.bool t24))], [], 0⟩) h (fun t24 h25 => ?_) (fun t24 h32 => ?_) <;> clear h
  · refine rg env_ok ?_
    refine rn 3 rfl ?_
    refine gs 8 h25 rfl rfl rfl (fun h26 => ?_) (fun h27 => ?_) <;> clear h25
    · refine rl rfl ?_
      have hr := Option.some.inj h26; subst hr
      exact npn (wk [] (free hA _) rfl rfl rfl (.cons rfl (.cons rfl (.cons rfl .nil))) .nil)
    · refine rn 4 rfl ?_
      refine gs 12 h27 rfl rfl rfl (fun h28 => ?_) (fun h29 => ?_) <;> clear h27
      · refine rl rfl ?_
        have hr := Option.some.inj h28; subst hr
        exact npn (wk [] (free hA _) rfl rfl rfl (.cons rfl (.cons rfl (.cons rfl .nil))) .nil)
      · refine rn 4 rfl ?_
        refine gs 16 h29 rfl rfl rfl (fun h30 => ?_) (fun h31 => ?_) <;> clear h29
        · refine rl rfl ?_
          have hr := Option.some.inj h30; subst hr
          exact npn (wk [] (free hA _) rfl rfl rfl (.cons rfl (.cons rfl (.cons rfl .nil))) .nil)
        · refine rl rfl ?_
          have hr := Option.some.inj h31; subst hr
          exact npn (wk [] (free hA _) rfl rfl rfl (.cons rfl (.cons rfl (.cons rfl .nil))) .nil)
  · refine cd rfl h32 (fun h33 => ?_) (fun h34 => ?_) <;> clear h32
    · refine rs env_ok ?_
      refine rl rfl ?_
      refine dwp_ret ?_
      refine thenD_r ?_
      have hr := Option.some.inj h33; subst hr
      exact er rfl Le.rfl
    · refine dwp_skip ?_
      refine thenD_n ?_
      refine rs env_ok ?_
      refine rl rfl ?_
      refine dwp_seq ?_
      refine rs env_ok ?_
      refine rl rfl ?_
      refine dwp_block ?_
      apply lp (a := r) (fun s52 : (Int × Int) => ⟨32, [(0, .p (.int .i64 s52.1)), (1, .p (.int .i64 x1)), (5, .p (.int .i64 s52.2))], [], 0⟩) h34 <;> clear h34
      · exact wk [] (free hA _) rfl rfl rfl (.cons rfl (.cons rfl (.cons rfl .nil))) .nil
      intro s52 b61 h62
      unfold g_plan_Stop_l1 at h62
      refine dwp_seq ?_
      refine rs env_ok ?_
      refine rl rfl ?_
      refine cd rfl h62 (fun h65 => ?_) (fun h66 => ?_) <;> clear h62
      · refine dwp_skip ?_
        refine thenD_n ?_
        refine dwp_seq ?_
        refine dwp_block ?_
        refine rg env_ok ?_
        refine rl rfl ?_
        refine inB_n ?_
        refine thenD_n ?_
        refine rg env_ok ?_
        refine rl rfl ?_
        have hr := Option.some.inj h65; subst hr
        exact lpn (wk [] (free hA _) rfl rfl rfl (.cons rfl (.cons rfl (.cons rfl .nil))) .nil)
      · refine dwp_exit ?_
        refine thenD_x ?_
        obtain ⟨a67, h68, rfl⟩ := mps h66; clear h66
        refine lpx ?_
        refine inB_x ?_
        refine thenD_n ?_
        refine rs env_ok ?_
        refine rl rfl ?_
        refine dwp_ret ?_
        have hr := Option.some.inj h68; subst hr
        exact er rfl Le.rfl

noncomputable def g_plan_long_l2 (x0 : Plan) (s352 : Int) : Option (Int ⊕ Bool) :=
  bif decide (s352 < (x0.elems.length : Int)) then (idx x0.elems s352).bind fun y433 => ((bif (y433.kind != 4) then some (decide (y433.length < x0.top)) else some false : Option (Bool))).bind fun (t437 : Bool) => bif t437 then some (.inr false) else some (.inl (wi64 (s352 + 1))) else some (.inr true)

noncomputable def g_plan_long_l1 (x0 : Plan) (s134 : Int) : Option (Int ⊕ Bool) :=
  bif decide (s134 < (x0.signals.length : Int)) then (idx x0.signals s134).bind fun y235 => (idx x0.elems y235.at_.elem).bind fun y239 => ((bif (y239.kind == 1) then some (decide (y239.length < x0.margin)) else some false : Option (Bool))).bind fun (t243 : Bool) => bif t243 then some (.inr false) else some (.inl (wi64 (s134 + 1))) else (loopR (g_plan_long_l2 x0) 0).map .inr

noncomputable def g_plan_long (x0 : Plan) : Option Bool :=
  (g_plan_Stop x0.top x0.brake).bind fun y9 => bif decide (x0.margin < wi64 (x0.top + y9)) then some false else loopR (g_plan_long_l1 x0) 0

theorem f_plan_long (x0 : Plan) (r : Bool) (h : g_plan_long x0 = some r) : Fun Tryz.prog 124 [.agg (planC x0)] (· = .bool r) := by
  refine fn env_ok Tryz.func124 rfl rfl 62 rfl [.tmp 2] rfl [(0, .p (.agg (planC x0)))] rfl rfl fun A hA => ?_
  unfold g_plan_long at h
  refine rs env_ok ?_
  refine rl rfl ?_
  refine dwp_seq ?_
  refine dwp_seq ?_
  refine rgd env_ok mixed [0, 1, 2, 3, 4, 5, 6, 7, 8, 9, 10] 11 (by kernel_rfl) rfl rfl rfl ?_
  refine rnD 8 rfl ?_
  obtain ⟨y9, ey9, h10⟩ := bd h; clear h
  refine sxD rfl (o_callD (f_plan_Stop _ _ _ ey9) (.inl rfl) rfl rfl rfl ?_)
  refine rlD rfl ?_
  refine thenD_n ?_
  refine cd rfl h10 (fun h11 => ?_) (fun h12 => ?_) <;> clear h10
  · refine rs env_ok ?_
    refine rl rfl ?_
    refine dwp_ret ?_
    refine thenD_r ?_
    have hr := Option.some.inj h11; subst hr
    exact er rfl Le.rfl
  · refine dwp_skip ?_
    refine thenD_n ?_
    refine dwp_seq ?_
    refine rs env_ok ?_
    refine rn 2 rfl ?_
    refine sx rfl (o_len rfl rfl ?_)
    refine rl rfl ?_
    refine dwp_block ?_
    apply lp (a := r) (fun s134 : Int => ⟨62, [(1, .lpb 0 0), (20, .p (.slice 4 (x0.signals.map signalC))), (21, .p (.int .i64 (x0.signals.length : Int))), (22, .p (.int .i64 s134))], [(0, .box [.p (.slice 3 (x0.elems.map elemC)), .p (.slice 4 (x0.joins.map joinC)), .p (.slice 4 (x0.signals.map signalC)), .p (.slice 2 (x0.lines.map lineC)), .p (.int .i64 x0.top), .p (.int .i64 x0.brake), .p (.int .i64 x0.margin), .p (.int .i64 x0.throw), .p (.bool x0.hard)])], 1⟩) h12 <;> clear h12
    · exact wk [(0, 0)] (free hA _) rfl rfl rfl (.cons rfl (.cons rfl (.cons rfl (.cons rfl .nil)))) (.cons rfl rfl .nil)
    intro s134 b211 h212
    unfold g_plan_long_l1 at h212
    refine rs env_ok ?_
    refine rl rfl ?_
    refine dwp_seq ?_
    refine cd rfl h212 (fun h215 => ?_) (fun h252 => ?_) <;> clear h212
    · refine dwp_skip ?_
      refine thenD_n ?_
      refine dwp_seq ?_
      refine dwp_block ?_
      refine rs env_ok ?_
      obtain ⟨y235, ey235, h236⟩ := bd h215; clear h215
      refine sx rfl (o_idx ey235 rfl rfl rfl ?_)
      refine rl rfl ?_
      refine rs env_ok ?_
      refine rn 5 rfl ?_
      obtain ⟨y239, ey239, h240⟩ := bd h236; clear h236
      refine sx rfl (o_idx ey239 rfl rfl rfl ?_)
      refine rl rfl ?_
      refine jb (fun t243 : Bool => ⟨62, [(1, .lpb 0 0), (20, .p (.slice 4 (x0.signals.map signalC))), (21, .p (.int .i64 (x0.signals.length : Int))), (22, .p (.int .i64 s134)), (42, .p (.bool t243))], [(0, .box [.p (.slice 3 (x0.elems.map elemC)), .p (.slice 4 (x0.joins.map joinC)), .p (.slice 4 (x0.signals.map signalC)), .p (.slice 2 (x0.lines.map lineC)), .p (.int .i64 x0.top), .p (.int .i64 x0.brake), .p (.int .i64 x0.margin), .p (.int .i64 x0.throw), .p (.bool x0.hard)])], 1⟩) h240 (fun t243 h244 => ?_) (fun t243 h247 => ?_) <;> clear h240
      · refine rg env_ok ?_
        refine rn 4 rfl ?_
        refine gs 36 h244 rfl rfl rfl (fun h245 => ?_) (fun h246 => ?_) <;> clear h244
        · refine rl rfl ?_
          have hr := Option.some.inj h245; subst hr
          exact npn (wk [(0, 0)] (free hA _) rfl rfl rfl (.cons rfl (.cons rfl (.cons rfl (.cons rfl (.cons rfl .nil))))) (.cons rfl rfl .nil))
        · refine rl rfl ?_
          have hr := Option.some.inj h246; subst hr
          exact npn (wk [(0, 0)] (free hA _) rfl rfl rfl (.cons rfl (.cons rfl (.cons rfl (.cons rfl (.cons rfl .nil))))) (.cons rfl rfl .nil))
      · refine cd rfl h247 (fun h248 => ?_) (fun h251 => ?_) <;> clear h247
        · refine rs env_ok ?_
          refine rl rfl ?_
          refine dwp_ret ?_
          refine inB_r ?_
          refine thenD_r ?_
          obtain ⟨a249, h250, rfl⟩ := mps h248; clear h248
          refine lpt ?_
          refine inB_r ?_
          refine thenD_r ?_
          have hr := Option.some.inj h250; subst hr
          exact er rfl Le.rfl
        · refine dwp_skip ?_
          refine inB_n ?_
          refine thenD_n ?_
          refine rg env_ok ?_
          refine rl rfl ?_
          have hr := Option.some.inj h251; subst hr
          exact lpn (wk [(0, 0)] (free hA _) rfl rfl rfl (.cons rfl (.cons rfl (.cons rfl (.cons rfl .nil)))) (.cons rfl rfl .nil))
    · refine dwp_exit ?_
      refine thenD_x ?_
      obtain ⟨a253, h254, rfl⟩ := mp h252; clear h252
      refine lpx ?_
      refine inB_x ?_
      refine thenD_n ?_
      refine dwp_seq ?_
      refine rs env_ok ?_
      refine rn 2 rfl ?_
      refine sx rfl (o_len rfl rfl ?_)
      refine rl rfl ?_
      refine dwp_block ?_
      apply lp (a := a253) (fun s352 : Int => ⟨62, [(1, .lpb 0 0), (45, .p (.slice 3 (x0.elems.map elemC))), (46, .p (.int .i64 (x0.elems.length : Int))), (47, .p (.int .i64 s352))], [(0, .box [.p (.slice 3 (x0.elems.map elemC)), .p (.slice 4 (x0.joins.map joinC)), .p (.slice 4 (x0.signals.map signalC)), .p (.slice 2 (x0.lines.map lineC)), .p (.int .i64 x0.top), .p (.int .i64 x0.brake), .p (.int .i64 x0.margin), .p (.int .i64 x0.throw), .p (.bool x0.hard)])], 1⟩) h254 <;> clear h254
      · exact wk [(0, 0)] (free hA _) rfl rfl rfl (.cons rfl (.cons rfl (.cons rfl (.cons rfl .nil)))) (.cons rfl rfl .nil)
      intro s352 b413 h414
      unfold g_plan_long_l2 at h414
      refine rs env_ok ?_
      refine rl rfl ?_
      refine dwp_seq ?_
      refine cd rfl h414 (fun h417 => ?_) (fun h446 => ?_) <;> clear h414
      · refine dwp_skip ?_
        refine thenD_n ?_
        refine dwp_seq ?_
        refine dwp_block ?_
        refine rs env_ok ?_
        obtain ⟨y433, ey433, h434⟩ := bd h417; clear h417
        refine sx rfl (o_idx ey433 rfl rfl rfl ?_)
        refine rl rfl ?_
        refine jb (fun t437 : Bool => ⟨62, [(1, .lpb 0 0), (45, .p (.slice 3 (x0.elems.map elemC))), (46, .p (.int .i64 (x0.elems.length : Int))), (47, .p (.int .i64 s352)), (60, .p (.bool t437))], [(0, .box [.p (.slice 3 (x0.elems.map elemC)), .p (.slice 4 (x0.joins.map joinC)), .p (.slice 4 (x0.signals.map signalC)), .p (.slice 2 (x0.lines.map lineC)), .p (.int .i64 x0.top), .p (.int .i64 x0.brake), .p (.int .i64 x0.margin), .p (.int .i64 x0.throw), .p (.bool x0.hard)])], 1⟩) h434 (fun t437 h438 => ?_) (fun t437 h441 => ?_) <;> clear h434
        · refine rg env_ok ?_
          refine rn 4 rfl ?_
          refine gs 54 h438 rfl rfl rfl (fun h439 => ?_) (fun h440 => ?_) <;> clear h438
          · refine rl rfl ?_
            have hr := Option.some.inj h439; subst hr
            exact npn (wk [(0, 0)] (free hA _) rfl rfl rfl (.cons rfl (.cons rfl (.cons rfl (.cons rfl (.cons rfl .nil))))) (.cons rfl rfl .nil))
          · refine rl rfl ?_
            have hr := Option.some.inj h440; subst hr
            exact npn (wk [(0, 0)] (free hA _) rfl rfl rfl (.cons rfl (.cons rfl (.cons rfl (.cons rfl (.cons rfl .nil))))) (.cons rfl rfl .nil))
        · refine cd rfl h441 (fun h442 => ?_) (fun h445 => ?_) <;> clear h441
          · refine rs env_ok ?_
            refine rl rfl ?_
            refine dwp_ret ?_
            refine inB_r ?_
            refine thenD_r ?_
            obtain ⟨a443, h444, rfl⟩ := mps h442; clear h442
            refine lpt ?_
            refine inB_r ?_
            refine thenD_r ?_
            have hr := Option.some.inj h444; subst hr
            exact er rfl Le.rfl
          · refine dwp_skip ?_
            refine inB_n ?_
            refine thenD_n ?_
            refine rg env_ok ?_
            refine rl rfl ?_
            have hr := Option.some.inj h445; subst hr
            exact lpn (wk [(0, 0)] (free hA _) rfl rfl rfl (.cons rfl (.cons rfl (.cons rfl (.cons rfl .nil)))) (.cons rfl rfl .nil))
      · refine dwp_exit ?_
        refine thenD_x ?_
        obtain ⟨a447, h448, rfl⟩ := mps h446; clear h446
        refine lpx ?_
        refine inB_x ?_
        refine thenD_n ?_
        refine rs env_ok ?_
        refine rl rfl ?_
        refine dwp_ret ?_
        have hr := Option.some.inj h448; subst hr
        exact er rfl Le.rfl

noncomputable def g_plan_Check_l1 (x0 : Plan) (s4112 : Int × (List (ByteArray × Bool))) : Option ((Int × (List (ByteArray × Bool))) ⊕ Bool) :=
  bif decide (s4112.1 < (x0.elems.length : Int)) then (g_plan_Check_1 s4112.1 x0).bind fun y4204 => bif ((assoc s4112.2 y4204).getD false) then some (.inr true) else (g_plan_Check_1 s4112.1 x0).bind fun y4210 => some (.inl (wi64 (s4112.1 + 1), aput y4210 true s4112.2)) else some (.inr false)

noncomputable def g_plan_Check_l2 (x0 : Plan) (s4529 : Int × (List (ByteArray × Bool))) : Option ((Int × (List (ByteArray × Bool))) ⊕ Bool) :=
  bif decide (s4529.1 < (x0.signals.length : Int)) then (g_plan_Check_2 s4529.1 x0).bind fun y4621 => bif ((assoc s4529.2 y4621).getD false) then some (.inr true) else (g_plan_Check_2 s4529.1 x0).bind fun y4627 => some (.inl (wi64 (s4529.1 + 1), aput y4627 true s4529.2)) else some (.inr false)

noncomputable def g_plan_Check_l3 (x0 : Plan) (s4946 : Int × (List (ByteArray × Bool))) : Option ((Int × (List (ByteArray × Bool))) ⊕ Bool) :=
  bif decide (s4946.1 < (x0.lines.length : Int)) then (g_plan_Check_3 s4946.1 x0).bind fun y5038 => bif ((assoc s4946.2 y5038).getD false) then some (.inr true) else (g_plan_Check_3 s4946.1 x0).bind fun y5044 => some (.inl (wi64 (s4946.1 + 1), aput y5044 true s4946.2)) else some (.inr false)

noncomputable def g_plan_Check (x0 : Plan) : Option Int :=
  ((bif decide (40 < (x0.elems.length : Int)) then some true else bif decide (24 < (x0.signals.length : Int)) then some true else bif decide (4 < (x0.lines.length : Int)) then some true else some (decide (80 < (x0.joins.length : Int))) : Option (Bool))).bind fun (t24 : Bool) => bif t24 then some 3 else (g_plan_numbers x0).bind fun y43 => bif (!y43) then some 1 else ((((loopR (g_plan_Check_l1 x0) (0, []) : Option (Bool))).bind fun (t4007 : Bool) => bif t4007 then some true else ((loopR (g_plan_Check_l2 x0) (0, []) : Option (Bool))).bind fun (t4424 : Bool) => bif t4424 then some true else ((loopR (g_plan_Check_l3 x0) (0, []) : Option (Bool))).bind fun (t4841 : Bool) => some t4841 : Option (Bool))).bind fun (t3799 : Bool) => bif t3799 then some 4 else (g_plan_joined x0).bind fun y5055 => bif (!y5055.2) then some 6 else (g_plan_signals x0 y5055.1).bind fun y5081 => bif (!y5081) then some 7 else (g_plan_lines x0 y5055.1).bind fun y5087 => bif (!y5087) then some 8 else (g_plan_long x0).bind fun y5093 => bif (!y5093) then some 9 else some 0

theorem f_plan_Check (x0 : Plan) (r : Int) (h : g_plan_Check x0 = some r) : Fun Tryz.prog 93 [.agg (planC x0)] (· = .int .i64 r) := by
  refine fn env_ok Tryz.func93 rfl rfl 71 rfl [.tmp 2] rfl [(0, .p (.agg (planC x0)))] rfl rfl fun A hA => ?_
  unfold g_plan_Check at h
  refine rs env_ok ?_
  refine rl rfl ?_
  refine dwp_seq ?_
  refine jb (fun t24 : Bool => ⟨71, [(1, .lpb 0 0), (26, .p (.bool t24))], [(0, .box [.p (.slice 3 (x0.elems.map elemC)), .p (.slice 4 (x0.joins.map joinC)), .p (.slice 4 (x0.signals.map signalC)), .p (.slice 2 (x0.lines.map lineC)), .p (.int .i64 x0.top), .p (.int .i64 x0.brake), .p (.int .i64 x0.margin), .p (.int .i64 x0.throw), .p (.bool x0.hard)])], 1⟩) h (fun t24 h25 => ?_) (fun t24 h32 => ?_) <;> clear h
  · refine rg env_ok ?_
    refine rn 2 rfl ?_
    refine sx rfl (o_len rfl rfl ?_)
    refine rn 2 rfl ?_
    refine gs 9 h25 rfl rfl rfl (fun h26 => ?_) (fun h27 => ?_) <;> clear h25
    · refine rl rfl ?_
      have hr := Option.some.inj h26; subst hr
      exact npn (wk [(0, 0)] (free hA _) rfl rfl rfl (.cons rfl (.cons rfl .nil)) (.cons rfl rfl .nil))
    · refine rn 2 rfl ?_
      refine sx rfl (o_len rfl rfl ?_)
      refine rn 3 rfl ?_
      refine gs 15 h27 rfl rfl rfl (fun h28 => ?_) (fun h29 => ?_) <;> clear h27
      · refine rl rfl ?_
        have hr := Option.some.inj h28; subst hr
        exact npn (wk [(0, 0)] (free hA _) rfl rfl rfl (.cons rfl (.cons rfl .nil)) (.cons rfl rfl .nil))
      · refine rn 2 rfl ?_
        refine sx rfl (o_len rfl rfl ?_)
        refine rn 3 rfl ?_
        refine gs 21 h29 rfl rfl rfl (fun h30 => ?_) (fun h31 => ?_) <;> clear h29
        · refine rl rfl ?_
          have hr := Option.some.inj h30; subst hr
          exact npn (wk [(0, 0)] (free hA _) rfl rfl rfl (.cons rfl (.cons rfl .nil)) (.cons rfl rfl .nil))
        · refine rn 2 rfl ?_
          refine sx rfl (o_len rfl rfl ?_)
          refine rl rfl ?_
          have hr := Option.some.inj h31; subst hr
          exact npn (wk [(0, 0)] (free hA _) rfl rfl rfl (.cons rfl (.cons rfl .nil)) (.cons rfl rfl .nil))
  · refine cd rfl h32 (fun h33 => ?_) (fun h34 => ?_) <;> clear h32
    · refine rs env_ok ?_
      refine rl rfl ?_
      refine dwp_ret ?_
      refine thenD_r ?_
      have hr := Option.some.inj h33; subst hr
      exact er rfl Le.rfl
    · refine dwp_skip ?_
      refine thenD_n ?_
      refine dwp_seq ?_
      refine rs env_ok ?_
      refine rn 1 rfl ?_
      obtain ⟨y43, ey43, h44⟩ := bd h34; clear h34
      refine sx rfl (o_call (f_plan_numbers _ _ ey43) (.inl rfl) rfl rfl rfl ?_)
      refine rl rfl ?_
      refine cd rfl h44 (fun h45 => ?_) (fun h46 => ?_) <;> clear h44
      · refine rs env_ok ?_
        refine rl rfl ?_
        refine dwp_ret ?_
        refine thenD_r ?_
        have hr := Option.some.inj h45; subst hr
        exact er rfl Le.rfl
      · refine dwp_skip ?_
        refine thenD_n ?_
        refine dwp_seq ?_
        refine jb (fun t3799 : Bool => ⟨71, [(1, .lpb 0 0), (48, .p (.bool t3799))], [(0, .box [.p (.slice 3 (x0.elems.map elemC)), .p (.slice 4 (x0.joins.map joinC)), .p (.slice 4 (x0.signals.map signalC)), .p (.slice 2 (x0.lines.map lineC)), .p (.int .i64 x0.top), .p (.int .i64 x0.brake), .p (.int .i64 x0.margin), .p (.int .i64 x0.throw), .p (.bool x0.hard)])], 1⟩) h46 (fun t3799 h3800 => ?_) (fun t3799 h5050 => ?_) <;> clear h46
        · refine rg env_ok ?_
          refine rn 2 rfl ?_
          refine sx rfl (o_len rfl rfl ?_)
          refine rn 1 rfl ?_
          refine sx rfl (o_in env_ok (fun t4007 : Bool => .p (.bool t4007)) (fun t4007 : Bool => [(0, .box [.p (.slice 3 (x0.elems.map elemC)), .p (.slice 4 (x0.joins.map joinC)), .p (.slice 4 (x0.signals.map signalC)), .p (.slice 2 (x0.lines.map lineC)), .p (.int .i64 x0.top), .p (.int .i64 x0.brake), .p (.int .i64 x0.margin), .p (.int .i64 x0.throw), .p (.bool x0.hard)])]) 1 h3800 Tryz.func117 22 [.tmp 4] [(0, .p (.int .i64 (x0.elems.length : Int))), (1, .fn 118 [.lpb 0 0])] rfl rfl rfl rfl rfl rfl rfl rfl (fun A hA t4007 h4008 => ?_) (fun t4007 h4215 => ?_)) <;> clear h3800
          · refine rs env_ok ?_
            refine rl rfl ?_
            refine rs env_ok ?_
            refine rl rfl ?_
            refine dwp_seq ?_
            refine rs env_ok ?_
            refine rl rfl ?_
            refine dwp_block ?_
            apply lp (a := t4007) (fun s4112 : (Int × (List (ByteArray × Bool))) => ⟨22, [(1, .fn 118 [.lpb 0 0]), (5, .lmap 1), (8, .p (.int .i64 (x0.elems.length : Int))), (9, .p (.int .i64 s4112.1))], [(0, .box [.p (.slice 3 (x0.elems.map elemC)), .p (.slice 4 (x0.joins.map joinC)), .p (.slice 4 (x0.signals.map signalC)), .p (.slice 2 (x0.lines.map lineC)), .p (.int .i64 x0.top), .p (.int .i64 x0.brake), .p (.int .i64 x0.margin), .p (.int .i64 x0.throw), .p (.bool x0.hard)]), (1, .map (mapD .str .bool s4112.2))], 2⟩) h4008 <;> clear h4008
            · exact wk [(0, 0), (1, 1)] (kept hA _ rfl) rfl rfl rfl (.cons rfl (.cons rfl (.cons rfl (.cons rfl .nil)))) (.cons rfl rfl (.cons rfl rfl .nil))
            intro s4112 b4177 h4178
            unfold g_plan_Check_l1 at h4178
            refine rs env_ok ?_
            refine rl rfl ?_
            refine dwp_seq ?_
            refine cd rfl h4178 (fun h4181 => ?_) (fun h4212 => ?_) <;> clear h4178
            · refine dwp_skip ?_
              refine thenD_n ?_
              refine dwp_seq ?_
              refine dwp_block ?_
              refine rs env_ok ?_
              refine rl rfl ?_
              refine dwp_seq ?_
              refine rs env_ok ?_
              refine rn 3 rfl ?_
              obtain ⟨y4204, ey4204, h4205⟩ := bd h4181; clear h4181
              refine sx rfl (o_call (f_plan_Check_1 _ _ _ ey4204) (.inl rfl) rfl rfl (LdA.eq (.cons (.one (.p _)) (.cons (.box rfl (.cons (.p _) (.cons (.p _) (.cons (.p _) (.cons (.p _) (.cons (.p _) (.cons (.p _) (.cons (.p _) (.cons (.p _) (.cons (.p _) .nil)))))))))) .nil))) ?_)
              refine sx rfl (o_lk1 (et := 4) (ke := .str) (ve := .bool) (mp := s4112.2) (y := y4204) false keyE_9 rfl rfl rfl rfl ?_)
              refine rl rfl ?_
              refine cd rfl h4205 (fun h4206 => ?_) (fun h4209 => ?_) <;> clear h4205
              · refine rs env_ok ?_
                refine rl rfl ?_
                refine dwp_ret ?_
                refine thenD_r ?_
                refine inB_r ?_
                refine thenD_r ?_
                obtain ⟨a4207, h4208, rfl⟩ := mps h4206; clear h4206
                refine lpt ?_
                refine inB_r ?_
                refine thenD_r ?_
                have hr := Option.some.inj h4208; subst hr
                exact ipr (nt := 22) (sl := [(4, .p (.bool true))]) (wk [(0, 0)] (kept hA _ rfl) rfl rfl rfl (.cons rfl .nil) (.cons rfl rfl .nil)) rfl
              · refine dwp_skip ?_
                refine thenD_n ?_
                refine rg env_ok ?_
                refine rn 3 rfl ?_
                obtain ⟨y4210, ey4210, h4211⟩ := bd h4209; clear h4209
                refine sx rfl (o_call (f_plan_Check_1 _ _ _ ey4210) (.inl rfl) rfl rfl (LdA.eq (.cons (.one (.p _)) (.cons (.box rfl (.cons (.p _) (.cons (.p _) (.cons (.p _) (.cons (.p _) (.cons (.p _) (.cons (.p _) (.cons (.p _) (.cons (.p _) (.cons (.p _) .nil)))))))))) .nil))) ?_)
                refine sx rfl (o_mup (et := 4) (ke := .str) (ve := .bool) (mp := s4112.2) (y := y4210) (z := true) keyE_9 rfl rfl rfl rfl rfl rfl ?_)
                refine rl rfl ?_
                refine inB_n ?_
                refine thenD_n ?_
                refine rg env_ok ?_
                refine rl rfl ?_
                have hr := Option.some.inj h4211; subst hr
                exact lpn (wk [(0, 0), (1, 1)] (kept hA _ rfl) rfl rfl rfl (.cons rfl (.cons rfl (.cons rfl (.cons rfl .nil)))) (.cons rfl rfl (.cons rfl rfl .nil)))
            · refine dwp_exit ?_
              refine thenD_x ?_
              obtain ⟨a4213, h4214, rfl⟩ := mps h4212; clear h4212
              refine lpx ?_
              refine inB_x ?_
              refine thenD_n ?_
              refine rs env_ok ?_
              refine rl rfl ?_
              refine dwp_ret ?_
              have hr := Option.some.inj h4214; subst hr
              exact ipr (nt := 22) (sl := [(4, .p (.bool false))]) (wk [(0, 0)] (kept hA _ rfl) rfl rfl rfl (.cons rfl .nil) (.cons rfl rfl .nil)) rfl
          · refine rn 1 rfl ?_
            refine gs 35 h4215 rfl rfl rfl (fun h4216 => ?_) (fun h4217 => ?_) <;> clear h4215
            · refine rl rfl ?_
              have hr := Option.some.inj h4216; subst hr
              exact npn (wk [(0, 0)] (free hA _) rfl rfl rfl (.cons rfl (.cons rfl .nil)) (.cons rfl rfl .nil))
            · refine rn 2 rfl ?_
              refine sx rfl (o_len rfl rfl ?_)
              refine rn 1 rfl ?_
              refine sx rfl (o_in env_ok (fun t4424 : Bool => .p (.bool t4424)) (fun t4424 : Bool => [(0, .box [.p (.slice 3 (x0.elems.map elemC)), .p (.slice 4 (x0.joins.map joinC)), .p (.slice 4 (x0.signals.map signalC)), .p (.slice 2 (x0.lines.map lineC)), .p (.int .i64 x0.top), .p (.int .i64 x0.brake), .p (.int .i64 x0.margin), .p (.int .i64 x0.throw), .p (.bool x0.hard)])]) 1 h4217 Tryz.func117 22 [.tmp 4] [(0, .p (.int .i64 (x0.signals.length : Int))), (1, .fn 119 [.lpb 0 0])] rfl rfl rfl rfl rfl rfl rfl rfl (fun A hA t4424 h4425 => ?_) (fun t4424 h4632 => ?_)) <;> clear h4217
              · refine rs env_ok ?_
                refine rl rfl ?_
                refine rs env_ok ?_
                refine rl rfl ?_
                refine dwp_seq ?_
                refine rs env_ok ?_
                refine rl rfl ?_
                refine dwp_block ?_
                apply lp (a := t4424) (fun s4529 : (Int × (List (ByteArray × Bool))) => ⟨22, [(1, .fn 119 [.lpb 0 0]), (5, .lmap 1), (8, .p (.int .i64 (x0.signals.length : Int))), (9, .p (.int .i64 s4529.1))], [(0, .box [.p (.slice 3 (x0.elems.map elemC)), .p (.slice 4 (x0.joins.map joinC)), .p (.slice 4 (x0.signals.map signalC)), .p (.slice 2 (x0.lines.map lineC)), .p (.int .i64 x0.top), .p (.int .i64 x0.brake), .p (.int .i64 x0.margin), .p (.int .i64 x0.throw), .p (.bool x0.hard)]), (1, .map (mapD .str .bool s4529.2))], 2⟩) h4425 <;> clear h4425
                · exact wk [(0, 0), (1, 1)] (kept hA _ rfl) rfl rfl rfl (.cons rfl (.cons rfl (.cons rfl (.cons rfl .nil)))) (.cons rfl rfl (.cons rfl rfl .nil))
                intro s4529 b4594 h4595
                unfold g_plan_Check_l2 at h4595
                refine rs env_ok ?_
                refine rl rfl ?_
                refine dwp_seq ?_
                refine cd rfl h4595 (fun h4598 => ?_) (fun h4629 => ?_) <;> clear h4595
                · refine dwp_skip ?_
                  refine thenD_n ?_
                  refine dwp_seq ?_
                  refine dwp_block ?_
                  refine rs env_ok ?_
                  refine rl rfl ?_
                  refine dwp_seq ?_
                  refine rs env_ok ?_
                  refine rn 3 rfl ?_
                  obtain ⟨y4621, ey4621, h4622⟩ := bd h4598; clear h4598
                  refine sx rfl (o_call (f_plan_Check_2 _ _ _ ey4621) (.inl rfl) rfl rfl (LdA.eq (.cons (.one (.p _)) (.cons (.box rfl (.cons (.p _) (.cons (.p _) (.cons (.p _) (.cons (.p _) (.cons (.p _) (.cons (.p _) (.cons (.p _) (.cons (.p _) (.cons (.p _) .nil)))))))))) .nil))) ?_)
                  refine sx rfl (o_lk1 (et := 4) (ke := .str) (ve := .bool) (mp := s4529.2) (y := y4621) false keyE_9 rfl rfl rfl rfl ?_)
                  refine rl rfl ?_
                  refine cd rfl h4622 (fun h4623 => ?_) (fun h4626 => ?_) <;> clear h4622
                  · refine rs env_ok ?_
                    refine rl rfl ?_
                    refine dwp_ret ?_
                    refine thenD_r ?_
                    refine inB_r ?_
                    refine thenD_r ?_
                    obtain ⟨a4624, h4625, rfl⟩ := mps h4623; clear h4623
                    refine lpt ?_
                    refine inB_r ?_
                    refine thenD_r ?_
                    have hr := Option.some.inj h4625; subst hr
                    exact ipr (nt := 22) (sl := [(4, .p (.bool true))]) (wk [(0, 0)] (kept hA _ rfl) rfl rfl rfl (.cons rfl .nil) (.cons rfl rfl .nil)) rfl
                  · refine dwp_skip ?_
                    refine thenD_n ?_
                    refine rg env_ok ?_
                    refine rn 3 rfl ?_
                    obtain ⟨y4627, ey4627, h4628⟩ := bd h4626; clear h4626
                    refine sx rfl (o_call (f_plan_Check_2 _ _ _ ey4627) (.inl rfl) rfl rfl (LdA.eq (.cons (.one (.p _)) (.cons (.box rfl (.cons (.p _) (.cons (.p _) (.cons (.p _) (.cons (.p _) (.cons (.p _) (.cons (.p _) (.cons (.p _) (.cons (.p _) (.cons (.p _) .nil)))))))))) .nil))) ?_)
                    refine sx rfl (o_mup (et := 4) (ke := .str) (ve := .bool) (mp := s4529.2) (y := y4627) (z := true) keyE_9 rfl rfl rfl rfl rfl rfl ?_)
                    refine rl rfl ?_
                    refine inB_n ?_
                    refine thenD_n ?_
                    refine rg env_ok ?_
                    refine rl rfl ?_
                    have hr := Option.some.inj h4628; subst hr
                    exact lpn (wk [(0, 0), (1, 1)] (kept hA _ rfl) rfl rfl rfl (.cons rfl (.cons rfl (.cons rfl (.cons rfl .nil)))) (.cons rfl rfl (.cons rfl rfl .nil)))
                · refine dwp_exit ?_
                  refine thenD_x ?_
                  obtain ⟨a4630, h4631, rfl⟩ := mps h4629; clear h4629
                  refine lpx ?_
                  refine inB_x ?_
                  refine thenD_n ?_
                  refine rs env_ok ?_
                  refine rl rfl ?_
                  refine dwp_ret ?_
                  have hr := Option.some.inj h4631; subst hr
                  exact ipr (nt := 22) (sl := [(4, .p (.bool false))]) (wk [(0, 0)] (kept hA _ rfl) rfl rfl rfl (.cons rfl .nil) (.cons rfl rfl .nil)) rfl
              · refine rn 2 rfl ?_
                refine gs 42 h4632 rfl rfl rfl (fun h4633 => ?_) (fun h4634 => ?_) <;> clear h4632
                · refine rl rfl ?_
                  have hr := Option.some.inj h4633; subst hr
                  exact npn (wk [(0, 0)] (free hA _) rfl rfl rfl (.cons rfl (.cons rfl .nil)) (.cons rfl rfl .nil))
                · refine rn 2 rfl ?_
                  refine sx rfl (o_len rfl rfl ?_)
                  refine rn 1 rfl ?_
                  refine sx rfl (o_in env_ok (fun t4841 : Bool => .p (.bool t4841)) (fun t4841 : Bool => [(0, .box [.p (.slice 3 (x0.elems.map elemC)), .p (.slice 4 (x0.joins.map joinC)), .p (.slice 4 (x0.signals.map signalC)), .p (.slice 2 (x0.lines.map lineC)), .p (.int .i64 x0.top), .p (.int .i64 x0.brake), .p (.int .i64 x0.margin), .p (.int .i64 x0.throw), .p (.bool x0.hard)])]) 1 h4634 Tryz.func117 22 [.tmp 4] [(0, .p (.int .i64 (x0.lines.length : Int))), (1, .fn 120 [.lpb 0 0])] rfl rfl rfl rfl rfl rfl rfl rfl (fun A hA t4841 h4842 => ?_) (fun t4841 h5049 => ?_)) <;> clear h4634
                  · refine rs env_ok ?_
                    refine rl rfl ?_
                    refine rs env_ok ?_
                    refine rl rfl ?_
                    refine dwp_seq ?_
                    refine rs env_ok ?_
                    refine rl rfl ?_
                    refine dwp_block ?_
                    apply lp (a := t4841) (fun s4946 : (Int × (List (ByteArray × Bool))) => ⟨22, [(1, .fn 120 [.lpb 0 0]), (5, .lmap 1), (8, .p (.int .i64 (x0.lines.length : Int))), (9, .p (.int .i64 s4946.1))], [(0, .box [.p (.slice 3 (x0.elems.map elemC)), .p (.slice 4 (x0.joins.map joinC)), .p (.slice 4 (x0.signals.map signalC)), .p (.slice 2 (x0.lines.map lineC)), .p (.int .i64 x0.top), .p (.int .i64 x0.brake), .p (.int .i64 x0.margin), .p (.int .i64 x0.throw), .p (.bool x0.hard)]), (1, .map (mapD .str .bool s4946.2))], 2⟩) h4842 <;> clear h4842
                    · exact wk [(0, 0), (1, 1)] (kept hA _ rfl) rfl rfl rfl (.cons rfl (.cons rfl (.cons rfl (.cons rfl .nil)))) (.cons rfl rfl (.cons rfl rfl .nil))
                    intro s4946 b5011 h5012
                    unfold g_plan_Check_l3 at h5012
                    refine rs env_ok ?_
                    refine rl rfl ?_
                    refine dwp_seq ?_
                    refine cd rfl h5012 (fun h5015 => ?_) (fun h5046 => ?_) <;> clear h5012
                    · refine dwp_skip ?_
                      refine thenD_n ?_
                      refine dwp_seq ?_
                      refine dwp_block ?_
                      refine rs env_ok ?_
                      refine rl rfl ?_
                      refine dwp_seq ?_
                      refine rs env_ok ?_
                      refine rn 3 rfl ?_
                      obtain ⟨y5038, ey5038, h5039⟩ := bd h5015; clear h5015
                      refine sx rfl (o_call (f_plan_Check_3 _ _ _ ey5038) (.inl rfl) rfl rfl (LdA.eq (.cons (.one (.p _)) (.cons (.box rfl (.cons (.p _) (.cons (.p _) (.cons (.p _) (.cons (.p _) (.cons (.p _) (.cons (.p _) (.cons (.p _) (.cons (.p _) (.cons (.p _) .nil)))))))))) .nil))) ?_)
                      refine sx rfl (o_lk1 (et := 4) (ke := .str) (ve := .bool) (mp := s4946.2) (y := y5038) false keyE_9 rfl rfl rfl rfl ?_)
                      refine rl rfl ?_
                      refine cd rfl h5039 (fun h5040 => ?_) (fun h5043 => ?_) <;> clear h5039
                      · refine rs env_ok ?_
                        refine rl rfl ?_
                        refine dwp_ret ?_
                        refine thenD_r ?_
                        refine inB_r ?_
                        refine thenD_r ?_
                        obtain ⟨a5041, h5042, rfl⟩ := mps h5040; clear h5040
                        refine lpt ?_
                        refine inB_r ?_
                        refine thenD_r ?_
                        have hr := Option.some.inj h5042; subst hr
                        exact ipr (nt := 22) (sl := [(4, .p (.bool true))]) (wk [(0, 0)] (kept hA _ rfl) rfl rfl rfl (.cons rfl .nil) (.cons rfl rfl .nil)) rfl
                      · refine dwp_skip ?_
                        refine thenD_n ?_
                        refine rg env_ok ?_
                        refine rn 3 rfl ?_
                        obtain ⟨y5044, ey5044, h5045⟩ := bd h5043; clear h5043
                        refine sx rfl (o_call (f_plan_Check_3 _ _ _ ey5044) (.inl rfl) rfl rfl (LdA.eq (.cons (.one (.p _)) (.cons (.box rfl (.cons (.p _) (.cons (.p _) (.cons (.p _) (.cons (.p _) (.cons (.p _) (.cons (.p _) (.cons (.p _) (.cons (.p _) (.cons (.p _) .nil)))))))))) .nil))) ?_)
                        refine sx rfl (o_mup (et := 4) (ke := .str) (ve := .bool) (mp := s4946.2) (y := y5044) (z := true) keyE_9 rfl rfl rfl rfl rfl rfl ?_)
                        refine rl rfl ?_
                        refine inB_n ?_
                        refine thenD_n ?_
                        refine rg env_ok ?_
                        refine rl rfl ?_
                        have hr := Option.some.inj h5045; subst hr
                        exact lpn (wk [(0, 0), (1, 1)] (kept hA _ rfl) rfl rfl rfl (.cons rfl (.cons rfl (.cons rfl (.cons rfl .nil)))) (.cons rfl rfl (.cons rfl rfl .nil)))
                    · refine dwp_exit ?_
                      refine thenD_x ?_
                      obtain ⟨a5047, h5048, rfl⟩ := mps h5046; clear h5046
                      refine lpx ?_
                      refine inB_x ?_
                      refine thenD_n ?_
                      refine rs env_ok ?_
                      refine rl rfl ?_
                      refine dwp_ret ?_
                      have hr := Option.some.inj h5048; subst hr
                      exact ipr (nt := 22) (sl := [(4, .p (.bool false))]) (wk [(0, 0)] (kept hA _ rfl) rfl rfl rfl (.cons rfl .nil) (.cons rfl rfl .nil)) rfl
                  · refine rl rfl ?_
                    have hr := Option.some.inj h5049; subst hr
                    exact npn (wk [(0, 0)] (free hA _) rfl rfl rfl (.cons rfl (.cons rfl .nil)) (.cons rfl rfl .nil))
        · refine cd rfl h5050 (fun h5051 => ?_) (fun h5052 => ?_) <;> clear h5050
          · refine rs env_ok ?_
            refine rl rfl ?_
            refine dwp_ret ?_
            refine thenD_r ?_
            have hr := Option.some.inj h5051; subst hr
            exact er rfl Le.rfl
          · refine dwp_skip ?_
            refine thenD_n ?_
            refine rs env_ok ?_
            refine rn 1 rfl ?_
            obtain ⟨y5055, ey5055, h5056⟩ := bd h5052; clear h5052
            refine sx rfl (o_call (f_plan_joined _ _ ey5055) (.inr rfl) rfl rfl rfl ?_)
            refine rl rfl ?_
            refine dwp_seq ?_
            refine dwp_block ?_
            refine rs env_ok ?_
            refine rl rfl ?_
            refine cd rfl h5056 (fun h5077 => ?_) (fun h5078 => ?_) <;> clear h5056
            · refine rs env_ok ?_
              refine rl rfl ?_
              refine dwp_ret ?_
              refine inB_r ?_
              refine thenD_r ?_
              have hr := Option.some.inj h5077; subst hr
              exact er rfl Le.rfl
            · refine rs env_ok ?_
              refine rn 2 rfl ?_
              obtain ⟨y5081, ey5081, h5082⟩ := bd h5078; clear h5078
              refine sx rfl (o_call (f_plan_signals _ _ _ ey5081) (.inl rfl) rfl rfl rfl ?_)
              refine rl rfl ?_
              refine cd rfl h5082 (fun h5083 => ?_) (fun h5084 => ?_) <;> clear h5082
              · refine rs env_ok ?_
                refine rl rfl ?_
                refine dwp_ret ?_
                refine inB_r ?_
                refine thenD_r ?_
                have hr := Option.some.inj h5083; subst hr
                exact er rfl Le.rfl
              · refine rs env_ok ?_
                refine rn 2 rfl ?_
                obtain ⟨y5087, ey5087, h5088⟩ := bd h5084; clear h5084
                refine sx rfl (o_call (f_plan_lines _ _ _ ey5087) (.inl rfl) rfl rfl rfl ?_)
                refine rl rfl ?_
                refine cd rfl h5088 (fun h5089 => ?_) (fun h5090 => ?_) <;> clear h5088
                · refine rs env_ok ?_
                  refine rl rfl ?_
                  refine dwp_ret ?_
                  refine inB_r ?_
                  refine thenD_r ?_
                  have hr := Option.some.inj h5089; subst hr
                  exact er rfl Le.rfl
                · refine rs env_ok ?_
                  refine rn 1 rfl ?_
                  obtain ⟨y5093, ey5093, h5094⟩ := bd h5090; clear h5090
                  refine sx rfl (o_call (f_plan_long _ _ ey5093) (.inl rfl) rfl rfl rfl ?_)
                  refine rl rfl ?_
                  refine cd rfl h5094 (fun h5095 => ?_) (fun h5096 => ?_) <;> clear h5094
                  · refine rs env_ok ?_
                    refine rl rfl ?_
                    refine dwp_ret ?_
                    refine inB_r ?_
                    refine thenD_r ?_
                    have hr := Option.some.inj h5095; subst hr
                    exact er rfl Le.rfl
                  · refine dwp_skip ?_
                    refine inB_n ?_
                    refine thenD_n ?_
                    refine rs env_ok ?_
                    refine rl rfl ?_
                    refine dwp_ret ?_
                    have hr := Option.some.inj h5096; subst hr
                    exact er rfl Le.rfl

end Go.E
/- Plain functions, and walks in step with them. Written by a program (gen.py). No condition. -/
set_option maxRecDepth 100000
namespace Go.E
open Go Go.RowKit Go.Proofs

noncomputable def g_slices_Clone_apiElem (x0 : (List Elem)) : Option (List Elem) :=
  nilS x0 (some []) ((appI ([] : List Elem) x0).bind fun y11 => some y11)

theorem f_slices_Clone_apiElem (x0 : (List Elem)) (r : (List Elem)) (h : g_slices_Clone_apiElem x0 = some r) : Fun Tryz.prog 125 [.slice 3 (x0.map elemC)] (· = .slice 3 (r.map elemC)) := by
  refine fn env_ok Tryz.func125 rfl rfl 8 rfl [.tmp 2] rfl [(0, .p (.slice 3 (x0.map elemC)))] rfl rfl fun A hA => ?_
  unfold g_slices_Clone_apiElem at h
  refine rs env_ok ?_
  refine rl rfl ?_
  refine dwp_seq ?_
  refine rs env_ok ?_
  refine rn 1 rfl ?_
  refine sx rfl (o_nilE h rfl rfl rfl (fun h7 => ?_) (fun h8 => ?_)) <;> clear h
  · refine rl rfl ?_
    refine cdt rfl ?_
    refine rs env_ok ?_
    refine rl rfl ?_
    refine dwp_ret ?_
    refine thenD_r ?_
    have hr := Option.some.inj h7; subst hr
    exact er rfl (Le.nil _)
  · refine rl rfl ?_
    refine cdf rfl ?_
    refine dwp_skip ?_
    refine thenD_n ?_
    refine rs env_ok ?_
    refine rn 2 rfl ?_
    obtain ⟨y11, ey11, h12⟩ := bd h8; clear h8
    refine sx rfl (o_app1 (enc := elemC) (l := ([] : List Elem)) (m := x0) ey11 (fun _ => ⟨rfl, rfl⟩) rfl rfl rfl rfl rfl rfl ?_)
    refine rl rfl ?_
    refine dwp_ret ?_
    have hr := Option.some.inj h12; subst hr
    exact er (rd1 rfl (.one (.own (enc := elemC) y11 rfl rfl))) Le.rfl

noncomputable def g_slices_Clone_apiJoin (x0 : (List Join)) : Option (List Join) :=
  nilS x0 (some []) ((appI ([] : List Join) x0).bind fun y11 => some y11)

theorem f_slices_Clone_apiJoin (x0 : (List Join)) (r : (List Join)) (h : g_slices_Clone_apiJoin x0 = some r) : Fun Tryz.prog 126 [.slice 4 (x0.map joinC)] (· = .slice 4 (r.map joinC)) := by
  refine fn env_ok Tryz.func126 rfl rfl 8 rfl [.tmp 2] rfl [(0, .p (.slice 4 (x0.map joinC)))] rfl rfl fun A hA => ?_
  unfold g_slices_Clone_apiJoin at h
  refine rs env_ok ?_
  refine rl rfl ?_
  refine dwp_seq ?_
  refine rs env_ok ?_
  refine rn 1 rfl ?_
  refine sx rfl (o_nilE h rfl rfl rfl (fun h7 => ?_) (fun h8 => ?_)) <;> clear h
  · refine rl rfl ?_
    refine cdt rfl ?_
    refine rs env_ok ?_
    refine rl rfl ?_
    refine dwp_ret ?_
    refine thenD_r ?_
    have hr := Option.some.inj h7; subst hr
    exact er rfl (Le.nil _)
  · refine rl rfl ?_
    refine cdf rfl ?_
    refine dwp_skip ?_
    refine thenD_n ?_
    refine rs env_ok ?_
    refine rn 2 rfl ?_
    obtain ⟨y11, ey11, h12⟩ := bd h8; clear h8
    refine sx rfl (o_app1 (enc := joinC) (l := ([] : List Join)) (m := x0) ey11 (fun _ => ⟨rfl, rfl⟩) rfl rfl rfl rfl rfl rfl ?_)
    refine rl rfl ?_
    refine dwp_ret ?_
    have hr := Option.some.inj h12; subst hr
    exact er (rd1 rfl (.one (.own (enc := joinC) y11 rfl rfl))) Le.rfl

noncomputable def g_slices_Clone_apiSignal (x0 : (List Signal)) : Option (List Signal) :=
  nilS x0 (some []) ((appI ([] : List Signal) x0).bind fun y11 => some y11)

theorem f_slices_Clone_apiSignal (x0 : (List Signal)) (r : (List Signal)) (h : g_slices_Clone_apiSignal x0 = some r) : Fun Tryz.prog 127 [.slice 4 (x0.map signalC)] (· = .slice 4 (r.map signalC)) := by
  refine fn env_ok Tryz.func127 rfl rfl 8 rfl [.tmp 2] rfl [(0, .p (.slice 4 (x0.map signalC)))] rfl rfl fun A hA => ?_
  unfold g_slices_Clone_apiSignal at h
  refine rs env_ok ?_
  refine rl rfl ?_
  refine dwp_seq ?_
  refine rs env_ok ?_
  refine rn 1 rfl ?_
  refine sx rfl (o_nilE h rfl rfl rfl (fun h7 => ?_) (fun h8 => ?_)) <;> clear h
  · refine rl rfl ?_
    refine cdt rfl ?_
    refine rs env_ok ?_
    refine rl rfl ?_
    refine dwp_ret ?_
    refine thenD_r ?_
    have hr := Option.some.inj h7; subst hr
    exact er rfl (Le.nil _)
  · refine rl rfl ?_
    refine cdf rfl ?_
    refine dwp_skip ?_
    refine thenD_n ?_
    refine rs env_ok ?_
    refine rn 2 rfl ?_
    obtain ⟨y11, ey11, h12⟩ := bd h8; clear h8
    refine sx rfl (o_app1 (enc := signalC) (l := ([] : List Signal)) (m := x0) ey11 (fun _ => ⟨rfl, rfl⟩) rfl rfl rfl rfl rfl rfl ?_)
    refine rl rfl ?_
    refine dwp_ret ?_
    have hr := Option.some.inj h12; subst hr
    exact er (rd1 rfl (.one (.own (enc := signalC) y11 rfl rfl))) Le.rfl

noncomputable def g_slices_Clone_apiLine (x0 : (List Line)) : Option (List Line) :=
  nilS x0 (some []) ((appI ([] : List Line) x0).bind fun y11 => some y11)

theorem fN_slices_Clone_apiLine (x0 : (List Line)) (r : (List Line)) (h : g_slices_Clone_apiLine x0 = some r) : FunN Tryz.prog 128 [.slice 2 (x0.map lineC)] 124 2 (r.map lineC) := by
  refine fnN (enc := lineC) (fun _ => ⟨rfl, rfl⟩) Tryz.func128 rfl rfl 8 rfl 2 rfl [(0, .p (.slice 2 (x0.map lineC)))] rfl rfl fun A hA => ?_
  unfold g_slices_Clone_apiLine at h
  refine rs env_ok ?_
  refine rl rfl ?_
  refine dwp_seq ?_
  refine rs env_ok ?_
  refine rn 1 rfl ?_
  refine sx rfl (o_nilE h rfl rfl rfl (fun h19 => ?_) (fun h20 => ?_)) <;> clear h
  · refine rl rfl ?_
    refine cdt rfl ?_
    refine rs env_ok ?_
    refine rl rfl ?_
    refine dwp_ret ?_
    refine thenD_r ?_
    have hr := Option.some.inj h19; subst hr
    exact erNn rfl
  · refine rl rfl ?_
    refine cdf rfl ?_
    refine dwp_skip ?_
    refine thenD_n ?_
    refine rs env_ok ?_
    refine rn 2 rfl ?_
    obtain ⟨y23, ey23, h24⟩ := bd h20; clear h20
    refine sx rfl (o_app1 (enc := lineC) (l := ([] : List Line)) (m := x0) ey23 (fun _ => ⟨rfl, rfl⟩) rfl rfl rfl rfl rfl rfl ?_)
    refine rl rfl ?_
    refine dwp_ret ?_
    have hr := Option.some.inj h24; subst hr
    exact erN rfl rfl rfl

noncomputable def g_slices_Clone_int (x0 : (List Int)) : Option (List Int) :=
  nilS x0 (some []) ((appI ([] : List Int) x0).bind fun y11 => some y11)

theorem f_slices_Clone_int (x0 : (List Int)) (r : (List Int)) (h : g_slices_Clone_int x0 = some r) : Fun Tryz.prog 129 [.slice 1 (x0.map intC)] (· = .slice 1 (r.map intC)) := by
  refine fn env_ok Tryz.func129 rfl rfl 8 rfl [.tmp 2] rfl [(0, .p (.slice 1 (x0.map intC)))] rfl rfl fun A hA => ?_
  unfold g_slices_Clone_int at h
  refine rs env_ok ?_
  refine rl rfl ?_
  refine dwp_seq ?_
  refine rs env_ok ?_
  refine rn 1 rfl ?_
  refine sx rfl (o_nilE h rfl rfl rfl (fun h7 => ?_) (fun h8 => ?_)) <;> clear h
  · refine rl rfl ?_
    refine cdt rfl ?_
    refine rs env_ok ?_
    refine rl rfl ?_
    refine dwp_ret ?_
    refine thenD_r ?_
    have hr := Option.some.inj h7; subst hr
    exact er rfl (Le.nil _)
  · refine rl rfl ?_
    refine cdf rfl ?_
    refine dwp_skip ?_
    refine thenD_n ?_
    refine rs env_ok ?_
    refine rn 2 rfl ?_
    obtain ⟨y11, ey11, h12⟩ := bd h8; clear h8
    refine sx rfl (o_app1 (enc := intC) (l := ([] : List Int)) (m := x0) ey11 (fun _ => ⟨rfl, rfl⟩) rfl rfl rfl rfl rfl rfl ?_)
    refine rl rfl ?_
    refine dwp_ret ?_
    have hr := Option.some.inj h12; subst hr
    exact er (rd1 rfl (.one (.own (enc := intC) y11 rfl rfl))) Le.rfl

noncomputable def g_net_twin_l1 (x0 : Plan) (y7 : (List Elem)) (y9 : (List Join)) (y11 : (List Signal)) (y15 : (List Line)) (s70 : Int × (List Line)) : Option ((Int × (List Line)) ⊕ Plan) :=
  bif decide (s70.1 < (y15.length : Int)) then (idx s70.2 s70.1).bind fun y114 => (g_slices_Clone_int y114.elems).bind fun y116 => (idx s70.2 s70.1).bind fun y118 => some (.inl (wi64 (s70.1 + 1), setI s70.2 s70.1 (⟨y118.name, y116⟩ : Line))) else some (.inr (⟨y7, y9, y11, s70.2, x0.top, x0.brake, x0.margin, x0.throw, x0.hard⟩ : Plan))

noncomputable def g_net_twin (x0 : Plan) : Option Plan :=
  (g_slices_Clone_apiElem x0.elems).bind fun y7 => (g_slices_Clone_apiJoin x0.joins).bind fun y9 => (g_slices_Clone_apiSignal x0.signals).bind fun y11 => (g_slices_Clone_apiLine x0.lines).bind fun y15 => loopR (g_net_twin_l1 x0 y7 y9 y11 y15) (0, y15)

theorem f_net_twin (x0 : Plan) (r : Plan) (h : g_net_twin x0 = some r) : Fun Tryz.prog 94 [.agg (planC x0)] (· = .agg (planC r)) := by
  refine fn env_ok Tryz.func94 rfl rfl 40 rfl [.cell 2 27] rfl [(0, .p (.agg (planC x0)))] rfl rfl fun A hA => ?_
  unfold g_net_twin at h
  refine rs env_ok ?_
  refine rl rfl ?_
  refine dwp_seq ?_
  refine rgd env_ok mixed [0, 1, 2, 3, 4, 5, 6, 7, 8, 9, 10, 11, 12, 13, 14] 15 (by kernel_rfl) rfl rfl rfl ?_
  refine rnD 2 rfl ?_
  obtain ⟨y7, ey7, h8⟩ := bd h; clear h
  refine sxD rfl (o_callD (f_slices_Clone_apiElem _ _ ey7) (.inr rfl) rfl rfl rfl ?_)
  refine rnD 2 rfl ?_
  obtain ⟨y9, ey9, h10⟩ := bd h8; clear h8
  refine sxD rfl (o_callD (f_slices_Clone_apiJoin _ _ ey9) (.inr rfl) rfl rfl rfl ?_)
  refine rnD 2 rfl ?_
  obtain ⟨y11, ey11, h12⟩ := bd h10; clear h10
  refine sxD rfl (o_callD (f_slices_Clone_apiSignal _ _ ey11) (.inr rfl) rfl rfl rfl ?_)
  refine rlD rfl ?_
  refine thenD_n ?_
  refine rs env_ok ?_
  refine rn 2 rfl ?_
  obtain ⟨y15, ey15, h16⟩ := bd h12; clear h12
  refine sx rfl (o_callN (fN_slices_Clone_apiLine _ _ ey15) rfl rfl rfl rfl ?_)
  refine rl rfl ?_
  refine dwp_seq ?_
  refine rs env_ok ?_
  refine rl rfl ?_
  refine dwp_block ?_
  apply lp (a := r) (fun s70 : (Int × (List Line)) => ⟨40, [(1, .lpb 0 0), (2, .lpb 1 0), (22, .p (.int .i64 (y15.length : Int))), (23, .p (.int .i64 s70.1))], [(0, .box [.p (.slice 3 (y7.map elemC)), .p (.slice 4 (y9.map joinC)), .p (.slice 4 (y11.map signalC)), .lsl 2 2 0 s70.2.length, .p (.int .i64 x0.top), .p (.int .i64 x0.brake), .p (.int .i64 x0.margin), .p (.int .i64 x0.throw), .p (.bool x0.hard)]), (1, .box [.p (.nils), .p (.nils), .p (.nils), .p (.nils), .p (.int .i64 0), .p (.int .i64 0), .p (.int .i64 0), .p (.int .i64 0), .p (.bool false)]), (2, .row 124 2 (s70.2.map lineC))], 3⟩) h16 <;> clear h16
  · exact wk [(0, 0), (1, 1), (2, 17)] (free hA _) rfl rfl rfl (.cons rfl (.cons rfl (.cons rfl (.cons rfl .nil)))) (.cons rfl rfl (.cons rfl rfl (.cons rfl rfl .nil)))
  intro s70 b103 h104
  unfold g_net_twin_l1 at h104
  refine rs env_ok ?_
  refine rl rfl ?_
  refine dwp_seq ?_
  refine cd rfl h104 (fun h107 => ?_) (fun h120 => ?_) <;> clear h104
  · refine dwp_skip ?_
    refine thenD_n ?_
    refine dwp_seq ?_
    refine dwp_block ?_
    refine rs env_ok ?_
    refine rl rfl ?_
    refine rgd env_ok mixed [0, 1, 2, 3, 4, 5, 6, 7, 8, 9, 10, 11, 12] 13 (by kernel_rfl) rfl rfl rfl ?_
    refine rnD 6 rfl ?_
    obtain ⟨y114, ey114, h115⟩ := bd h107; clear h107
    refine sxD rfl (opD_plain rfl (o_idxO ey114 rfl rfl rfl rfl ?_))
    refine rnD 1 rfl ?_
    refine sxD rfl (opD_plain rfl (o_ldO ey114 rfl rfl rfl ?_))
    obtain ⟨y116, ey116, h117⟩ := bd h115; clear h115
    refine sxD rfl (o_callD (f_slices_Clone_int _ _ ey116) (.inr rfl) rfl rfl rfl ?_)
    obtain ⟨y118, ey118, h119⟩ := bd h117; clear h117
    refine sxD rfl (opD_plain rfl (o_idxO ey118 rfl rfl rfl rfl ?_))
    refine rnD 1 rfl ?_
    refine sxD rfl (opD_plain rfl (o_stO (z := (⟨y118.name, y116⟩ : Line)) ey118 rfl rfl rfl rfl rfl rfl rfl rfl ?_))
    refine rlD rfl ?_
    refine inB_n ?_
    refine thenD_n ?_
    refine rg env_ok ?_
    refine rl rfl ?_
    have hr := Option.some.inj h119; subst hr
    exact lpn (wk [(0, 0), (1, 1), (2, 2)] (free hA _) rfl rfl rfl (.cons rfl (.cons rfl (.cons rfl (.cons rfl .nil)))) (.cons rfl (by simp only [setI_len]; rfl) (.cons rfl rfl (.cons rfl rfl .nil))))
  · refine dwp_exit ?_
    refine thenD_x ?_
    obtain ⟨a121, h122, rfl⟩ := mps h120; clear h120
    refine lpx ?_
    refine inB_x ?_
    refine thenD_n ?_
    refine rs env_ok ?_
    refine rl rfl ?_
    refine dwp_ret ?_
    have hr := Option.some.inj h122; subst hr
    exact er (rd1 rfl (.agg (.cons (.p _) (.cons (.p _) (.cons (.p _) (.cons (.own (enc := lineC) s70.2 rfl rfl) (.cons (.p _) (.cons (.p _) (.cons (.p _) (.cons (.p _) (.cons (.p _) .nil))))))))))) Le.rfl

noncomputable def g_net_New_l4 (s58 : (Int × (List (Port × Port)))) (s714 : (Int × (List (Int × Arr2Int)) × (List (Int × Int)))) (y1160 : Line) (s1203 : Int × Int × (List (Int × Arr2Int)) × (List (Int × Int))) : Option ((Int × Int × (List (Int × Arr2Int)) × (List (Int × Int))) ⊕ ((Int × (List (Int × Arr2Int)) × (List (Int × Int))) ⊕ ((Option Net) × Int))) :=
  bif decide (s1203.2.1 < (y1160.elems.length : Int)) then (idx y1160.elems s1203.2.1).bind fun y1239 => some (.inl (((assoc s58.2 (⟨y1239, wi64 (1 - s1203.1)⟩ : Port)).getD (⟨0, 0⟩ : Port)).fin, wi64 (s1203.2.1 + 1), aput y1239 (⟨s714.1, s1203.2.1⟩ : Arr2Int) s1203.2.2.1, aput y1239 s1203.1 s1203.2.2.2)) else some (.inr (.inl (wi64 (s714.1 + 1), s1203.2.2.1, s1203.2.2.2)))

noncomputable def g_net_New_l3 (x0 : Plan) (y15 : Plan) (s58 : (Int × (List (Port × Port)))) (s140 : (Int × (List (Port × Int)))) (s714 : Int × (List (Int × Arr2Int)) × (List (Int × Int))) : Option ((Int × (List (Int × Arr2Int)) × (List (Int × Int))) ⊕ ((Option Net) × Int)) :=
  bif decide (s714.1 < (x0.lines.length : Int)) then (idx x0.lines s714.1).bind fun y1160 => ((bif decide (1 < (y1160.elems.length : Int)) then (idx y1160.elems 0).bind fun y1186 => ((bif (assoc s58.2 (⟨y1186, 0⟩ : Port)).isSome then (idx y1160.elems 1).bind fun y1195 => some ((((assoc s58.2 (⟨y1186, 0⟩ : Port)).getD (⟨0, 0⟩ : Port)).elem) == y1195) else some false : Option (Bool))).bind fun (t1192 : Bool) => bif t1192 then some 1 else some 0 else some 0 : Option (Int))).bind fun (t1181 : Int) => loopR (g_net_New_l4 s58 s714 y1160) (t1181, 0, s714.2.1, s714.2.2) else some (.inr (some (⟨y15, s58.2, s140.2, s714.2.1, s714.2.2⟩ : Net), 0))

noncomputable def g_net_New_l2 (x0 : Plan) (y15 : Plan) (s58 : (Int × (List (Port × Port)))) (s140 : Int × (List (Port × Int))) : Option ((Int × (List (Port × Int))) ⊕ ((Option Net) × Int)) :=
  bif decide (s140.1 < (x0.signals.length : Int)) then (idx x0.signals s140.1).bind fun y176 => some (.inl (wi64 (s140.1 + 1), aput y176.at_ s140.1 s140.2)) else (loopR (g_net_New_l3 x0 y15 s58 s140) (0, [], [])).map .inr

noncomputable def g_net_New_l1 (x0 : Plan) (y15 : Plan) (s58 : Int × (List (Port × Port))) : Option ((Int × (List (Port × Port))) ⊕ ((Option Net) × Int)) :=
  bif decide (s58.1 < (x0.joins.length : Int)) then (idx x0.joins s58.1).bind fun y94 => some (.inl (wi64 (s58.1 + 1), aput y94.b y94.a (aput y94.a y94.b s58.2))) else (loopR (g_net_New_l2 x0 y15 s58) (0, [])).map .inr

noncomputable def g_net_New (x0 : Plan) : Option ((Option Net) × Int) :=
  (g_plan_Check x0).bind fun y9 => bif (y9 != 0) then some (none, y9) else (g_net_twin x0).bind fun y15 => loopR (g_net_New_l1 x0 y15) (0, [])

theorem f_net_New (x0 : Plan) (r : ((Option Net) × Int)) (h : g_net_New x0 = some r) : Fun Tryz.prog 53 [.agg (planC x0)] (· = .tup [ptrD netC r.1, .int .i64 r.2]) := by
  refine fn env_ok Tryz.func53 rfl rfl 148 rfl [.tmp 2, .tmp 3] rfl [(0, .p (.agg (planC x0)))] rfl rfl fun A hA => ?_
  unfold g_net_New at h
  refine rs env_ok ?_
  refine rl rfl ?_
  refine dwp_seq ?_
  refine rs env_ok ?_
  refine rn 1 rfl ?_
  obtain ⟨y9, ey9, h10⟩ := bd h; clear h
  refine sx rfl (o_call (f_plan_Check _ _ ey9) (.inl rfl) rfl rfl rfl ?_)
  refine rl rfl ?_
  refine rs env_ok ?_
  refine rl rfl ?_
  refine cd rfl h10 (fun h11 => ?_) (fun h12 => ?_) <;> clear h10
  · refine rs env_ok ?_
    refine rl rfl ?_
    refine dwp_ret ?_
    refine thenD_r ?_
    have hr := Option.some.inj h11; subst hr
    exact er rfl Le.rfl
  · refine dwp_skip ?_
    refine thenD_n ?_
    refine rs env_ok ?_
    refine rn 1 rfl ?_
    obtain ⟨y15, ey15, h16⟩ := bd h12; clear h12
    refine sx rfl (o_call (f_net_twin _ _ ey15) (.inr rfl) rfl rfl rfl ?_)
    refine rl rfl ?_
    refine dwp_seq ?_
    refine rs env_ok ?_
    refine rn 2 rfl ?_
    refine sx rfl (o_len rfl rfl ?_)
    refine rl rfl ?_
    refine dwp_block ?_
    apply lp (a := r) (fun s58 : (Int × (List (Port × Port))) => ⟨148, [(1, .lpb 0 0), (5, .lpb 1 0), (31, .p (.slice 4 (x0.joins.map joinC))), (32, .p (.int .i64 (x0.joins.length : Int))), (33, .p (.int .i64 s58.1))], [(0, .box [.p (.slice 3 (x0.elems.map elemC)), .p (.slice 4 (x0.joins.map joinC)), .p (.slice 4 (x0.signals.map signalC)), .p (.slice 2 (x0.lines.map lineC)), .p (.int .i64 x0.top), .p (.int .i64 x0.brake), .p (.int .i64 x0.margin), .p (.int .i64 x0.throw), .p (.bool x0.hard)]), (1, .box [.p (.slice 3 (y15.elems.map elemC)), .p (.slice 4 (y15.joins.map joinC)), .p (.slice 4 (y15.signals.map signalC)), .p (.slice 2 (y15.lines.map lineC)), .p (.int .i64 y15.top), .p (.int .i64 y15.brake), .p (.int .i64 y15.margin), .p (.int .i64 y15.throw), .p (.bool y15.hard), .lmap 2, .lmap 3, .lmap 4, .lmap 5]), (2, .map (mapD (fun x => .agg (portC x)) (fun x => .agg (portC x)) s58.2)), (3, .map (mapD (fun x => .agg (portC x)) (.int .i64) [])), (4, .map (mapD (.int .i64) (fun x => .agg (arr2IntC x)) [])), (5, .map (mapD (.int .i64) (.int .i64) []))], 6⟩) h16 <;> clear h16
    · exact wk [(0, 0), (1, 5), (2, 1), (3, 2), (4, 3), (5, 4)] (free hA _) rfl rfl rfl (.cons rfl (.cons rfl (.cons rfl (.cons rfl (.cons rfl .nil))))) (.cons rfl rfl (.cons rfl rfl (.cons rfl rfl (.cons rfl rfl (.cons rfl rfl (.cons rfl rfl .nil))))))
    intro s58 b83 h84
    unfold g_net_New_l1 at h84
    refine rs env_ok ?_
    refine rl rfl ?_
    refine dwp_seq ?_
    refine cd rfl h84 (fun h87 => ?_) (fun h96 => ?_) <;> clear h84
    · refine dwp_skip ?_
      refine thenD_n ?_
      refine dwp_seq ?_
      refine dwp_block ?_
      refine rs env_ok ?_
      obtain ⟨y94, ey94, h95⟩ := bd h87; clear h87
      refine sx rfl (o_idx ey94 rfl rfl rfl ?_)
      refine rl rfl ?_
      refine rgd env_ok mixed [0, 1, 2, 3, 4, 5, 6, 7, 8, 9, 10, 11, 12, 13, 14, 15, 16, 17, 18, 19, 20, 21] 22 (by kernel_rfl) rfl rfl rfl ?_
      refine rnD 16 rfl ?_
      refine sxD rfl (opD_plain rfl (o_ment (et := 42) (ke := (fun x => .agg (portC x))) (ve := (fun x => .agg (portC x))) (mp := s58.2) (y := y94.a) (⟨0, 0⟩ : Port) keyE_42 rfl rfl rfl rfl rfl rfl ?_))
      refine rnD 1 rfl ?_
      refine sxD rfl (opD_plain rfl (o_esto (ke := (fun x => .agg (portC x))) (ve := (fun x => .agg (portC x))) (mp := s58.2) (y := y94.a) (z := (⟨0, 0⟩ : Port)) (w := y94.b) rfl rfl rfl rfl rfl ?_))
      refine sxD rfl (opD_plain rfl (o_ment (et := 42) (ke := (fun x => .agg (portC x))) (ve := (fun x => .agg (portC x))) (mp := aput y94.a y94.b s58.2) (y := y94.b) (⟨0, 0⟩ : Port) keyE_42 rfl rfl rfl rfl rfl rfl ?_))
      refine rnD 1 rfl ?_
      refine sxD rfl (opD_plain rfl (o_esto (ke := (fun x => .agg (portC x))) (ve := (fun x => .agg (portC x))) (mp := aput y94.a y94.b s58.2) (y := y94.b) (z := (⟨0, 0⟩ : Port)) (w := y94.a) rfl rfl rfl rfl rfl ?_))
      refine rlD rfl ?_
      refine inB_n ?_
      refine thenD_n ?_
      refine rg env_ok ?_
      refine rl rfl ?_
      have hr := Option.some.inj h95; subst hr
      exact lpn (wk [(0, 0), (1, 1), (2, 2), (3, 3), (4, 4), (5, 5)] (free hA _) rfl rfl rfl (.cons rfl (.cons rfl (.cons rfl (.cons rfl (.cons rfl .nil))))) (.cons rfl rfl (.cons rfl rfl (.cons rfl rfl (.cons rfl rfl (.cons rfl rfl (.cons rfl rfl .nil)))))))
    · refine dwp_exit ?_
      refine thenD_x ?_
      obtain ⟨a97, h98, rfl⟩ := mp h96; clear h96
      refine lpx ?_
      refine inB_x ?_
      refine thenD_n ?_
      refine dwp_seq ?_
      refine rs env_ok ?_
      refine rn 2 rfl ?_
      refine sx rfl (o_len rfl rfl ?_)
      refine rl rfl ?_
      refine dwp_block ?_
      apply lp (a := a97) (fun s140 : (Int × (List (Port × Int))) => ⟨148, [(1, .lpb 0 0), (5, .lpb 1 0), (59, .p (.slice 4 (x0.signals.map signalC))), (60, .p (.int .i64 (x0.signals.length : Int))), (61, .p (.int .i64 s140.1))], [(0, .box [.p (.slice 3 (x0.elems.map elemC)), .p (.slice 4 (x0.joins.map joinC)), .p (.slice 4 (x0.signals.map signalC)), .p (.slice 2 (x0.lines.map lineC)), .p (.int .i64 x0.top), .p (.int .i64 x0.brake), .p (.int .i64 x0.margin), .p (.int .i64 x0.throw), .p (.bool x0.hard)]), (1, .box [.p (.slice 3 (y15.elems.map elemC)), .p (.slice 4 (y15.joins.map joinC)), .p (.slice 4 (y15.signals.map signalC)), .p (.slice 2 (y15.lines.map lineC)), .p (.int .i64 y15.top), .p (.int .i64 y15.brake), .p (.int .i64 y15.margin), .p (.int .i64 y15.throw), .p (.bool y15.hard), .lmap 2, .lmap 3, .lmap 4, .lmap 5]), (2, .map (mapD (fun x => .agg (portC x)) (fun x => .agg (portC x)) s58.2)), (3, .map (mapD (fun x => .agg (portC x)) (.int .i64) s140.2)), (4, .map (mapD (.int .i64) (fun x => .agg (arr2IntC x)) [])), (5, .map (mapD (.int .i64) (.int .i64) []))], 6⟩) h98 <;> clear h98
      · exact wk [(0, 0), (1, 1), (2, 2), (3, 3), (4, 4), (5, 5)] (free hA _) rfl rfl rfl (.cons rfl (.cons rfl (.cons rfl (.cons rfl (.cons rfl .nil))))) (.cons rfl rfl (.cons rfl rfl (.cons rfl rfl (.cons rfl rfl (.cons rfl rfl (.cons rfl rfl .nil))))))
      intro s140 b165 h166
      unfold g_net_New_l2 at h166
      refine rs env_ok ?_
      refine rl rfl ?_
      refine dwp_seq ?_
      refine cd rfl h166 (fun h169 => ?_) (fun h178 => ?_) <;> clear h166
      · refine dwp_skip ?_
        refine thenD_n ?_
        refine dwp_seq ?_
        refine dwp_block ?_
        refine rs env_ok ?_
        refine rn 1 rfl ?_
        obtain ⟨y176, ey176, h177⟩ := bd h169; clear h169
        refine sx rfl (o_idx ey176 rfl rfl rfl ?_)
        refine rl rfl ?_
        refine rgd env_ok mixed [0, 1, 2, 3, 4, 5, 6, 7] 8 (by kernel_rfl) rfl rfl rfl ?_
        refine rnD 7 rfl ?_
        refine sxD rfl (opD_plain rfl (o_mup (et := 3) (ke := (fun x => .agg (portC x))) (ve := (.int .i64)) (mp := s140.2) (y := y176.at_) (z := s140.1) keyE_42 rfl rfl rfl rfl rfl rfl ?_))
        refine rlD rfl ?_
        refine inB_n ?_
        refine thenD_n ?_
        refine rg env_ok ?_
        refine rl rfl ?_
        have hr := Option.some.inj h177; subst hr
        exact lpn (wk [(0, 0), (1, 1), (2, 2), (3, 3), (4, 4), (5, 5)] (free hA _) rfl rfl rfl (.cons rfl (.cons rfl (.cons rfl (.cons rfl (.cons rfl .nil))))) (.cons rfl rfl (.cons rfl rfl (.cons rfl rfl (.cons rfl rfl (.cons rfl rfl (.cons rfl rfl .nil)))))))
      · refine dwp_exit ?_
        refine thenD_x ?_
        obtain ⟨a179, h180, rfl⟩ := mp h178; clear h178
        refine lpx ?_
        refine inB_x ?_
        refine thenD_n ?_
        refine dwp_seq ?_
        refine rs env_ok ?_
        refine rn 2 rfl ?_
        refine sx rfl (o_len rfl rfl ?_)
        refine rl rfl ?_
        refine dwp_block ?_
        apply lp (a := a179) (fun s714 : (Int × (List (Int × Arr2Int)) × (List (Int × Int))) => ⟨148, [(5, .lpb 0 0), (75, .p (.slice 2 (x0.lines.map lineC))), (76, .p (.int .i64 (x0.lines.length : Int))), (77, .p (.int .i64 s714.1))], [(0, .box [.p (.slice 3 (y15.elems.map elemC)), .p (.slice 4 (y15.joins.map joinC)), .p (.slice 4 (y15.signals.map signalC)), .p (.slice 2 (y15.lines.map lineC)), .p (.int .i64 y15.top), .p (.int .i64 y15.brake), .p (.int .i64 y15.margin), .p (.int .i64 y15.throw), .p (.bool y15.hard), .lmap 1, .lmap 2, .lmap 3, .lmap 4]), (1, .map (mapD (fun x => .agg (portC x)) (fun x => .agg (portC x)) s58.2)), (2, .map (mapD (fun x => .agg (portC x)) (.int .i64) s140.2)), (3, .map (mapD (.int .i64) (fun x => .agg (arr2IntC x)) s714.2.1)), (4, .map (mapD (.int .i64) (.int .i64) s714.2.2))], 5⟩) h180 <;> clear h180
        · exact wk [(0, 1), (1, 2), (2, 3), (3, 4), (4, 5)] (free hA _) rfl rfl rfl (.cons rfl (.cons rfl (.cons rfl (.cons rfl .nil)))) (.cons rfl rfl (.cons rfl rfl (.cons rfl rfl (.cons rfl rfl (.cons rfl rfl .nil)))))
        intro s714 b1067 h1068
        unfold g_net_New_l3 at h1068
        refine rs env_ok ?_
        refine rl rfl ?_
        refine dwp_seq ?_
        refine cd rfl h1068 (fun h1071 => ?_) (fun h1244 => ?_) <;> clear h1068
        · refine dwp_skip ?_
          refine thenD_n ?_
          refine dwp_seq ?_
          refine dwp_block ?_
          refine rs env_ok ?_
          refine rn 1 rfl ?_
          obtain ⟨y1160, ey1160, h1161⟩ := bd h1071; clear h1071
          refine sx rfl (o_idx ey1160 rfl rfl rfl ?_)
          refine rl rfl ?_
          refine rs env_ok ?_
          refine rl rfl ?_
          refine jb (fun t1181 : Int => ⟨148, [(5, .lpb 0 0), (10, .p (.int .i64 s714.1)), (11, .lpb 1 0), (12, .p (.int .i64 t1181)), (75, .p (.slice 2 (x0.lines.map lineC))), (76, .p (.int .i64 (x0.lines.length : Int))), (77, .p (.int .i64 s714.1))], [(0, .box [.p (.slice 3 (y15.elems.map elemC)), .p (.slice 4 (y15.joins.map joinC)), .p (.slice 4 (y15.signals.map signalC)), .p (.slice 2 (y15.lines.map lineC)), .p (.int .i64 y15.top), .p (.int .i64 y15.brake), .p (.int .i64 y15.margin), .p (.int .i64 y15.throw), .p (.bool y15.hard), .lmap 2, .lmap 3, .lmap 4, .lmap 5]), (1, .box [.p (.str y1160.name), .p (.slice 1 (y1160.elems.map intC))]), (2, .map (mapD (fun x => .agg (portC x)) (fun x => .agg (portC x)) s58.2)), (3, .map (mapD (fun x => .agg (portC x)) (.int .i64) s140.2)), (4, .map (mapD (.int .i64) (fun x => .agg (arr2IntC x)) s714.2.1)), (5, .map (mapD (.int .i64) (.int .i64) s714.2.2))], 6⟩) h1161 (fun t1181 h1182 => ?_) (fun t1181 h1202 => ?_) <;> clear h1161
          · refine rs env_ok ?_
            refine rn 2 rfl ?_
            refine sx rfl (o_len rfl rfl ?_)
            refine rl rfl ?_
            refine cd rfl h1182 (fun h1183 => ?_) (fun h1201 => ?_) <;> clear h1182
            · refine dwp_seq ?_
              refine rgd env_ok mixed [0, 1, 2, 3, 4, 5, 6, 7, 8, 9, 10, 11, 12, 13, 14, 15] 16 (by kernel_rfl) rfl rfl rfl ?_
              refine rnD 6 rfl ?_
              obtain ⟨y1186, ey1186, h1187⟩ := bd h1183; clear h1183
              refine sxD rfl (opD_plain rfl (o_idx ey1186 rfl rfl rfl ?_))
              refine rnD 2 rfl ?_
              refine sxD rfl (opD_plain rfl (o_lk2 (et := 42) (ke := (fun x => .agg (portC x))) (ve := (fun x => .agg (portC x))) (mp := s58.2) (y := (⟨y1186, 0⟩ : Port)) (⟨0, 0⟩ : Port) keyE_42 rfl rfl rfl rfl ?_))
              refine rlD rfl ?_
              refine thenD_n ?_
              refine jb (fun t1192 : Bool => ⟨148, [(5, .lpb 0 0), (10, .p (.int .i64 s714.1)), (11, .lpb 1 0), (12, .p (.int .i64 0)), (75, .p (.slice 2 (x0.lines.map lineC))), (76, .p (.int .i64 (x0.lines.length : Int))), (77, .p (.int .i64 s714.1)), (108, .p (.bool t1192))], [(0, .box [.p (.slice 3 (y15.elems.map elemC)), .p (.slice 4 (y15.joins.map joinC)), .p (.slice 4 (y15.signals.map signalC)), .p (.slice 2 (y15.lines.map lineC)), .p (.int .i64 y15.top), .p (.int .i64 y15.brake), .p (.int .i64 y15.margin), .p (.int .i64 y15.throw), .p (.bool y15.hard), .lmap 2, .lmap 3, .lmap 4, .lmap 5]), (1, .box [.p (.str y1160.name), .p (.slice 1 (y1160.elems.map intC))]), (2, .map (mapD (fun x => .agg (portC x)) (fun x => .agg (portC x)) s58.2)), (3, .map (mapD (fun x => .agg (portC x)) (.int .i64) s140.2)), (4, .map (mapD (.int .i64) (fun x => .agg (arr2IntC x)) s714.2.1)), (5, .map (mapD (.int .i64) (.int .i64) s714.2.2))], 6⟩) h1187 (fun t1192 h1193 => ?_) (fun t1192 h1198 => ?_) <;> clear h1187
              · refine rgd env_ok mixed [0, 1, 2, 3, 4, 5, 6, 7, 8, 9] 10 (by kernel_rfl) rfl rfl rfl ?_
                refine rnD 2 rfl ?_
                refine gsD 100 h1193 rfl rfl rfl (fun h1194 => ?_) (fun h1197 => ?_) <;> clear h1193
                · refine rnD 4 rfl ?_
                  obtain ⟨y1195, ey1195, h1196⟩ := bd h1194; clear h1194
                  refine sxD rfl (opD_plain rfl (o_idx ey1195 rfl rfl rfl ?_))
                  refine rlD rfl ?_
                  have hr := Option.some.inj h1196; subst hr
                  exact npn (wk [(0, 0), (1, 5), (2, 1), (3, 2), (4, 3), (5, 4)] (free hA _) rfl rfl rfl (.cons rfl (.cons rfl (.cons rfl (.cons rfl (.cons rfl (.cons rfl (.cons rfl (.cons rfl .nil)))))))) (.cons rfl rfl (.cons rfl rfl (.cons rfl rfl (.cons rfl rfl (.cons rfl rfl (.cons rfl rfl .nil)))))))
                · refine rlD rfl ?_
                  have hr := Option.some.inj h1197; subst hr
                  exact npn (wk [(0, 0), (1, 5), (2, 1), (3, 2), (4, 3), (5, 4)] (free hA _) rfl rfl rfl (.cons rfl (.cons rfl (.cons rfl (.cons rfl (.cons rfl (.cons rfl (.cons rfl (.cons rfl .nil)))))))) (.cons rfl rfl (.cons rfl rfl (.cons rfl rfl (.cons rfl rfl (.cons rfl rfl (.cons rfl rfl .nil)))))))
              · refine cd rfl h1198 (fun h1199 => ?_) (fun h1200 => ?_) <;> clear h1198
                · refine rg env_ok ?_
                  refine rl rfl ?_
                  have hr := Option.some.inj h1199; subst hr
                  exact npn (wk [(0, 0), (1, 1), (2, 2), (3, 3), (4, 4), (5, 5)] (free hA _) rfl rfl rfl (.cons rfl (.cons rfl (.cons rfl (.cons rfl (.cons rfl (.cons rfl (.cons rfl .nil))))))) (.cons rfl rfl (.cons rfl rfl (.cons rfl rfl (.cons rfl rfl (.cons rfl rfl (.cons rfl rfl .nil)))))))
                · refine dwp_skip ?_
                  have hr := Option.some.inj h1200; subst hr
                  exact npn (wk [(0, 0), (1, 1), (2, 2), (3, 3), (4, 4), (5, 5)] (free hA _) rfl rfl rfl (.cons rfl (.cons rfl (.cons rfl (.cons rfl (.cons rfl (.cons rfl (.cons rfl .nil))))))) (.cons rfl rfl (.cons rfl rfl (.cons rfl rfl (.cons rfl rfl (.cons rfl rfl (.cons rfl rfl .nil)))))))
            · refine dwp_skip ?_
              have hr := Option.some.inj h1201; subst hr
              exact npn (wk [(0, 0), (1, 5), (2, 1), (3, 2), (4, 3), (5, 4)] (free hA _) rfl rfl rfl (.cons rfl (.cons rfl (.cons rfl (.cons rfl (.cons rfl (.cons rfl (.cons rfl .nil))))))) (.cons rfl rfl (.cons rfl rfl (.cons rfl rfl (.cons rfl rfl (.cons rfl rfl (.cons rfl rfl .nil)))))))
          · refine rs env_ok ?_
            refine rn 2 rfl ?_
            refine sx rfl (o_len rfl rfl ?_)
            refine rl rfl ?_
            refine dwp_block ?_
            apply lp (a := b1067) (fun s1203 : (Int × Int × (List (Int × Arr2Int)) × (List (Int × Int))) => ⟨148, [(5, .lpb 0 0), (10, .p (.int .i64 s714.1)), (12, .p (.int .i64 s1203.1)), (75, .p (.slice 2 (x0.lines.map lineC))), (76, .p (.int .i64 (x0.lines.length : Int))), (77, .p (.int .i64 s714.1)), (110, .p (.slice 1 (y1160.elems.map intC))), (111, .p (.int .i64 (y1160.elems.length : Int))), (112, .p (.int .i64 s1203.2.1))], [(0, .box [.p (.slice 3 (y15.elems.map elemC)), .p (.slice 4 (y15.joins.map joinC)), .p (.slice 4 (y15.signals.map signalC)), .p (.slice 2 (y15.lines.map lineC)), .p (.int .i64 y15.top), .p (.int .i64 y15.brake), .p (.int .i64 y15.margin), .p (.int .i64 y15.throw), .p (.bool y15.hard), .lmap 1, .lmap 2, .lmap 3, .lmap 4]), (1, .map (mapD (fun x => .agg (portC x)) (fun x => .agg (portC x)) s58.2)), (2, .map (mapD (fun x => .agg (portC x)) (.int .i64) s140.2)), (3, .map (mapD (.int .i64) (fun x => .agg (arr2IntC x)) s1203.2.2.1)), (4, .map (mapD (.int .i64) (.int .i64) s1203.2.2.2))], 5⟩) h1202 <;> clear h1202
            · exact wk [(0, 0), (1, 2), (2, 3), (3, 4), (4, 5)] (free hA _) rfl rfl rfl (.cons rfl (.cons rfl (.cons rfl (.cons rfl (.cons rfl (.cons rfl (.cons rfl (.cons rfl (.cons rfl .nil))))))))) (.cons rfl rfl (.cons rfl rfl (.cons rfl rfl (.cons rfl rfl (.cons rfl rfl .nil)))))
            intro s1203 b1228 h1229
            unfold g_net_New_l4 at h1229
            refine rs env_ok ?_
            refine rl rfl ?_
            refine dwp_seq ?_
            refine cd rfl h1229 (fun h1232 => ?_) (fun h1241 => ?_) <;> clear h1229
            · refine dwp_skip ?_
              refine thenD_n ?_
              refine dwp_seq ?_
              refine dwp_block ?_
              refine rs env_ok ?_
              refine rn 1 rfl ?_
              obtain ⟨y1239, ey1239, h1240⟩ := bd h1232; clear h1232
              refine sx rfl (o_idx ey1239 rfl rfl rfl ?_)
              refine rl rfl ?_
              refine dwp_seq ?_
              refine rgd env_ok mixed [0, 1, 2, 3, 4, 5, 6, 7, 8, 9, 10, 11, 12, 13, 14, 15, 16, 17, 18, 19] 20 (by kernel_rfl) rfl rfl rfl ?_
              refine rnD 14 rfl ?_
              refine sxD rfl (opD_plain rfl (o_ment (et := 140) (ke := (.int .i64)) (ve := (fun x => .agg (arr2IntC x))) (mp := s1203.2.2.1) (y := y1239) (⟨0, 0⟩ : Arr2Int) keyE_3 rfl rfl rfl rfl rfl rfl ?_))
              refine rnD 1 rfl ?_
              refine sxD rfl (opD_plain rfl (o_esto (ke := (.int .i64)) (ve := (fun x => .agg (arr2IntC x))) (mp := s1203.2.2.1) (y := y1239) (z := (⟨0, 0⟩ : Arr2Int)) (w := (⟨s714.1, s1203.2.1⟩ : Arr2Int)) rfl rfl rfl rfl rfl ?_))
              refine sxD rfl (opD_plain rfl (o_ment (et := 3) (ke := (.int .i64)) (ve := (.int .i64)) (mp := s1203.2.2.2) (y := y1239) 0 keyE_3 rfl rfl rfl rfl rfl rfl ?_))
              refine rnD 1 rfl ?_
              refine sxD rfl (opD_plain rfl (o_esto (ke := (.int .i64)) (ve := (.int .i64)) (mp := s1203.2.2.2) (y := y1239) (z := 0) (w := s1203.1) rfl rfl rfl rfl rfl ?_))
              refine rlD rfl ?_
              refine thenD_n ?_
              refine rg env_ok ?_
              refine rn 8 rfl ?_
              refine sx rfl (o_lk1 (et := 42) (ke := (fun x => .agg (portC x))) (ve := (fun x => .agg (portC x))) (mp := s58.2) (y := (⟨y1239, wi64 (1 - s1203.1)⟩ : Port)) (⟨0, 0⟩ : Port) keyE_42 rfl rfl rfl rfl ?_)
              refine rl rfl ?_
              refine inB_n ?_
              refine thenD_n ?_
              refine rg env_ok ?_
              refine rl rfl ?_
              have hr := Option.some.inj h1240; subst hr
              exact lpn (wk [(0, 0), (1, 1), (2, 2), (3, 3), (4, 4)] (free hA _) rfl rfl rfl (.cons rfl (.cons rfl (.cons rfl (.cons rfl (.cons rfl (.cons rfl (.cons rfl (.cons rfl (.cons rfl .nil))))))))) (.cons rfl rfl (.cons rfl rfl (.cons rfl rfl (.cons rfl rfl (.cons rfl rfl .nil))))))
            · refine dwp_exit ?_
              refine thenD_x ?_
              obtain ⟨a1242, h1243, rfl⟩ := mps h1241; clear h1241
              refine lpx ?_
              refine inB_x ?_
              refine inB_n ?_
              refine thenD_n ?_
              refine rg env_ok ?_
              refine rl rfl ?_
              have hr := Option.some.inj h1243; subst hr
              exact lpn (wk [(0, 0), (1, 1), (2, 2), (3, 3), (4, 4)] (free hA _) rfl rfl rfl (.cons rfl (.cons rfl (.cons rfl (.cons rfl .nil)))) (.cons rfl rfl (.cons rfl rfl (.cons rfl rfl (.cons rfl rfl (.cons rfl rfl .nil))))))
        · refine dwp_exit ?_
          refine thenD_x ?_
          obtain ⟨a1245, h1246, rfl⟩ := mps h1244; clear h1244
          refine lpx ?_
          refine inB_x ?_
          refine thenD_n ?_
          refine rs env_ok ?_
          refine rl rfl ?_
          refine dwp_ret ?_
          have hr := Option.some.inj h1246; subst hr
          exact er (rdN rfl (.cons (.box rfl (.cons (.p _) (.cons (.p _) (.cons (.p _) (.cons (.p _) (.cons (.p _) (.cons (.p _) (.cons (.p _) (.cons (.p _) (.cons (.p _) (.cons (.map rfl) (.cons (.map rfl) (.cons (.map rfl) (.cons (.map rfl) .nil)))))))))))))) (.cons (.one (.p _)) .nil))) Le.rfl

end Go.E
/- Plain functions, and walks in step with them. Written by a program (gen.py). No condition. -/
set_option maxRecDepth 100000
namespace Go.E
open Go Go.RowKit Go.Proofs

noncomputable def g_L4_Made (x0 : Plan) : Option (Option Net) :=
  (g_R6_Fine x0).bind fun y9 => bif (!y9) then some none else (g_net_New x0).bind fun y16 => optM y16.1 (bif (y16.2 != 0) then some none else some none) fun z18 => bif (y16.2 != 0) then some none else some (some z18)

theorem f_L4_Made (x0 : Plan) (r : (Option Net)) (h : g_L4_Made x0 = some r) : Fun Tryz.prog 15 [.agg (planC x0)] (· = ptrD netC r) := by
  refine fn env_ok Tryz.func15 rfl rfl 16 rfl [.tmp 2] rfl [(0, .p (.agg (planC x0)))] rfl rfl fun A hA => ?_
  unfold g_L4_Made at h
  refine rs env_ok ?_
  refine rl rfl ?_
  refine dwp_seq ?_
  refine rs env_ok ?_
  refine rn 1 rfl ?_
  obtain ⟨y9, ey9, h10⟩ := bd h; clear h
  refine sx rfl (o_call (f_R6_Fine _ _ ey9) (.inl rfl) rfl rfl rfl ?_)
  refine rl rfl ?_
  refine cd rfl h10 (fun h11 => ?_) (fun h12 => ?_) <;> clear h10
  · refine rs env_ok ?_
    refine rl rfl ?_
    refine dwp_ret ?_
    refine thenD_r ?_
    have hr := Option.some.inj h11; subst hr
    exact er rfl Le.rfl
  · refine dwp_skip ?_
    refine thenD_n ?_
    refine rs env_ok ?_
    refine rn 1 rfl ?_
    obtain ⟨y16, ey16, h17⟩ := bd h12; clear h12
    refine sx rfl (o_call (f_net_New _ _ ey16) (.inr rfl) rfl rfl rfl ?_)
    revert h17; rcases hqz18 : y16.1 with _ | z18 <;> intro h17
    · replace h17 := omN h17
      refine rl rfl ?_
      refine dwp_seq ?_
      refine rs env_ok ?_
      refine rl rfl ?_
      refine cd rfl h17 (fun h21 => ?_) (fun h22 => ?_) <;> clear h17
      · refine rs env_ok ?_
        refine rl rfl ?_
        refine dwp_ret ?_
        refine thenD_r ?_
        have hr := Option.some.inj h21; subst hr
        exact er rfl Le.rfl
      · refine dwp_skip ?_
        refine thenD_n ?_
        refine rs env_ok ?_
        refine rl rfl ?_
        refine dwp_ret ?_
        have hr := Option.some.inj h22; subst hr
        exact er rfl Le.rfl
    · replace h17 := omS h17
      refine rl rfl ?_
      refine dwp_seq ?_
      refine rs env_ok ?_
      refine rl rfl ?_
      refine cd rfl h17 (fun h25 => ?_) (fun h26 => ?_) <;> clear h17
      · refine rs env_ok ?_
        refine rl rfl ?_
        refine dwp_ret ?_
        refine thenD_r ?_
        have hr := Option.some.inj h25; subst hr
        exact er rfl Le.rfl
      · refine dwp_skip ?_
        refine thenD_n ?_
        refine rs env_ok ?_
        refine rl rfl ?_
        refine dwp_ret ?_
        have hr := Option.some.inj h26; subst hr
        exact er rfl Le.rfl

noncomputable def g_net_Net_Reads (x0 : Net) (x1 : Port) : Option Int :=
  bif (assoc x0.reads x1).isSome then some ((assoc x0.reads x1).getD 0) else some (-1)

theorem f_net_Net_Reads (x0 : Net) (x1 : Port) (r : Int) (h : g_net_Net_Reads x0 x1 = some r) : Fun Tryz.prog 63 [.place (netC x0) 0, .agg (portC x1)] (· = .int .i64 r) := by
  refine fn env_ok Tryz.func63 rfl rfl 18 rfl [.tmp 4] rfl [(0, .p (.place (netC x0) 0)), (1, .p (.agg (portC x1)))] rfl rfl fun A hA => ?_
  unfold g_net_Net_Reads at h
  refine rs env_ok ?_
  refine rl rfl ?_
  refine dwp_seq ?_
  refine dwp_seq ?_
  refine rgd env_ok mixed [0, 1, 2, 3, 4, 5, 6, 7, 8, 9, 10] 11 (by kernel_rfl) rfl rfl rfl ?_
  refine rnD 5 rfl ?_
  refine sxD rfl (opD_plain rfl (o_lk2 (et := 3) (ke := (fun x => .agg (portC x))) (ve := (.int .i64)) (mp := x0.reads) (y := x1) 0 keyE_42 rfl rfl rfl rfl ?_))
  refine rlD rfl ?_
  refine thenD_n ?_
  refine rs env_ok ?_
  refine rl rfl ?_
  refine cd rfl h (fun h3 => ?_) (fun h4 => ?_) <;> clear h
  · refine rs env_ok ?_
    refine rl rfl ?_
    refine dwp_ret ?_
    refine thenD_r ?_
    have hr := Option.some.inj h3; subst hr
    exact er rfl Le.rfl
  · refine dwp_skip ?_
    refine thenD_n ?_
    refine rs env_ok ?_
    refine rl rfl ?_
    refine dwp_ret ?_
    have hr := Option.some.inj h4; subst hr
    exact er rfl Le.rfl

noncomputable def g_slices_Clone_apiPort (x0 : (List Port)) : Option (List Port) :=
  nilS x0 (some []) ((appI ([] : List Port) x0).bind fun y11 => some y11)

theorem fN_slices_Clone_apiPort (x0 : (List Port)) (r : (List Port)) (h : g_slices_Clone_apiPort x0 = some r) : FunN Tryz.prog 100 [.slice 2 (x0.map portC)] 42 2 (r.map portC) := by
  refine fnN (enc := portC) (fun _ => ⟨rfl, rfl⟩) Tryz.func100 rfl rfl 8 rfl 2 rfl [(0, .p (.slice 2 (x0.map portC)))] rfl rfl fun A hA => ?_
  unfold g_slices_Clone_apiPort at h
  refine rs env_ok ?_
  refine rl rfl ?_
  refine dwp_seq ?_
  refine rs env_ok ?_
  refine rn 1 rfl ?_
  refine sx rfl (o_nilE h rfl rfl rfl (fun h19 => ?_) (fun h20 => ?_)) <;> clear h
  · refine rl rfl ?_
    refine cdt rfl ?_
    refine rs env_ok ?_
    refine rl rfl ?_
    refine dwp_ret ?_
    refine thenD_r ?_
    have hr := Option.some.inj h19; subst hr
    exact erNn rfl
  · refine rl rfl ?_
    refine cdf rfl ?_
    refine dwp_skip ?_
    refine thenD_n ?_
    refine rs env_ok ?_
    refine rn 2 rfl ?_
    obtain ⟨y23, ey23, h24⟩ := bd h20; clear h20
    refine sx rfl (o_app1 (enc := portC) (l := ([] : List Port)) (m := x0) ey23 (fun _ => ⟨rfl, rfl⟩) rfl rfl rfl rfl rfl rfl ?_)
    refine rl rfl ?_
    refine dwp_ret ?_
    have hr := Option.some.inj h24; subst hr
    exact erN rfl rfl rfl

noncomputable def g_net_Net_Next (x0 : Net) (x1 : Port) : Option (Port × Bool) :=
  some (((assoc x0.next x1).getD (⟨0, 0⟩ : Port)), (assoc x0.next x1).isSome)

theorem f_net_Net_Next (x0 : Net) (x1 : Port) (r : (Port × Bool)) (h : g_net_Net_Next x0 x1 = some r) : Fun Tryz.prog 101 [.place (netC x0) 0, .agg (portC x1)] (· = .tup [.agg (portC r.1), .bool r.2]) := by
  refine fn env_ok Tryz.func101 rfl rfl 19 rfl [.cell 4 42, .tmp 5] rfl [(0, .p (.place (netC x0) 0)), (1, .p (.agg (portC x1)))] rfl rfl fun A hA => ?_
  unfold g_net_Net_Next at h
  refine rs env_ok ?_
  refine rl rfl ?_
  refine dwp_seq ?_
  refine rgd env_ok mixed [0, 1, 2, 3, 4, 5, 6, 7, 8, 9, 10, 11] 12 (by kernel_rfl) rfl rfl rfl ?_
  refine rnD 5 rfl ?_
  refine sxD rfl (opD_plain rfl (o_lk2 (et := 42) (ke := (fun x => .agg (portC x))) (ve := (fun x => .agg (portC x))) (mp := x0.next) (y := x1) (⟨0, 0⟩ : Port) keyE_42 rfl rfl rfl rfl ?_))
  refine rlD rfl ?_
  refine thenD_n ?_
  refine rs env_ok ?_
  refine rl rfl ?_
  refine dwp_ret ?_
  have hr := Option.some.inj h; subst hr
  exact er rfl Le.rfl

noncomputable def g_net_Net_elem (x0 : Net) (x1 : Int) : Option Elem :=
  ((bif decide (x1 < 0) then some true else some (decide ((x0.p.elems.length : Int) ≤ x1)) : Option (Bool))).bind fun (t12 : Bool) => bif t12 then some (⟨ByteArray.empty, 0, 0⟩ : Elem) else (idx x0.p.elems x1).bind fun y21 => some y21

theorem f_net_Net_elem (x0 : Net) (x1 : Int) (r : Elem) (h : g_net_Net_elem x0 x1 = some r) : Fun Tryz.prog 80 [.place (netC x0) 0, .int .i64 x1] (· = .agg (elemC r)) := by
  refine fn env_ok Tryz.func80 rfl rfl 26 rfl [.cell 4 116] rfl [(0, .p (.place (netC x0) 0)), (1, .p (.int .i64 x1))] rfl rfl fun A hA => ?_
  unfold g_net_Net_elem at h
  refine rs env_ok ?_
  refine rl rfl ?_
  refine dwp_seq ?_
  refine jb (fun t12 : Bool => ⟨26, [(0, .p (.place (netC x0) 0)), (1, .p (.int .i64 x1)), (4, .lpb 0 0), (16, .p (.bool t12))], [(0, .box [.p (.str ByteArray.empty), .p (.int .i64 0), .p (.int .i64 0)])], 1⟩) h (fun t12 h13 => ?_) (fun t12 h16 => ?_) <;> clear h
  · refine rg env_ok ?_
    refine rn 3 rfl ?_
    refine gs 7 h13 rfl rfl rfl (fun h14 => ?_) (fun h15 => ?_) <;> clear h13
    · refine rl rfl ?_
      have hr := Option.some.inj h14; subst hr
      exact npn (wk [(0, 0)] (free hA _) rfl rfl rfl (.cons rfl (.cons rfl (.cons rfl (.cons rfl .nil)))) (.cons rfl rfl .nil))
    · refine rn 6 rfl ?_
      refine sx rfl (o_len rfl rfl ?_)
      refine rl rfl ?_
      have hr := Option.some.inj h15; subst hr
      exact npn (wk [(0, 0)] (free hA _) rfl rfl rfl (.cons rfl (.cons rfl (.cons rfl (.cons rfl .nil)))) (.cons rfl rfl .nil))
  · refine cd rfl h16 (fun h17 => ?_) (fun h18 => ?_) <;> clear h16
    · refine rs env_ok ?_
      refine rl rfl ?_
      refine dwp_ret ?_
      refine thenD_r ?_
      have hr := Option.some.inj h17; subst hr
      exact er rfl Le.rfl
    · refine dwp_skip ?_
      refine thenD_n ?_
      refine rs env_ok ?_
      refine rn 6 rfl ?_
      obtain ⟨y21, ey21, h22⟩ := bd h18; clear h18
      refine sx rfl (o_idx ey21 rfl rfl rfl ?_)
      refine rl rfl ?_
      refine dwp_ret ?_
      have hr := Option.some.inj h22; subst hr
      exact er rfl Le.rfl

noncomputable def g_net_Net_Kind (x0 : Net) (x1 : Int) : Option Int :=
  (g_net_Net_elem x0 x1).bind fun y3 => some y3.kind

theorem f_net_Net_Kind (x0 : Net) (x1 : Int) (r : Int) (h : g_net_Net_Kind x0 x1 = some r) : Fun Tryz.prog 61 [.place (netC x0) 0, .int .i64 x1] (· = .int .i64 r) := by
  refine fn env_ok Tryz.func61 rfl rfl 9 rfl [.tmp 4] rfl [(0, .p (.place (netC x0) 0)), (1, .p (.int .i64 x1))] rfl rfl fun A hA => ?_
  unfold g_net_Net_Kind at h
  refine rs env_ok ?_
  refine rl rfl ?_
  refine rs env_ok ?_
  refine rn 2 rfl ?_
  obtain ⟨y3, ey3, h4⟩ := bd h; clear h
  refine sx rfl (o_call (f_net_Net_elem _ _ _ ey3) (.inl rfl) rfl rfl rfl ?_)
  refine rl rfl ?_
  refine dwp_ret ?_
  have hr := Option.some.inj h4; subst hr
  exact er rfl Le.rfl

noncomputable def g_net_Net_Outs (x0 : Net) (x1 : Int) (x2 : Int) : Option (List Way) :=
  ((bif decide (x2 < 0) then some true else (g_net_Net_Kind x0 x1).bind fun y28 => (g_plan_Ends y28).bind fun y30 => some (decide (y30 ≤ x2)) : Option (Bool))).bind fun (t24 : Bool) => bif t24 then some [] else (g_net_Net_Kind x0 x1).bind fun y59 => bif (y59 == 1) then some [(⟨wi64 (1 - x2), 0⟩ : Way)] else bif (y59 == 3) then (idx ([1, 0, 3, 2] : List Int) x2).bind fun y66 => some [(⟨y66, 0⟩ : Way)] else bif (y59 == 2) then bif (x2 == 0) then some [(⟨1, 1⟩ : Way), (⟨2, 2⟩ : Way)] else (idx ([0, 1, 2] : List Int) x2).bind fun y76 => some [(⟨0, y76⟩ : Way)] else some []

theorem f_net_Net_Outs (x0 : Net) (x1 : Int) (x2 : Int) (r : (List Way)) (h : g_net_Net_Outs x0 x1 x2 = some r) : Fun Tryz.prog 132 [.place (netC x0) 0, .int .i64 x1, .int .i64 x2] (· = .slice 2 (r.map wayC)) := by
  refine fn env_ok Tryz.func132 rfl rfl 47 rfl [.tmp 6] rfl [(0, .p (.place (netC x0) 0)), (1, .p (.int .i64 x1)), (2, .p (.int .i64 x2))] rfl rfl fun A hA => ?_
  unfold g_net_Net_Outs at h
  refine rs env_ok ?_
  refine rl rfl ?_
  refine dwp_seq ?_
  refine jb (fun t24 : Bool => ⟨47, [(0, .p (.place (netC x0) 0)), (1, .p (.int .i64 x1)), (2, .p (.int .i64 x2)), (17, .p (.bool t24))], [], 0⟩) h (fun t24 h25 => ?_) (fun t24 h32 => ?_) <;> clear h
  · refine rg env_ok ?_
    refine rn 3 rfl ?_
    refine gs 10 h25 rfl rfl rfl (fun h26 => ?_) (fun h27 => ?_) <;> clear h25
    · refine rl rfl ?_
      have hr := Option.some.inj h26; subst hr
      exact npn (wk [] (free hA _) rfl rfl rfl (.cons rfl (.cons rfl (.cons rfl (.cons rfl .nil)))) .nil)
    · refine rn 3 rfl ?_
      obtain ⟨y28, ey28, h29⟩ := bd h27; clear h27
      refine sx rfl (o_call (f_net_Net_Kind _ _ _ ey28) (.inl rfl) rfl rfl rfl ?_)
      obtain ⟨y30, ey30, h31⟩ := bd h29; clear h29
      refine sx rfl (o_call (f_plan_Ends _ _ ey30) (.inl rfl) rfl rfl rfl ?_)
      refine rl rfl ?_
      have hr := Option.some.inj h31; subst hr
      exact npn (wk [] (free hA _) rfl rfl rfl (.cons rfl (.cons rfl (.cons rfl (.cons rfl .nil)))) .nil)
  · refine cd rfl h32 (fun h33 => ?_) (fun h34 => ?_) <;> clear h32
    · refine rs env_ok ?_
      refine rl rfl ?_
      refine dwp_ret ?_
      refine thenD_r ?_
      have hr := Option.some.inj h33; subst hr
      exact er rfl (Le.nil _)
    · refine dwp_skip ?_
      refine thenD_n ?_
      refine dwp_seq ?_
      refine rs env_ok ?_
      refine rn 2 rfl ?_
      obtain ⟨y59, ey59, h60⟩ := bd h34; clear h34
      refine sx rfl (o_call (f_net_Net_Kind _ _ _ ey59) (.inl rfl) rfl rfl rfl ?_)
      refine rl rfl ?_
      refine dwp_block ?_
      refine rs env_ok ?_
      refine rl rfl ?_
      refine cd rfl h60 (fun h61 => ?_) (fun h62 => ?_) <;> clear h60
      · refine rs env_ok ?_
        refine rl rfl ?_
        refine dwp_ret ?_
        refine inB_r ?_
        refine thenD_r ?_
        have hr := Option.some.inj h61; subst hr
        exact er (rd1 rfl (.one (.own (enc := wayC) ([(⟨wi64 (1 - x2), 0⟩ : Way)] : List Way) rfl rfl))) Le.rfl
      · refine rs env_ok ?_
        refine rl rfl ?_
        refine cd rfl h62 (fun h63 => ?_) (fun h68 => ?_) <;> clear h62
        · refine rs env_ok ?_
          refine rl rfl ?_
          refine rs env_ok ?_
          refine rn 1 rfl ?_
          obtain ⟨y66, ey66, h67⟩ := bd h63; clear h63
          refine sx rfl (o_ixP (l := ([1, 0, 3, 2] : List Int)) ey66 rfl rfl rfl rfl ?_)
          refine sx rfl (o_ldX (g := fun y => .p (.int .i64 y)) ey66 rfl rfl rfl rfl ?_)
          refine rl rfl ?_
          refine dwp_ret ?_
          refine inB_r ?_
          refine thenD_r ?_
          have hr := Option.some.inj h67; subst hr
          exact er (rd1 rfl (.one (.own (enc := wayC) ([(⟨y66, 0⟩ : Way)] : List Way) rfl rfl))) Le.rfl
        · refine rs env_ok ?_
          refine rl rfl ?_
          refine cd rfl h68 (fun h69 => ?_) (fun h78 => ?_) <;> clear h68
          · refine dwp_seq ?_
            refine rs env_ok ?_
            refine rl rfl ?_
            refine cd rfl h69 (fun h72 => ?_) (fun h73 => ?_) <;> clear h69
            · refine rs env_ok ?_
              refine rl rfl ?_
              refine dwp_ret ?_
              refine thenD_r ?_
              refine inB_r ?_
              refine thenD_r ?_
              have hr := Option.some.inj h72; subst hr
              exact er (rd1 rfl (.one (.own (enc := wayC) ([(⟨1, 1⟩ : Way), (⟨2, 2⟩ : Way)] : List Way) rfl rfl))) Le.rfl
            · refine dwp_skip ?_
              refine thenD_n ?_
              refine rs env_ok ?_
              refine rn 2 rfl ?_
              obtain ⟨y76, ey76, h77⟩ := bd h73; clear h73
              refine sx rfl (o_ixA (l := ([0, 1, 2] : List Int)) (g := fun y => .int .i64 y) ey76 rfl rfl rfl rfl ?_)
              refine rl rfl ?_
              refine dwp_ret ?_
              refine inB_r ?_
              refine thenD_r ?_
              have hr := Option.some.inj h77; subst hr
              exact er (rd1 rfl (.one (.own (enc := wayC) ([(⟨0, y76⟩ : Way)] : List Way) rfl rfl))) Le.rfl
          · refine dwp_skip ?_
            refine inB_n ?_
            refine thenD_n ?_
            refine rs env_ok ?_
            refine rl rfl ?_
            refine dwp_ret ?_
            have hr := Option.some.inj h78; subst hr
            exact er rfl (Le.nil _)

noncomputable def g_net_Net_Through_l1 (x3 : Int) (y104 : (List Way)) (s106 : Int) : Option (Int ⊕ (Int × Bool)) :=
  bif decide (s106 < (y104.length : Int)) then (idx y104 s106).bind fun y187 => ((bif (y187.pos == 0) then some true else some (y187.pos == x3) : Option (Bool))).bind fun (t191 : Bool) => bif t191 then some (.inr (y187.out, true)) else some (.inl (wi64 (s106 + 1))) else some (.inr (0, false))

noncomputable def g_net_Net_Through (x0 : Net) (x1 : Int) (x2 : Int) (x3 : Int) : Option (Int × Bool) :=
  (g_net_Net_Outs x0 x1 x2).bind fun y104 => loopR (g_net_Net_Through_l1 x3 y104) 0

theorem f_net_Net_Through (x0 : Net) (x1 : Int) (x2 : Int) (x3 : Int) (r : (Int × Bool)) (h : g_net_Net_Through x0 x1 x2 x3 = some r) : Fun Tryz.prog 102 [.place (netC x0) 0, .int .i64 x1, .int .i64 x2, .int .i64 x3] (· = .tup [.int .i64 r.1, .bool r.2]) := by
  refine fn env_ok Tryz.func102 rfl rfl 33 rfl [.tmp 8, .tmp 9] rfl [(0, .p (.place (netC x0) 0)), (1, .p (.int .i64 x1)), (2, .p (.int .i64 x2)), (3, .p (.int .i64 x3))] rfl rfl fun A hA => ?_
  unfold g_net_Net_Through at h
  refine rs env_ok ?_
  refine rl rfl ?_
  refine dwp_seq ?_
  refine rs env_ok ?_
  refine rn 3 rfl ?_
  obtain ⟨y104, ey104, h105⟩ := bd h; clear h
  refine sx rfl (o_call (f_net_Net_Outs _ _ _ _ ey104) (.inr rfl) rfl rfl rfl ?_)
  refine sx rfl (o_len rfl rfl ?_)
  refine rl rfl ?_
  refine dwp_block ?_
  apply lp (a := r) (fun s106 : Int => ⟨33, [(3, .p (.int .i64 x3)), (15, .p (.slice 2 (y104.map wayC))), (16, .p (.int .i64 (y104.length : Int))), (17, .p (.int .i64 s106))], [], 0⟩) h105 <;> clear h105
  · exact wk [] (free hA _) rfl rfl rfl (.cons rfl (.cons rfl (.cons rfl (.cons rfl .nil)))) .nil
  intro s106 b167 h168
  unfold g_net_Net_Through_l1 at h168
  refine rs env_ok ?_
  refine rl rfl ?_
  refine dwp_seq ?_
  refine cd rfl h168 (fun h171 => ?_) (fun h200 => ?_) <;> clear h168
  · refine dwp_skip ?_
    refine thenD_n ?_
    refine dwp_seq ?_
    refine dwp_block ?_
    refine rs env_ok ?_
    obtain ⟨y187, ey187, h188⟩ := bd h171; clear h171
    refine sx rfl (o_idx ey187 rfl rfl rfl ?_)
    refine rl rfl ?_
    refine jb (fun t191 : Bool => ⟨33, [(3, .p (.int .i64 x3)), (11, .lpb 0 0), (15, .p (.slice 2 (y104.map wayC))), (16, .p (.int .i64 (y104.length : Int))), (17, .p (.int .i64 s106)), (29, .p (.bool t191))], [(0, .box [.p (.int .i64 y187.out), .p (.int .i64 y187.pos)])], 1⟩) h188 (fun t191 h192 => ?_) (fun t191 h195 => ?_) <;> clear h188
    · refine rg env_ok ?_
      refine rn 4 rfl ?_
      refine gs 24 h192 rfl rfl rfl (fun h193 => ?_) (fun h194 => ?_) <;> clear h192
      · refine rl rfl ?_
        have hr := Option.some.inj h193; subst hr
        exact npn (wk [(0, 0)] (free hA _) rfl rfl rfl (.cons rfl (.cons rfl (.cons rfl (.cons rfl (.cons rfl (.cons rfl .nil)))))) (.cons rfl rfl .nil))
      · refine rl rfl ?_
        have hr := Option.some.inj h194; subst hr
        exact npn (wk [(0, 0)] (free hA _) rfl rfl rfl (.cons rfl (.cons rfl (.cons rfl (.cons rfl (.cons rfl (.cons rfl .nil)))))) (.cons rfl rfl .nil))
    · refine cd rfl h195 (fun h196 => ?_) (fun h199 => ?_) <;> clear h195
      · refine rs env_ok ?_
        refine rl rfl ?_
        refine dwp_ret ?_
        refine inB_r ?_
        refine thenD_r ?_
        obtain ⟨a197, h198, rfl⟩ := mps h196; clear h196
        refine lpt ?_
        refine inB_r ?_
        refine thenD_r ?_
        have hr := Option.some.inj h198; subst hr
        exact er rfl Le.rfl
      · refine dwp_skip ?_
        refine inB_n ?_
        refine thenD_n ?_
        refine rg env_ok ?_
        refine rl rfl ?_
        have hr := Option.some.inj h199; subst hr
        exact lpn (wk [] (free hA _) rfl rfl rfl (.cons rfl (.cons rfl (.cons rfl (.cons rfl .nil)))) .nil)
  · refine dwp_exit ?_
    refine thenD_x ?_
    obtain ⟨a201, h202, rfl⟩ := mps h200; clear h200
    refine lpx ?_
    refine inB_x ?_
    refine thenD_n ?_
    refine rs env_ok ?_
    refine rl rfl ?_
    refine dwp_ret ?_
    have hr := Option.some.inj h202; subst hr
    exact er rfl Le.rfl

noncomputable def g_net_Net_Length (x0 : Net) (x1 : Int) : Option Int :=
  (g_net_Net_elem x0 x1).bind fun y3 => some y3.length

theorem f_net_Net_Length (x0 : Net) (x1 : Int) (r : Int) (h : g_net_Net_Length x0 x1 = some r) : Fun Tryz.prog 42 [.place (netC x0) 0, .int .i64 x1] (· = .int .i64 r) := by
  refine fn env_ok Tryz.func42 rfl rfl 9 rfl [.tmp 4] rfl [(0, .p (.place (netC x0) 0)), (1, .p (.int .i64 x1))] rfl rfl fun A hA => ?_
  unfold g_net_Net_Length at h
  refine rs env_ok ?_
  refine rl rfl ?_
  refine rs env_ok ?_
  refine rn 2 rfl ?_
  obtain ⟨y3, ey3, h4⟩ := bd h; clear h
  refine sx rfl (o_call (f_net_Net_elem _ _ _ ey3) (.inl rfl) rfl rfl rfl ?_)
  refine rl rfl ?_
  refine dwp_ret ?_
  have hr := Option.some.inj h4; subst hr
  exact er rfl Le.rfl

end Go.E
/- Plain functions, and walks in step with them. Written by a program (gen.py). No condition. -/
set_option maxRecDepth 100000
namespace Go.E
open Go Go.RowKit Go.Proofs

noncomputable def g_body_has_l1 (x0 : Net) (y60 : (List Port)) (s62 : Int × Int) : Option ((Int × Int) ⊕ Int) :=
  bif decide (s62.2 < (y60.length : Int)) then (idx y60 s62.2).bind fun y108 => (g_net_Net_Length x0 y108.elem).bind fun y110 => some (.inl (wi64 (s62.1 + y110), wi64 (s62.2 + 1))) else some (.inr s62.1)

noncomputable def g_body_has (x0 : Net) (x1 : Body) : Option Int :=
  (slI x1.trail 1 (x1.trail.length : Int)).bind fun y60 => loopR (g_body_has_l1 x0 y60) (wi64 (x1.over - x1.left), 0)

theorem f_body_has (x0 : Net) (x1 : Body) (r : Int) (h : g_body_has x0 x1 = some r) : Fun Tryz.prog 72 [.place (netC x0) 0, .agg (bodyC x1)] (· = .int .i64 r) := by
  refine fn env_ok Tryz.func72 rfl rfl 29 rfl [.tmp 4] rfl [(0, .p (.place (netC x0) 0)), (1, .p (.agg (bodyC x1)))] rfl rfl fun A hA => ?_
  unfold g_body_has at h
  refine rs env_ok ?_
  refine rl rfl ?_
  refine rs env_ok ?_
  refine rl rfl ?_
  refine dwp_seq ?_
  refine rs env_ok ?_
  refine rn 2 rfl ?_
  obtain ⟨y60, ey60, h61⟩ := bd h; clear h
  refine sx rfl (o_slc ey60 rfl rfl rfl rfl ?_)
  refine sx rfl (o_len rfl rfl ?_)
  refine rl rfl ?_
  refine dwp_block ?_
  apply lp (a := r) (fun s62 : (Int × Int) => ⟨29, [(0, .p (.place (netC x0) 0)), (5, .p (.int .i64 s62.1)), (15, .p (.slice 2 (y60.map portC))), (16, .p (.int .i64 (y60.length : Int))), (17, .p (.int .i64 s62.2))], [], 0⟩) h61 <;> clear h61
  · exact wk [] (free hA _) rfl rfl rfl (.cons rfl (.cons rfl (.cons rfl (.cons rfl (.cons rfl .nil))))) .nil
  intro s62 b95 h96
  unfold g_body_has_l1 at h96
  refine rs env_ok ?_
  refine rl rfl ?_
  refine dwp_seq ?_
  refine cd rfl h96 (fun h99 => ?_) (fun h112 => ?_) <;> clear h96
  · refine dwp_skip ?_
    refine thenD_n ?_
    refine dwp_seq ?_
    refine dwp_block ?_
    refine rs env_ok ?_
    obtain ⟨y108, ey108, h109⟩ := bd h99; clear h99
    refine sx rfl (o_idx ey108 rfl rfl rfl ?_)
    refine rl rfl ?_
    refine rg env_ok ?_
    refine rn 4 rfl ?_
    obtain ⟨y110, ey110, h111⟩ := bd h109; clear h109
    refine sx rfl (o_call (f_net_Net_Length _ _ _ ey110) (.inl rfl) rfl rfl rfl ?_)
    refine rl rfl ?_
    refine inB_n ?_
    refine thenD_n ?_
    refine rg env_ok ?_
    refine rl rfl ?_
    have hr := Option.some.inj h111; subst hr
    exact lpn (wk [] (free hA _) rfl rfl rfl (.cons rfl (.cons rfl (.cons rfl (.cons rfl (.cons rfl .nil))))) .nil)
  · refine dwp_exit ?_
    refine thenD_x ?_
    obtain ⟨a113, h114, rfl⟩ := mps h112; clear h112
    refine lpx ?_
    refine inB_x ?_
    refine thenD_n ?_
    refine rs env_ok ?_
    refine rl rfl ?_
    refine dwp_ret ?_
    have hr := Option.some.inj h114; subst hr
    exact er rfl Le.rfl

noncomputable def g_body_Move_l1 (x0 : Net) (x1 : (List Int)) (x3 : Body) (x4 : Int) (s963 : Int × Int × Int × (List Port)) : Option ((Int × Int × Int × (List Port)) ⊕ (Int × Int × Int × Int × (List Port))) :=
  bif decide (0 < s963.1) then bif ((wi64 (s963.1 - (if (if s963.2.2.1 < s963.1 then s963.2.2.1 else s963.1) > 0 then (if s963.2.2.1 < s963.1 then s963.2.2.1 else s963.1) else 0))) == 0) then some (.inr (s963.2.1, (if 0 > wi64 (s963.2.2.1 - (if (if s963.2.2.1 < s963.1 then s963.2.2.1 else s963.1) > 0 then (if s963.2.2.1 < s963.1 then s963.2.2.1 else s963.1) else 0)) then 0 else wi64 (s963.2.2.1 - (if (if s963.2.2.1 < s963.1 then s963.2.2.1 else s963.1) > 0 then (if s963.2.2.1 < s963.1 then s963.2.2.1 else s963.1) else 0))), x3.over, (if (if 60 < x4 then 60 else x4) > 0 then (if 60 < x4 then 60 else x4) else 0), s963.2.2.2)) else (idx s963.2.2.2 (wi64 ((s963.2.2.2.length : Int) - 1))).bind fun y1192 => (g_net_Net_Next x0 y1192).bind fun y1194 => bif (!y1194.2) then some (.inr (s963.2.1, (if 0 > wi64 (s963.2.2.1 - (if (if s963.2.2.1 < s963.1 then s963.2.2.1 else s963.1) > 0 then (if s963.2.2.1 < s963.1 then s963.2.2.1 else s963.1) else 0)) then 0 else wi64 (s963.2.2.1 - (if (if s963.2.2.1 < s963.1 then s963.2.2.1 else s963.1) > 0 then (if s963.2.2.1 < s963.1 then s963.2.2.1 else s963.1) else 0))), x3.over, 0, s963.2.2.2)) else (g_net_Net_Kind x0 y1194.1.elem).bind fun y1210 => bif (y1210 == 4) then some (.inr (s963.2.1, (if 0 > wi64 (s963.2.2.1 - (if (if s963.2.2.1 < s963.1 then s963.2.2.1 else s963.1) > 0 then (if s963.2.2.1 < s963.1 then s963.2.2.1 else s963.1) else 0)) then 0 else wi64 (s963.2.2.1 - (if (if s963.2.2.1 < s963.1 then s963.2.2.1 else s963.1) > 0 then (if s963.2.2.1 < s963.1 then s963.2.2.1 else s963.1) else 0))), wi64 (x3.over + (wi64 (s963.1 - (if (if s963.2.2.1 < s963.1 then s963.2.2.1 else s963.1) > 0 then (if s963.2.2.1 < s963.1 then s963.2.2.1 else s963.1) else 0)))), (if (if 60 < x4 then 60 else x4) > 0 then (if 60 < x4 then 60 else x4) else 0), s963.2.2.2)) else ((bif decide (y1194.1.elem < (x1.length : Int)) then (idx x1 y1194.1.elem).bind fun y1223 => some y1223 else some 0 : Option (Int))).bind fun (t1220 : Int) => (g_net_Net_Through x0 y1194.1.elem y1194.1.fin t1220).bind fun y1229 => bif (!y1229.2) then ((bif (s963.2.1 == 2) then some 4 else some s963.2.1 : Option (Int))).bind fun (t1243 : Int) => some (.inr (t1243, (if 0 > wi64 (s963.2.2.1 - (if (if s963.2.2.1 < s963.1 then s963.2.2.1 else s963.1) > 0 then (if s963.2.2.1 < s963.1 then s963.2.2.1 else s963.1) else 0)) then 0 else wi64 (s963.2.2.1 - (if (if s963.2.2.1 < s963.1 then s963.2.2.1 else s963.1) > 0 then (if s963.2.2.1 < s963.1 then s963.2.2.1 else s963.1) else 0))), x3.over, 0, s963.2.2.2)) else (appI s963.2.2.2 [(⟨y1194.1.elem, y1229.1⟩ : Port)]).bind fun y1253 => (g_net_Net_Length x0 y1194.1.elem).bind fun y1255 => some (.inl (wi64 (s963.1 - (if (if s963.2.2.1 < s963.1 then s963.2.2.1 else s963.1) > 0 then (if s963.2.2.1 < s963.1 then s963.2.2.1 else s963.1) else 0)), 2, y1255, y1253)) else some (.inr (s963.2.1, s963.2.2.1, x3.over, (if (if 60 < x4 then 60 else x4) > 0 then (if 60 < x4 then 60 else x4) else 0), s963.2.2.2))

noncomputable def g_body_Move_l2 (x0 : Net) (x2 : Int) (t961 : (Int × Int × Int × Int × (List Port))) (s1354 : (List Port)) : Option ((List Port) ⊕ Body) :=
  ((bif decide (1 < (s1354.length : Int)) then (g_body_has x0 (⟨t961.1, s1354, t961.2.1, t961.2.2.1, t961.2.2.2.1⟩ : Body)).bind fun y1433 => some (decide (x2 ≤ y1433)) else some false : Option (Bool))).bind fun (t1430 : Bool) => bif t1430 then (delI s1354 0 1).bind fun y1438 => some (.inl y1438) else some (.inr (⟨t961.1, s1354, t961.2.1, t961.2.2.1, t961.2.2.2.1⟩ : Body))

noncomputable def g_body_Move (x0 : Net) (x1 : (List Int)) (x2 : Int) (x3 : Body) (x4 : Int) : Option Body :=
  (((g_slices_Clone_apiPort x3.trail).bind fun y20 => some y20 : Option ((List Port)))).bind fun (t16 : (List Port)) => ((bif (x3.mode != 1) then bif (x3.mode != 2) then some true else some ((x3.trail.length : Int) == 0) else some ((x3.trail.length : Int) == 0) : Option (Bool))).bind fun (t40 : Bool) => bif t40 then some (⟨x3.mode, t16, x3.left, x3.over, x3.v⟩ : Body) else ((bif (x3.mode == 1) then some ((if (if 60 < x4 then 60 else x4) > 0 then (if 60 < x4 then 60 else x4) else 0) == 0) else some false : Option (Bool))).bind fun (t60 : Bool) => bif t60 then some (⟨x3.mode, t16, x3.left, x3.over, (if (if 60 < x4 then 60 else x4) > 0 then (if 60 < x4 then 60 else x4) else 0)⟩ : Body) else ((loopR (g_body_Move_l1 x0 x1 x3 x4) ((if (if 60 < x4 then 60 else x4) > 0 then (if 60 < x4 then 60 else x4) else 0), x3.mode, x3.left, t16) : Option (Int × Int × Int × Int × (List Port)))).bind fun (t961 : Int × Int × Int × Int × (List Port)) => bif decide (x2 ≤ t961.2.2.1) then some (⟨3, [], 0, 0, 0⟩ : Body) else loopR (g_body_Move_l2 x0 x2 t961) t961.2.2.2.2

theorem f_body_Move (x0 : Net) (x1 : (List Int)) (x2 : Int) (x3 : Body) (x4 : Int) (r : Body) (h : g_body_Move x0 x1 x2 x3 x4 = some r) : Fun Tryz.prog 32 [.place (netC x0) 0, .slice 1 (x1.map intC), .int .i64 x2, .agg (bodyC x3), .int .i64 x4] (· = .agg (bodyC r)) := by
  refine fn env_ok Tryz.func32 rfl rfl 67 rfl [.cell 10 33] rfl [(0, .p (.place (netC x0) 0)), (1, .p (.slice 1 (x1.map intC))), (2, .p (.int .i64 x2)), (3, .p (.agg (bodyC x3))), (4, .p (.int .i64 x4))] rfl rfl fun A hA => ?_
  unfold g_body_Move at h
  refine rs env_ok ?_
  refine rl rfl ?_
  refine rs env_ok ?_
  refine rn 1 rfl ?_
  refine sx rfl (o_in env_ok (fun t16 : (List Port) => .agg [.p (.int .i64 x3.mode), .lsl 3 2 0 t16.length, .p (.int .i64 x3.left), .p (.int .i64 x3.over), .p (.int .i64 x3.v)]) (fun t16 : (List Port) => [(0, .box [.p (.int .i64 x3.mode), .p (.slice 2 (x3.trail.map portC)), .p (.int .i64 x3.left), .p (.int .i64 x3.over), .p (.int .i64 x3.v)]), (1, .box [.p (.int .i64 0), .p (.nils), .p (.int .i64 0), .p (.int .i64 0), .p (.int .i64 0)]), (2, .box [.p (.int .i64 x3.mode), .lsl 3 2 0 t16.length, .p (.int .i64 x3.left), .p (.int .i64 x3.over), .p (.int .i64 x3.v)]), (3, .row 42 2 (t16.map portC))]) 4 h Tryz.func70 8 [.cell 2 33] [(0, .p (.agg (bodyC x3)))] rfl rfl rfl rfl rfl rfl rfl rfl (fun A hA t16 h17 => ?_) (fun t16 h22 => ?_)) <;> clear h
  · refine rs env_ok ?_
    refine rl rfl ?_
    refine rs env_ok ?_
    refine rn 2 rfl ?_
    obtain ⟨y20, ey20, h21⟩ := bd h17; clear h17
    refine sx rfl (o_callN (fN_slices_Clone_apiPort _ _ ey20) rfl rfl rfl rfl ?_)
    refine rl rfl ?_
    refine rs env_ok ?_
    refine rl rfl ?_
    refine dwp_ret ?_
    have hr := Option.some.inj h21; subst hr
    exact ipr (nt := 8) (sl := [(2, .lpb 2 0)]) (wk [(0, 0), (1, 1), (2, 3), (3, 4)] (kept hA _ rfl) rfl rfl rfl (.cons rfl .nil) (.cons rfl rfl (.cons rfl rfl (.cons rfl rfl (.cons rfl rfl .nil))))) rfl
  · refine rl rfl ?_
    refine rs env_ok ?_
    refine rl rfl ?_
    refine dwp_seq ?_
    refine jb (fun t40 : Bool => ⟨67, [(0, .p (.place (netC x0) 0)), (1, .p (.slice 1 (x1.map intC))), (2, .p (.int .i64 x2)), (4, .p (.int .i64 (if (if 60 < x4 then 60 else x4) > 0 then (if 60 < x4 then 60 else x4) else 0))), (8, .lpb 0 0), (10, .lpb 1 0), (11, .lpb 2 0), (30, .p (.bool t40))], [(0, .box [.p (.int .i64 x3.mode), .p (.slice 2 (x3.trail.map portC)), .p (.int .i64 x3.left), .p (.int .i64 x3.over), .p (.int .i64 x3.v)]), (1, .box [.p (.int .i64 0), .p (.nils), .p (.int .i64 0), .p (.int .i64 0), .p (.int .i64 0)]), (2, .box [.p (.int .i64 x3.mode), .lsl 3 2 0 t16.length, .p (.int .i64 x3.left), .p (.int .i64 x3.over), .p (.int .i64 x3.v)]), (3, .row 42 2 (t16.map portC))], 4⟩) h22 (fun t40 h41 => ?_) (fun t40 h46 => ?_) <;> clear h22
    · refine rg env_ok ?_
      refine rn 4 rfl ?_
      refine gs 20 h41 rfl rfl rfl (fun h42 => ?_) (fun h45 => ?_) <;> clear h41
      · refine rn 5 rfl ?_
        refine gs 25 h42 rfl rfl rfl (fun h43 => ?_) (fun h44 => ?_) <;> clear h42
        · refine rl rfl ?_
          have hr := Option.some.inj h43; subst hr
          exact npn (wk [(0, 0), (1, 1), (2, 4), (3, 3)] (free hA _) rfl rfl rfl (.cons rfl (.cons rfl (.cons rfl (.cons rfl (.cons rfl (.cons rfl (.cons rfl (.cons rfl .nil)))))))) (.cons rfl rfl (.cons rfl rfl (.cons rfl rfl (.cons rfl rfl .nil)))))
        · refine rn 2 rfl ?_
          refine sx rfl (o_len rfl rfl ?_)
          refine rl rfl ?_
          have hr := Option.some.inj h44; subst hr
          exact npn (wk [(0, 0), (1, 1), (2, 4), (3, 3)] (free hA _) rfl rfl rfl (.cons rfl (.cons rfl (.cons rfl (.cons rfl (.cons rfl (.cons rfl (.cons rfl (.cons rfl .nil)))))))) (.cons rfl rfl (.cons rfl rfl (.cons rfl rfl (.cons rfl rfl .nil)))))
      · refine rn 7 rfl ?_
        refine sx rfl (o_len rfl rfl ?_)
        refine rl rfl ?_
        have hr := Option.some.inj h45; subst hr
        exact npn (wk [(0, 0), (1, 1), (2, 4), (3, 3)] (free hA _) rfl rfl rfl (.cons rfl (.cons rfl (.cons rfl (.cons rfl (.cons rfl (.cons rfl (.cons rfl (.cons rfl .nil)))))))) (.cons rfl rfl (.cons rfl rfl (.cons rfl rfl (.cons rfl rfl .nil)))))
    · refine cd rfl h46 (fun h47 => ?_) (fun h48 => ?_) <;> clear h46
      · refine rs env_ok ?_
        refine rl rfl ?_
        refine dwp_ret ?_
        refine thenD_r ?_
        have hr := Option.some.inj h47; subst hr
        exact er (rd1 rfl (.agg (.cons (.p _) (.cons (.own (enc := portC) t16 rfl rfl) (.cons (.p _) (.cons (.p _) (.cons (.p _) .nil))))))) Le.rfl
      · refine dwp_skip ?_
        refine thenD_n ?_
        refine rs env_ok ?_
        refine rl rfl ?_
        refine dwp_seq ?_
        refine jb (fun t60 : Bool => ⟨67, [(0, .p (.place (netC x0) 0)), (1, .p (.slice 1 (x1.map intC))), (2, .p (.int .i64 x2)), (4, .p (.int .i64 (if (if 60 < x4 then 60 else x4) > 0 then (if 60 < x4 then 60 else x4) else 0))), (10, .lpb 0 0), (11, .lpb 1 0), (40, .p (.bool t60))], [(0, .box [.p (.int .i64 0), .p (.nils), .p (.int .i64 0), .p (.int .i64 0), .p (.int .i64 0)]), (1, .box [.p (.int .i64 x3.mode), .lsl 2 2 0 t16.length, .p (.int .i64 x3.left), .p (.int .i64 x3.over), .p (.int .i64 (if (if 60 < x4 then 60 else x4) > 0 then (if 60 < x4 then 60 else x4) else 0))]), (2, .row 42 2 (t16.map portC))], 3⟩) h48 (fun t60 h61 => ?_) (fun t60 h64 => ?_) <;> clear h48
        · refine rg env_ok ?_
          refine rn 4 rfl ?_
          refine gs 37 h61 rfl rfl rfl (fun h62 => ?_) (fun h63 => ?_) <;> clear h61
          · refine rl rfl ?_
            have hr := Option.some.inj h62; subst hr
            exact npn (wk [(0, 1), (1, 2), (2, 3)] (free hA _) rfl rfl rfl (.cons rfl (.cons rfl (.cons rfl (.cons rfl (.cons rfl (.cons rfl (.cons rfl .nil))))))) (.cons rfl rfl (.cons rfl rfl (.cons rfl rfl .nil))))
          · refine rl rfl ?_
            have hr := Option.some.inj h63; subst hr
            exact npn (wk [(0, 1), (1, 2), (2, 3)] (free hA _) rfl rfl rfl (.cons rfl (.cons rfl (.cons rfl (.cons rfl (.cons rfl (.cons rfl (.cons rfl .nil))))))) (.cons rfl rfl (.cons rfl rfl (.cons rfl rfl .nil))))
        · refine cd rfl h64 (fun h65 => ?_) (fun h66 => ?_) <;> clear h64
          · refine rs env_ok ?_
            refine rl rfl ?_
            refine dwp_ret ?_
            refine thenD_r ?_
            have hr := Option.some.inj h65; subst hr
            exact er (rd1 rfl (.agg (.cons (.p _) (.cons (.own (enc := portC) t16 rfl rfl) (.cons (.p _) (.cons (.p _) (.cons (.p _) .nil))))))) Le.rfl
          · refine dwp_skip ?_
            refine thenD_n ?_
            refine rs env_ok ?_
            refine rn 3 rfl ?_
            refine sx rfl (o_in env_ok (fun t961 : (Int × Int × Int × Int × (List Port)) => .tup []) (fun t961 : (Int × Int × Int × Int × (List Port)) => [(0, .box [.p (.int .i64 0), .p (.nils), .p (.int .i64 0), .p (.int .i64 0), .p (.int .i64 0)]), (1, .box [.p (.int .i64 t961.1), .lsl 3 2 0 t961.2.2.2.2.length, .p (.int .i64 t961.2.1), .p (.int .i64 t961.2.2.1), .p (.int .i64 t961.2.2.2.1)]), (3, .row 42 2 (t961.2.2.2.2.map portC))]) 4 h66 Tryz.func71 129 [] [(0, .p (.place (netC x0) 0)), (1, .p (.slice 1 (x1.map intC))), (2, .lpb 1 0), (3, .p (.int .i64 (if (if 60 < x4 then 60 else x4) > 0 then (if 60 < x4 then 60 else x4) else 0)))] rfl rfl rfl rfl rfl rfl rfl rfl (fun A hA t961 h962 => ?_) (fun t961 h1260 => ?_)) <;> clear h66
            · refine sc ?_
              refine dwp_seq ?_
              refine dwp_label ?_
              refine thenD_n ?_
              refine dwp_block ?_
              apply lp (a := t961) (fun s963 : (Int × Int × Int × (List Port)) => ⟨129, [(0, .p (.place (netC x0) 0)), (1, .p (.slice 1 (x1.map intC))), (2, .lpb 1 0), (3, .p (.int .i64 s963.1))], [(0, .box [.p (.int .i64 0), .p (.nils), .p (.int .i64 0), .p (.int .i64 0), .p (.int .i64 0)]), (1, .box [.p (.int .i64 s963.2.1), .lsl 3 2 0 s963.2.2.2.length, .p (.int .i64 s963.2.2.1), .p (.int .i64 x3.over), .p (.int .i64 (if (if 60 < x4 then 60 else x4) > 0 then (if 60 < x4 then 60 else x4) else 0))]), (3, .row 42 2 (s963.2.2.2.map portC))], 4⟩) h962 <;> clear h962
              · exact wk [(0, 0), (1, 1), (3, 2), (2, 2)] (kept hA _ rfl) rfl rfl rfl (.cons rfl (.cons rfl (.cons rfl (.cons rfl .nil)))) (.cons rfl rfl (.cons rfl rfl (.cons rfl rfl .nil)))
              intro s963 b1177 h1178
              unfold g_body_Move_l1 at h1178
              refine dwp_seq ?_
              refine rs env_ok ?_
              refine rl rfl ?_
              refine cd rfl h1178 (fun h1181 => ?_) (fun h1257 => ?_) <;> clear h1178
              · refine dwp_skip ?_
                refine thenD_n ?_
                refine dwp_block ?_
                refine rs env_ok ?_
                refine rl rfl ?_
                refine rs env_ok ?_
                refine rl rfl ?_
                refine dwp_seq ?_
                refine rs env_ok ?_
                refine rl rfl ?_
                refine cd rfl h1181 (fun h1184 => ?_) (fun h1187 => ?_) <;> clear h1181
                · refine dwp_exit ?_
                  refine thenD_x ?_
                  refine inB_y rfl ?_
                  obtain ⟨a1185, h1186, rfl⟩ := mps h1184; clear h1184
                  refine lpx ?_
                  refine inB_x ?_
                  refine sc_n ?_
                  have hr := Option.some.inj h1186; subst hr
                  exact ipn (nt := 129) (sl := []) (wk [(0, 0), (1, 1), (2, 2), (3, 3)] (kept hA _ rfl) rfl rfl rfl .nil (.cons rfl rfl (.cons rfl rfl (.cons rfl rfl .nil)))) rfl
                · refine dwp_skip ?_
                  refine thenD_n ?_
                  refine dwp_seq ?_
                  refine rgd env_ok mixed [0, 1, 2, 3, 4, 5, 6, 7, 8, 9, 10, 11, 12, 13, 14, 15, 16, 17, 18, 19] 20 (by kernel_rfl) rfl rfl rfl ?_
                  refine rnD 11 rfl ?_
                  obtain ⟨y1192, ey1192, h1193⟩ := bd h1187; clear h1187
                  refine sxD rfl (opD_plain rfl (o_idxO ey1192 rfl rfl rfl rfl ?_))
                  refine sxD rfl (opD_plain rfl (o_ldO ey1192 rfl rfl rfl ?_))
                  obtain ⟨y1194, ey1194, h1195⟩ := bd h1193; clear h1193
                  refine sxD rfl (o_callD (f_net_Net_Next _ _ _ ey1194) (.inl rfl) rfl rfl rfl ?_)
                  refine rlD rfl ?_
                  refine thenD_n ?_
                  refine dwp_seq ?_
                  refine rs env_ok ?_
                  refine rl rfl ?_
                  refine cd rfl h1195 (fun h1198 => ?_) (fun h1201 => ?_) <;> clear h1195
                  · refine rs env_ok ?_
                    refine rl rfl ?_
                    refine dwp_exit ?_
                    refine thenD_x ?_
                    refine inB_y rfl ?_
                    obtain ⟨a1199, h1200, rfl⟩ := mps h1198; clear h1198
                    refine lpx ?_
                    refine inB_x ?_
                    refine sc_n ?_
                    have hr := Option.some.inj h1200; subst hr
                    exact ipn (nt := 129) (sl := []) (wk [(0, 0), (1, 1), (2, 2), (3, 3)] (kept hA _ rfl) rfl rfl rfl .nil (.cons rfl rfl (.cons rfl rfl (.cons rfl rfl .nil)))) rfl
                  · refine dwp_skip ?_
                    refine thenD_n ?_
                    refine dwp_seq ?_
                    refine rs env_ok ?_
                    refine rn 3 rfl ?_
                    obtain ⟨y1210, ey1210, h1211⟩ := bd h1201; clear h1201
                    refine sx rfl (o_call (f_net_Net_Kind _ _ _ ey1210) (.inl rfl) rfl rfl rfl ?_)
                    refine rl rfl ?_
                    refine cd rfl h1211 (fun h1212 => ?_) (fun h1215 => ?_) <;> clear h1211
                    · refine rs env_ok ?_
                      refine rl rfl ?_
                      refine dwp_exit ?_
                      refine thenD_x ?_
                      refine inB_y rfl ?_
                      obtain ⟨a1213, h1214, rfl⟩ := mps h1212; clear h1212
                      refine lpx ?_
                      refine inB_x ?_
                      refine sc_n ?_
                      have hr := Option.some.inj h1214; subst hr
                      exact ipn (nt := 129) (sl := []) (wk [(0, 0), (1, 1), (2, 2), (3, 3)] (kept hA _ rfl) rfl rfl rfl .nil (.cons rfl rfl (.cons rfl rfl (.cons rfl rfl .nil)))) rfl
                    · refine dwp_skip ?_
                      refine thenD_n ?_
                      refine rs env_ok ?_
                      refine rl rfl ?_
                      refine jb (fun t1220 : Int => ⟨129, [(0, .p (.place (netC x0) 0)), (1, .p (.slice 1 (x1.map intC))), (2, .lpb 1 0), (3, .p (.int .i64 (wi64 (s963.1 - (if (if s963.2.2.1 < s963.1 then s963.2.2.1 else s963.1) > 0 then (if s963.2.2.1 < s963.1 then s963.2.2.1 else s963.1) else 0))))), (9, .lpb 3 0), (11, .p (.int .i64 t1220))], [(0, .box [.p (.int .i64 0), .p (.nils), .p (.int .i64 0), .p (.int .i64 0), .p (.int .i64 0)]), (1, .box [.p (.int .i64 s963.2.1), .lsl 4 2 0 s963.2.2.2.length, .p (.int .i64 (if 0 > wi64 (s963.2.2.1 - (if (if s963.2.2.1 < s963.1 then s963.2.2.1 else s963.1) > 0 then (if s963.2.2.1 < s963.1 then s963.2.2.1 else s963.1) else 0)) then 0 else wi64 (s963.2.2.1 - (if (if s963.2.2.1 < s963.1 then s963.2.2.1 else s963.1) > 0 then (if s963.2.2.1 < s963.1 then s963.2.2.1 else s963.1) else 0)))), .p (.int .i64 x3.over), .p (.int .i64 (if (if 60 < x4 then 60 else x4) > 0 then (if 60 < x4 then 60 else x4) else 0))]), (3, .box [.p (.int .i64 y1194.1.elem), .p (.int .i64 y1194.1.fin)]), (4, .row 42 2 (s963.2.2.2.map portC))], 5⟩) h1215 (fun t1220 h1221 => ?_) (fun t1220 h1226 => ?_) <;> clear h1215
                      · refine rs env_ok ?_
                        refine rn 3 rfl ?_
                        refine sx rfl (o_len rfl rfl ?_)
                        refine rl rfl ?_
                        refine cd rfl h1221 (fun h1222 => ?_) (fun h1225 => ?_) <;> clear h1221
                        · refine rg env_ok ?_
                          refine rn 3 rfl ?_
                          obtain ⟨y1223, ey1223, h1224⟩ := bd h1222; clear h1222
                          refine sx rfl (o_idx ey1223 rfl rfl rfl ?_)
                          refine rl rfl ?_
                          have hr := Option.some.inj h1224; subst hr
                          exact npn (wk [(0, 0), (1, 1), (2, 2), (3, 21), (4, 3)] (kept hA _ rfl) rfl rfl rfl (.cons rfl (.cons rfl (.cons rfl (.cons rfl (.cons rfl (.cons rfl .nil)))))) (.cons rfl rfl (.cons rfl rfl (.cons rfl rfl (.cons rfl rfl .nil)))))
                        · refine dwp_skip ?_
                          have hr := Option.some.inj h1225; subst hr
                          exact npn (wk [(0, 0), (1, 1), (2, 2), (3, 21), (4, 3)] (kept hA _ rfl) rfl rfl rfl (.cons rfl (.cons rfl (.cons rfl (.cons rfl (.cons rfl (.cons rfl .nil)))))) (.cons rfl rfl (.cons rfl rfl (.cons rfl rfl (.cons rfl rfl .nil)))))
                      · refine rs env_ok ?_
                        refine rn 6 rfl ?_
                        obtain ⟨y1229, ey1229, h1230⟩ := bd h1226; clear h1226
                        refine sx rfl (o_call (f_net_Net_Through _ _ _ _ _ ey1229) (.inl rfl) rfl rfl rfl ?_)
                        refine rl rfl ?_
                        refine dwp_seq ?_
                        refine rs env_ok ?_
                        refine rl rfl ?_
                        refine cd rfl h1230 (fun h1240 => ?_) (fun h1250 => ?_) <;> clear h1230
                        · refine rs env_ok ?_
                          refine rl rfl ?_
                          refine jb (fun t1243 : Int => ⟨129, [], [(0, .box [.p (.int .i64 0), .p (.nils), .p (.int .i64 0), .p (.int .i64 0), .p (.int .i64 0)]), (1, .box [.p (.int .i64 t1243), .lsl 3 2 0 s963.2.2.2.length, .p (.int .i64 (if 0 > wi64 (s963.2.2.1 - (if (if s963.2.2.1 < s963.1 then s963.2.2.1 else s963.1) > 0 then (if s963.2.2.1 < s963.1 then s963.2.2.1 else s963.1) else 0)) then 0 else wi64 (s963.2.2.1 - (if (if s963.2.2.1 < s963.1 then s963.2.2.1 else s963.1) > 0 then (if s963.2.2.1 < s963.1 then s963.2.2.1 else s963.1) else 0)))), .p (.int .i64 x3.over), .p (.int .i64 0)]), (3, .row 42 2 (s963.2.2.2.map portC))], 4⟩) h1240 (fun t1243 h1244 => ?_) (fun t1243 h1247 => ?_) <;> clear h1240
                          · refine rs env_ok ?_
                            refine rl rfl ?_
                            refine cd rfl h1244 (fun h1245 => ?_) (fun h1246 => ?_) <;> clear h1244
                            · refine rg env_ok ?_
                              refine rl rfl ?_
                              have hr := Option.some.inj h1245; subst hr
                              exact npn (wk [(0, 0), (1, 1), (2, 2), (3, 4)] (kept hA _ rfl) rfl rfl rfl .nil (.cons rfl rfl (.cons rfl rfl (.cons rfl rfl .nil))))
                            · refine dwp_skip ?_
                              have hr := Option.some.inj h1246; subst hr
                              exact npn (wk [(0, 0), (1, 1), (2, 2), (3, 4)] (kept hA _ rfl) rfl rfl rfl .nil (.cons rfl rfl (.cons rfl rfl (.cons rfl rfl .nil))))
                          · refine dwp_exit ?_
                            refine thenD_x ?_
                            refine inB_y rfl ?_
                            obtain ⟨a1248, h1249, rfl⟩ := mps h1247; clear h1247
                            refine lpx ?_
                            refine inB_x ?_
                            refine sc_n ?_
                            have hr := Option.some.inj h1249; subst hr
                            exact ipn (nt := 129) (sl := []) (wk [(0, 0), (1, 1), (2, 2), (3, 3)] (kept hA _ rfl) rfl rfl rfl .nil (.cons rfl rfl (.cons rfl rfl (.cons rfl rfl .nil)))) rfl
                        · refine dwp_skip ?_
                          refine thenD_n ?_
                          refine rs env_ok ?_
                          refine rl rfl ?_
                          refine dwp_seq ?_
                          refine rgd env_ok mixed [0, 1, 2, 3, 4, 5, 6, 7, 8, 9, 10, 11, 12, 13] 14 (by kernel_rfl) rfl rfl rfl ?_
                          refine rnD 10 rfl ?_
                          obtain ⟨y1253, ey1253, h1254⟩ := bd h1250; clear h1250
                          refine sxD rfl (opD_app (o_app1 (enc := portC) (l := s963.2.2.2) (m := [(⟨y1194.1.elem, y1229.1⟩ : Port)]) ey1253 (fun _ => ⟨rfl, rfl⟩) rfl rfl rfl rfl rfl rfl ?_))
                          refine rlD rfl ?_
                          refine thenD_n ?_
                          refine rg env_ok ?_
                          refine rn 4 rfl ?_
                          obtain ⟨y1255, ey1255, h1256⟩ := bd h1254; clear h1254
                          refine sx rfl (o_call (f_net_Net_Length _ _ _ ey1255) (.inl rfl) rfl rfl rfl ?_)
                          refine rl rfl ?_
                          refine inB_n ?_
                          have hr := Option.some.inj h1256; subst hr
                          exact lpn (wk [(0, 0), (1, 1), (3, 15), (2, 2)] (kept hA _ rfl) rfl rfl rfl (.cons rfl (.cons rfl (.cons rfl (.cons rfl .nil)))) (.cons rfl rfl (.cons rfl rfl (.cons rfl rfl .nil))))
              · refine dwp_exit ?_
                refine thenD_x ?_
                obtain ⟨a1258, h1259, rfl⟩ := mps h1257; clear h1257
                refine lpx ?_
                refine inB_x ?_
                refine sc_n ?_
                have hr := Option.some.inj h1259; subst hr
                exact ipn (nt := 129) (sl := []) (wk [(0, 0), (1, 1), (2, 2), (3, 3)] (kept hA _ rfl) rfl rfl rfl .nil (.cons rfl rfl (.cons rfl rfl (.cons rfl rfl .nil)))) rfl
            · refine rl rfl ?_
              refine dwp_seq ?_
              refine rs env_ok ?_
              refine rl rfl ?_
              refine cd rfl h1260 (fun h1263 => ?_) (fun h1264 => ?_) <;> clear h1260
              · refine rs env_ok ?_
                refine rl rfl ?_
                refine dwp_ret ?_
                refine thenD_r ?_
                have hr := Option.some.inj h1263; subst hr
                exact er rfl (Le.agg' (.cons Le.rfl (.cons (Le.nil _) (.cons Le.rfl (.cons Le.rfl (.cons Le.rfl .nil))))))
              · refine dwp_skip ?_
                refine thenD_n ?_
                refine dwp_seq ?_
                refine dwp_block ?_
                apply lp (a := r) (fun s1354 : (List Port) => ⟨67, [(0, .p (.place (netC x0) 0)), (2, .p (.int .i64 x2)), (10, .lpb 0 0), (11, .lpb 1 0)], [(0, .box [.p (.int .i64 0), .p (.nils), .p (.int .i64 0), .p (.int .i64 0), .p (.int .i64 0)]), (1, .box [.p (.int .i64 t961.1), .lsl 2 2 0 s1354.length, .p (.int .i64 t961.2.1), .p (.int .i64 t961.2.2.1), .p (.int .i64 t961.2.2.2.1)]), (2, .row 42 2 (s1354.map portC))], 3⟩) h1264 <;> clear h1264
                · exact wk [(0, 0), (1, 1), (2, 3)] (free hA _) rfl rfl rfl (.cons rfl (.cons rfl (.cons rfl (.cons rfl .nil)))) (.cons rfl rfl (.cons rfl rfl (.cons rfl rfl .nil)))
                intro s1354 b1411 h1412
                unfold g_body_Move_l2 at h1412
                refine dwp_seq ?_
                refine jb (fun t1430 : Bool => ⟨67, [(0, .p (.place (netC x0) 0)), (2, .p (.int .i64 x2)), (10, .lpb 0 0), (11, .lpb 1 0), (61, .p (.bool t1430))], [(0, .box [.p (.int .i64 0), .p (.nils), .p (.int .i64 0), .p (.int .i64 0), .p (.int .i64 0)]), (1, .box [.p (.int .i64 t961.1), .lsl 2 2 0 s1354.length, .p (.int .i64 t961.2.1), .p (.int .i64 t961.2.2.1), .p (.int .i64 t961.2.2.2.1)]), (2, .row 42 2 (s1354.map portC))], 3⟩) h1412 (fun t1430 h1431 => ?_) (fun t1430 h1436 => ?_) <;> clear h1412
                · refine rg env_ok ?_
                  refine rn 5 rfl ?_
                  refine gs 55 h1431 rfl rfl rfl (fun h1432 => ?_) (fun h1435 => ?_) <;> clear h1431
                  · refine rn 2 rfl ?_
                    obtain ⟨y1433, ey1433, h1434⟩ := bd h1432; clear h1432
                    refine sx rfl (o_call (f_body_has _ _ _ ey1433) (.inl rfl) rfl rfl (LdA.eq (.cons (.one (.p _)) (.cons (.agg (.cons (.p _) (.cons (.own (enc := portC) s1354 rfl rfl) (.cons (.p _) (.cons (.p _) (.cons (.p _) .nil)))))) .nil))) ?_)
                    refine rl rfl ?_
                    have hr := Option.some.inj h1434; subst hr
                    exact npn (wk [(0, 0), (1, 1), (2, 2)] (free hA _) rfl rfl rfl (.cons rfl (.cons rfl (.cons rfl (.cons rfl (.cons rfl .nil))))) (.cons rfl rfl (.cons rfl rfl (.cons rfl rfl .nil))))
                  · refine rl rfl ?_
                    have hr := Option.some.inj h1435; subst hr
                    exact npn (wk [(0, 0), (1, 1), (2, 2)] (free hA _) rfl rfl rfl (.cons rfl (.cons rfl (.cons rfl (.cons rfl (.cons rfl .nil))))) (.cons rfl rfl (.cons rfl rfl (.cons rfl rfl .nil))))
                · refine cd rfl h1436 (fun h1437 => ?_) (fun h1440 => ?_) <;> clear h1436
                  · refine dwp_skip ?_
                    refine thenD_n ?_
                    refine dwp_block ?_
                    refine rg env_ok ?_
                    refine rn 2 rfl ?_
                    obtain ⟨y1438, ey1438, h1439⟩ := bd h1437; clear h1437
                    refine sx rfl (o_del (t := 31) (enc := portC) (l := s1354) (i := 0) (j := 1) env_ok lay73 rfl rfl ey1438 (fun _ => ⟨rfl, rfl⟩) rfl rfl rfl rfl rfl rfl ?_)
                    refine rl rfl ?_
                    refine inB_n ?_
                    have hr := Option.some.inj h1439; subst hr
                    exact lpn (wk [(0, 0), (1, 1), (2, 3)] (free hA _) rfl rfl rfl (.cons rfl (.cons rfl (.cons rfl (.cons rfl .nil)))) (.cons rfl rfl (.cons rfl rfl (.cons rfl rfl .nil))))
                  · refine dwp_exit ?_
                    refine thenD_x ?_
                    obtain ⟨a1441, h1442, rfl⟩ := mps h1440; clear h1440
                    refine lpx ?_
                    refine inB_x ?_
                    refine thenD_n ?_
                    refine rs env_ok ?_
                    refine rl rfl ?_
                    refine dwp_ret ?_
                    have hr := Option.some.inj h1442; subst hr
                    exact er (rd1 rfl (.agg (.cons (.p _) (.cons (.own (enc := portC) s1354 rfl rfl) (.cons (.p _) (.cons (.p _) (.cons (.p _) .nil))))))) Le.rfl

end Go.E
/- Plain functions, and walks in step with them. Written by a program (gen.py). No condition. -/
set_option maxRecDepth 100000
namespace Go.E
open Go Go.RowKit Go.Proofs

noncomputable def g_R6_Kind (x0 : Plan) (x1 : Int) : Option Int :=
  (g_R6_kind x0 x1).bind fun y3 => some y3

theorem f_R6_Kind (x0 : Plan) (x1 : Int) (r : Int) (h : g_R6_Kind x0 x1 = some r) : Fun Tryz.prog 49 [.agg (planC x0), .int .i64 x1] (· = .int .i64 r) := by
  refine fn env_ok Tryz.func49 rfl rfl 8 rfl [.tmp 4] rfl [(0, .p (.agg (planC x0))), (1, .p (.int .i64 x1))] rfl rfl fun A hA => ?_
  unfold g_R6_Kind at h
  refine rs env_ok ?_
  refine rl rfl ?_
  refine rs env_ok ?_
  refine rn 2 rfl ?_
  obtain ⟨y3, ey3, h4⟩ := bd h; clear h
  refine sx rfl (o_call (f_R6_kind _ _ _ ey3) (.inl rfl) rfl rfl rfl ?_)
  refine rl rfl ?_
  refine dwp_ret ?_
  have hr := Option.some.inj h4; subst hr
  exact er rfl Le.rfl

noncomputable def g_R6_Outs (x0 : Plan) (x1 : Int) (x2 : Int) : Option (List Way) :=
  (g_R6_has x0 (⟨x1, x2⟩ : Port)).bind fun y9 => bif (!y9) then some [] else (g_R6_kind x0 x1).bind fun y29 => bif (y29 == 1) then some [(⟨wi64 (1 - x2), 0⟩ : Way)] else bif (y29 == 3) then some [(⟨xor64 x2 1, 0⟩ : Way)] else bif (y29 == 2) then bif (x2 == 0) then some [(⟨1, 1⟩ : Way), (⟨2, 2⟩ : Way)] else some [(⟨0, x2⟩ : Way)] else some []

theorem f_R6_Outs (x0 : Plan) (x1 : Int) (x2 : Int) (r : (List Way)) (h : g_R6_Outs x0 x1 x2 = some r) : Fun Tryz.prog 92 [.agg (planC x0), .int .i64 x1, .int .i64 x2] (· = .slice 2 (r.map wayC)) := by
  refine fn env_ok Tryz.func92 rfl rfl 38 rfl [.tmp 6] rfl [(0, .p (.agg (planC x0))), (1, .p (.int .i64 x1)), (2, .p (.int .i64 x2))] rfl rfl fun A hA => ?_
  unfold g_R6_Outs at h
  refine rs env_ok ?_
  refine rl rfl ?_
  refine dwp_seq ?_
  refine rs env_ok ?_
  refine rn 4 rfl ?_
  obtain ⟨y9, ey9, h10⟩ := bd h; clear h
  refine sx rfl (o_call (f_R6_has _ _ _ ey9) (.inl rfl) rfl rfl rfl ?_)
  refine rl rfl ?_
  refine cd rfl h10 (fun h11 => ?_) (fun h12 => ?_) <;> clear h10
  · refine rs env_ok ?_
    refine rl rfl ?_
    refine dwp_ret ?_
    refine thenD_r ?_
    have hr := Option.some.inj h11; subst hr
    exact er rfl (Le.nil _)
  · refine dwp_skip ?_
    refine thenD_n ?_
    refine dwp_seq ?_
    refine rs env_ok ?_
    refine rn 2 rfl ?_
    obtain ⟨y29, ey29, h30⟩ := bd h12; clear h12
    refine sx rfl (o_call (f_R6_kind _ _ _ ey29) (.inl rfl) rfl rfl rfl ?_)
    refine rl rfl ?_
    refine dwp_block ?_
    refine rs env_ok ?_
    refine rl rfl ?_
    refine cd rfl h30 (fun h31 => ?_) (fun h32 => ?_) <;> clear h30
    · refine rs env_ok ?_
      refine rl rfl ?_
      refine dwp_ret ?_
      refine inB_r ?_
      refine thenD_r ?_
      have hr := Option.some.inj h31; subst hr
      exact er (rd1 rfl (.one (.own (enc := wayC) ([(⟨wi64 (1 - x2), 0⟩ : Way)] : List Way) rfl rfl))) Le.rfl
    · refine rs env_ok ?_
      refine rl rfl ?_
      refine cd rfl h32 (fun h33 => ?_) (fun h34 => ?_) <;> clear h32
      · refine rs env_ok ?_
        refine rl rfl ?_
        refine dwp_ret ?_
        refine inB_r ?_
        refine thenD_r ?_
        have hr := Option.some.inj h33; subst hr
        exact er (rd1 rfl (.one (.own (enc := wayC) ([(⟨xor64 x2 1, 0⟩ : Way)] : List Way) rfl rfl))) Le.rfl
      · refine rs env_ok ?_
        refine rl rfl ?_
        refine cd rfl h34 (fun h35 => ?_) (fun h40 => ?_) <;> clear h34
        · refine dwp_seq ?_
          refine rs env_ok ?_
          refine rl rfl ?_
          refine cd rfl h35 (fun h38 => ?_) (fun h39 => ?_) <;> clear h35
          · refine rs env_ok ?_
            refine rl rfl ?_
            refine dwp_ret ?_
            refine thenD_r ?_
            refine inB_r ?_
            refine thenD_r ?_
            have hr := Option.some.inj h38; subst hr
            exact er (rd1 rfl (.one (.own (enc := wayC) ([(⟨1, 1⟩ : Way), (⟨2, 2⟩ : Way)] : List Way) rfl rfl))) Le.rfl
          · refine dwp_skip ?_
            refine thenD_n ?_
            refine rs env_ok ?_
            refine rl rfl ?_
            refine dwp_ret ?_
            refine inB_r ?_
            refine thenD_r ?_
            have hr := Option.some.inj h39; subst hr
            exact er (rd1 rfl (.one (.own (enc := wayC) ([(⟨0, x2⟩ : Way)] : List Way) rfl rfl))) Le.rfl
        · refine dwp_skip ?_
          refine inB_n ?_
          refine thenD_n ?_
          refine rs env_ok ?_
          refine rl rfl ?_
          refine dwp_ret ?_
          have hr := Option.some.inj h40; subst hr
          exact er rfl (Le.nil _)

noncomputable def g_R24_chained_l2 (y2381 : Port) (y2536 : (List Way)) (s2538 : Bool × Int) : Option ((Bool × Int) ⊕ (Unit ⊕ (Int ⊕ Bool))) :=
  bif decide (s2538.2 < (y2536.length : Int)) then (((idx y2536 s2538.2).bind fun y2585 => bif s2538.1 then some true else some (y2585.out == y2381.fin) : Option (Bool))).bind fun (t2581 : Bool) => some (.inl (t2581, wi64 (s2538.2 + 1))) else (bif (!s2538.1) then some (.inr (.inr false)) else some (.inl ())).map .inr

noncomputable def g_R24_chained_l1 (x0 : Plan) (x1 : (List Port)) (s1302 : Int) : Option (Int ⊕ Bool) :=
  bif decide (s1302 < (x1.length : Int)) then seqR (((idx x1 s1302).bind fun y2381 => (g_R6_Kind x0 y2381.elem).bind fun y2385 => ((bif decide (y2381.fin < 0) then some true else (g_R6_Ends y2385).bind fun y2426 => bif decide (y2426 ≤ y2381.fin) then some true else bif (y2385 == 4) then bif decide (0 < s1302) then some true else some ((x1.length : Int) == 1) else some false : Option (Bool))).bind fun (t2422 : Bool) => bif t2422 then some (.inr (.inr false)) else bif (s1302 == 0) then some (.inl ()) else (idx x1 (wi64 (s1302 - 1))).bind fun y2449 => (g_R6_Next x0 y2449).bind fun y2451 => ((bif (!y2451.2) then some true else some (y2451.1.elem != y2381.elem) : Option (Bool))).bind fun (t2464 : Bool) => bif t2464 then some (.inr (.inr false)) else (g_R6_Outs x0 y2451.1.elem y2451.1.fin).bind fun y2536 => loopR (g_R24_chained_l2 y2381 y2536) (false, 0) : Option (Unit ⊕ (Int ⊕ Bool)))) fun (t2376 : Unit) => some (.inl (wi64 (s1302 + 1))) else (some (decide (0 < (x1.length : Int)))).map .inr

noncomputable def g_R24_chained (x0 : Plan) (x1 : (List Port)) : Option Bool :=
  loopR (g_R24_chained_l1 x0 x1) 0

theorem f_R24_chained (x0 : Plan) (x1 : (List Port)) (r : Bool) (h : g_R24_chained x0 x1 = some r) : Fun Tryz.prog 50 [.agg (planC x0), .slice 2 (x1.map portC)] (· = .bool r) := by
  refine fn env_ok Tryz.func50 rfl rfl 94 rfl [.tmp 4] rfl [(0, .p (.agg (planC x0))), (1, .p (.slice 2 (x1.map portC)))] rfl rfl fun A hA => ?_
  unfold g_R24_chained at h
  refine rs env_ok ?_
  refine rl rfl ?_
  refine dwp_seq ?_
  refine rs env_ok ?_
  refine rn 1 rfl ?_
  refine sx rfl (o_len rfl rfl ?_)
  refine rl rfl ?_
  refine dwp_block ?_
  apply lp (a := r) (fun s1302 : Int => ⟨94, [(1, .p (.slice 2 (x1.map portC))), (2, .lpb 0 0), (13, .p (.slice 2 (x1.map portC))), (14, .p (.int .i64 (x1.length : Int))), (15, .p (.int .i64 s1302))], [(0, .box [.p (.slice 3 (x0.elems.map elemC)), .p (.slice 4 (x0.joins.map joinC)), .p (.slice 4 (x0.signals.map signalC)), .p (.slice 2 (x0.lines.map lineC)), .p (.int .i64 x0.top), .p (.int .i64 x0.brake), .p (.int .i64 x0.margin), .p (.int .i64 x0.throw), .p (.bool x0.hard)])], 1⟩) h <;> clear h
  · exact wk [(0, 0)] (free hA _) rfl rfl rfl (.cons rfl (.cons rfl (.cons rfl (.cons rfl (.cons rfl .nil))))) (.cons rfl rfl .nil)
  intro s1302 b2163 h2164
  unfold g_R24_chained_l1 at h2164
  refine rs env_ok ?_
  refine rl rfl ?_
  refine dwp_seq ?_
  refine cd rfl h2164 (fun h2167 => ?_) (fun h2600 => ?_) <;> clear h2164
  · refine dwp_skip ?_
    refine thenD_n ?_
    apply jn (a := b2163) (fun t2376 : Unit => ⟨94, [(1, .p (.slice 2 (x1.map portC))), (2, .lpb 0 0), (13, .p (.slice 2 (x1.map portC))), (14, .p (.int .i64 (x1.length : Int))), (15, .p (.int .i64 s1302))], [(0, .box [.p (.slice 3 (x0.elems.map elemC)), .p (.slice 4 (x0.joins.map joinC)), .p (.slice 4 (x0.signals.map signalC)), .p (.slice 2 (x0.lines.map lineC)), .p (.int .i64 x0.top), .p (.int .i64 x0.brake), .p (.int .i64 x0.margin), .p (.int .i64 x0.throw), .p (.bool x0.hard)])], 1⟩) h2167 <;> clear h2167
    · intro b2377 h2378
      refine dwp_block ?_
      refine rs env_ok ?_
      refine rn 1 rfl ?_
      obtain ⟨y2381, ey2381, h2382⟩ := bd h2378; clear h2378
      refine sx rfl (o_idx ey2381 rfl rfl rfl ?_)
      refine rl rfl ?_
      refine rs env_ok ?_
      refine rn 3 rfl ?_
      obtain ⟨y2385, ey2385, h2386⟩ := bd h2382; clear h2382
      refine sx rfl (o_call (f_R6_Kind _ _ _ ey2385) (.inl rfl) rfl rfl rfl ?_)
      refine rl rfl ?_
      refine dwp_seq ?_
      refine jb (fun t2422 : Bool => ⟨94, [(1, .p (.slice 2 (x1.map portC))), (2, .lpb 0 0), (5, .p (.int .i64 s1302)), (6, .lpb 1 0), (13, .p (.slice 2 (x1.map portC))), (14, .p (.int .i64 (x1.length : Int))), (15, .p (.int .i64 s1302)), (46, .p (.bool t2422))], [(0, .box [.p (.slice 3 (x0.elems.map elemC)), .p (.slice 4 (x0.joins.map joinC)), .p (.slice 4 (x0.signals.map signalC)), .p (.slice 2 (x0.lines.map lineC)), .p (.int .i64 x0.top), .p (.int .i64 x0.brake), .p (.int .i64 x0.margin), .p (.int .i64 x0.throw), .p (.bool x0.hard)]), (1, .box [.p (.int .i64 y2381.elem), .p (.int .i64 y2381.fin)])], 2⟩) h2386 (fun t2422 h2423 => ?_) (fun t2422 h2434 => ?_) <;> clear h2386
      · refine rgd env_ok mixed [0, 1, 2, 3, 4, 5, 6, 7, 8, 9, 10, 11, 12, 13, 14, 15, 16, 17, 18, 19, 20, 21, 22] 23 (by kernel_rfl) rfl rfl rfl ?_
        refine rnD 4 rfl ?_
        refine gsD 27 h2423 rfl rfl rfl (fun h2424 => ?_) (fun h2425 => ?_) <;> clear h2423
        · refine rlD rfl ?_
          have hr := Option.some.inj h2424; subst hr
          exact npn (wk [(0, 0), (1, 1)] (free hA _) rfl rfl rfl (.cons rfl (.cons rfl (.cons rfl (.cons rfl (.cons rfl (.cons rfl (.cons rfl (.cons rfl .nil)))))))) (.cons rfl rfl (.cons rfl rfl .nil)))
        · refine rnD 3 rfl ?_
          obtain ⟨y2426, ey2426, h2427⟩ := bd h2425; clear h2425
          refine sxD rfl (o_callD (f_R6_Ends _ _ ey2426) (.inl rfl) rfl rfl rfl ?_)
          refine rnD 3 rfl ?_
          refine gsD 34 h2427 rfl rfl rfl (fun h2428 => ?_) (fun h2429 => ?_) <;> clear h2427
          · refine rlD rfl ?_
            have hr := Option.some.inj h2428; subst hr
            exact npn (wk [(0, 0), (1, 1)] (free hA _) rfl rfl rfl (.cons rfl (.cons rfl (.cons rfl (.cons rfl (.cons rfl (.cons rfl (.cons rfl (.cons rfl .nil)))))))) (.cons rfl rfl (.cons rfl rfl .nil)))
          · refine rnD 3 rfl ?_
            refine gsD 37 h2429 rfl rfl rfl (fun h2430 => ?_) (fun h2433 => ?_) <;> clear h2429
            · refine rnD 3 rfl ?_
              refine gsD 40 h2430 rfl rfl rfl (fun h2431 => ?_) (fun h2432 => ?_) <;> clear h2430
              · refine rlD rfl ?_
                have hr := Option.some.inj h2431; subst hr
                exact npn (wk [(0, 0), (1, 1)] (free hA _) rfl rfl rfl (.cons rfl (.cons rfl (.cons rfl (.cons rfl (.cons rfl (.cons rfl (.cons rfl (.cons rfl .nil)))))))) (.cons rfl rfl (.cons rfl rfl .nil)))
              · refine rnD 1 rfl ?_
                refine sxD rfl (o_lenD rfl rfl ?_)
                refine rlD rfl ?_
                have hr := Option.some.inj h2432; subst hr
                exact npn (wk [(0, 0), (1, 1)] (free hA _) rfl rfl rfl (.cons rfl (.cons rfl (.cons rfl (.cons rfl (.cons rfl (.cons rfl (.cons rfl (.cons rfl .nil)))))))) (.cons rfl rfl (.cons rfl rfl .nil)))
            · refine rlD rfl ?_
              have hr := Option.some.inj h2433; subst hr
              exact npn (wk [(0, 0), (1, 1)] (free hA _) rfl rfl rfl (.cons rfl (.cons rfl (.cons rfl (.cons rfl (.cons rfl (.cons rfl (.cons rfl (.cons rfl .nil)))))))) (.cons rfl rfl (.cons rfl rfl .nil)))
      · refine cd rfl h2434 (fun h2435 => ?_) (fun h2440 => ?_) <;> clear h2434
        · refine rs env_ok ?_
          refine rl rfl ?_
          refine dwp_ret ?_
          refine thenD_r ?_
          refine inB_r ?_
          obtain ⟨a2436, h2437, rfl⟩ := mps h2435; clear h2435
          refine lpt ?_
          obtain ⟨a2438, h2439, rfl⟩ := mps h2437; clear h2437
          refine lpt ?_
          refine inB_r ?_
          refine thenD_r ?_
          have hr := Option.some.inj h2439; subst hr
          exact er rfl Le.rfl
        · refine dwp_skip ?_
          refine thenD_n ?_
          refine dwp_seq ?_
          refine rs env_ok ?_
          refine rl rfl ?_
          refine cd rfl h2440 (fun h2443 => ?_) (fun h2444 => ?_) <;> clear h2440
          · refine dwp_exit ?_
            refine thenD_x ?_
            refine inB_x ?_
            have hr := Option.some.inj h2443; subst hr
            exact lpn (wk [(0, 0)] (free hA _) rfl rfl rfl (.cons rfl (.cons rfl (.cons rfl (.cons rfl (.cons rfl .nil))))) (.cons rfl rfl .nil))
          · refine dwp_skip ?_
            refine thenD_n ?_
            refine dwp_seq ?_
            refine rgd env_ok mixed [0, 1, 2, 3, 4, 5, 6, 7, 8, 9, 10, 11, 12] 13 (by kernel_rfl) rfl rfl rfl ?_
            refine rnD 4 rfl ?_
            obtain ⟨y2449, ey2449, h2450⟩ := bd h2444; clear h2444
            refine sxD rfl (opD_plain rfl (o_idx ey2449 rfl rfl rfl ?_))
            refine rnD 1 rfl ?_
            obtain ⟨y2451, ey2451, h2452⟩ := bd h2450; clear h2450
            refine sxD rfl (o_callD (f_R6_Next _ _ _ ey2451) (.inl rfl) rfl rfl rfl ?_)
            refine rlD rfl ?_
            refine thenD_n ?_
            refine dwp_seq ?_
            refine jb (fun t2464 : Bool => ⟨94, [(1, .p (.slice 2 (x1.map portC))), (2, .lpb 0 0), (6, .lpb 1 0), (8, .lpb 2 0), (13, .p (.slice 2 (x1.map portC))), (14, .p (.int .i64 (x1.length : Int))), (15, .p (.int .i64 s1302)), (67, .p (.bool t2464))], [(0, .box [.p (.slice 3 (x0.elems.map elemC)), .p (.slice 4 (x0.joins.map joinC)), .p (.slice 4 (x0.signals.map signalC)), .p (.slice 2 (x0.lines.map lineC)), .p (.int .i64 x0.top), .p (.int .i64 x0.brake), .p (.int .i64 x0.margin), .p (.int .i64 x0.throw), .p (.bool x0.hard)]), (1, .box [.p (.int .i64 y2381.elem), .p (.int .i64 y2381.fin)]), (2, .box [.p (.int .i64 y2451.1.elem), .p (.int .i64 y2451.1.fin)])], 3⟩) h2452 (fun t2464 h2465 => ?_) (fun t2464 h2468 => ?_) <;> clear h2452
            · refine rg env_ok ?_
              refine rn 3 rfl ?_
              refine gs 61 h2465 rfl rfl rfl (fun h2466 => ?_) (fun h2467 => ?_) <;> clear h2465
              · refine rl rfl ?_
                have hr := Option.some.inj h2466; subst hr
                exact npn (wk [(0, 0), (1, 1), (2, 12)] (free hA _) rfl rfl rfl (.cons rfl (.cons rfl (.cons rfl (.cons rfl (.cons rfl (.cons rfl (.cons rfl (.cons rfl .nil)))))))) (.cons rfl rfl (.cons rfl rfl (.cons rfl rfl .nil))))
              · refine rl rfl ?_
                have hr := Option.some.inj h2467; subst hr
                exact npn (wk [(0, 0), (1, 1), (2, 12)] (free hA _) rfl rfl rfl (.cons rfl (.cons rfl (.cons rfl (.cons rfl (.cons rfl (.cons rfl (.cons rfl (.cons rfl .nil)))))))) (.cons rfl rfl (.cons rfl rfl (.cons rfl rfl .nil))))
            · refine cd rfl h2468 (fun h2469 => ?_) (fun h2474 => ?_) <;> clear h2468
              · refine rs env_ok ?_
                refine rl rfl ?_
                refine dwp_ret ?_
                refine thenD_r ?_
                refine inB_r ?_
                obtain ⟨a2470, h2471, rfl⟩ := mps h2469; clear h2469
                refine lpt ?_
                obtain ⟨a2472, h2473, rfl⟩ := mps h2471; clear h2471
                refine lpt ?_
                refine inB_r ?_
                refine thenD_r ?_
                have hr := Option.some.inj h2473; subst hr
                exact er rfl Le.rfl
              · refine dwp_skip ?_
                refine thenD_n ?_
                refine rs env_ok ?_
                refine rl rfl ?_
                refine dwp_seq ?_
                refine rs env_ok ?_
                refine rn 5 rfl ?_
                obtain ⟨y2536, ey2536, h2537⟩ := bd h2474; clear h2474
                refine sx rfl (o_call (f_R6_Outs _ _ _ _ ey2536) (.inr rfl) rfl rfl rfl ?_)
                refine sx rfl (o_len rfl rfl ?_)
                refine rl rfl ?_
                refine dwp_block ?_
                apply lp (a := b2377) (fun s2538 : (Bool × Int) => ⟨94, [(1, .p (.slice 2 (x1.map portC))), (2, .lpb 0 0), (6, .lpb 1 0), (10, .p (.bool s2538.1)), (13, .p (.slice 2 (x1.map portC))), (14, .p (.int .i64 (x1.length : Int))), (15, .p (.int .i64 s1302)), (73, .p (.slice 2 (y2536.map wayC))), (74, .p (.int .i64 (y2536.length : Int))), (75, .p (.int .i64 s2538.2))], [(0, .box [.p (.slice 3 (x0.elems.map elemC)), .p (.slice 4 (x0.joins.map joinC)), .p (.slice 4 (x0.signals.map signalC)), .p (.slice 2 (x0.lines.map lineC)), .p (.int .i64 x0.top), .p (.int .i64 x0.brake), .p (.int .i64 x0.margin), .p (.int .i64 x0.throw), .p (.bool x0.hard)]), (1, .box [.p (.int .i64 y2381.elem), .p (.int .i64 y2381.fin)])], 2⟩) h2537 <;> clear h2537
                · exact wk [(0, 0), (1, 1)] (free hA _) rfl rfl rfl (.cons rfl (.cons rfl (.cons rfl (.cons rfl (.cons rfl (.cons rfl (.cons rfl (.cons rfl (.cons rfl (.cons rfl .nil)))))))))) (.cons rfl rfl (.cons rfl rfl .nil))
                intro s2538 b2570 h2571
                unfold g_R24_chained_l2 at h2571
                refine rs env_ok ?_
                refine rl rfl ?_
                refine dwp_seq ?_
                refine cd rfl h2571 (fun h2574 => ?_) (fun h2590 => ?_) <;> clear h2571
                · refine dwp_skip ?_
                  refine thenD_n ?_
                  refine jb (fun t2581 : Bool => ⟨94, [(1, .p (.slice 2 (x1.map portC))), (2, .lpb 0 0), (6, .lpb 1 0), (10, .p (.bool t2581)), (13, .p (.slice 2 (x1.map portC))), (14, .p (.int .i64 (x1.length : Int))), (15, .p (.int .i64 s1302)), (73, .p (.slice 2 (y2536.map wayC))), (74, .p (.int .i64 (y2536.length : Int))), (75, .p (.int .i64 s2538.2))], [(0, .box [.p (.slice 3 (x0.elems.map elemC)), .p (.slice 4 (x0.joins.map joinC)), .p (.slice 4 (x0.signals.map signalC)), .p (.slice 2 (x0.lines.map lineC)), .p (.int .i64 x0.top), .p (.int .i64 x0.brake), .p (.int .i64 x0.margin), .p (.int .i64 x0.throw), .p (.bool x0.hard)]), (1, .box [.p (.int .i64 y2381.elem), .p (.int .i64 y2381.fin)])], 2⟩) h2574 (fun t2581 h2582 => ?_) (fun t2581 h2589 => ?_) <;> clear h2574
                  · refine dwp_block ?_
                    refine rs env_ok ?_
                    obtain ⟨y2585, ey2585, h2586⟩ := bd h2582; clear h2582
                    refine sx rfl (o_idx ey2585 rfl rfl rfl ?_)
                    refine rl rfl ?_
                    refine rg env_ok ?_
                    refine rn 2 rfl ?_
                    refine gs 80 h2586 rfl rfl rfl (fun h2587 => ?_) (fun h2588 => ?_) <;> clear h2586
                    · refine rl rfl ?_
                      refine inB_n ?_
                      have hr := Option.some.inj h2587; subst hr
                      exact npn (wk [(0, 0), (1, 1)] (free hA _) rfl rfl rfl (.cons rfl (.cons rfl (.cons rfl (.cons rfl (.cons rfl (.cons rfl (.cons rfl (.cons rfl (.cons rfl (.cons rfl .nil)))))))))) (.cons rfl rfl (.cons rfl rfl .nil)))
                    · refine rl rfl ?_
                      refine inB_n ?_
                      have hr := Option.some.inj h2588; subst hr
                      exact npn (wk [(0, 0), (1, 1)] (free hA _) rfl rfl rfl (.cons rfl (.cons rfl (.cons rfl (.cons rfl (.cons rfl (.cons rfl (.cons rfl (.cons rfl (.cons rfl (.cons rfl .nil)))))))))) (.cons rfl rfl (.cons rfl rfl .nil)))
                  · refine rg env_ok ?_
                    refine rl rfl ?_
                    have hr := Option.some.inj h2589; subst hr
                    exact lpn (wk [(0, 0), (1, 1)] (free hA _) rfl rfl rfl (.cons rfl (.cons rfl (.cons rfl (.cons rfl (.cons rfl (.cons rfl (.cons rfl (.cons rfl (.cons rfl (.cons rfl .nil)))))))))) (.cons rfl rfl (.cons rfl rfl .nil)))
                · refine dwp_exit ?_
                  refine thenD_x ?_
                  obtain ⟨a2591, h2592, rfl⟩ := mp h2590; clear h2590
                  refine lpx ?_
                  refine inB_x ?_
                  refine thenD_n ?_
                  refine rs env_ok ?_
                  refine rl rfl ?_
                  refine cd rfl h2592 (fun h2593 => ?_) (fun h2598 => ?_) <;> clear h2592
                  · refine rs env_ok ?_
                    refine rl rfl ?_
                    refine dwp_ret ?_
                    refine inB_r ?_
                    obtain ⟨a2594, h2595, rfl⟩ := mps h2593; clear h2593
                    refine lpt ?_
                    obtain ⟨a2596, h2597, rfl⟩ := mps h2595; clear h2595
                    refine lpt ?_
                    refine inB_r ?_
                    refine thenD_r ?_
                    have hr := Option.some.inj h2597; subst hr
                    exact er rfl Le.rfl
                  · refine dwp_skip ?_
                    refine inB_n ?_
                    have hr := Option.some.inj h2598; subst hr
                    exact lpn (wk [(0, 0)] (free hA _) rfl rfl rfl (.cons rfl (.cons rfl (.cons rfl (.cons rfl (.cons rfl .nil))))) (.cons rfl rfl .nil))
    · intro t2376 h2599
      refine rg env_ok ?_
      refine rl rfl ?_
      have hr := Option.some.inj h2599; subst hr
      exact lpn (wk [(0, 0)] (free hA _) rfl rfl rfl (.cons rfl (.cons rfl (.cons rfl (.cons rfl (.cons rfl .nil))))) (.cons rfl rfl .nil))
  · refine dwp_exit ?_
    refine thenD_x ?_
    obtain ⟨a2601, h2602, rfl⟩ := mp h2600; clear h2600
    refine lpx ?_
    refine inB_x ?_
    refine thenD_n ?_
    refine rs env_ok ?_
    refine rn 1 rfl ?_
    refine sx rfl (o_len rfl rfl ?_)
    refine rl rfl ?_
    refine dwp_ret ?_
    have hr := Option.some.inj h2602; subst hr
    exact er rfl Le.rfl

noncomputable def g_R24_MayBody_l1 (x0 : Plan) (x2 : Body) (s611 : Int × Int) : Option ((Int × Int) ⊕ Bool) :=
  bif decide (0 ≤ s611.2) then (idx x2.trail s611.2).bind fun y914 => (g_R6_Length x0 y914.elem).bind fun y916 => ((bif (s611.2 == (wi64 ((x2.trail.length : Int) - 1))) then some (wi64 (y916 - x2.left)) else some y916 : Option (Int))).bind fun (t920 : Int) => bif (s611.2 == 0) then ((bif decide (1 ≤ s611.1) then bif decide (s611.1 ≤ t920) then some true else (idx x2.trail 0).bind fun y960 => (g_R6_Kind x0 y960.elem).bind fun y962 => some (y962 == 4) else some false : Option (Bool))).bind fun (t955 : Bool) => some (.inr t955) else some (.inl (wi64 (s611.1 - t920), wi64 (s611.2 - 1))) else some (.inr false)

noncomputable def g_R24_MayBody (x0 : Plan) (x1 : Int) (x2 : Body) : Option Bool :=
  ((bif decide (x1 < 1) then some true else some (decide (4000 < x1)) : Option (Bool))).bind fun (t12 : Bool) => bif t12 then some false else ((bif (x2.left == 0) then bif (x2.over == 0) then some (x2.v == 0) else some false else some false : Option (Bool))).bind fun (t23 : Bool) => seqR ((bif (x2.mode == 1) then ((bif t23 then bif ((x2.trail.length : Int) == 1) then (idx x2.trail 0).bind fun y94 => bif (y94.fin == 0) then (idx x2.trail 0).bind fun y97 => (g_R6_Kind x0 y97.elem).bind fun y99 => some (y99 == 4) else some false else some false else some false : Option (Bool))).bind fun (t90 : Bool) => some (.inr t90) else bif (x2.mode == 3) then ((bif t23 then some ((x2.trail.length : Int) == 0) else some false : Option (Bool))).bind fun (t111 : Bool) => some (.inr t111) else bif (x2.mode == 4) then bif (!t23) then some (.inr false) else some (.inl ()) else bif (x2.mode == 2) then some (.inl ()) else some (.inr false) : Option (Unit ⊕ Bool))) fun (t74 : Unit) => (g_R24_chained x0 x2.trail).bind fun y138 => bif (!y138) then some false else (idx x2.trail (wi64 ((x2.trail.length : Int) - 1))).bind fun y144 => ((bif decide (x2.left < 0) then some true else (g_R6_Length x0 y144.elem).bind fun y191 => bif decide (y191 ≤ x2.left) then some true else bif decide (x2.v < 0) then some true else bif decide (60 < x2.v) then some true else bif decide (x2.over < 0) then some true else some (decide (x1 ≤ x2.over)) : Option (Bool))).bind fun (t187 : Bool) => bif t187 then some false else (g_R6_Next x0 y144).bind fun y206 => ((bif decide (0 < x2.over) then bif decide (0 < x2.left) then some true else bif (!y206.2) then some true else (g_R6_Kind x0 y206.1.elem).bind fun y244 => some (y244 != 4) else some false : Option (Bool))).bind fun (t237 : Bool) => bif t237 then some false else loopR (g_R24_MayBody_l1 x0 x2) (wi64 (x1 - x2.over), wi64 ((x2.trail.length : Int) - 1))

theorem f_R24_MayBody (x0 : Plan) (x1 : Int) (x2 : Body) (r : Bool) (h : g_R24_MayBody x0 x1 x2 = some r) : Fun Tryz.prog 14 [.agg (planC x0), .int .i64 x1, .agg (bodyC x2)] (· = .bool r) := by
  refine fn env_ok Tryz.func14 rfl rfl 200 rfl [.tmp 6] rfl [(0, .p (.agg (planC x0))), (1, .p (.int .i64 x1)), (2, .p (.agg (bodyC x2)))] rfl rfl fun A hA => ?_
  unfold g_R24_MayBody at h
  refine rs env_ok ?_
  refine rl rfl ?_
  refine dwp_seq ?_
  refine jb (fun t12 : Bool => ⟨200, [(1, .p (.int .i64 x1)), (3, .lpb 0 0), (5, .lpb 1 0), (19, .p (.bool t12))], [(0, .box [.p (.slice 3 (x0.elems.map elemC)), .p (.slice 4 (x0.joins.map joinC)), .p (.slice 4 (x0.signals.map signalC)), .p (.slice 2 (x0.lines.map lineC)), .p (.int .i64 x0.top), .p (.int .i64 x0.brake), .p (.int .i64 x0.margin), .p (.int .i64 x0.throw), .p (.bool x0.hard)]), (1, .box [.p (.int .i64 x2.mode), .p (.slice 2 (x2.trail.map portC)), .p (.int .i64 x2.left), .p (.int .i64 x2.over), .p (.int .i64 x2.v)])], 2⟩) h (fun t12 h13 => ?_) (fun t12 h16 => ?_) <;> clear h
  · refine rg env_ok ?_
    refine rn 3 rfl ?_
    refine gs 16 h13 rfl rfl rfl (fun h14 => ?_) (fun h15 => ?_) <;> clear h13
    · refine rl rfl ?_
      have hr := Option.some.inj h14; subst hr
      exact npn (wk [(0, 0), (1, 1)] (free hA _) rfl rfl rfl (.cons rfl (.cons rfl (.cons rfl (.cons rfl .nil)))) (.cons rfl rfl (.cons rfl rfl .nil)))
    · refine rl rfl ?_
      have hr := Option.some.inj h15; subst hr
      exact npn (wk [(0, 0), (1, 1)] (free hA _) rfl rfl rfl (.cons rfl (.cons rfl (.cons rfl (.cons rfl .nil)))) (.cons rfl rfl (.cons rfl rfl .nil)))
  · refine cd rfl h16 (fun h17 => ?_) (fun h18 => ?_) <;> clear h16
    · refine rs env_ok ?_
      refine rl rfl ?_
      refine dwp_ret ?_
      refine thenD_r ?_
      have hr := Option.some.inj h17; subst hr
      exact er rfl Le.rfl
    · refine dwp_skip ?_
      refine thenD_n ?_
      refine jb (fun t23 : Bool => ⟨200, [(1, .p (.int .i64 x1)), (3, .lpb 0 0), (5, .lpb 1 0), (7, .p (.bool t23))], [(0, .box [.p (.slice 3 (x0.elems.map elemC)), .p (.slice 4 (x0.joins.map joinC)), .p (.slice 4 (x0.signals.map signalC)), .p (.slice 2 (x0.lines.map lineC)), .p (.int .i64 x0.top), .p (.int .i64 x0.brake), .p (.int .i64 x0.margin), .p (.int .i64 x0.throw), .p (.bool x0.hard)]), (1, .box [.p (.int .i64 x2.mode), .p (.slice 2 (x2.trail.map portC)), .p (.int .i64 x2.left), .p (.int .i64 x2.over), .p (.int .i64 x2.v)])], 2⟩) h18 (fun t23 h24 => ?_) (fun t23 h29 => ?_) <;> clear h18
      · refine rg env_ok ?_
        refine rn 4 rfl ?_
        refine gs 23 h24 rfl rfl rfl (fun h25 => ?_) (fun h28 => ?_) <;> clear h24
        · refine rn 5 rfl ?_
          refine gs 28 h25 rfl rfl rfl (fun h26 => ?_) (fun h27 => ?_) <;> clear h25
          · refine rl rfl ?_
            have hr := Option.some.inj h26; subst hr
            exact npn (wk [(0, 0), (1, 1)] (free hA _) rfl rfl rfl (.cons rfl (.cons rfl (.cons rfl (.cons rfl .nil)))) (.cons rfl rfl (.cons rfl rfl .nil)))
          · refine rl rfl ?_
            have hr := Option.some.inj h27; subst hr
            exact npn (wk [(0, 0), (1, 1)] (free hA _) rfl rfl rfl (.cons rfl (.cons rfl (.cons rfl (.cons rfl .nil)))) (.cons rfl rfl (.cons rfl rfl .nil)))
        · refine rl rfl ?_
          have hr := Option.some.inj h28; subst hr
          exact npn (wk [(0, 0), (1, 1)] (free hA _) rfl rfl rfl (.cons rfl (.cons rfl (.cons rfl (.cons rfl .nil)))) (.cons rfl rfl (.cons rfl rfl .nil)))
      · apply jn (a := r) (fun t74 : Unit => ⟨200, [(1, .p (.int .i64 x1)), (3, .lpb 0 0), (5, .lpb 1 0)], [(0, .box [.p (.slice 3 (x0.elems.map elemC)), .p (.slice 4 (x0.joins.map joinC)), .p (.slice 4 (x0.signals.map signalC)), .p (.slice 2 (x0.lines.map lineC)), .p (.int .i64 x0.top), .p (.int .i64 x0.brake), .p (.int .i64 x0.margin), .p (.int .i64 x0.throw), .p (.bool x0.hard)]), (1, .box [.p (.int .i64 x2.mode), .p (.slice 2 (x2.trail.map portC)), .p (.int .i64 x2.left), .p (.int .i64 x2.over), .p (.int .i64 x2.v)])], 2⟩) h29 <;> clear h29
        · intro b75 h76
          refine rs env_ok ?_
          refine rl rfl ?_
          refine dwp_block ?_
          refine rs env_ok ?_
          refine rl rfl ?_
          refine cd rfl h76 (fun h77 => ?_) (fun h107 => ?_) <;> clear h76
          · refine jb (fun t90 : Bool => ⟨200, [(6, .p (.bool t90))], [], 0⟩) h77 (fun t90 h91 => ?_) (fun t90 h104 => ?_) <;> clear h77
            · refine rgd env_ok mixed [0, 1, 2, 3, 4, 5, 6, 7, 8, 9, 10, 11, 12, 13, 14, 15, 16, 17, 18, 19, 20, 21, 22, 23, 24, 25] 26 (by kernel_rfl) rfl rfl rfl ?_
              refine rnD 2 rfl ?_
              refine gsD 38 h91 rfl rfl rfl (fun h92 => ?_) (fun h103 => ?_) <;> clear h91
              · refine rnD 2 rfl ?_
                refine sxD rfl (o_lenD rfl rfl ?_)
                refine rnD 3 rfl ?_
                refine gsD 44 h92 rfl rfl rfl (fun h93 => ?_) (fun h102 => ?_) <;> clear h92
                · refine rnD 2 rfl ?_
                  obtain ⟨y94, ey94, h95⟩ := bd h93; clear h93
                  refine sxD rfl (opD_plain rfl (o_idx ey94 rfl rfl rfl ?_))
                  refine rnD 5 rfl ?_
                  refine gsD 52 h95 rfl rfl rfl (fun h96 => ?_) (fun h101 => ?_) <;> clear h95
                  · refine rnD 3 rfl ?_
                    obtain ⟨y97, ey97, h98⟩ := bd h96; clear h96
                    refine sxD rfl (opD_plain rfl (o_idx ey97 rfl rfl rfl ?_))
                    refine rnD 2 rfl ?_
                    obtain ⟨y99, ey99, h100⟩ := bd h98; clear h98
                    refine sxD rfl (o_callD (f_R6_Kind _ _ _ ey99) (.inl rfl) rfl rfl rfl ?_)
                    refine rlD rfl ?_
                    have hr := Option.some.inj h100; subst hr
                    exact npn (wk [] (free hA _) rfl rfl rfl (.cons rfl .nil) .nil)
                  · refine rlD rfl ?_
                    have hr := Option.some.inj h101; subst hr
                    exact npn (wk [] (free hA _) rfl rfl rfl (.cons rfl .nil) .nil)
                · refine rlD rfl ?_
                  have hr := Option.some.inj h102; subst hr
                  exact npn (wk [] (free hA _) rfl rfl rfl (.cons rfl .nil) .nil)
              · refine rlD rfl ?_
                have hr := Option.some.inj h103; subst hr
                exact npn (wk [] (free hA _) rfl rfl rfl (.cons rfl .nil) .nil)
            · refine dwp_ret ?_
              refine inB_r ?_
              obtain ⟨a105, h106, rfl⟩ := mps h104; clear h104
              refine lpt ?_
              have hr := Option.some.inj h106; subst hr
              exact er rfl Le.rfl
          · refine rs env_ok ?_
            refine rl rfl ?_
            refine cd rfl h107 (fun h108 => ?_) (fun h118 => ?_) <;> clear h107
            · refine jb (fun t111 : Bool => ⟨200, [(6, .p (.bool t111))], [], 0⟩) h108 (fun t111 h112 => ?_) (fun t111 h115 => ?_) <;> clear h108
              · refine rg env_ok ?_
                refine rn 2 rfl ?_
                refine gs 65 h112 rfl rfl rfl (fun h113 => ?_) (fun h114 => ?_) <;> clear h112
                · refine rn 2 rfl ?_
                  refine sx rfl (o_len rfl rfl ?_)
                  refine rl rfl ?_
                  have hr := Option.some.inj h113; subst hr
                  exact npn (wk [] (free hA _) rfl rfl rfl (.cons rfl .nil) .nil)
                · refine rl rfl ?_
                  have hr := Option.some.inj h114; subst hr
                  exact npn (wk [] (free hA _) rfl rfl rfl (.cons rfl .nil) .nil)
              · refine dwp_ret ?_
                refine inB_r ?_
                obtain ⟨a116, h117, rfl⟩ := mps h115; clear h115
                refine lpt ?_
                have hr := Option.some.inj h117; subst hr
                exact er rfl Le.rfl
            · refine rs env_ok ?_
              refine rl rfl ?_
              refine cd rfl h118 (fun h119 => ?_) (fun h124 => ?_) <;> clear h118
              · refine rs env_ok ?_
                refine rl rfl ?_
                refine cd rfl h119 (fun h120 => ?_) (fun h123 => ?_) <;> clear h119
                · refine rs env_ok ?_
                  refine rl rfl ?_
                  refine dwp_ret ?_
                  refine inB_r ?_
                  obtain ⟨a121, h122, rfl⟩ := mps h120; clear h120
                  refine lpt ?_
                  have hr := Option.some.inj h122; subst hr
                  exact er rfl Le.rfl
                · refine dwp_skip ?_
                  refine inB_n ?_
                  have hr := Option.some.inj h123; subst hr
                  exact lpn (wk [(0, 0), (1, 1)] (free hA _) rfl rfl rfl (.cons rfl (.cons rfl (.cons rfl .nil))) (.cons rfl rfl (.cons rfl rfl .nil)))
              · refine rs env_ok ?_
                refine rl rfl ?_
                refine cd rfl h124 (fun h125 => ?_) (fun h126 => ?_) <;> clear h124
                · refine dwp_skip ?_
                  refine inB_n ?_
                  have hr := Option.some.inj h125; subst hr
                  exact lpn (wk [(0, 0), (1, 1)] (free hA _) rfl rfl rfl (.cons rfl (.cons rfl (.cons rfl .nil))) (.cons rfl rfl (.cons rfl rfl .nil)))
                · refine rs env_ok ?_
                  refine rl rfl ?_
                  refine dwp_ret ?_
                  refine inB_r ?_
                  obtain ⟨a127, h128, rfl⟩ := mps h126; clear h126
                  refine lpt ?_
                  have hr := Option.some.inj h128; subst hr
                  exact er rfl Le.rfl
        · intro t74 h129
          refine dwp_seq ?_
          refine rs env_ok ?_
          refine rn 3 rfl ?_
          obtain ⟨y138, ey138, h139⟩ := bd h129; clear h129
          refine sx rfl (o_call (f_R24_chained _ _ _ ey138) (.inl rfl) rfl rfl rfl ?_)
          refine rl rfl ?_
          refine cd rfl h139 (fun h140 => ?_) (fun h141 => ?_) <;> clear h139
          · refine rs env_ok ?_
            refine rl rfl ?_
            refine dwp_ret ?_
            refine thenD_r ?_
            have hr := Option.some.inj h140; subst hr
            exact er rfl Le.rfl
          · refine dwp_skip ?_
            refine thenD_n ?_
            refine rs env_ok ?_
            refine rn 4 rfl ?_
            refine sx rfl (o_len rfl rfl ?_)
            refine rn 1 rfl ?_
            obtain ⟨y144, ey144, h145⟩ := bd h141; clear h141
            refine sx rfl (o_idx ey144 rfl rfl rfl ?_)
            refine rl rfl ?_
            refine dwp_seq ?_
            refine jb (fun t187 : Bool => ⟨200, [(1, .p (.int .i64 x1)), (3, .lpb 0 0), (5, .lpb 1 0), (8, .lpb 2 0), (122, .p (.bool t187))], [(0, .box [.p (.slice 3 (x0.elems.map elemC)), .p (.slice 4 (x0.joins.map joinC)), .p (.slice 4 (x0.signals.map signalC)), .p (.slice 2 (x0.lines.map lineC)), .p (.int .i64 x0.top), .p (.int .i64 x0.brake), .p (.int .i64 x0.margin), .p (.int .i64 x0.throw), .p (.bool x0.hard)]), (1, .box [.p (.int .i64 x2.mode), .p (.slice 2 (x2.trail.map portC)), .p (.int .i64 x2.left), .p (.int .i64 x2.over), .p (.int .i64 x2.v)]), (2, .box [.p (.int .i64 y144.elem), .p (.int .i64 y144.fin)])], 3⟩) h145 (fun t187 h188 => ?_) (fun t187 h201 => ?_) <;> clear h145
            · refine rgd env_ok mixed [0, 1, 2, 3, 4, 5, 6, 7, 8, 9, 10, 11, 12, 13, 14, 15, 16, 17, 18, 19, 20, 21, 22, 23, 24, 25, 26, 27, 28, 29, 30, 31, 32] 33 (by kernel_rfl) rfl rfl rfl ?_
              refine rnD 4 rfl ?_
              refine gsD 93 h188 rfl rfl rfl (fun h189 => ?_) (fun h190 => ?_) <;> clear h188
              · refine rlD rfl ?_
                have hr := Option.some.inj h189; subst hr
                exact npn (wk [(0, 0), (1, 1), (2, 2)] (free hA _) rfl rfl rfl (.cons rfl (.cons rfl (.cons rfl (.cons rfl (.cons rfl .nil))))) (.cons rfl rfl (.cons rfl rfl (.cons rfl rfl .nil))))
              · refine rnD 5 rfl ?_
                obtain ⟨y191, ey191, h192⟩ := bd h190; clear h190
                refine sxD rfl (o_callD (f_R6_Length _ _ _ ey191) (.inl rfl) rfl rfl rfl ?_)
                refine rnD 3 rfl ?_
                refine gsD 102 h192 rfl rfl rfl (fun h193 => ?_) (fun h194 => ?_) <;> clear h192
                · refine rlD rfl ?_
                  have hr := Option.some.inj h193; subst hr
                  exact npn (wk [(0, 0), (1, 1), (2, 2)] (free hA _) rfl rfl rfl (.cons rfl (.cons rfl (.cons rfl (.cons rfl (.cons rfl .nil))))) (.cons rfl rfl (.cons rfl rfl (.cons rfl rfl .nil))))
                · refine rnD 5 rfl ?_
                  refine gsD 107 h194 rfl rfl rfl (fun h195 => ?_) (fun h196 => ?_) <;> clear h194
                  · refine rlD rfl ?_
                    have hr := Option.some.inj h195; subst hr
                    exact npn (wk [(0, 0), (1, 1), (2, 2)] (free hA _) rfl rfl rfl (.cons rfl (.cons rfl (.cons rfl (.cons rfl (.cons rfl .nil))))) (.cons rfl rfl (.cons rfl rfl (.cons rfl rfl .nil))))
                  · refine rnD 5 rfl ?_
                    refine gsD 112 h196 rfl rfl rfl (fun h197 => ?_) (fun h198 => ?_) <;> clear h196
                    · refine rlD rfl ?_
                      have hr := Option.some.inj h197; subst hr
                      exact npn (wk [(0, 0), (1, 1), (2, 2)] (free hA _) rfl rfl rfl (.cons rfl (.cons rfl (.cons rfl (.cons rfl (.cons rfl .nil))))) (.cons rfl rfl (.cons rfl rfl (.cons rfl rfl .nil))))
                    · refine rnD 5 rfl ?_
                      refine gsD 117 h198 rfl rfl rfl (fun h199 => ?_) (fun h200 => ?_) <;> clear h198
                      · refine rlD rfl ?_
                        have hr := Option.some.inj h199; subst hr
                        exact npn (wk [(0, 0), (1, 1), (2, 2)] (free hA _) rfl rfl rfl (.cons rfl (.cons rfl (.cons rfl (.cons rfl (.cons rfl .nil))))) (.cons rfl rfl (.cons rfl rfl (.cons rfl rfl .nil))))
                      · refine rlD rfl ?_
                        have hr := Option.some.inj h200; subst hr
                        exact npn (wk [(0, 0), (1, 1), (2, 2)] (free hA _) rfl rfl rfl (.cons rfl (.cons rfl (.cons rfl (.cons rfl (.cons rfl .nil))))) (.cons rfl rfl (.cons rfl rfl (.cons rfl rfl .nil))))
            · refine cd rfl h201 (fun h202 => ?_) (fun h203 => ?_) <;> clear h201
              · refine rs env_ok ?_
                refine rl rfl ?_
                refine dwp_ret ?_
                refine thenD_r ?_
                have hr := Option.some.inj h202; subst hr
                exact er rfl Le.rfl
              · refine dwp_skip ?_
                refine thenD_n ?_
                refine rs env_ok ?_
                refine rn 2 rfl ?_
                obtain ⟨y206, ey206, h207⟩ := bd h203; clear h203
                refine sx rfl (o_call (f_R6_Next _ _ _ ey206) (.inl rfl) rfl rfl rfl ?_)
                refine rl rfl ?_
                refine dwp_seq ?_
                refine jb (fun t237 : Bool => ⟨200, [(1, .p (.int .i64 x1)), (3, .lpb 0 0), (5, .lpb 1 0), (147, .p (.bool t237))], [(0, .box [.p (.slice 3 (x0.elems.map elemC)), .p (.slice 4 (x0.joins.map joinC)), .p (.slice 4 (x0.signals.map signalC)), .p (.slice 2 (x0.lines.map lineC)), .p (.int .i64 x0.top), .p (.int .i64 x0.brake), .p (.int .i64 x0.margin), .p (.int .i64 x0.throw), .p (.bool x0.hard)]), (1, .box [.p (.int .i64 x2.mode), .p (.slice 2 (x2.trail.map portC)), .p (.int .i64 x2.left), .p (.int .i64 x2.over), .p (.int .i64 x2.v)])], 2⟩) h207 (fun t237 h238 => ?_) (fun t237 h247 => ?_) <;> clear h207
                · refine rg env_ok ?_
                  refine rn 4 rfl ?_
                  refine gs 132 h238 rfl rfl rfl (fun h239 => ?_) (fun h246 => ?_) <;> clear h238
                  · refine rn 4 rfl ?_
                    refine gs 136 h239 rfl rfl rfl (fun h240 => ?_) (fun h241 => ?_) <;> clear h239
                    · refine rl rfl ?_
                      have hr := Option.some.inj h240; subst hr
                      exact npn (wk [(0, 0), (1, 1)] (free hA _) rfl rfl rfl (.cons rfl (.cons rfl (.cons rfl (.cons rfl .nil)))) (.cons rfl rfl (.cons rfl rfl .nil)))
                    · refine rn 4 rfl ?_
                      refine gs 140 h241 rfl rfl rfl (fun h242 => ?_) (fun h243 => ?_) <;> clear h241
                      · refine rl rfl ?_
                        have hr := Option.some.inj h242; subst hr
                        exact npn (wk [(0, 0), (1, 1)] (free hA _) rfl rfl rfl (.cons rfl (.cons rfl (.cons rfl (.cons rfl .nil)))) (.cons rfl rfl (.cons rfl rfl .nil)))
                      · refine rn 3 rfl ?_
                        obtain ⟨y244, ey244, h245⟩ := bd h243; clear h243
                        refine sx rfl (o_call (f_R6_Kind _ _ _ ey244) (.inl rfl) rfl rfl rfl ?_)
                        refine rl rfl ?_
                        have hr := Option.some.inj h245; subst hr
                        exact npn (wk [(0, 0), (1, 1)] (free hA _) rfl rfl rfl (.cons rfl (.cons rfl (.cons rfl (.cons rfl .nil)))) (.cons rfl rfl (.cons rfl rfl .nil)))
                  · refine rl rfl ?_
                    have hr := Option.some.inj h246; subst hr
                    exact npn (wk [(0, 0), (1, 1)] (free hA _) rfl rfl rfl (.cons rfl (.cons rfl (.cons rfl (.cons rfl .nil)))) (.cons rfl rfl (.cons rfl rfl .nil)))
                · refine cd rfl h247 (fun h248 => ?_) (fun h249 => ?_) <;> clear h247
                  · refine rs env_ok ?_
                    refine rl rfl ?_
                    refine dwp_ret ?_
                    refine thenD_r ?_
                    have hr := Option.some.inj h248; subst hr
                    exact er rfl Le.rfl
                  · refine dwp_skip ?_
                    refine thenD_n ?_
                    refine rs env_ok ?_
                    refine rl rfl ?_
                    refine dwp_seq ?_
                    refine rs env_ok ?_
                    refine rn 2 rfl ?_
                    refine sx rfl (o_len rfl rfl ?_)
                    refine rl rfl ?_
                    refine dwp_block ?_
                    apply lp (a := r) (fun s611 : (Int × Int) => ⟨200, [(3, .lpb 0 0), (5, .lpb 1 0), (11, .p (.int .i64 s611.1)), (12, .p (.int .i64 s611.2))], [(0, .box [.p (.slice 3 (x0.elems.map elemC)), .p (.slice 4 (x0.joins.map joinC)), .p (.slice 4 (x0.signals.map signalC)), .p (.slice 2 (x0.lines.map lineC)), .p (.int .i64 x0.top), .p (.int .i64 x0.brake), .p (.int .i64 x0.margin), .p (.int .i64 x0.throw), .p (.bool x0.hard)]), (1, .box [.p (.int .i64 x2.mode), .p (.slice 2 (x2.trail.map portC)), .p (.int .i64 x2.left), .p (.int .i64 x2.over), .p (.int .i64 x2.v)])], 2⟩) h249 <;> clear h249
                    · exact wk [(0, 0), (1, 1)] (free hA _) rfl rfl rfl (.cons rfl (.cons rfl (.cons rfl (.cons rfl .nil)))) (.cons rfl rfl (.cons rfl rfl .nil))
                    intro s611 b848 h849
                    unfold g_R24_MayBody_l1 at h849
                    refine dwp_seq ?_
                    refine rs env_ok ?_
                    refine rl rfl ?_
                    refine cd rfl h849 (fun h852 => ?_) (fun h969 => ?_) <;> clear h849
                    · refine dwp_skip ?_
                      refine thenD_n ?_
                      refine dwp_seq ?_
                      refine dwp_block ?_
                      refine dwp_seq ?_
                      refine rgd env_ok mixed [0, 1, 2, 3, 4, 5, 6, 7, 8] 9 (by kernel_rfl) rfl rfl rfl ?_
                      refine rnD 4 rfl ?_
                      obtain ⟨y914, ey914, h915⟩ := bd h852; clear h852
                      refine sxD rfl (opD_plain rfl (o_idx ey914 rfl rfl rfl ?_))
                      refine rnD 2 rfl ?_
                      obtain ⟨y916, ey916, h917⟩ := bd h915; clear h915
                      refine sxD rfl (o_callD (f_R6_Length _ _ _ ey916) (.inl rfl) rfl rfl rfl ?_)
                      refine rlD rfl ?_
                      refine thenD_n ?_
                      refine jb (fun t920 : Int => ⟨200, [(3, .lpb 0 0), (5, .lpb 1 0), (11, .p (.int .i64 s611.1)), (12, .p (.int .i64 s611.2)), (13, .p (.int .i64 t920))], [(0, .box [.p (.slice 3 (x0.elems.map elemC)), .p (.slice 4 (x0.joins.map joinC)), .p (.slice 4 (x0.signals.map signalC)), .p (.slice 2 (x0.lines.map lineC)), .p (.int .i64 x0.top), .p (.int .i64 x0.brake), .p (.int .i64 x0.margin), .p (.int .i64 x0.throw), .p (.bool x0.hard)]), (1, .box [.p (.int .i64 x2.mode), .p (.slice 2 (x2.trail.map portC)), .p (.int .i64 x2.left), .p (.int .i64 x2.over), .p (.int .i64 x2.v)])], 2⟩) h917 (fun t920 h921 => ?_) (fun t920 h924 => ?_) <;> clear h917
                      · refine rs env_ok ?_
                        refine rn 3 rfl ?_
                        refine sx rfl (o_len rfl rfl ?_)
                        refine rl rfl ?_
                        refine cd rfl h921 (fun h922 => ?_) (fun h923 => ?_) <;> clear h921
                        · refine rg env_ok ?_
                          refine rl rfl ?_
                          have hr := Option.some.inj h922; subst hr
                          exact npn (wk [(0, 0), (1, 1)] (free hA _) rfl rfl rfl (.cons rfl (.cons rfl (.cons rfl (.cons rfl (.cons rfl .nil))))) (.cons rfl rfl (.cons rfl rfl .nil)))
                        · refine dwp_skip ?_
                          have hr := Option.some.inj h923; subst hr
                          exact npn (wk [(0, 0), (1, 1)] (free hA _) rfl rfl rfl (.cons rfl (.cons rfl (.cons rfl (.cons rfl (.cons rfl .nil))))) (.cons rfl rfl (.cons rfl rfl .nil)))
                      · refine dwp_seq ?_
                        refine rs env_ok ?_
                        refine rl rfl ?_
                        refine cd rfl h924 (fun h946 => ?_) (fun h968 => ?_) <;> clear h924
                        · refine jb (fun t955 : Bool => ⟨200, [(6, .p (.bool t955))], [], 0⟩) h946 (fun t955 h956 => ?_) (fun t955 h965 => ?_) <;> clear h946
                          · refine rgd env_ok mixed [0, 1, 2, 3, 4, 5, 6, 7, 8, 9, 10, 11, 12, 13, 14, 15, 16, 17] 18 (by kernel_rfl) rfl rfl rfl ?_
                            refine rnD 3 rfl ?_
                            refine gsD 182 h956 rfl rfl rfl (fun h957 => ?_) (fun h964 => ?_) <;> clear h956
                            · refine rnD 4 rfl ?_
                              refine gsD 186 h957 rfl rfl rfl (fun h958 => ?_) (fun h959 => ?_) <;> clear h957
                              · refine rlD rfl ?_
                                have hr := Option.some.inj h958; subst hr
                                exact npn (wk [] (free hA _) rfl rfl rfl (.cons rfl .nil) .nil)
                              · refine rnD 3 rfl ?_
                                obtain ⟨y960, ey960, h961⟩ := bd h959; clear h959
                                refine sxD rfl (opD_plain rfl (o_idx ey960 rfl rfl rfl ?_))
                                refine rnD 2 rfl ?_
                                obtain ⟨y962, ey962, h963⟩ := bd h961; clear h961
                                refine sxD rfl (o_callD (f_R6_Kind _ _ _ ey962) (.inl rfl) rfl rfl rfl ?_)
                                refine rlD rfl ?_
                                have hr := Option.some.inj h963; subst hr
                                exact npn (wk [] (free hA _) rfl rfl rfl (.cons rfl .nil) .nil)
                            · refine rlD rfl ?_
                              have hr := Option.some.inj h964; subst hr
                              exact npn (wk [] (free hA _) rfl rfl rfl (.cons rfl .nil) .nil)
                          · refine dwp_ret ?_
                            refine thenD_r ?_
                            refine inB_r ?_
                            refine thenD_r ?_
                            obtain ⟨a966, h967, rfl⟩ := mps h965; clear h965
                            refine lpt ?_
                            refine inB_r ?_
                            refine thenD_r ?_
                            have hr := Option.some.inj h967; subst hr
                            exact er rfl Le.rfl
                        · refine dwp_skip ?_
                          refine thenD_n ?_
                          refine rg env_ok ?_
                          refine rl rfl ?_
                          refine inB_n ?_
                          refine thenD_n ?_
                          refine rg env_ok ?_
                          refine rl rfl ?_
                          have hr := Option.some.inj h968; subst hr
                          exact lpn (wk [(0, 0), (1, 1)] (free hA _) rfl rfl rfl (.cons rfl (.cons rfl (.cons rfl (.cons rfl .nil)))) (.cons rfl rfl (.cons rfl rfl .nil)))
                    · refine dwp_exit ?_
                      refine thenD_x ?_
                      obtain ⟨a970, h971, rfl⟩ := mps h969; clear h969
                      refine lpx ?_
                      refine inB_x ?_
                      refine thenD_n ?_
                      refine rs env_ok ?_
                      refine rl rfl ?_
                      refine dwp_ret ?_
                      have hr := Option.some.inj h971; subst hr
                      exact er rfl Le.rfl

end Go.E
/- Plain functions, and walks in step with them. Written by a program (gen.py). No condition. -/
set_option maxRecDepth 100000
namespace Go.E
open Go Go.RowKit Go.Proofs

noncomputable def g_body_Lies_l1 (x0 : Net) (x1 : Body) (s130 : Int × (List Int)) : Option ((Int × (List Int)) ⊕ (List Int)) :=
  bif decide (s130.1 < (x1.trail.length : Int)) then (((idx x1.trail s130.1).bind fun y245 => (g_net_Net_Kind x0 y245.elem).bind fun y249 => bif (y249 != 4) then (appI s130.2 [y245.elem]).bind fun y252 => some y252 else some s130.2 : Option ((List Int)))).bind fun (t241 : (List Int)) => some (.inl (wi64 (s130.1 + 1), t241)) else ((sortI s130.2).bind fun y261 => (compI y261).bind fun y265 => some y265).map .inr

noncomputable def g_body_Lies (x0 : Net) (x1 : Body) : Option (List Int) :=
  loopR (g_body_Lies_l1 x0 x1) (0, ([] : List Int))

theorem f_body_Lies (x0 : Net) (x1 : Body) (r : (List Int)) (h : g_body_Lies x0 x1 = some r) : Fun Tryz.prog 38 [.place (netC x0) 0, .agg (bodyC x1)] (· = .slice 1 (r.map intC)) := by
  refine fn env_ok Tryz.func38 rfl rfl 30 rfl [.tmp 4] rfl [(0, .p (.place (netC x0) 0)), (1, .p (.agg (bodyC x1)))] rfl rfl fun A hA => ?_
  unfold g_body_Lies at h
  refine rs env_ok ?_
  refine rl rfl ?_
  refine rs env_ok ?_
  refine rl rfl ?_
  refine dwp_seq ?_
  refine rs env_ok ?_
  refine rn 2 rfl ?_
  refine sx rfl (o_len rfl rfl ?_)
  refine rl rfl ?_
  refine dwp_block ?_
  apply lp (a := r) (fun s130 : (Int × (List Int)) => ⟨30, [(0, .p (.place (netC x0) 0)), (5, .lsl 0 1 0 s130.2.length), (9, .p (.slice 2 (x1.trail.map portC))), (10, .p (.int .i64 (x1.trail.length : Int))), (11, .p (.int .i64 s130.1))], [(0, .row 3 1 (s130.2.map intC))], 1⟩) h <;> clear h
  · exact Weak.trans (weak_ghost 5 3 1 rfl) (wk [(0, 1)] (free hA _) rfl rfl rfl (.cons rfl (.cons rfl (.cons rfl (.cons rfl (.cons rfl .nil))))) (.cons rfl rfl .nil))
  intro s130 b224 h225
  unfold g_body_Lies_l1 at h225
  refine rs env_ok ?_
  refine rl rfl ?_
  refine dwp_seq ?_
  refine cd rfl h225 (fun h228 => ?_) (fun h256 => ?_) <;> clear h225
  · refine dwp_skip ?_
    refine thenD_n ?_
    refine jb (fun t241 : (List Int) => ⟨30, [(0, .p (.place (netC x0) 0)), (5, .lsl 0 1 0 t241.length), (9, .p (.slice 2 (x1.trail.map portC))), (10, .p (.int .i64 (x1.trail.length : Int))), (11, .p (.int .i64 s130.1))], [(0, .row 3 1 (t241.map intC))], 1⟩) h228 (fun t241 h242 => ?_) (fun t241 h255 => ?_) <;> clear h228
    · refine dwp_block ?_
      refine rs env_ok ?_
      obtain ⟨y245, ey245, h246⟩ := bd h242; clear h242
      refine sx rfl (o_idx ey245 rfl rfl rfl ?_)
      refine rl rfl ?_
      refine rs env_ok ?_
      refine rn 3 rfl ?_
      obtain ⟨y249, ey249, h250⟩ := bd h246; clear h246
      refine sx rfl (o_call (f_net_Net_Kind _ _ _ ey249) (.inl rfl) rfl rfl rfl ?_)
      refine rl rfl ?_
      refine cd rfl h250 (fun h251 => ?_) (fun h254 => ?_) <;> clear h250
      · refine rg env_ok ?_
        refine rn 4 rfl ?_
        obtain ⟨y252, ey252, h253⟩ := bd h251; clear h251
        refine sx rfl (o_app1 (enc := intC) (l := s130.2) (m := [y245.elem]) ey252 (fun _ => ⟨rfl, rfl⟩) rfl rfl rfl rfl rfl rfl ?_)
        refine rl rfl ?_
        refine inB_n ?_
        have hr := Option.some.inj h253; subst hr
        exact npn (wk [(0, 3)] (free hA _) rfl rfl rfl (.cons rfl (.cons rfl (.cons rfl (.cons rfl (.cons rfl .nil))))) (.cons rfl rfl .nil))
      · refine dwp_skip ?_
        refine inB_n ?_
        have hr := Option.some.inj h254; subst hr
        exact npn (wk [(0, 0)] (free hA _) rfl rfl rfl (.cons rfl (.cons rfl (.cons rfl (.cons rfl (.cons rfl .nil))))) (.cons rfl rfl .nil))
    · refine rg env_ok ?_
      refine rl rfl ?_
      have hr := Option.some.inj h255; subst hr
      exact lpn (wk [(0, 0)] (free hA _) rfl rfl rfl (.cons rfl (.cons rfl (.cons rfl (.cons rfl (.cons rfl .nil))))) (.cons rfl rfl .nil))
  · refine dwp_exit ?_
    refine thenD_x ?_
    obtain ⟨a257, h258, rfl⟩ := mp h256; clear h256
    refine lpx ?_
    refine inB_x ?_
    refine thenD_n ?_
    refine rs env_ok ?_
    refine rn 1 rfl ?_
    obtain ⟨y261, ey261, h262⟩ := bd h258; clear h258
    refine sx rfl (o_sort (t := 64) (e := 3) (enc := intC) (l := s130.2) env_ok lay77 rfl rfl ey261 rfl rfl rfl rfl rfl rfl ?_)
    refine rl rfl ?_
    refine rs env_ok ?_
    refine rn 1 rfl ?_
    obtain ⟨y265, ey265, h266⟩ := bd h262; clear h262
    refine sx rfl (o_comp (t := 64) (e := 3) (enc := intC) (l := y261) env_ok lay78 rfl rfl ey265 rfl (by first | rfl | exact sortI_len ey261) rfl rfl rfl rfl ?_)
    refine rl rfl ?_
    refine dwp_ret ?_
    have hr := Option.some.inj h266; subst hr
    exact er (rd1 rfl (.one (.own (enc := intC) y265 rfl rfl))) Le.rfl

end Go.E
/- Plain functions, and walks in step with them. Written by a program (gen.py). No condition. -/
set_option maxRecDepth 100000
namespace Go.E
open Go Go.RowKit Go.Proofs

end Go.E
/- Plain functions, and walks in step with them. Written by a program (gen.py). No condition. -/
set_option maxRecDepth 100000
namespace Go.E
open Go Go.RowKit Go.Proofs

noncomputable def g_body_port (x0 : Net) (x1 : Port) : Option Bool :=
  ((bif decide (0 ≤ x1.fin) then (g_net_Net_Kind x0 x1.elem).bind fun y10 => (g_plan_Ends y10).bind fun y12 => some (decide (x1.fin < y12)) else some false : Option (Bool))).bind fun (t7 : Bool) => some t7

theorem f_body_port (x0 : Net) (x1 : Port) (r : Bool) (h : g_body_port x0 x1 = some r) : Fun Tryz.prog 62 [.place (netC x0) 0, .agg (portC x1)] (· = .bool r) := by
  refine fn env_ok Tryz.func62 rfl rfl 18 rfl [.tmp 4] rfl [(0, .p (.place (netC x0) 0)), (1, .p (.agg (portC x1)))] rfl rfl fun A hA => ?_
  unfold g_body_port at h
  refine rs env_ok ?_
  refine rl rfl ?_
  refine jb (fun t7 : Bool => ⟨18, [(4, .p (.bool t7))], [], 0⟩) h (fun t7 h8 => ?_) (fun t7 h15 => ?_) <;> clear h
  · refine rgd env_ok mixed [0, 1, 2, 3, 4, 5, 6, 7, 8, 9, 10, 11, 12, 13] 14 (by kernel_rfl) rfl rfl rfl ?_
    refine rnD 4 rfl ?_
    refine gsD 8 h8 rfl rfl rfl (fun h9 => ?_) (fun h14 => ?_) <;> clear h8
    · refine rnD 5 rfl ?_
      obtain ⟨y10, ey10, h11⟩ := bd h9; clear h9
      refine sxD rfl (o_callD (f_net_Net_Kind _ _ _ ey10) (.inl rfl) rfl rfl rfl ?_)
      obtain ⟨y12, ey12, h13⟩ := bd h11; clear h11
      refine sxD rfl (o_callD (f_plan_Ends _ _ ey12) (.inl rfl) rfl rfl rfl ?_)
      refine rlD rfl ?_
      have hr := Option.some.inj h13; subst hr
      exact npn (wk [] (free hA _) rfl rfl rfl (.cons rfl .nil) .nil)
    · refine rlD rfl ?_
      have hr := Option.some.inj h14; subst hr
      exact npn (wk [] (free hA _) rfl rfl rfl (.cons rfl .nil) .nil)
  · refine dwp_ret ?_
    have hr := Option.some.inj h15; subst hr
    exact er rfl Le.rfl

noncomputable def g_body_Start (x0 : Net) (x1 : Int) (x2 : Train) : Option (Body × Int) :=
  (g_net_Net_Kind x0 x2.at_.elem).bind fun y5 => (g_net_Net_Length x0 x2.at_.elem).bind fun y7 => ((bif decide (x1 < 1) then some true else bif decide (4000 < x1) then some true else bif (y5 != 4) then bif (y5 != 1) then some true else (g_body_port x0 x2.at_).bind fun y103 => some (!y103) else (g_body_port x0 x2.at_).bind fun y106 => some (!y106) : Option (Bool))).bind fun (t94 : Bool) => bif t94 then some ((⟨0, [], 0, 0, 0⟩ : Body), 1) else (g_net_Net_Reads x0 x2.at_).bind fun y113 => bif decide (y113 < 0) then some ((⟨0, [], 0, 0, 0⟩ : Body), 7) else ((bif (y5 == 4) then bif (x2.left != 0) then some true else bif (y5 == 1) then bif decide (x2.left < 0) then some true else some (decide (y7 < x2.left)) else some false else bif (y5 == 1) then bif decide (x2.left < 0) then some true else some (decide (y7 < x2.left)) else some false : Option (Bool))).bind fun (t129 : Bool) => bif t129 then some ((⟨0, [], 0, 0, 0⟩ : Body), 1) else ((bif (y5 == 1) then some (decide (y7 < wi64 (x2.left + x1))) else some false : Option (Bool))).bind fun (t148 : Bool) => bif t148 then some ((⟨0, [], 0, 0, 0⟩ : Body), 9) else ((bif (y5 == 4) then some 1 else some 2 : Option (Int))).bind fun (t157 : Int) => some ((⟨t157, [x2.at_], x2.left, 0, 0⟩ : Body), 0)

theorem f_body_Start (x0 : Net) (x1 : Int) (x2 : Train) (r : (Body × Int)) (h : g_body_Start x0 x1 x2 = some r) : Fun Tryz.prog 24 [.place (netC x0) 0, .int .i64 x1, .agg (trainC x2)] (· = .tup [.agg (bodyC r.1), .int .i64 r.2]) := by
  refine fn env_ok Tryz.func24 rfl rfl 97 rfl [.cell 6 33, .tmp 7] rfl [(0, .p (.place (netC x0) 0)), (1, .p (.int .i64 x1)), (2, .p (.agg (trainC x2)))] rfl rfl fun A hA => ?_
  unfold g_body_Start at h
  refine rs env_ok ?_
  refine rl rfl ?_
  refine dwp_seq ?_
  refine rgd env_ok mixed [0, 1, 2, 3, 4, 5, 6, 7, 8, 9, 10, 11] 12 (by kernel_rfl) rfl rfl rfl ?_
  refine rnD 4 rfl ?_
  obtain ⟨y5, ey5, h6⟩ := bd h; clear h
  refine sxD rfl (o_callD (f_net_Net_Kind _ _ _ ey5) (.inl rfl) rfl rfl rfl ?_)
  refine rnD 4 rfl ?_
  obtain ⟨y7, ey7, h8⟩ := bd h6; clear h6
  refine sxD rfl (o_callD (f_net_Net_Length _ _ _ ey7) (.inl rfl) rfl rfl rfl ?_)
  refine rlD rfl ?_
  refine thenD_n ?_
  refine dwp_seq ?_
  refine dwp_block ?_
  refine jb (fun t94 : Bool => ⟨97, [(0, .p (.place (netC x0) 0)), (1, .p (.int .i64 x1)), (5, .lpb 0 0), (6, .lpb 1 0), (8, .p (.int .i64 y5)), (9, .p (.int .i64 y7)), (21, .p (.bool t94))], [(0, .box [.p (.str x2.name), .p (.int .i64 x2.stock), .p (.int .i64 x2.at_.elem), .p (.int .i64 x2.at_.fin), .p (.int .i64 x2.left)]), (1, .box [.p (.int .i64 0), .p (.nils), .p (.int .i64 0), .p (.int .i64 0), .p (.int .i64 0)])], 2⟩) h8 (fun t94 h95 => ?_) (fun t94 h108 => ?_) <;> clear h8
  · refine rg env_ok ?_
    refine rn 3 rfl ?_
    refine gs 24 h95 rfl rfl rfl (fun h96 => ?_) (fun h97 => ?_) <;> clear h95
    · refine rl rfl ?_
      have hr := Option.some.inj h96; subst hr
      exact npn (wk [(0, 0), (1, 1)] (free hA _) rfl rfl rfl (.cons rfl (.cons rfl (.cons rfl (.cons rfl (.cons rfl (.cons rfl (.cons rfl .nil))))))) (.cons rfl rfl (.cons rfl rfl .nil)))
    · refine rn 4 rfl ?_
      refine gs 28 h97 rfl rfl rfl (fun h98 => ?_) (fun h99 => ?_) <;> clear h97
      · refine rl rfl ?_
        have hr := Option.some.inj h98; subst hr
        exact npn (wk [(0, 0), (1, 1)] (free hA _) rfl rfl rfl (.cons rfl (.cons rfl (.cons rfl (.cons rfl (.cons rfl (.cons rfl (.cons rfl .nil))))))) (.cons rfl rfl (.cons rfl rfl .nil)))
      · refine rn 3 rfl ?_
        refine gs 31 h99 rfl rfl rfl (fun h100 => ?_) (fun h105 => ?_) <;> clear h99
        · refine rn 5 rfl ?_
          refine gs 36 h100 rfl rfl rfl (fun h101 => ?_) (fun h102 => ?_) <;> clear h100
          · refine rl rfl ?_
            have hr := Option.some.inj h101; subst hr
            exact npn (wk [(0, 0), (1, 1)] (free hA _) rfl rfl rfl (.cons rfl (.cons rfl (.cons rfl (.cons rfl (.cons rfl (.cons rfl (.cons rfl .nil))))))) (.cons rfl rfl (.cons rfl rfl .nil)))
          · refine rn 3 rfl ?_
            obtain ⟨y103, ey103, h104⟩ := bd h102; clear h102
            refine sx rfl (o_call (f_body_port _ _ _ ey103) (.inl rfl) rfl rfl rfl ?_)
            refine rl rfl ?_
            have hr := Option.some.inj h104; subst hr
            exact npn (wk [(0, 0), (1, 1)] (free hA _) rfl rfl rfl (.cons rfl (.cons rfl (.cons rfl (.cons rfl (.cons rfl (.cons rfl (.cons rfl .nil))))))) (.cons rfl rfl (.cons rfl rfl .nil)))
        · refine rn 8 rfl ?_
          obtain ⟨y106, ey106, h107⟩ := bd h105; clear h105
          refine sx rfl (o_call (f_body_port _ _ _ ey106) (.inl rfl) rfl rfl rfl ?_)
          refine rl rfl ?_
          have hr := Option.some.inj h107; subst hr
          exact npn (wk [(0, 0), (1, 1)] (free hA _) rfl rfl rfl (.cons rfl (.cons rfl (.cons rfl (.cons rfl (.cons rfl (.cons rfl (.cons rfl .nil))))))) (.cons rfl rfl (.cons rfl rfl .nil)))
  · refine cd rfl h108 (fun h109 => ?_) (fun h110 => ?_) <;> clear h108
    · refine rs env_ok ?_
      refine rl rfl ?_
      refine dwp_ret ?_
      refine inB_r ?_
      refine thenD_r ?_
      have hr := Option.some.inj h109; subst hr
      exact er rfl (Le.tup' (.cons (Le.agg' (.cons Le.rfl (.cons (Le.nil _) (.cons Le.rfl (.cons Le.rfl (.cons Le.rfl .nil)))))) (.cons Le.rfl .nil)))
    · refine rs env_ok ?_
      refine rn 3 rfl ?_
      obtain ⟨y113, ey113, h114⟩ := bd h110; clear h110
      refine sx rfl (o_call (f_net_Net_Reads _ _ _ ey113) (.inl rfl) rfl rfl rfl ?_)
      refine rl rfl ?_
      refine cd rfl h114 (fun h115 => ?_) (fun h116 => ?_) <;> clear h114
      · refine rs env_ok ?_
        refine rl rfl ?_
        refine dwp_ret ?_
        refine inB_r ?_
        refine thenD_r ?_
        have hr := Option.some.inj h115; subst hr
        exact er rfl (Le.tup' (.cons (Le.agg' (.cons Le.rfl (.cons (Le.nil _) (.cons Le.rfl (.cons Le.rfl (.cons Le.rfl .nil)))))) (.cons Le.rfl .nil)))
      · refine jb (fun t129 : Bool => ⟨97, [(1, .p (.int .i64 x1)), (5, .lpb 0 0), (6, .lpb 1 0), (8, .p (.int .i64 y5)), (9, .p (.int .i64 y7)), (51, .p (.bool t129))], [(0, .box [.p (.str x2.name), .p (.int .i64 x2.stock), .p (.int .i64 x2.at_.elem), .p (.int .i64 x2.at_.fin), .p (.int .i64 x2.left)]), (1, .box [.p (.int .i64 0), .p (.nils), .p (.int .i64 0), .p (.int .i64 0), .p (.int .i64 0)])], 2⟩) h116 (fun t129 h130 => ?_) (fun t129 h143 => ?_) <;> clear h116
        · refine rg env_ok ?_
          refine rn 3 rfl ?_
          refine gs 54 h130 rfl rfl rfl (fun h131 => ?_) (fun h138 => ?_) <;> clear h130
          · refine rn 5 rfl ?_
            refine gs 59 h131 rfl rfl rfl (fun h132 => ?_) (fun h133 => ?_) <;> clear h131
            · refine rl rfl ?_
              have hr := Option.some.inj h132; subst hr
              exact npn (wk [(0, 0), (1, 1)] (free hA _) rfl rfl rfl (.cons rfl (.cons rfl (.cons rfl (.cons rfl (.cons rfl (.cons rfl .nil)))))) (.cons rfl rfl (.cons rfl rfl .nil)))
            · refine rn 3 rfl ?_
              refine gs 62 h133 rfl rfl rfl (fun h134 => ?_) (fun h137 => ?_) <;> clear h133
              · refine rn 4 rfl ?_
                refine gs 66 h134 rfl rfl rfl (fun h135 => ?_) (fun h136 => ?_) <;> clear h134
                · refine rl rfl ?_
                  have hr := Option.some.inj h135; subst hr
                  exact npn (wk [(0, 0), (1, 1)] (free hA _) rfl rfl rfl (.cons rfl (.cons rfl (.cons rfl (.cons rfl (.cons rfl (.cons rfl .nil)))))) (.cons rfl rfl (.cons rfl rfl .nil)))
                · refine rl rfl ?_
                  have hr := Option.some.inj h136; subst hr
                  exact npn (wk [(0, 0), (1, 1)] (free hA _) rfl rfl rfl (.cons rfl (.cons rfl (.cons rfl (.cons rfl (.cons rfl (.cons rfl .nil)))))) (.cons rfl rfl (.cons rfl rfl .nil)))
              · refine rl rfl ?_
                have hr := Option.some.inj h137; subst hr
                exact npn (wk [(0, 0), (1, 1)] (free hA _) rfl rfl rfl (.cons rfl (.cons rfl (.cons rfl (.cons rfl (.cons rfl (.cons rfl .nil)))))) (.cons rfl rfl (.cons rfl rfl .nil)))
          · refine rn 8 rfl ?_
            refine gs 62 h138 rfl rfl rfl (fun h139 => ?_) (fun h142 => ?_) <;> clear h138
            · refine rn 4 rfl ?_
              refine gs 66 h139 rfl rfl rfl (fun h140 => ?_) (fun h141 => ?_) <;> clear h139
              · refine rl rfl ?_
                have hr := Option.some.inj h140; subst hr
                exact npn (wk [(0, 0), (1, 1)] (free hA _) rfl rfl rfl (.cons rfl (.cons rfl (.cons rfl (.cons rfl (.cons rfl (.cons rfl .nil)))))) (.cons rfl rfl (.cons rfl rfl .nil)))
              · refine rl rfl ?_
                have hr := Option.some.inj h141; subst hr
                exact npn (wk [(0, 0), (1, 1)] (free hA _) rfl rfl rfl (.cons rfl (.cons rfl (.cons rfl (.cons rfl (.cons rfl (.cons rfl .nil)))))) (.cons rfl rfl (.cons rfl rfl .nil)))
            · refine rl rfl ?_
              have hr := Option.some.inj h142; subst hr
              exact npn (wk [(0, 0), (1, 1)] (free hA _) rfl rfl rfl (.cons rfl (.cons rfl (.cons rfl (.cons rfl (.cons rfl (.cons rfl .nil)))))) (.cons rfl rfl (.cons rfl rfl .nil)))
        · refine cd rfl h143 (fun h144 => ?_) (fun h145 => ?_) <;> clear h143
          · refine rs env_ok ?_
            refine rl rfl ?_
            refine dwp_ret ?_
            refine inB_r ?_
            refine thenD_r ?_
            have hr := Option.some.inj h144; subst hr
            exact er rfl (Le.tup' (.cons (Le.agg' (.cons Le.rfl (.cons (Le.nil _) (.cons Le.rfl (.cons Le.rfl (.cons Le.rfl .nil)))))) (.cons Le.rfl .nil)))
          · refine jb (fun t148 : Bool => ⟨97, [(5, .lpb 0 0), (6, .lpb 1 0), (8, .p (.int .i64 y5)), (75, .p (.bool t148))], [(0, .box [.p (.str x2.name), .p (.int .i64 x2.stock), .p (.int .i64 x2.at_.elem), .p (.int .i64 x2.at_.fin), .p (.int .i64 x2.left)]), (1, .box [.p (.int .i64 0), .p (.nils), .p (.int .i64 0), .p (.int .i64 0), .p (.int .i64 0)])], 2⟩) h145 (fun t148 h149 => ?_) (fun t148 h152 => ?_) <;> clear h145
            · refine rg env_ok ?_
              refine rn 3 rfl ?_
              refine gs 78 h149 rfl rfl rfl (fun h150 => ?_) (fun h151 => ?_) <;> clear h149
              · refine rl rfl ?_
                have hr := Option.some.inj h150; subst hr
                exact npn (wk [(0, 0), (1, 1)] (free hA _) rfl rfl rfl (.cons rfl (.cons rfl (.cons rfl (.cons rfl .nil)))) (.cons rfl rfl (.cons rfl rfl .nil)))
              · refine rl rfl ?_
                have hr := Option.some.inj h151; subst hr
                exact npn (wk [(0, 0), (1, 1)] (free hA _) rfl rfl rfl (.cons rfl (.cons rfl (.cons rfl (.cons rfl .nil)))) (.cons rfl rfl (.cons rfl rfl .nil)))
            · refine cd rfl h152 (fun h153 => ?_) (fun h154 => ?_) <;> clear h152
              · refine rs env_ok ?_
                refine rl rfl ?_
                refine dwp_ret ?_
                refine inB_r ?_
                refine thenD_r ?_
                have hr := Option.some.inj h153; subst hr
                exact er rfl (Le.tup' (.cons (Le.agg' (.cons Le.rfl (.cons (Le.nil _) (.cons Le.rfl (.cons Le.rfl (.cons Le.rfl .nil)))))) (.cons Le.rfl .nil)))
              · refine dwp_skip ?_
                refine inB_n ?_
                refine thenD_n ?_
                refine rs env_ok ?_
                refine rl rfl ?_
                refine jb (fun t157 : Int => ⟨97, [(6, .lpb 0 0), (10, .lpb 1 0)], [(0, .box [.p (.int .i64 0), .p (.nils), .p (.int .i64 0), .p (.int .i64 0), .p (.int .i64 0)]), (1, .box [.p (.int .i64 t157), .lsl 2 2 0 [x2.at_].length, .p (.int .i64 x2.left), .p (.int .i64 0), .p (.int .i64 0)]), (2, .row 42 2 ([x2.at_].map portC))], 3⟩) h154 (fun t157 h158 => ?_) (fun t157 h161 => ?_) <;> clear h154
                · refine rs env_ok ?_
                  refine rl rfl ?_
                  refine cd rfl h158 (fun h159 => ?_) (fun h160 => ?_) <;> clear h158
                  · refine rg env_ok ?_
                    refine rl rfl ?_
                    have hr := Option.some.inj h159; subst hr
                    exact npn (wk [(0, 1), (1, 3), (2, 2)] (free hA _) rfl rfl rfl (.cons rfl (.cons rfl .nil)) (.cons rfl rfl (.cons rfl rfl (.cons rfl rfl .nil))))
                  · refine dwp_skip ?_
                    have hr := Option.some.inj h160; subst hr
                    exact npn (wk [(0, 1), (1, 3), (2, 2)] (free hA _) rfl rfl rfl (.cons rfl (.cons rfl .nil)) (.cons rfl rfl (.cons rfl rfl (.cons rfl rfl .nil))))
                · refine rs env_ok ?_
                  refine rl rfl ?_
                  refine dwp_ret ?_
                  have hr := Option.some.inj h161; subst hr
                  exact er (rdN rfl (.cons (.agg (.cons (.p _) (.cons (.own (enc := portC) ([x2.at_] : List Port) rfl rfl) (.cons (.p _) (.cons (.p _) (.cons (.p _) .nil)))))) (.cons (.one (.p _)) .nil))) Le.rfl

noncomputable def g_body_Whole (x0 : Net) (x1 : Body) : Option (Int × Bool) :=
  ((bif (x1.mode != 2) then some true else bif ((x1.trail.length : Int) != 1) then some true else bif (x1.over != 0) then some true else (idx x1.trail 0).bind fun y44 => (g_net_Net_Kind x0 y44.elem).bind fun y46 => some (y46 != 1) : Option (Bool))).bind fun (t36 : Bool) => bif t36 then some (0, false) else (idx x1.trail 0).bind fun y53 => some (y53.elem, true)

theorem f_body_Whole (x0 : Net) (x1 : Body) (r : (Int × Bool)) (h : g_body_Whole x0 x1 = some r) : Fun Tryz.prog 34 [.place (netC x0) 0, .agg (bodyC x1)] (· = .tup [.int .i64 r.1, .bool r.2]) := by
  refine fn env_ok Tryz.func34 rfl rfl 35 rfl [.tmp 4, .tmp 5] rfl [(0, .p (.place (netC x0) 0)), (1, .p (.agg (bodyC x1)))] rfl rfl fun A hA => ?_
  unfold g_body_Whole at h
  refine rs env_ok ?_
  refine rl rfl ?_
  refine dwp_seq ?_
  refine jb (fun t36 : Bool => ⟨35, [(3, .lpb 0 0), (29, .p (.bool t36))], [(0, .box [.p (.int .i64 x1.mode), .p (.slice 2 (x1.trail.map portC)), .p (.int .i64 x1.left), .p (.int .i64 x1.over), .p (.int .i64 x1.v)])], 1⟩) h (fun t36 h37 => ?_) (fun t36 h48 => ?_) <;> clear h
  · refine rg env_ok ?_
    refine rn 4 rfl ?_
    refine gs 9 h37 rfl rfl rfl (fun h38 => ?_) (fun h39 => ?_) <;> clear h37
    · refine rl rfl ?_
      have hr := Option.some.inj h38; subst hr
      exact npn (wk [(0, 0)] (free hA _) rfl rfl rfl (.cons rfl (.cons rfl .nil)) (.cons rfl rfl .nil))
    · refine rn 2 rfl ?_
      refine sx rfl (o_len rfl rfl ?_)
      refine rn 3 rfl ?_
      refine gs 15 h39 rfl rfl rfl (fun h40 => ?_) (fun h41 => ?_) <;> clear h39
      · refine rl rfl ?_
        have hr := Option.some.inj h40; subst hr
        exact npn (wk [(0, 0)] (free hA _) rfl rfl rfl (.cons rfl (.cons rfl .nil)) (.cons rfl rfl .nil))
      · refine rn 5 rfl ?_
        refine gs 20 h41 rfl rfl rfl (fun h42 => ?_) (fun h43 => ?_) <;> clear h41
        · refine rl rfl ?_
          have hr := Option.some.inj h42; subst hr
          exact npn (wk [(0, 0)] (free hA _) rfl rfl rfl (.cons rfl (.cons rfl .nil)) (.cons rfl rfl .nil))
        · refine rn 3 rfl ?_
          obtain ⟨y44, ey44, h45⟩ := bd h43; clear h43
          refine sx rfl (o_idx ey44 rfl rfl rfl ?_)
          refine rn 2 rfl ?_
          obtain ⟨y46, ey46, h47⟩ := bd h45; clear h45
          refine sx rfl (o_call (f_net_Net_Kind _ _ _ ey46) (.inl rfl) rfl rfl rfl ?_)
          refine rl rfl ?_
          have hr := Option.some.inj h47; subst hr
          exact npn (wk [(0, 0)] (free hA _) rfl rfl rfl (.cons rfl (.cons rfl .nil)) (.cons rfl rfl .nil))
  · refine cd rfl h48 (fun h49 => ?_) (fun h50 => ?_) <;> clear h48
    · refine rs env_ok ?_
      refine rl rfl ?_
      refine dwp_ret ?_
      refine thenD_r ?_
      have hr := Option.some.inj h49; subst hr
      exact er rfl Le.rfl
    · refine dwp_skip ?_
      refine thenD_n ?_
      refine rs env_ok ?_
      refine rn 2 rfl ?_
      obtain ⟨y53, ey53, h54⟩ := bd h50; clear h50
      refine sx rfl (o_idx ey53 rfl rfl rfl ?_)
      refine rl rfl ?_
      refine dwp_ret ?_
      have hr := Option.some.inj h54; subst hr
      exact er rfl Le.rfl

noncomputable def g_body_Turn (x0 : Net) (x1 : Int) (x2 : Body) : Option (Body × Bool) :=
  (g_body_Whole x0 x2).bind fun y3 => ((bif (!y3.2) then some true else some (x2.v != 0) : Option (Bool))).bind fun (t16 : Bool) => bif t16 then some ((⟨0, [], 0, 0, 0⟩ : Body), false) else (idx x2.trail 0).bind fun y25 => (g_net_Net_Reads x0 (⟨y3.1, wi64 (1 - y25.fin)⟩ : Port)).bind fun y35 => bif decide (y35 < 0) then some ((⟨0, [], 0, 0, 0⟩ : Body), false) else (g_net_Net_Length x0 y3.1).bind fun y41 => some ((⟨2, [(⟨y3.1, wi64 (1 - y25.fin)⟩ : Port)], wi64 ((wi64 (y41 - x2.left)) - x1), 0, 0⟩ : Body), true)

theorem f_body_Turn (x0 : Net) (x1 : Int) (x2 : Body) (r : (Body × Bool)) (h : g_body_Turn x0 x1 x2 = some r) : Fun Tryz.prog 29 [.place (netC x0) 0, .int .i64 x1, .agg (bodyC x2)] (· = .tup [.agg (bodyC r.1), .bool r.2]) := by
  refine fn env_ok Tryz.func29 rfl rfl 49 rfl [.cell 6 33, .tmp 7] rfl [(0, .p (.place (netC x0) 0)), (1, .p (.int .i64 x1)), (2, .p (.agg (bodyC x2)))] rfl rfl fun A hA => ?_
  unfold g_body_Turn at h
  refine rs env_ok ?_
  refine rl rfl ?_
  refine rs env_ok ?_
  refine rn 2 rfl ?_
  obtain ⟨y3, ey3, h4⟩ := bd h; clear h
  refine sx rfl (o_call (f_body_Whole _ _ _ ey3) (.inl rfl) rfl rfl rfl ?_)
  refine rl rfl ?_
  refine dwp_seq ?_
  refine jb (fun t16 : Bool => ⟨49, [(0, .p (.place (netC x0) 0)), (1, .p (.int .i64 x1)), (5, .lpb 0 0), (6, .lpb 1 0), (8, .p (.int .i64 y3.1)), (23, .p (.bool t16))], [(0, .box [.p (.int .i64 x2.mode), .p (.slice 2 (x2.trail.map portC)), .p (.int .i64 x2.left), .p (.int .i64 x2.over), .p (.int .i64 x2.v)]), (1, .box [.p (.int .i64 0), .p (.nils), .p (.int .i64 0), .p (.int .i64 0), .p (.int .i64 0)])], 2⟩) h4 (fun t16 h17 => ?_) (fun t16 h20 => ?_) <;> clear h4
  · refine rg env_ok ?_
    refine rn 3 rfl ?_
    refine gs 19 h17 rfl rfl rfl (fun h18 => ?_) (fun h19 => ?_) <;> clear h17
    · refine rl rfl ?_
      have hr := Option.some.inj h18; subst hr
      exact npn (wk [(0, 0), (1, 1)] (free hA _) rfl rfl rfl (.cons rfl (.cons rfl (.cons rfl (.cons rfl (.cons rfl (.cons rfl .nil)))))) (.cons rfl rfl (.cons rfl rfl .nil)))
    · refine rl rfl ?_
      have hr := Option.some.inj h19; subst hr
      exact npn (wk [(0, 0), (1, 1)] (free hA _) rfl rfl rfl (.cons rfl (.cons rfl (.cons rfl (.cons rfl (.cons rfl (.cons rfl .nil)))))) (.cons rfl rfl (.cons rfl rfl .nil)))
  · refine cd rfl h20 (fun h21 => ?_) (fun h22 => ?_) <;> clear h20
    · refine rs env_ok ?_
      refine rl rfl ?_
      refine dwp_ret ?_
      refine thenD_r ?_
      have hr := Option.some.inj h21; subst hr
      exact er rfl (Le.tup' (.cons (Le.agg' (.cons Le.rfl (.cons (Le.nil _) (.cons Le.rfl (.cons Le.rfl (.cons Le.rfl .nil)))))) (.cons Le.rfl .nil)))
    · refine dwp_skip ?_
      refine thenD_n ?_
      refine rs env_ok ?_
      refine rn 3 rfl ?_
      obtain ⟨y25, ey25, h26⟩ := bd h22; clear h22
      refine sx rfl (o_idx ey25 rfl rfl rfl ?_)
      refine rl rfl ?_
      refine dwp_seq ?_
      refine rs env_ok ?_
      refine rn 2 rfl ?_
      obtain ⟨y35, ey35, h36⟩ := bd h26; clear h26
      refine sx rfl (o_call (f_net_Net_Reads _ _ _ ey35) (.inl rfl) rfl rfl rfl ?_)
      refine rl rfl ?_
      refine cd rfl h36 (fun h37 => ?_) (fun h38 => ?_) <;> clear h36
      · refine rs env_ok ?_
        refine rl rfl ?_
        refine dwp_ret ?_
        refine thenD_r ?_
        have hr := Option.some.inj h37; subst hr
        exact er rfl (Le.tup' (.cons (Le.agg' (.cons Le.rfl (.cons (Le.nil _) (.cons Le.rfl (.cons Le.rfl (.cons Le.rfl .nil)))))) (.cons Le.rfl .nil)))
      · refine dwp_skip ?_
        refine thenD_n ?_
        refine dwp_seq ?_
        refine rgd env_ok mixed [0, 2, 3, 4, 5, 6, 1, 7, 8, 9, 10, 11, 12] 13 (by kernel_rfl) rfl rfl rfl ?_
        refine rnD 3 rfl ?_
        obtain ⟨y41, ey41, h42⟩ := bd h38; clear h38
        refine sxD rfl (o_callD (f_net_Net_Length _ _ _ ey41) (.inl rfl) rfl rfl rfl ?_)
        refine rlD rfl ?_
        refine thenD_n ?_
        refine dwp_ret ?_
        have hr := Option.some.inj h42; subst hr
        exact er (rdN rfl (.cons (.agg (.cons (.p _) (.cons (.own (enc := portC) ([(⟨y3.1, wi64 (1 - y25.fin)⟩ : Port)] : List Port) rfl rfl) (.cons (.p _) (.cons (.p _) (.cons (.p _) .nil)))))) (.cons (.one (.p _)) .nil))) Le.rfl

noncomputable def g_R6_SamePorts_l1 (x0 : (List Port)) (x1 : (List Port)) (s84 : Int) : Option (Int ⊕ Bool) :=
  bif decide (s84 < (x0.length : Int)) then (idx x0 s84).bind fun y152 => (idx x1 s84).bind fun y154 => bif (!(y152 == y154)) then some (.inr false) else some (.inl (wi64 (s84 + 1))) else some (.inr true)

noncomputable def g_R6_SamePorts (x0 : (List Port)) (x1 : (List Port)) : Option Bool :=
  bif ((x0.length : Int) != (x1.length : Int)) then some false else loopR (g_R6_SamePorts_l1 x0 x1) 0

theorem f_R6_SamePorts (x0 : (List Port)) (x1 : (List Port)) (r : Bool) (h : g_R6_SamePorts x0 x1 = some r) : Fun Tryz.prog 41 [.slice 2 (x0.map portC), .slice 2 (x1.map portC)] (· = .bool r) := by
  refine fn env_ok Tryz.func41 rfl rfl 26 rfl [.tmp 4] rfl [(0, .p (.slice 2 (x0.map portC))), (1, .p (.slice 2 (x1.map portC)))] rfl rfl fun A hA => ?_
  unfold g_R6_SamePorts at h
  refine rs env_ok ?_
  refine rl rfl ?_
  refine dwp_seq ?_
  refine rs env_ok ?_
  refine rn 1 rfl ?_
  refine sx rfl (o_len rfl rfl ?_)
  refine rn 1 rfl ?_
  refine sx rfl (o_len rfl rfl ?_)
  refine rl rfl ?_
  refine cd rfl h (fun h3 => ?_) (fun h4 => ?_) <;> clear h
  · refine rs env_ok ?_
    refine rl rfl ?_
    refine dwp_ret ?_
    refine thenD_r ?_
    have hr := Option.some.inj h3; subst hr
    exact er rfl Le.rfl
  · refine dwp_skip ?_
    refine thenD_n ?_
    refine dwp_seq ?_
    refine rs env_ok ?_
    refine rl rfl ?_
    refine dwp_block ?_
    apply lp (a := r) (fun s84 : Int => ⟨26, [(0, .p (.slice 2 (x0.map portC))), (1, .p (.slice 2 (x1.map portC))), (5, .p (.int .i64 s84))], [], 0⟩) h4 <;> clear h4
    · exact wk [] (free hA _) rfl rfl rfl (.cons rfl (.cons rfl (.cons rfl .nil))) .nil
    intro s84 b133 h134
    unfold g_R6_SamePorts_l1 at h134
    refine dwp_seq ?_
    refine rs env_ok ?_
    refine rn 2 rfl ?_
    refine sx rfl (o_len rfl rfl ?_)
    refine rl rfl ?_
    refine cd rfl h134 (fun h137 => ?_) (fun h160 => ?_) <;> clear h134
    · refine dwp_skip ?_
      refine thenD_n ?_
      refine dwp_seq ?_
      refine dwp_block ?_
      refine dwp_seq ?_
      refine rgd env_ok mixed [0, 1, 2, 3, 4, 5, 6, 7, 8] 9 (by kernel_rfl) rfl rfl rfl ?_
      refine rnD 2 rfl ?_
      obtain ⟨y152, ey152, h153⟩ := bd h137; clear h137
      refine sxD rfl (opD_plain rfl (o_idx ey152 rfl rfl rfl ?_))
      refine rnD 3 rfl ?_
      obtain ⟨y154, ey154, h155⟩ := bd h153; clear h153
      refine sxD rfl (opD_plain rfl (o_idx ey154 rfl rfl rfl ?_))
      refine rnD 1 rfl ?_
      refine sxD rfl (o_neAD (eqE_Port y152 y154) rfl rfl rfl rfl rfl ?_)
      refine rlD rfl ?_
      refine thenD_n ?_
      refine cd rfl h155 (fun h156 => ?_) (fun h159 => ?_) <;> clear h155
      · refine rs env_ok ?_
        refine rl rfl ?_
        refine dwp_ret ?_
        refine inB_r ?_
        refine thenD_r ?_
        obtain ⟨a157, h158, rfl⟩ := mps h156; clear h156
        refine lpt ?_
        refine inB_r ?_
        refine thenD_r ?_
        have hr := Option.some.inj h158; subst hr
        exact er rfl Le.rfl
      · refine dwp_skip ?_
        refine inB_n ?_
        refine thenD_n ?_
        refine rg env_ok ?_
        refine rl rfl ?_
        have hr := Option.some.inj h159; subst hr
        exact lpn (wk [] (free hA _) rfl rfl rfl (.cons rfl (.cons rfl (.cons rfl .nil))) .nil)
    · refine dwp_exit ?_
      refine thenD_x ?_
      obtain ⟨a161, h162, rfl⟩ := mps h160; clear h160
      refine lpx ?_
      refine inB_x ?_
      refine thenD_n ?_
      refine rs env_ok ?_
      refine rl rfl ?_
      refine dwp_ret ?_
      have hr := Option.some.inj h162; subst hr
      exact er rfl Le.rfl

noncomputable def g_R24_SameBody (x0 : Body) (x1 : Body) : Option Bool :=
  ((bif (x0.mode == x1.mode) then bif (x0.left == x1.left) then bif (x0.over == x1.over) then bif (x0.v == x1.v) then (g_R6_SamePorts x0.trail x1.trail).bind fun y17 => some y17 else some false else some false else some false else some false : Option (Bool))).bind fun (t11 : Bool) => some t11

theorem f_R24_SameBody (x0 : Body) (x1 : Body) (r : Bool) (h : g_R24_SameBody x0 x1 = some r) : Fun Tryz.prog 26 [.agg (bodyC x0), .agg (bodyC x1)] (· = .bool r) := by
  refine fn env_ok Tryz.func26 rfl rfl 38 rfl [.tmp 4] rfl [(0, .p (.agg (bodyC x0))), (1, .p (.agg (bodyC x1)))] rfl rfl fun A hA => ?_
  unfold g_R24_SameBody at h
  refine rs env_ok ?_
  refine rl rfl ?_
  refine jb (fun t11 : Bool => ⟨38, [(4, .p (.bool t11))], [], 0⟩) h (fun t11 h12 => ?_) (fun t11 h23 => ?_) <;> clear h
  · refine rg env_ok ?_
    refine rn 6 rfl ?_
    refine gs 10 h12 rfl rfl rfl (fun h13 => ?_) (fun h22 => ?_) <;> clear h12
    · refine rn 7 rfl ?_
      refine gs 17 h13 rfl rfl rfl (fun h14 => ?_) (fun h21 => ?_) <;> clear h13
      · refine rn 7 rfl ?_
        refine gs 24 h14 rfl rfl rfl (fun h15 => ?_) (fun h20 => ?_) <;> clear h14
        · refine rn 7 rfl ?_
          refine gs 31 h15 rfl rfl rfl (fun h16 => ?_) (fun h19 => ?_) <;> clear h15
          · refine rn 4 rfl ?_
            obtain ⟨y17, ey17, h18⟩ := bd h16; clear h16
            refine sx rfl (o_call (f_R6_SamePorts _ _ _ ey17) (.inl rfl) rfl rfl rfl ?_)
            refine rl rfl ?_
            have hr := Option.some.inj h18; subst hr
            exact npn (wk [] (free hA _) rfl rfl rfl (.cons rfl .nil) .nil)
          · refine rl rfl ?_
            have hr := Option.some.inj h19; subst hr
            exact npn (wk [] (free hA _) rfl rfl rfl (.cons rfl .nil) .nil)
        · refine rl rfl ?_
          have hr := Option.some.inj h20; subst hr
          exact npn (wk [] (free hA _) rfl rfl rfl (.cons rfl .nil) .nil)
      · refine rl rfl ?_
        have hr := Option.some.inj h21; subst hr
        exact npn (wk [] (free hA _) rfl rfl rfl (.cons rfl .nil) .nil)
    · refine rl rfl ?_
      have hr := Option.some.inj h22; subst hr
      exact npn (wk [] (free hA _) rfl rfl rfl (.cons rfl .nil) .nil)
  · refine dwp_ret ?_
    have hr := Option.some.inj h23; subst hr
    exact er rfl Le.rfl

end Go.E
