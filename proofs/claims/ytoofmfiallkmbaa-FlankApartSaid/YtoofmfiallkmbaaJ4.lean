/- Plain functions, and walks in step with them. Written by a program (gen.py). No condition. -/
import Derived.Test.YtoofmfiallkmbaaJ3
set_option linter.unusedVariables false
set_option linter.unusedSimpArgs false
set_option maxRecDepth 100000
namespace Go.E
open Go Go.RowKit Go.Proofs

noncomputable def g_plan_Check_2 (x0 : Int) (x1 : Plan) : Option ByteArray :=
  (idx x1.signals x0).bind fun y3 => some y3.name

theorem f_plan_Check_2 (x0 : Int) (x1 : Plan) (r : ByteArray) (h : g_plan_Check_2 x0 x1 = some r) : Fun Try.prog 106 [.int .i64 x0, .place (planC x1) 0] (· = .str r) := by
  refine fn env_ok Try.func106 rfl rfl 10 rfl [.tmp 3] rfl [(0, .p (.int .i64 x0)), (1, .p (.place (planC x1) 0))] rfl rfl fun A hA => ?_
  unfold g_plan_Check_2 at h
  refine rs env_ok ?_
  refine rl rfl ?_
  refine rs env_ok ?_
  refine rn 3 rfl ?_
  obtain ⟨y3, ey3, h4⟩ := bd h; clear h
  refine sx rfl (o_idx ey3 rfl rfl rfl ?_)
  refine rl rfl ?_
  refine dwp_ret ?_
  have hr := Option.some.inj h4; subst hr
  exact er rfl Le.rfl

noncomputable def g_plan_Check_3 (x0 : Int) (x1 : Plan) : Option ByteArray :=
  (idx x1.lines x0).bind fun y3 => some y3.name

theorem f_plan_Check_3 (x0 : Int) (x1 : Plan) (r : ByteArray) (h : g_plan_Check_3 x0 x1 = some r) : Fun Try.prog 107 [.int .i64 x0, .place (planC x1) 0] (· = .str r) := by
  refine fn env_ok Try.func107 rfl rfl 10 rfl [.tmp 3] rfl [(0, .p (.int .i64 x0)), (1, .p (.place (planC x1) 0))] rfl rfl fun A hA => ?_
  unfold g_plan_Check_3 at h
  refine rs env_ok ?_
  refine rl rfl ?_
  refine rs env_ok ?_
  refine rn 3 rfl ?_
  obtain ⟨y3, ey3, h4⟩ := bd h; clear h
  refine sx rfl (o_idx ey3 rfl rfl rfl ?_)
  refine rl rfl ?_
  refine dwp_ret ?_
  have hr := Option.some.inj h4; subst hr
  exact er rfl Le.rfl

noncomputable def g_plan_port (x0 : Plan) (x1 : Port) : Option Bool :=
  ((bif decide (0 ≤ x1.elem) then bif decide (x1.elem < (x0.elems.length : Int)) then bif decide (0 ≤ x1.fin) then (idx x0.elems x1.elem).bind fun y16 => (g_plan_Ends y16.kind).bind fun y18 => some (decide (x1.fin < y18)) else some false else some false else some false : Option (Bool))).bind fun (t11 : Bool) => some t11

theorem f_plan_port (x0 : Plan) (x1 : Port) (r : Bool) (h : g_plan_port x0 x1 = some r) : Fun Try.prog 135 [.agg (planC x0), .agg (portC x1)] (· = .bool r) := by
  refine fn env_ok Try.func135 rfl rfl 34 rfl [.tmp 4] rfl [(0, .p (.agg (planC x0))), (1, .p (.agg (portC x1)))] rfl rfl fun A hA => ?_
  unfold g_plan_port at h
  refine rs env_ok ?_
  refine rl rfl ?_
  refine jb (fun t11 : Bool => ⟨34, [(4, .p (.bool t11))], [], 0⟩) h (fun t11 h12 => ?_) (fun t11 h23 => ?_) <;> clear h
  · refine rgd env_ok mixed [0, 1, 2, 3, 4, 5, 6, 7, 8, 9, 10, 11, 12, 13, 14, 15, 16, 17, 18, 19, 20, 21, 22, 23, 24, 25, 26, 27, 28, 29] 30 (by kernel_rfl) rfl rfl rfl ?_
    refine rnD 4 rfl ?_
    refine gsD 8 h12 rfl rfl rfl (fun h13 => ?_) (fun h22 => ?_) <;> clear h12
    · refine rnD 4 rfl ?_
      refine sxD rfl (o_lenD rfl rfl ?_)
      refine rnD 3 rfl ?_
      refine gsD 16 h13 rfl rfl rfl (fun h14 => ?_) (fun h21 => ?_) <;> clear h13
      · refine rnD 5 rfl ?_
        refine gsD 21 h14 rfl rfl rfl (fun h15 => ?_) (fun h20 => ?_) <;> clear h14
        · refine rnD 6 rfl ?_
          obtain ⟨y16, ey16, h17⟩ := bd h15; clear h15
          refine sxD rfl (opD_plain rfl (o_idx ey16 rfl rfl rfl ?_))
          refine rnD 2 rfl ?_
          obtain ⟨y18, ey18, h19⟩ := bd h17; clear h17
          refine sxD rfl (o_callD (f_plan_Ends _ _ ey18) (.inl rfl) rfl rfl rfl ?_)
          refine rlD rfl ?_
          have hr := Option.some.inj h19; subst hr
          exact npn (wk [] (free hA _) rfl rfl rfl (.cons rfl .nil) .nil)
        · refine rlD rfl ?_
          have hr := Option.some.inj h20; subst hr
          exact npn (wk [] (free hA _) rfl rfl rfl (.cons rfl .nil) .nil)
      · refine rlD rfl ?_
        have hr := Option.some.inj h21; subst hr
        exact npn (wk [] (free hA _) rfl rfl rfl (.cons rfl .nil) .nil)
    · refine rlD rfl ?_
      have hr := Option.some.inj h22; subst hr
      exact npn (wk [] (free hA _) rfl rfl rfl (.cons rfl .nil) .nil)
  · refine dwp_ret ?_
    have hr := Option.some.inj h23; subst hr
    exact er rfl Le.rfl

noncomputable def g_plan_joined_l2 (x0 : Plan) (s392 : (Int × (List (Port × Port)))) (s946 : Int) : Option (Int ⊕ ((List (Port × Port)) × Bool)) :=
  bif decide (s946 < (x0.elems.length : Int)) then seqR (((idx x0.elems s946).bind fun y1082 => bif (y1082.kind != 4) then some (.inl ()) else ((bif (!(assoc s392.2 (⟨s946, 0⟩ : Port)).isSome) then some true else (idx x0.elems (((assoc s392.2 (⟨s946, 0⟩ : Port)).getD (⟨0, 0⟩ : Port)).elem)).bind fun y1096 => some (y1096.kind == 4) : Option (Bool))).bind fun (t1092 : Bool) => bif t1092 then some (.inr (.inr ([], false))) else some (.inl ()) : Option (Unit ⊕ (Int ⊕ ((List (Port × Port)) × Bool))))) fun (t1077 : Unit) => some (.inl (wi64 (s946 + 1))) else some (.inr (s392.2, true))

noncomputable def g_plan_joined_l1 (x0 : Plan) (s392 : Int × (List (Port × Port))) : Option ((Int × (List (Port × Port))) ⊕ ((List (Port × Port)) × Bool)) :=
  bif decide (s392.1 < (x0.joins.length : Int)) then (idx x0.joins s392.1).bind fun y718 => ((bif (assoc s392.2 y718.a).isSome then some true else bif (assoc s392.2 y718.b).isSome then some true else bif (y718.a == y718.b) then some true else (g_plan_port x0 y718.a).bind fun y769 => bif (!y769) then some true else (g_plan_port x0 y718.b).bind fun y773 => some (!y773) : Option (Bool))).bind fun (t761 : Bool) => bif t761 then some (.inr ([], false)) else some (.inl (wi64 (s392.1 + 1), aput y718.b y718.a (aput y718.a y718.b s392.2))) else (loopR (g_plan_joined_l2 x0 s392) 0).map .inr

noncomputable def g_plan_joined (x0 : Plan) : Option ((List (Port × Port)) × Bool) :=
  loopR (g_plan_joined_l1 x0) (0, [])

theorem f_plan_joined (x0 : Plan) (r : ((List (Port × Port)) × Bool)) (h : g_plan_joined x0 = some r) : Fun Try.prog 108 [.agg (planC x0)] (· = .tup [.map (mapD (fun x => .agg (portC x)) (fun x => .agg (portC x)) r.1), .bool r.2]) := by
  refine fn env_ok Try.func108 rfl rfl 105 rfl [.tmp 2, .tmp 3] rfl [(0, .p (.agg (planC x0)))] rfl rfl fun A hA => ?_
  unfold g_plan_joined at h
  refine rs env_ok ?_
  refine rl rfl ?_
  refine rs env_ok ?_
  refine rl rfl ?_
  refine dwp_seq ?_
  refine rs env_ok ?_
  refine rn 2 rfl ?_
  refine sx rfl (o_len rfl rfl ?_)
  refine rl rfl ?_
  refine dwp_block ?_
  apply lp (a := r) (fun s392 : (Int × (List (Port × Port))) => ⟨105, [(1, .lpb 0 0), (4, .lmap 1), (17, .p (.slice 4 (x0.joins.map joinC))), (18, .p (.int .i64 (x0.joins.length : Int))), (19, .p (.int .i64 s392.1))], [(0, .box [.p (.slice 3 (x0.elems.map elemC)), .p (.slice 4 (x0.joins.map joinC)), .p (.slice 4 (x0.signals.map signalC)), .p (.slice 2 (x0.lines.map lineC)), .p (.int .i64 x0.top), .p (.int .i64 x0.brake), .p (.int .i64 x0.margin), .p (.int .i64 x0.throw), .p (.bool x0.hard)]), (1, .map (mapD (fun x => .agg (portC x)) (fun x => .agg (portC x)) s392.2))], 2⟩) h <;> clear h
  · exact wk [(0, 0), (1, 1)] (free hA _) rfl rfl rfl (.cons rfl (.cons rfl (.cons rfl (.cons rfl (.cons rfl .nil))))) (.cons rfl rfl (.cons rfl rfl .nil))
  intro s392 b649 h650
  unfold g_plan_joined_l1 at h650
  refine rs env_ok ?_
  refine rl rfl ?_
  refine dwp_seq ?_
  refine cd rfl h650 (fun h653 => ?_) (fun h780 => ?_) <;> clear h650
  · refine dwp_skip ?_
    refine thenD_n ?_
    refine dwp_seq ?_
    refine dwp_block ?_
    refine rs env_ok ?_
    obtain ⟨y718, ey718, h719⟩ := bd h653; clear h653
    refine sx rfl (o_idx ey718 rfl rfl rfl ?_)
    refine rl rfl ?_
    refine rs env_ok ?_
    refine rn 3 rfl ?_
    refine sx rfl (o_lk2 (et := 65) (ke := (fun x => .agg (portC x))) (ve := (fun x => .agg (portC x))) (mp := s392.2) (y := y718.a) (⟨0, 0⟩ : Port) keyE_65 rfl rfl rfl rfl ?_)
    refine rl rfl ?_
    refine rs env_ok ?_
    refine rn 3 rfl ?_
    refine sx rfl (o_lk2 (et := 65) (ke := (fun x => .agg (portC x))) (ve := (fun x => .agg (portC x))) (mp := s392.2) (y := y718.b) (⟨0, 0⟩ : Port) keyE_65 rfl rfl rfl rfl ?_)
    refine rl rfl ?_
    refine dwp_seq ?_
    refine jb (fun t761 : Bool => ⟨105, [(1, .lpb 0 0), (4, .lmap 1), (6, .lpb 2 0), (17, .p (.slice 4 (x0.joins.map joinC))), (18, .p (.int .i64 (x0.joins.length : Int))), (19, .p (.int .i64 s392.1)), (61, .p (.bool t761))], [(0, .box [.p (.slice 3 (x0.elems.map elemC)), .p (.slice 4 (x0.joins.map joinC)), .p (.slice 4 (x0.signals.map signalC)), .p (.slice 2 (x0.lines.map lineC)), .p (.int .i64 x0.top), .p (.int .i64 x0.brake), .p (.int .i64 x0.margin), .p (.int .i64 x0.throw), .p (.bool x0.hard)]), (1, .map (mapD (fun x => .agg (portC x)) (fun x => .agg (portC x)) s392.2)), (2, .box [.p (.int .i64 y718.a.elem), .p (.int .i64 y718.a.fin), .p (.int .i64 y718.b.elem), .p (.int .i64 y718.b.fin)])], 3⟩) h719 (fun t761 h762 => ?_) (fun t761 h775 => ?_) <;> clear h719
    · refine rg env_ok ?_
      refine rn 2 rfl ?_
      refine gs 38 h762 rfl rfl rfl (fun h763 => ?_) (fun h764 => ?_) <;> clear h762
      · refine rl rfl ?_
        have hr := Option.some.inj h763; subst hr
        exact npn (wk [(0, 0), (1, 1), (2, 2)] (free hA _) rfl rfl rfl (.cons rfl (.cons rfl (.cons rfl (.cons rfl (.cons rfl (.cons rfl (.cons rfl .nil))))))) (.cons rfl rfl (.cons rfl rfl (.cons rfl rfl .nil))))
      · refine rn 3 rfl ?_
        refine gs 41 h764 rfl rfl rfl (fun h765 => ?_) (fun h766 => ?_) <;> clear h764
        · refine rl rfl ?_
          have hr := Option.some.inj h765; subst hr
          exact npn (wk [(0, 0), (1, 1), (2, 2)] (free hA _) rfl rfl rfl (.cons rfl (.cons rfl (.cons rfl (.cons rfl (.cons rfl (.cons rfl (.cons rfl .nil))))))) (.cons rfl rfl (.cons rfl rfl (.cons rfl rfl .nil))))
        · refine rn 4 rfl ?_
          refine sx rfl (o_eqA (eqE_Port y718.a y718.b) rfl rfl rfl rfl rfl ?_)
          refine rn 2 rfl ?_
          refine gs 48 h766 rfl rfl rfl (fun h767 => ?_) (fun h768 => ?_) <;> clear h766
          · refine rl rfl ?_
            have hr := Option.some.inj h767; subst hr
            exact npn (wk [(0, 0), (1, 1), (2, 2)] (free hA _) rfl rfl rfl (.cons rfl (.cons rfl (.cons rfl (.cons rfl (.cons rfl (.cons rfl (.cons rfl .nil))))))) (.cons rfl rfl (.cons rfl rfl (.cons rfl rfl .nil))))
          · refine rn 3 rfl ?_
            obtain ⟨y769, ey769, h770⟩ := bd h768; clear h768
            refine sx rfl (o_call (f_plan_port _ _ _ ey769) (.inl rfl) rfl rfl rfl ?_)
            refine rn 3 rfl ?_
            refine gs 55 h770 rfl rfl rfl (fun h771 => ?_) (fun h772 => ?_) <;> clear h770
            · refine rl rfl ?_
              have hr := Option.some.inj h771; subst hr
              exact npn (wk [(0, 0), (1, 1), (2, 2)] (free hA _) rfl rfl rfl (.cons rfl (.cons rfl (.cons rfl (.cons rfl (.cons rfl (.cons rfl (.cons rfl .nil))))))) (.cons rfl rfl (.cons rfl rfl (.cons rfl rfl .nil))))
            · refine rn 3 rfl ?_
              obtain ⟨y773, ey773, h774⟩ := bd h772; clear h772
              refine sx rfl (o_call (f_plan_port _ _ _ ey773) (.inl rfl) rfl rfl rfl ?_)
              refine rl rfl ?_
              have hr := Option.some.inj h774; subst hr
              exact npn (wk [(0, 0), (1, 1), (2, 2)] (free hA _) rfl rfl rfl (.cons rfl (.cons rfl (.cons rfl (.cons rfl (.cons rfl (.cons rfl (.cons rfl .nil))))))) (.cons rfl rfl (.cons rfl rfl (.cons rfl rfl .nil))))
    · refine cd rfl h775 (fun h776 => ?_) (fun h779 => ?_) <;> clear h775
      · refine rs env_ok ?_
        refine rl rfl ?_
        refine dwp_ret ?_
        refine thenD_r ?_
        refine inB_r ?_
        refine thenD_r ?_
        obtain ⟨a777, h778, rfl⟩ := mps h776; clear h776
        refine lpt ?_
        refine inB_r ?_
        refine thenD_r ?_
        have hr := Option.some.inj h778; subst hr
        exact er rfl (Le.tup' (.cons Le.nilm (.cons Le.rfl .nil)))
      · refine dwp_skip ?_
        refine thenD_n ?_
        refine rgd env_ok mixed [0, 1, 2, 3, 4, 5, 6, 7, 8, 9, 10, 11] 12 (by kernel_rfl) rfl rfl rfl ?_
        refine rnD 10 rfl ?_
        refine sxD rfl (opD_plain rfl (o_mup (et := 65) (ke := (fun x => .agg (portC x))) (ve := (fun x => .agg (portC x))) (mp := s392.2) (y := y718.a) (z := y718.b) keyE_65 rfl rfl rfl rfl rfl rfl ?_))
        refine sxD rfl (opD_plain rfl (o_mup (et := 65) (ke := (fun x => .agg (portC x))) (ve := (fun x => .agg (portC x))) (mp := aput y718.a y718.b s392.2) (y := y718.b) (z := y718.a) keyE_65 rfl rfl rfl rfl rfl rfl ?_))
        refine rlD rfl ?_
        refine inB_n ?_
        refine thenD_n ?_
        refine rg env_ok ?_
        refine rl rfl ?_
        have hr := Option.some.inj h779; subst hr
        exact lpn (wk [(0, 0), (1, 1)] (free hA _) rfl rfl rfl (.cons rfl (.cons rfl (.cons rfl (.cons rfl (.cons rfl .nil))))) (.cons rfl rfl (.cons rfl rfl .nil)))
  · refine dwp_exit ?_
    refine thenD_x ?_
    obtain ⟨a781, h782, rfl⟩ := mp h780; clear h780
    refine lpx ?_
    refine inB_x ?_
    refine thenD_n ?_
    refine dwp_seq ?_
    refine rs env_ok ?_
    refine rn 2 rfl ?_
    refine sx rfl (o_len rfl rfl ?_)
    refine rl rfl ?_
    refine dwp_block ?_
    apply lp (a := a781) (fun s946 : Int => ⟨105, [(1, .lpb 0 0), (4, .lmap 1), (74, .p (.slice 3 (x0.elems.map elemC))), (75, .p (.int .i64 (x0.elems.length : Int))), (76, .p (.int .i64 s946))], [(0, .box [.p (.slice 3 (x0.elems.map elemC)), .p (.slice 4 (x0.joins.map joinC)), .p (.slice 4 (x0.signals.map signalC)), .p (.slice 2 (x0.lines.map lineC)), .p (.int .i64 x0.top), .p (.int .i64 x0.brake), .p (.int .i64 x0.margin), .p (.int .i64 x0.throw), .p (.bool x0.hard)]), (1, .map (mapD (fun x => .agg (portC x)) (fun x => .agg (portC x)) s392.2))], 2⟩) h782 <;> clear h782
    · exact wk [(0, 0), (1, 1)] (free hA _) rfl rfl rfl (.cons rfl (.cons rfl (.cons rfl (.cons rfl (.cons rfl .nil))))) (.cons rfl rfl (.cons rfl rfl .nil))
    intro s946 b1051 h1052
    unfold g_plan_joined_l2 at h1052
    refine rs env_ok ?_
    refine rl rfl ?_
    refine dwp_seq ?_
    refine cd rfl h1052 (fun h1055 => ?_) (fun h1106 => ?_) <;> clear h1052
    · refine dwp_skip ?_
      refine thenD_n ?_
      apply jn (a := b1051) (fun t1077 : Unit => ⟨105, [(1, .lpb 0 0), (4, .lmap 1), (74, .p (.slice 3 (x0.elems.map elemC))), (75, .p (.int .i64 (x0.elems.length : Int))), (76, .p (.int .i64 s946))], [(0, .box [.p (.slice 3 (x0.elems.map elemC)), .p (.slice 4 (x0.joins.map joinC)), .p (.slice 4 (x0.signals.map signalC)), .p (.slice 2 (x0.lines.map lineC)), .p (.int .i64 x0.top), .p (.int .i64 x0.brake), .p (.int .i64 x0.margin), .p (.int .i64 x0.throw), .p (.bool x0.hard)]), (1, .map (mapD (fun x => .agg (portC x)) (fun x => .agg (portC x)) s392.2))], 2⟩) h1055 <;> clear h1055
      · intro b1078 h1079
        refine dwp_block ?_
        refine rs env_ok ?_
        refine rn 1 rfl ?_
        obtain ⟨y1082, ey1082, h1083⟩ := bd h1079; clear h1079
        refine sx rfl (o_idx ey1082 rfl rfl rfl ?_)
        refine rl rfl ?_
        refine dwp_seq ?_
        refine rs env_ok ?_
        refine rl rfl ?_
        refine cd rfl h1083 (fun h1086 => ?_) (fun h1087 => ?_) <;> clear h1083
        · refine dwp_exit ?_
          refine thenD_x ?_
          refine inB_x ?_
          have hr := Option.some.inj h1086; subst hr
          exact lpn (wk [(0, 0), (1, 1)] (free hA _) rfl rfl rfl (.cons rfl (.cons rfl (.cons rfl (.cons rfl (.cons rfl .nil))))) (.cons rfl rfl (.cons rfl rfl .nil)))
        · refine dwp_skip ?_
          refine thenD_n ?_
          refine rs env_ok ?_
          refine rn 3 rfl ?_
          refine sx rfl (o_lk2 (et := 65) (ke := (fun x => .agg (portC x))) (ve := (fun x => .agg (portC x))) (mp := s392.2) (y := (⟨s946, 0⟩ : Port)) (⟨0, 0⟩ : Port) keyE_65 rfl rfl rfl rfl ?_)
          refine rl rfl ?_
          refine jb (fun t1092 : Bool => ⟨105, [(1, .lpb 0 0), (4, .lmap 1), (74, .p (.slice 3 (x0.elems.map elemC))), (75, .p (.int .i64 (x0.elems.length : Int))), (76, .p (.int .i64 s946)), (102, .p (.bool t1092))], [(0, .box [.p (.slice 3 (x0.elems.map elemC)), .p (.slice 4 (x0.joins.map joinC)), .p (.slice 4 (x0.signals.map signalC)), .p (.slice 2 (x0.lines.map lineC)), .p (.int .i64 x0.top), .p (.int .i64 x0.brake), .p (.int .i64 x0.margin), .p (.int .i64 x0.throw), .p (.bool x0.hard)]), (1, .map (mapD (fun x => .agg (portC x)) (fun x => .agg (portC x)) s392.2))], 2⟩) h1087 (fun t1092 h1093 => ?_) (fun t1092 h1098 => ?_) <;> clear h1087
          · refine rg env_ok ?_
            refine rn 3 rfl ?_
            refine gs 93 h1093 rfl rfl rfl (fun h1094 => ?_) (fun h1095 => ?_) <;> clear h1093
            · refine rl rfl ?_
              have hr := Option.some.inj h1094; subst hr
              exact npn (wk [(0, 0), (1, 1)] (free hA _) rfl rfl rfl (.cons rfl (.cons rfl (.cons rfl (.cons rfl (.cons rfl (.cons rfl .nil)))))) (.cons rfl rfl (.cons rfl rfl .nil)))
            · refine rn 4 rfl ?_
              obtain ⟨y1096, ey1096, h1097⟩ := bd h1095; clear h1095
              refine sx rfl (o_idx ey1096 rfl rfl rfl ?_)
              refine rl rfl ?_
              have hr := Option.some.inj h1097; subst hr
              exact npn (wk [(0, 0), (1, 1)] (free hA _) rfl rfl rfl (.cons rfl (.cons rfl (.cons rfl (.cons rfl (.cons rfl (.cons rfl .nil)))))) (.cons rfl rfl (.cons rfl rfl .nil)))
          · refine cd rfl h1098 (fun h1099 => ?_) (fun h1104 => ?_) <;> clear h1098
            · refine rs env_ok ?_
              refine rl rfl ?_
              refine dwp_ret ?_
              refine inB_r ?_
              obtain ⟨a1100, h1101, rfl⟩ := mps h1099; clear h1099
              refine lpt ?_
              obtain ⟨a1102, h1103, rfl⟩ := mps h1101; clear h1101
              refine lpt ?_
              refine inB_r ?_
              refine thenD_r ?_
              have hr := Option.some.inj h1103; subst hr
              exact er rfl (Le.tup' (.cons Le.nilm (.cons Le.rfl .nil)))
            · refine dwp_skip ?_
              refine inB_n ?_
              have hr := Option.some.inj h1104; subst hr
              exact lpn (wk [(0, 0), (1, 1)] (free hA _) rfl rfl rfl (.cons rfl (.cons rfl (.cons rfl (.cons rfl (.cons rfl .nil))))) (.cons rfl rfl (.cons rfl rfl .nil)))
      · intro t1077 h1105
        refine rg env_ok ?_
        refine rl rfl ?_
        have hr := Option.some.inj h1105; subst hr
        exact lpn (wk [(0, 0), (1, 1)] (free hA _) rfl rfl rfl (.cons rfl (.cons rfl (.cons rfl (.cons rfl (.cons rfl .nil))))) (.cons rfl rfl (.cons rfl rfl .nil)))
    · refine dwp_exit ?_
      refine thenD_x ?_
      obtain ⟨a1107, h1108, rfl⟩ := mps h1106; clear h1106
      refine lpx ?_
      refine inB_x ?_
      refine thenD_n ?_
      refine rs env_ok ?_
      refine rl rfl ?_
      refine dwp_ret ?_
      have hr := Option.some.inj h1108; subst hr
      exact er (rdN rfl (.cons (.one (.map rfl)) (.cons (.one (.p _)) .nil))) Le.rfl

noncomputable def g_plan_signals_l2 (x0 : Plan) (s516 : (Int × (List (Port × Bool)))) (s1128 : Int) : Option (Int ⊕ Bool) :=
  bif decide (s1128 < (x0.elems.length : Int)) then (idx x0.elems s1128).bind fun y1209 => ((bif (y1209.kind == 4) then some (!((assoc s516.2 (⟨s1128, 0⟩ : Port)).getD false)) else some false : Option (Bool))).bind fun (t1213 : Bool) => bif t1213 then some (.inr false) else some (.inl (wi64 (s1128 + 1))) else some (.inr true)

noncomputable def g_plan_signals_l1 (x0 : Plan) (x1 : (List (Port × Port))) (s516 : Int × (List (Port × Bool))) : Option ((Int × (List (Port × Bool))) ⊕ Bool) :=
  bif decide (s516.1 < (x0.signals.length : Int)) then (idx x0.signals s516.1).bind fun y942 => (((g_plan_port x0 y942.at_).bind fun y963 => bif (!y963) then some true else some ((assoc s516.2 y942.at_).getD false) : Option (Bool))).bind fun (t961 : Bool) => bif t961 then some (.inr false) else (idx x0.elems y942.at_.elem).bind fun y987 => ((bif (y987.kind != 1) then some (y987.kind != 4) else some false : Option (Bool))).bind fun (t991 : Bool) => bif t991 then some (.inr false) else ((bif (!(assoc x1 y942.at_).isSome) then some true else (idx x0.elems (((assoc x1 y942.at_).getD (⟨0, 0⟩ : Port)).elem)).bind fun y1021 => some (y1021.kind == 4) : Option (Bool))).bind fun (t1017 : Bool) => bif t1017 then some (.inr false) else some (.inl (wi64 (s516.1 + 1), aput y942.at_ true s516.2)) else (loopR (g_plan_signals_l2 x0 s516) 0).map .inr

noncomputable def g_plan_signals (x0 : Plan) (x1 : (List (Port × Port))) : Option Bool :=
  loopR (g_plan_signals_l1 x0 x1) (0, [])

theorem f_plan_signals (x0 : Plan) (x1 : (List (Port × Port))) (r : Bool) (h : g_plan_signals x0 x1 = some r) : Fun Try.prog 109 [.agg (planC x0), .map (mapD (fun x => .agg (portC x)) (fun x => .agg (portC x)) x1)] (· = .bool r) := by
  refine fn env_ok Try.func109 rfl rfl 88 rfl [.tmp 4] rfl [(0, .p (.agg (planC x0))), (1, .p (.map (mapD (fun x => .agg (portC x)) (fun x => .agg (portC x)) x1)))] rfl rfl fun A hA => ?_
  unfold g_plan_signals at h
  refine rs env_ok ?_
  refine rl rfl ?_
  refine rs env_ok ?_
  refine rl rfl ?_
  refine dwp_seq ?_
  refine rs env_ok ?_
  refine rn 2 rfl ?_
  refine sx rfl (o_len rfl rfl ?_)
  refine rl rfl ?_
  refine dwp_block ?_
  apply lp (a := r) (fun s516 : (Int × (List (Port × Bool))) => ⟨88, [(1, .p (.map (mapD (fun x => .agg (portC x)) (fun x => .agg (portC x)) x1))), (2, .lpb 0 0), (5, .lmap 1), (15, .p (.slice 4 (x0.signals.map signalC))), (16, .p (.int .i64 (x0.signals.length : Int))), (17, .p (.int .i64 s516.1))], [(0, .box [.p (.slice 3 (x0.elems.map elemC)), .p (.slice 4 (x0.joins.map joinC)), .p (.slice 4 (x0.signals.map signalC)), .p (.slice 2 (x0.lines.map lineC)), .p (.int .i64 x0.top), .p (.int .i64 x0.brake), .p (.int .i64 x0.margin), .p (.int .i64 x0.throw), .p (.bool x0.hard)]), (1, .map (mapD (fun x => .agg (portC x)) .bool s516.2))], 2⟩) h <;> clear h
  · exact wk [(0, 0), (1, 1)] (free hA _) rfl rfl rfl (.cons rfl (.cons rfl (.cons rfl (.cons rfl (.cons rfl (.cons rfl .nil)))))) (.cons rfl rfl (.cons rfl rfl .nil))
  intro s516 b853 h854
  unfold g_plan_signals_l1 at h854
  refine rs env_ok ?_
  refine rl rfl ?_
  refine dwp_seq ?_
  refine cd rfl h854 (fun h857 => ?_) (fun h1028 => ?_) <;> clear h854
  · refine dwp_skip ?_
    refine thenD_n ?_
    refine dwp_seq ?_
    refine dwp_block ?_
    refine rs env_ok ?_
    obtain ⟨y942, ey942, h943⟩ := bd h857; clear h857
    refine sx rfl (o_idx ey942 rfl rfl rfl ?_)
    refine rl rfl ?_
    refine dwp_seq ?_
    refine jb (fun t961 : Bool => ⟨88, [(1, .p (.map (mapD (fun x => .agg (portC x)) (fun x => .agg (portC x)) x1))), (2, .lpb 0 0), (5, .lmap 1), (7, .lpb 2 0), (15, .p (.slice 4 (x0.signals.map signalC))), (16, .p (.int .i64 (x0.signals.length : Int))), (17, .p (.int .i64 s516.1)), (31, .p (.bool t961))], [(0, .box [.p (.slice 3 (x0.elems.map elemC)), .p (.slice 4 (x0.joins.map joinC)), .p (.slice 4 (x0.signals.map signalC)), .p (.slice 2 (x0.lines.map lineC)), .p (.int .i64 x0.top), .p (.int .i64 x0.brake), .p (.int .i64 x0.margin), .p (.int .i64 x0.throw), .p (.bool x0.hard)]), (1, .map (mapD (fun x => .agg (portC x)) .bool s516.2)), (2, .box [.p (.str y942.name), .p (.int .i64 y942.at_.elem), .p (.int .i64 y942.at_.fin), .p (.bool y942.auto)])], 3⟩) h943 (fun t961 h962 => ?_) (fun t961 h967 => ?_) <;> clear h943
    · refine rg env_ok ?_
      refine rn 3 rfl ?_
      obtain ⟨y963, ey963, h964⟩ := bd h962; clear h962
      refine sx rfl (o_call (f_plan_port _ _ _ ey963) (.inl rfl) rfl rfl rfl ?_)
      refine rn 2 rfl ?_
      refine gs 26 h964 rfl rfl rfl (fun h965 => ?_) (fun h966 => ?_) <;> clear h964
      · refine rl rfl ?_
        have hr := Option.some.inj h965; subst hr
        exact npn (wk [(0, 0), (1, 1), (2, 2)] (free hA _) rfl rfl rfl (.cons rfl (.cons rfl (.cons rfl (.cons rfl (.cons rfl (.cons rfl (.cons rfl (.cons rfl .nil)))))))) (.cons rfl rfl (.cons rfl rfl (.cons rfl rfl .nil))))
      · refine rn 3 rfl ?_
        refine sx rfl (o_lk1 (et := 4) (ke := (fun x => .agg (portC x))) (ve := .bool) (mp := s516.2) (y := y942.at_) false keyE_65 rfl rfl rfl rfl ?_)
        refine rl rfl ?_
        have hr := Option.some.inj h966; subst hr
        exact npn (wk [(0, 0), (1, 1), (2, 2)] (free hA _) rfl rfl rfl (.cons rfl (.cons rfl (.cons rfl (.cons rfl (.cons rfl (.cons rfl (.cons rfl (.cons rfl .nil)))))))) (.cons rfl rfl (.cons rfl rfl (.cons rfl rfl .nil))))
    · refine cd rfl h967 (fun h968 => ?_) (fun h971 => ?_) <;> clear h967
      · refine rs env_ok ?_
        refine rl rfl ?_
        refine dwp_ret ?_
        refine thenD_r ?_
        refine inB_r ?_
        refine thenD_r ?_
        obtain ⟨a969, h970, rfl⟩ := mps h968; clear h968
        refine lpt ?_
        refine inB_r ?_
        refine thenD_r ?_
        have hr := Option.some.inj h970; subst hr
        exact er rfl Le.rfl
      · refine dwp_skip ?_
        refine thenD_n ?_
        refine dwp_seq ?_
        refine rs env_ok ?_
        refine rn 5 rfl ?_
        obtain ⟨y987, ey987, h988⟩ := bd h971; clear h971
        refine sx rfl (o_idx ey987 rfl rfl rfl ?_)
        refine rl rfl ?_
        refine jb (fun t991 : Bool => ⟨88, [(1, .p (.map (mapD (fun x => .agg (portC x)) (fun x => .agg (portC x)) x1))), (2, .lpb 0 0), (5, .lmap 1), (7, .lpb 2 0), (15, .p (.slice 4 (x0.signals.map signalC))), (16, .p (.int .i64 (x0.signals.length : Int))), (17, .p (.int .i64 s516.1)), (45, .p (.bool t991))], [(0, .box [.p (.slice 3 (x0.elems.map elemC)), .p (.slice 4 (x0.joins.map joinC)), .p (.slice 4 (x0.signals.map signalC)), .p (.slice 2 (x0.lines.map lineC)), .p (.int .i64 x0.top), .p (.int .i64 x0.brake), .p (.int .i64 x0.margin), .p (.int .i64 x0.throw), .p (.bool x0.hard)]), (1, .map (mapD (fun x => .agg (portC x)) .bool s516.2)), (2, .box [.p (.str y942.name), .p (.int .i64 y942.at_.elem), .p (.int .i64 y942.at_.fin), .p (.bool y942.auto)])], 3⟩) h988 (fun t991 h992 => ?_) (fun t991 h995 => ?_) <;> clear h988
        · refine rg env_ok ?_
          refine rn 3 rfl ?_
          refine gs 42 h992 rfl rfl rfl (fun h993 => ?_) (fun h994 => ?_) <;> clear h992
          · refine rl rfl ?_
            have hr := Option.some.inj h993; subst hr
            exact npn (wk [(0, 0), (1, 1), (2, 2)] (free hA _) rfl rfl rfl (.cons rfl (.cons rfl (.cons rfl (.cons rfl (.cons rfl (.cons rfl (.cons rfl (.cons rfl .nil)))))))) (.cons rfl rfl (.cons rfl rfl (.cons rfl rfl .nil))))
          · refine rl rfl ?_
            have hr := Option.some.inj h994; subst hr
            exact npn (wk [(0, 0), (1, 1), (2, 2)] (free hA _) rfl rfl rfl (.cons rfl (.cons rfl (.cons rfl (.cons rfl (.cons rfl (.cons rfl (.cons rfl (.cons rfl .nil)))))))) (.cons rfl rfl (.cons rfl rfl (.cons rfl rfl .nil))))
        · refine cd rfl h995 (fun h996 => ?_) (fun h999 => ?_) <;> clear h995
          · refine rs env_ok ?_
            refine rl rfl ?_
            refine dwp_ret ?_
            refine thenD_r ?_
            refine inB_r ?_
            refine thenD_r ?_
            obtain ⟨a997, h998, rfl⟩ := mps h996; clear h996
            refine lpt ?_
            refine inB_r ?_
            refine thenD_r ?_
            have hr := Option.some.inj h998; subst hr
            exact er rfl Le.rfl
          · refine dwp_skip ?_
            refine thenD_n ?_
            refine rs env_ok ?_
            refine rn 3 rfl ?_
            refine sx rfl (o_lk2 (et := 65) (ke := (fun x => .agg (portC x))) (ve := (fun x => .agg (portC x))) (mp := x1) (y := y942.at_) (⟨0, 0⟩ : Port) keyE_65 rfl rfl rfl rfl ?_)
            refine rl rfl ?_
            refine dwp_seq ?_
            refine jb (fun t1017 : Bool => ⟨88, [(1, .p (.map (mapD (fun x => .agg (portC x)) (fun x => .agg (portC x)) x1))), (2, .lpb 0 0), (5, .lmap 1), (7, .lpb 2 0), (15, .p (.slice 4 (x0.signals.map signalC))), (16, .p (.int .i64 (x0.signals.length : Int))), (17, .p (.int .i64 s516.1)), (64, .p (.bool t1017))], [(0, .box [.p (.slice 3 (x0.elems.map elemC)), .p (.slice 4 (x0.joins.map joinC)), .p (.slice 4 (x0.signals.map signalC)), .p (.slice 2 (x0.lines.map lineC)), .p (.int .i64 x0.top), .p (.int .i64 x0.brake), .p (.int .i64 x0.margin), .p (.int .i64 x0.throw), .p (.bool x0.hard)]), (1, .map (mapD (fun x => .agg (portC x)) .bool s516.2)), (2, .box [.p (.str y942.name), .p (.int .i64 y942.at_.elem), .p (.int .i64 y942.at_.fin), .p (.bool y942.auto)])], 3⟩) h999 (fun t1017 h1018 => ?_) (fun t1017 h1023 => ?_) <;> clear h999
            · refine rg env_ok ?_
              refine rn 3 rfl ?_
              refine gs 55 h1018 rfl rfl rfl (fun h1019 => ?_) (fun h1020 => ?_) <;> clear h1018
              · refine rl rfl ?_
                have hr := Option.some.inj h1019; subst hr
                exact npn (wk [(0, 0), (1, 1), (2, 2)] (free hA _) rfl rfl rfl (.cons rfl (.cons rfl (.cons rfl (.cons rfl (.cons rfl (.cons rfl (.cons rfl (.cons rfl .nil)))))))) (.cons rfl rfl (.cons rfl rfl (.cons rfl rfl .nil))))
              · refine rn 4 rfl ?_
                obtain ⟨y1021, ey1021, h1022⟩ := bd h1020; clear h1020
                refine sx rfl (o_idx ey1021 rfl rfl rfl ?_)
                refine rl rfl ?_
                have hr := Option.some.inj h1022; subst hr
                exact npn (wk [(0, 0), (1, 1), (2, 2)] (free hA _) rfl rfl rfl (.cons rfl (.cons rfl (.cons rfl (.cons rfl (.cons rfl (.cons rfl (.cons rfl (.cons rfl .nil)))))))) (.cons rfl rfl (.cons rfl rfl (.cons rfl rfl .nil))))
            · refine cd rfl h1023 (fun h1024 => ?_) (fun h1027 => ?_) <;> clear h1023
              · refine rs env_ok ?_
                refine rl rfl ?_
                refine dwp_ret ?_
                refine thenD_r ?_
                refine inB_r ?_
                refine thenD_r ?_
                obtain ⟨a1025, h1026, rfl⟩ := mps h1024; clear h1024
                refine lpt ?_
                refine inB_r ?_
                refine thenD_r ?_
                have hr := Option.some.inj h1026; subst hr
                exact er rfl Le.rfl
              · refine dwp_skip ?_
                refine thenD_n ?_
                refine rg env_ok ?_
                refine rn 3 rfl ?_
                refine sx rfl (o_mup (et := 4) (ke := (fun x => .agg (portC x))) (ve := .bool) (mp := s516.2) (y := y942.at_) (z := true) keyE_65 rfl rfl rfl rfl rfl rfl ?_)
                refine rl rfl ?_
                refine inB_n ?_
                refine thenD_n ?_
                refine rg env_ok ?_
                refine rl rfl ?_
                have hr := Option.some.inj h1027; subst hr
                exact lpn (wk [(0, 0), (1, 1)] (free hA _) rfl rfl rfl (.cons rfl (.cons rfl (.cons rfl (.cons rfl (.cons rfl (.cons rfl .nil)))))) (.cons rfl rfl (.cons rfl rfl .nil)))
  · refine dwp_exit ?_
    refine thenD_x ?_
    obtain ⟨a1029, h1030, rfl⟩ := mp h1028; clear h1028
    refine lpx ?_
    refine inB_x ?_
    refine thenD_n ?_
    refine dwp_seq ?_
    refine rs env_ok ?_
    refine rn 2 rfl ?_
    refine sx rfl (o_len rfl rfl ?_)
    refine rl rfl ?_
    refine dwp_block ?_
    apply lp (a := a1029) (fun s1128 : Int => ⟨88, [(5, .lmap 0), (70, .p (.slice 3 (x0.elems.map elemC))), (71, .p (.int .i64 (x0.elems.length : Int))), (72, .p (.int .i64 s1128))], [(0, .map (mapD (fun x => .agg (portC x)) .bool s516.2))], 1⟩) h1030 <;> clear h1030
    · exact wk [(0, 1)] (free hA _) rfl rfl rfl (.cons rfl (.cons rfl (.cons rfl (.cons rfl .nil)))) (.cons rfl rfl .nil)
    intro s1128 b1189 h1190
    unfold g_plan_signals_l2 at h1190
    refine rs env_ok ?_
    refine rl rfl ?_
    refine dwp_seq ?_
    refine cd rfl h1190 (fun h1193 => ?_) (fun h1222 => ?_) <;> clear h1190
    · refine dwp_skip ?_
      refine thenD_n ?_
      refine dwp_seq ?_
      refine dwp_block ?_
      refine rs env_ok ?_
      refine rn 1 rfl ?_
      obtain ⟨y1209, ey1209, h1210⟩ := bd h1193; clear h1193
      refine sx rfl (o_idx ey1209 rfl rfl rfl ?_)
      refine rl rfl ?_
      refine jb (fun t1213 : Bool => ⟨88, [(5, .lmap 0), (70, .p (.slice 3 (x0.elems.map elemC))), (71, .p (.int .i64 (x0.elems.length : Int))), (72, .p (.int .i64 s1128)), (86, .p (.bool t1213))], [(0, .map (mapD (fun x => .agg (portC x)) .bool s516.2))], 1⟩) h1210 (fun t1213 h1214 => ?_) (fun t1213 h1217 => ?_) <;> clear h1210
      · refine rg env_ok ?_
        refine rn 4 rfl ?_
        refine gs 80 h1214 rfl rfl rfl (fun h1215 => ?_) (fun h1216 => ?_) <;> clear h1214
        · refine rn 3 rfl ?_
          refine sx rfl (o_lk1 (et := 4) (ke := (fun x => .agg (portC x))) (ve := .bool) (mp := s516.2) (y := (⟨s1128, 0⟩ : Port)) false keyE_65 rfl rfl rfl rfl ?_)
          refine rl rfl ?_
          have hr := Option.some.inj h1215; subst hr
          exact npn (wk [(0, 0)] (free hA _) rfl rfl rfl (.cons rfl (.cons rfl (.cons rfl (.cons rfl (.cons rfl .nil))))) (.cons rfl rfl .nil))
        · refine rl rfl ?_
          have hr := Option.some.inj h1216; subst hr
          exact npn (wk [(0, 0)] (free hA _) rfl rfl rfl (.cons rfl (.cons rfl (.cons rfl (.cons rfl (.cons rfl .nil))))) (.cons rfl rfl .nil))
      · refine cd rfl h1217 (fun h1218 => ?_) (fun h1221 => ?_) <;> clear h1217
        · refine rs env_ok ?_
          refine rl rfl ?_
          refine dwp_ret ?_
          refine inB_r ?_
          refine thenD_r ?_
          obtain ⟨a1219, h1220, rfl⟩ := mps h1218; clear h1218
          refine lpt ?_
          refine inB_r ?_
          refine thenD_r ?_
          have hr := Option.some.inj h1220; subst hr
          exact er rfl Le.rfl
        · refine dwp_skip ?_
          refine inB_n ?_
          refine thenD_n ?_
          refine rg env_ok ?_
          refine rl rfl ?_
          have hr := Option.some.inj h1221; subst hr
          exact lpn (wk [(0, 0)] (free hA _) rfl rfl rfl (.cons rfl (.cons rfl (.cons rfl (.cons rfl .nil)))) (.cons rfl rfl .nil))
    · refine dwp_exit ?_
      refine thenD_x ?_
      obtain ⟨a1223, h1224, rfl⟩ := mps h1222; clear h1222
      refine lpx ?_
      refine inB_x ?_
      refine thenD_n ?_
      refine rs env_ok ?_
      refine rl rfl ?_
      refine dwp_ret ?_
      have hr := Option.some.inj h1224; subst hr
      exact er rfl Le.rfl

noncomputable def g_plan_row_l2 (x0 : (List Int)) (x1 : (List (Port × Port))) (s464 : Int × Int) : Option ((Int × Int) ⊕ Bool) :=
  bif decide (s464.2 < (x0.length : Int)) then (idx x0 (wi64 (s464.2 - 1))).bind fun y630 => ((bif (!(assoc x1 (⟨y630, s464.1⟩ : Port)).isSome) then some true else (idx x0 s464.2).bind fun y653 => some ((((assoc x1 (⟨y630, s464.1⟩ : Port)).getD (⟨0, 0⟩ : Port)).elem) != y653) : Option (Bool))).bind fun (t649 : Bool) => bif t649 then some (.inr false) else some (.inl (wi64 (1 - (((assoc x1 (⟨y630, s464.1⟩ : Port)).getD (⟨0, 0⟩ : Port)).fin)), wi64 (s464.2 + 1))) else some (.inr true)

noncomputable def g_plan_row_l1 (x0 : (List Int)) (x1 : (List (Port × Port))) (s133 : Int × Int) : Option ((Int × Int) ⊕ Bool) :=
  bif decide (0 ≤ s133.2) then (((idx x0 0).bind fun y242 => ((bif (assoc x1 (⟨y242, s133.2⟩ : Port)).isSome then (idx x0 1).bind fun y251 => some ((((assoc x1 (⟨y242, s133.2⟩ : Port)).getD (⟨0, 0⟩ : Port)).elem) == y251) else some false : Option (Bool))).bind fun (t248 : Bool) => bif t248 then some s133.2 else some s133.1 : Option (Int))).bind fun (t238 : Int) => some (.inl (t238, wi64 (s133.2 - 1))) else (bif decide (s133.1 < 0) then some false else loopR (g_plan_row_l2 x0 x1) (s133.1, 1)).map .inr

noncomputable def g_plan_row (x0 : (List Int)) (x1 : (List (Port × Port))) : Option Bool :=
  bif decide ((x0.length : Int) < 2) then some true else loopR (g_plan_row_l1 x0 x1) ((-1), 1)

theorem f_plan_row (x0 : (List Int)) (x1 : (List (Port × Port))) (r : Bool) (h : g_plan_row x0 x1 = some r) : Fun Try.prog 136 [.slice 1 (x0.map intC), .map (mapD (fun x => .agg (portC x)) (fun x => .agg (portC x)) x1)] (· = .bool r) := by
  refine fn env_ok Try.func136 rfl rfl 73 rfl [.tmp 4] rfl [(0, .p (.slice 1 (x0.map intC))), (1, .p (.map (mapD (fun x => .agg (portC x)) (fun x => .agg (portC x)) x1)))] rfl rfl fun A hA => ?_
  unfold g_plan_row at h
  refine rs env_ok ?_
  refine rl rfl ?_
  refine dwp_seq ?_
  refine rs env_ok ?_
  refine rn 1 rfl ?_
  refine sx rfl (o_len rfl rfl ?_)
  refine rl rfl ?_
  refine cd rfl h (fun h3 => ?_) (fun h4 => ?_) <;> clear h
  · refine rs env_ok ?_
    refine rl rfl ?_
    refine dwp_ret ?_
    refine thenD_r ?_
    have hr := Option.some.inj h3; subst hr
    exact er rfl Le.rfl
  · refine dwp_skip ?_
    refine thenD_n ?_
    refine rs env_ok ?_
    refine rl rfl ?_
    refine dwp_seq ?_
    refine rs env_ok ?_
    refine rl rfl ?_
    refine dwp_block ?_
    apply lp (a := r) (fun s133 : (Int × Int) => ⟨73, [(0, .p (.slice 1 (x0.map intC))), (1, .p (.map (mapD (fun x => .agg (portC x)) (fun x => .agg (portC x)) x1))), (5, .p (.int .i64 s133.1)), (6, .p (.int .i64 s133.2))], [], 0⟩) h4 <;> clear h4
    · exact wk [] (free hA _) rfl rfl rfl (.cons rfl (.cons rfl (.cons rfl (.cons rfl .nil)))) .nil
    intro s133 b216 h217
    unfold g_plan_row_l1 at h217
    refine dwp_seq ?_
    refine rs env_ok ?_
    refine rl rfl ?_
    refine cd rfl h217 (fun h220 => ?_) (fun h258 => ?_) <;> clear h217
    · refine dwp_skip ?_
      refine thenD_n ?_
      refine jb (fun t238 : Int => ⟨73, [(0, .p (.slice 1 (x0.map intC))), (1, .p (.map (mapD (fun x => .agg (portC x)) (fun x => .agg (portC x)) x1))), (5, .p (.int .i64 t238)), (6, .p (.int .i64 s133.2))], [], 0⟩) h220 (fun t238 h239 => ?_) (fun t238 h257 => ?_) <;> clear h220
      · refine dwp_block ?_
        refine rs env_ok ?_
        refine rn 2 rfl ?_
        obtain ⟨y242, ey242, h243⟩ := bd h239; clear h239
        refine sx rfl (o_idx ey242 rfl rfl rfl ?_)
        refine rn 3 rfl ?_
        refine sx rfl (o_lk2 (et := 65) (ke := (fun x => .agg (portC x))) (ve := (fun x => .agg (portC x))) (mp := x1) (y := (⟨y242, s133.2⟩ : Port)) (⟨0, 0⟩ : Port) keyE_65 rfl rfl rfl rfl ?_)
        refine rl rfl ?_
        refine jb (fun t248 : Bool => ⟨73, [(0, .p (.slice 1 (x0.map intC))), (1, .p (.map (mapD (fun x => .agg (portC x)) (fun x => .agg (portC x)) x1))), (5, .p (.int .i64 s133.1)), (6, .p (.int .i64 s133.2)), (37, .p (.bool t248))], [], 0⟩) h243 (fun t248 h249 => ?_) (fun t248 h254 => ?_) <;> clear h243
        · refine rgd env_ok mixed [0, 1, 2, 3, 4, 5, 6, 7, 8] 9 (by kernel_rfl) rfl rfl rfl ?_
          refine rnD 2 rfl ?_
          refine gsD 30 h249 rfl rfl rfl (fun h250 => ?_) (fun h253 => ?_) <;> clear h249
          · refine rnD 3 rfl ?_
            obtain ⟨y251, ey251, h252⟩ := bd h250; clear h250
            refine sxD rfl (opD_plain rfl (o_idx ey251 rfl rfl rfl ?_))
            refine rlD rfl ?_
            have hr := Option.some.inj h252; subst hr
            exact npn (wk [] (free hA _) rfl rfl rfl (.cons rfl (.cons rfl (.cons rfl (.cons rfl (.cons rfl .nil))))) .nil)
          · refine rlD rfl ?_
            have hr := Option.some.inj h253; subst hr
            exact npn (wk [] (free hA _) rfl rfl rfl (.cons rfl (.cons rfl (.cons rfl (.cons rfl (.cons rfl .nil))))) .nil)
        · refine cd rfl h254 (fun h255 => ?_) (fun h256 => ?_) <;> clear h254
          · refine rg env_ok ?_
            refine rl rfl ?_
            refine inB_n ?_
            have hr := Option.some.inj h255; subst hr
            exact npn (wk [] (free hA _) rfl rfl rfl (.cons rfl (.cons rfl (.cons rfl (.cons rfl .nil)))) .nil)
          · refine dwp_skip ?_
            refine inB_n ?_
            have hr := Option.some.inj h256; subst hr
            exact npn (wk [] (free hA _) rfl rfl rfl (.cons rfl (.cons rfl (.cons rfl (.cons rfl .nil)))) .nil)
      · refine rg env_ok ?_
        refine rl rfl ?_
        have hr := Option.some.inj h257; subst hr
        exact lpn (wk [] (free hA _) rfl rfl rfl (.cons rfl (.cons rfl (.cons rfl (.cons rfl .nil)))) .nil)
    · refine dwp_exit ?_
      refine thenD_x ?_
      obtain ⟨a259, h260, rfl⟩ := mp h258; clear h258
      refine lpx ?_
      refine inB_x ?_
      refine thenD_n ?_
      refine dwp_seq ?_
      refine rs env_ok ?_
      refine rl rfl ?_
      refine cd rfl h260 (fun h263 => ?_) (fun h264 => ?_) <;> clear h260
      · refine rs env_ok ?_
        refine rl rfl ?_
        refine dwp_ret ?_
        refine thenD_r ?_
        have hr := Option.some.inj h263; subst hr
        exact er rfl Le.rfl
      · refine dwp_skip ?_
        refine thenD_n ?_
        refine dwp_seq ?_
        refine rs env_ok ?_
        refine rl rfl ?_
        refine dwp_block ?_
        apply lp (a := a259) (fun s464 : (Int × Int) => ⟨73, [(0, .p (.slice 1 (x0.map intC))), (1, .p (.map (mapD (fun x => .agg (portC x)) (fun x => .agg (portC x)) x1))), (5, .p (.int .i64 s464.1)), (9, .p (.int .i64 s464.2))], [], 0⟩) h264 <;> clear h264
        · exact wk [] (free hA _) rfl rfl rfl (.cons rfl (.cons rfl (.cons rfl (.cons rfl .nil)))) .nil
        intro s464 b593 h594
        unfold g_plan_row_l2 at h594
        refine dwp_seq ?_
        refine rs env_ok ?_
        refine rn 2 rfl ?_
        refine sx rfl (o_len rfl rfl ?_)
        refine rl rfl ?_
        refine cd rfl h594 (fun h597 => ?_) (fun h660 => ?_) <;> clear h594
        · refine dwp_skip ?_
          refine thenD_n ?_
          refine dwp_seq ?_
          refine dwp_block ?_
          refine rs env_ok ?_
          refine rn 4 rfl ?_
          obtain ⟨y630, ey630, h631⟩ := bd h597; clear h597
          refine sx rfl (o_idx ey630 rfl rfl rfl ?_)
          refine rn 3 rfl ?_
          refine sx rfl (o_lk2 (et := 65) (ke := (fun x => .agg (portC x))) (ve := (fun x => .agg (portC x))) (mp := x1) (y := (⟨y630, s464.1⟩ : Port)) (⟨0, 0⟩ : Port) keyE_65 rfl rfl rfl rfl ?_)
          refine rl rfl ?_
          refine dwp_seq ?_
          refine jb (fun t649 : Bool => ⟨73, [(0, .p (.slice 1 (x0.map intC))), (1, .p (.map (mapD (fun x => .agg (portC x)) (fun x => .agg (portC x)) x1))), (9, .p (.int .i64 s464.2)), (10, .lpb 0 0), (69, .p (.bool t649))], [(0, .box [.p (.int .i64 (((assoc x1 (⟨y630, s464.1⟩ : Port)).getD (⟨0, 0⟩ : Port)).elem)), .p (.int .i64 (((assoc x1 (⟨y630, s464.1⟩ : Port)).getD (⟨0, 0⟩ : Port)).fin))])], 1⟩) h631 (fun t649 h650 => ?_) (fun t649 h655 => ?_) <;> clear h631
          · refine rgd env_ok mixed [0, 1, 2, 3, 4, 5, 6, 7, 8, 9, 10] 11 (by kernel_rfl) rfl rfl rfl ?_
            refine rnD 3 rfl ?_
            refine gsD 61 h650 rfl rfl rfl (fun h651 => ?_) (fun h652 => ?_) <;> clear h650
            · refine rlD rfl ?_
              have hr := Option.some.inj h651; subst hr
              exact npn (wk [(0, 0)] (free hA _) rfl rfl rfl (.cons rfl (.cons rfl (.cons rfl (.cons rfl (.cons rfl .nil))))) (.cons rfl rfl .nil))
            · refine rnD 4 rfl ?_
              obtain ⟨y653, ey653, h654⟩ := bd h652; clear h652
              refine sxD rfl (opD_plain rfl (o_idx ey653 rfl rfl rfl ?_))
              refine rlD rfl ?_
              have hr := Option.some.inj h654; subst hr
              exact npn (wk [(0, 0)] (free hA _) rfl rfl rfl (.cons rfl (.cons rfl (.cons rfl (.cons rfl (.cons rfl .nil))))) (.cons rfl rfl .nil))
          · refine cd rfl h655 (fun h656 => ?_) (fun h659 => ?_) <;> clear h655
            · refine rs env_ok ?_
              refine rl rfl ?_
              refine dwp_ret ?_
              refine thenD_r ?_
              refine inB_r ?_
              refine thenD_r ?_
              obtain ⟨a657, h658, rfl⟩ := mps h656; clear h656
              refine lpt ?_
              refine inB_r ?_
              refine thenD_r ?_
              have hr := Option.some.inj h658; subst hr
              exact er rfl Le.rfl
            · refine dwp_skip ?_
              refine thenD_n ?_
              refine rg env_ok ?_
              refine rl rfl ?_
              refine inB_n ?_
              refine thenD_n ?_
              refine rg env_ok ?_
              refine rl rfl ?_
              have hr := Option.some.inj h659; subst hr
              exact lpn (wk [] (free hA _) rfl rfl rfl (.cons rfl (.cons rfl (.cons rfl (.cons rfl .nil)))) .nil)
        · refine dwp_exit ?_
          refine thenD_x ?_
          obtain ⟨a661, h662, rfl⟩ := mps h660; clear h660
          refine lpx ?_
          refine inB_x ?_
          refine thenD_n ?_
          refine rs env_ok ?_
          refine rl rfl ?_
          refine dwp_ret ?_
          have hr := Option.some.inj h662; subst hr
          exact er rfl Le.rfl

end Go.E
/- Plain functions, and walks in step with them. Written by a program (gen.py). No condition. -/
set_option maxRecDepth 100000
namespace Go.E
open Go Go.RowKit Go.Proofs

noncomputable def g_plan_lines_l2 (x0 : Plan) (x1 : (List (Port × Port))) (s3648 : (Int × (List (Int × Bool)))) (y6684 : Line) (s6987 : Int × (List (Int × Bool))) : Option ((Int × (List (Int × Bool))) ⊕ ((Int × (List (Int × Bool))) ⊕ Bool)) :=
  bif decide (s6987.1 < (y6684.elems.length : Int)) then (idx y6684.elems s6987.1).bind fun y7233 => ((bif decide (y7233 < 0) then some true else bif decide ((x0.elems.length : Int) ≤ y7233) then some true else (idx x0.elems y7233).bind fun y7270 => bif (y7270.kind != 1) then some true else some ((assoc s6987.2 y7233).getD false) : Option (Bool))).bind fun (t7264 : Bool) => bif t7264 then some (.inr (.inr false)) else some (.inl (wi64 (s6987.1 + 1), aput y7233 true s6987.2)) else ((g_plan_row y6684.elems x1).bind fun y7286 => bif (!y7286) then some (.inr false) else some (.inl (wi64 (s3648.1 + 1), s6987.2))).map .inr

noncomputable def g_plan_lines_l1 (x0 : Plan) (x1 : (List (Port × Port))) (s3648 : Int × (List (Int × Bool))) : Option ((Int × (List (Int × Bool))) ⊕ Bool) :=
  bif decide (s3648.1 < (x0.lines.length : Int)) then (idx x0.lines s3648.1).bind fun y6684 => bif ((y6684.elems.length : Int) == 0) then some (.inr false) else loopR (g_plan_lines_l2 x0 x1 s3648 y6684) (0, s3648.2) else some (.inr true)

noncomputable def g_plan_lines (x0 : Plan) (x1 : (List (Port × Port))) : Option Bool :=
  loopR (g_plan_lines_l1 x0 x1) (0, [])

theorem f_plan_lines (x0 : Plan) (x1 : (List (Port × Port))) (r : Bool) (h : g_plan_lines x0 x1 = some r) : Fun Try.prog 110 [.agg (planC x0), .map (mapD (fun x => .agg (portC x)) (fun x => .agg (portC x)) x1)] (· = .bool r) := by
  refine fn env_ok Try.func110 rfl rfl 61 rfl [.tmp 4] rfl [(0, .p (.agg (planC x0))), (1, .p (.map (mapD (fun x => .agg (portC x)) (fun x => .agg (portC x)) x1)))] rfl rfl fun A hA => ?_
  unfold g_plan_lines at h
  refine rs env_ok ?_
  refine rl rfl ?_
  refine rs env_ok ?_
  refine rl rfl ?_
  refine dwp_seq ?_
  refine rs env_ok ?_
  refine rn 2 rfl ?_
  refine sx rfl (o_len rfl rfl ?_)
  refine rl rfl ?_
  refine dwp_block ?_
  apply lp (a := r) (fun s3648 : (Int × (List (Int × Bool))) => ⟨61, [(1, .p (.map (mapD (fun x => .agg (portC x)) (fun x => .agg (portC x)) x1))), (2, .lpb 0 0), (5, .lmap 1), (12, .p (.slice 2 (x0.lines.map lineC))), (13, .p (.int .i64 (x0.lines.length : Int))), (14, .p (.int .i64 s3648.1))], [(0, .box [.p (.slice 3 (x0.elems.map elemC)), .p (.slice 4 (x0.joins.map joinC)), .p (.slice 4 (x0.signals.map signalC)), .p (.slice 2 (x0.lines.map lineC)), .p (.int .i64 x0.top), .p (.int .i64 x0.brake), .p (.int .i64 x0.margin), .p (.int .i64 x0.throw), .p (.bool x0.hard)]), (1, .map (mapD (.int .i64) .bool s3648.2))], 2⟩) h <;> clear h
  · exact wk [(0, 0), (1, 1)] (free hA _) rfl rfl rfl (.cons rfl (.cons rfl (.cons rfl (.cons rfl (.cons rfl (.cons rfl .nil)))))) (.cons rfl rfl (.cons rfl rfl .nil))
  intro s3648 b6073 h6074
  unfold g_plan_lines_l1 at h6074
  refine rs env_ok ?_
  refine rl rfl ?_
  refine dwp_seq ?_
  refine cd rfl h6074 (fun h6077 => ?_) (fun h7292 => ?_) <;> clear h6074
  · refine dwp_skip ?_
    refine thenD_n ?_
    refine dwp_seq ?_
    refine dwp_block ?_
    refine rs env_ok ?_
    obtain ⟨y6684, ey6684, h6685⟩ := bd h6077; clear h6077
    refine sx rfl (o_idx ey6684 rfl rfl rfl ?_)
    refine rl rfl ?_
    refine dwp_seq ?_
    refine rs env_ok ?_
    refine rn 2 rfl ?_
    refine sx rfl (o_len rfl rfl ?_)
    refine rl rfl ?_
    refine cd rfl h6685 (fun h6688 => ?_) (fun h6691 => ?_) <;> clear h6685
    · refine rs env_ok ?_
      refine rl rfl ?_
      refine dwp_ret ?_
      refine thenD_r ?_
      refine inB_r ?_
      refine thenD_r ?_
      obtain ⟨a6689, h6690, rfl⟩ := mps h6688; clear h6688
      refine lpt ?_
      refine inB_r ?_
      refine thenD_r ?_
      have hr := Option.some.inj h6690; subst hr
      exact er rfl Le.rfl
    · refine dwp_skip ?_
      refine thenD_n ?_
      refine dwp_seq ?_
      refine rs env_ok ?_
      refine rn 2 rfl ?_
      refine sx rfl (o_len rfl rfl ?_)
      refine rl rfl ?_
      refine dwp_block ?_
      apply lp (a := b6073) (fun s6987 : (Int × (List (Int × Bool))) => ⟨61, [(1, .p (.map (mapD (fun x => .agg (portC x)) (fun x => .agg (portC x)) x1))), (2, .lpb 0 0), (5, .lmap 1), (7, .lpb 2 0), (12, .p (.slice 2 (x0.lines.map lineC))), (13, .p (.int .i64 (x0.lines.length : Int))), (14, .p (.int .i64 s3648.1)), (23, .p (.slice 1 (y6684.elems.map intC))), (24, .p (.int .i64 (y6684.elems.length : Int))), (25, .p (.int .i64 s6987.1))], [(0, .box [.p (.slice 3 (x0.elems.map elemC)), .p (.slice 4 (x0.joins.map joinC)), .p (.slice 4 (x0.signals.map signalC)), .p (.slice 2 (x0.lines.map lineC)), .p (.int .i64 x0.top), .p (.int .i64 x0.brake), .p (.int .i64 x0.margin), .p (.int .i64 x0.throw), .p (.bool x0.hard)]), (1, .map (mapD (.int .i64) .bool s6987.2)), (2, .box [.p (.str y6684.name), .p (.slice 1 (y6684.elems.map intC))])], 3⟩) h6691 <;> clear h6691
      · exact wk [(0, 0), (1, 1), (2, 2)] (free hA _) rfl rfl rfl (.cons rfl (.cons rfl (.cons rfl (.cons rfl (.cons rfl (.cons rfl (.cons rfl (.cons rfl (.cons rfl (.cons rfl .nil)))))))))) (.cons rfl rfl (.cons rfl rfl (.cons rfl rfl .nil)))
      intro s6987 b7180 h7181
      unfold g_plan_lines_l2 at h7181
      refine rs env_ok ?_
      refine rl rfl ?_
      refine dwp_seq ?_
      refine cd rfl h7181 (fun h7184 => ?_) (fun h7281 => ?_) <;> clear h7181
      · refine dwp_skip ?_
        refine thenD_n ?_
        refine dwp_seq ?_
        refine dwp_block ?_
        refine rs env_ok ?_
        obtain ⟨y7233, ey7233, h7234⟩ := bd h7184; clear h7184
        refine sx rfl (o_idx ey7233 rfl rfl rfl ?_)
        refine rl rfl ?_
        refine dwp_seq ?_
        refine jb (fun t7264 : Bool => ⟨61, [(1, .p (.map (mapD (fun x => .agg (portC x)) (fun x => .agg (portC x)) x1))), (2, .lpb 0 0), (5, .lmap 1), (7, .lpb 2 0), (9, .p (.int .i64 y7233)), (12, .p (.slice 2 (x0.lines.map lineC))), (13, .p (.int .i64 (x0.lines.length : Int))), (14, .p (.int .i64 s3648.1)), (23, .p (.slice 1 (y6684.elems.map intC))), (24, .p (.int .i64 (y6684.elems.length : Int))), (25, .p (.int .i64 s6987.1)), (51, .p (.bool t7264))], [(0, .box [.p (.slice 3 (x0.elems.map elemC)), .p (.slice 4 (x0.joins.map joinC)), .p (.slice 4 (x0.signals.map signalC)), .p (.slice 2 (x0.lines.map lineC)), .p (.int .i64 x0.top), .p (.int .i64 x0.brake), .p (.int .i64 x0.margin), .p (.int .i64 x0.throw), .p (.bool x0.hard)]), (1, .map (mapD (.int .i64) .bool s6987.2)), (2, .box [.p (.str y6684.name), .p (.slice 1 (y6684.elems.map intC))])], 3⟩) h7234 (fun t7264 h7265 => ?_) (fun t7264 h7274 => ?_) <;> clear h7234
        · refine rg env_ok ?_
          refine rn 3 rfl ?_
          refine gs 31 h7265 rfl rfl rfl (fun h7266 => ?_) (fun h7267 => ?_) <;> clear h7265
          · refine rl rfl ?_
            have hr := Option.some.inj h7266; subst hr
            exact npn (wk [(0, 0), (1, 1), (2, 2)] (free hA _) rfl rfl rfl (.cons rfl (.cons rfl (.cons rfl (.cons rfl (.cons rfl (.cons rfl (.cons rfl (.cons rfl (.cons rfl (.cons rfl (.cons rfl (.cons rfl .nil)))))))))))) (.cons rfl rfl (.cons rfl rfl (.cons rfl rfl .nil))))
          · refine rn 3 rfl ?_
            refine sx rfl (o_len rfl rfl ?_)
            refine rn 3 rfl ?_
            refine gs 38 h7267 rfl rfl rfl (fun h7268 => ?_) (fun h7269 => ?_) <;> clear h7267
            · refine rl rfl ?_
              have hr := Option.some.inj h7268; subst hr
              exact npn (wk [(0, 0), (1, 1), (2, 2)] (free hA _) rfl rfl rfl (.cons rfl (.cons rfl (.cons rfl (.cons rfl (.cons rfl (.cons rfl (.cons rfl (.cons rfl (.cons rfl (.cons rfl (.cons rfl (.cons rfl .nil)))))))))))) (.cons rfl rfl (.cons rfl rfl (.cons rfl rfl .nil))))
            · refine rn 3 rfl ?_
              obtain ⟨y7270, ey7270, h7271⟩ := bd h7269; clear h7269
              refine sx rfl (o_idx ey7270 rfl rfl rfl ?_)
              refine rn 5 rfl ?_
              refine gs 47 h7271 rfl rfl rfl (fun h7272 => ?_) (fun h7273 => ?_) <;> clear h7271
              · refine rl rfl ?_
                have hr := Option.some.inj h7272; subst hr
                exact npn (wk [(0, 0), (1, 1), (2, 2)] (free hA _) rfl rfl rfl (.cons rfl (.cons rfl (.cons rfl (.cons rfl (.cons rfl (.cons rfl (.cons rfl (.cons rfl (.cons rfl (.cons rfl (.cons rfl (.cons rfl .nil)))))))))))) (.cons rfl rfl (.cons rfl rfl (.cons rfl rfl .nil))))
              · refine rn 2 rfl ?_
                refine sx rfl (o_lk1 (et := 4) (ke := (.int .i64)) (ve := .bool) (mp := s6987.2) (y := y7233) false keyE_3 rfl rfl rfl rfl ?_)
                refine rl rfl ?_
                have hr := Option.some.inj h7273; subst hr
                exact npn (wk [(0, 0), (1, 1), (2, 2)] (free hA _) rfl rfl rfl (.cons rfl (.cons rfl (.cons rfl (.cons rfl (.cons rfl (.cons rfl (.cons rfl (.cons rfl (.cons rfl (.cons rfl (.cons rfl (.cons rfl .nil)))))))))))) (.cons rfl rfl (.cons rfl rfl (.cons rfl rfl .nil))))
        · refine cd rfl h7274 (fun h7275 => ?_) (fun h7280 => ?_) <;> clear h7274
          · refine rs env_ok ?_
            refine rl rfl ?_
            refine dwp_ret ?_
            refine thenD_r ?_
            refine inB_r ?_
            refine thenD_r ?_
            obtain ⟨a7276, h7277, rfl⟩ := mps h7275; clear h7275
            refine lpt ?_
            refine inB_r ?_
            refine thenD_r ?_
            refine inB_r ?_
            refine thenD_r ?_
            obtain ⟨a7278, h7279, rfl⟩ := mps h7277; clear h7277
            refine lpt ?_
            refine inB_r ?_
            refine thenD_r ?_
            have hr := Option.some.inj h7279; subst hr
            exact er rfl Le.rfl
          · refine dwp_skip ?_
            refine thenD_n ?_
            refine rg env_ok ?_
            refine rn 2 rfl ?_
            refine sx rfl (o_mup (et := 4) (ke := (.int .i64)) (ve := .bool) (mp := s6987.2) (y := y7233) (z := true) keyE_3 rfl rfl rfl rfl rfl rfl ?_)
            refine rl rfl ?_
            refine inB_n ?_
            refine thenD_n ?_
            refine rg env_ok ?_
            refine rl rfl ?_
            have hr := Option.some.inj h7280; subst hr
            exact lpn (wk [(0, 0), (1, 1), (2, 2)] (free hA _) rfl rfl rfl (.cons rfl (.cons rfl (.cons rfl (.cons rfl (.cons rfl (.cons rfl (.cons rfl (.cons rfl (.cons rfl (.cons rfl .nil)))))))))) (.cons rfl rfl (.cons rfl rfl (.cons rfl rfl .nil))))
      · refine dwp_exit ?_
        refine thenD_x ?_
        obtain ⟨a7282, h7283, rfl⟩ := mp h7281; clear h7281
        refine lpx ?_
        refine inB_x ?_
        refine thenD_n ?_
        refine rs env_ok ?_
        refine rn 3 rfl ?_
        obtain ⟨y7286, ey7286, h7287⟩ := bd h7283; clear h7283
        refine sx rfl (o_call (f_plan_row _ _ _ ey7286) (.inl rfl) rfl rfl rfl ?_)
        refine rl rfl ?_
        refine cd rfl h7287 (fun h7288 => ?_) (fun h7291 => ?_) <;> clear h7287
        · refine rs env_ok ?_
          refine rl rfl ?_
          refine dwp_ret ?_
          refine inB_r ?_
          refine thenD_r ?_
          obtain ⟨a7289, h7290, rfl⟩ := mps h7288; clear h7288
          refine lpt ?_
          refine inB_r ?_
          refine thenD_r ?_
          have hr := Option.some.inj h7290; subst hr
          exact er rfl Le.rfl
        · refine dwp_skip ?_
          refine inB_n ?_
          refine thenD_n ?_
          refine rg env_ok ?_
          refine rl rfl ?_
          have hr := Option.some.inj h7291; subst hr
          exact lpn (wk [(0, 0), (1, 1)] (free hA _) rfl rfl rfl (.cons rfl (.cons rfl (.cons rfl (.cons rfl (.cons rfl (.cons rfl .nil)))))) (.cons rfl rfl (.cons rfl rfl .nil)))
  · refine dwp_exit ?_
    refine thenD_x ?_
    obtain ⟨a7293, h7294, rfl⟩ := mps h7292; clear h7292
    refine lpx ?_
    refine inB_x ?_
    refine thenD_n ?_
    refine rs env_ok ?_
    refine rl rfl ?_
    refine dwp_ret ?_
    have hr := Option.some.inj h7294; subst hr
    exact er rfl Le.rfl

noncomputable def g_plan_Stop_l1 (x1 : Int) (s52 : Int × Int) : Option ((Int × Int) ⊕ Int) :=
  bif decide (0 < s52.1) then some (.inl (wi64 (s52.1 - x1), wi64 (s52.2 + s52.1))) else some (.inr s52.2)

noncomputable def g_plan_Stop (x0 : Int) (x1 : Int) : Option Int :=
  ((bif decide (x0 < 0) then some true else bif decide (60 < x0) then some true else bif decide (x1 < 1) then some true else some (decide (10 < x1)) : Option (Bool))).bind fun (t24 : Bool) => bif t24 then some 0 else loopR (g_plan_Stop_l1 x1) (wi64 (x0 - x1), 0)

theorem f_plan_Stop (x0 : Int) (x1 : Int) (r : Int) (h : g_plan_Stop x0 x1 = some r) : Fun Try.prog 137 [.int .i64 x0, .int .i64 x1] (· = .int .i64 r) := by
  refine fn env_ok Try.func137 rfl rfl 32 rfl [.tmp 4] rfl [(0, .p (.int .i64 x0)), (1, .p (.int .i64 x1))] rfl rfl fun A hA => ?_
  unfold g_plan_Stop at h
  refine rs env_ok ?_
  refine rl rfl ?_
  refine dwp_seq ?_
  refine jb (fun t24 : Bool => ⟨32, [(0, .p (.int .i64 x0)), (1, .p (.int .i64 x1)), (19, .p (.bool t24))], [], 0⟩) h (fun t24 h25 => ?_) (fun t24 h32 => ?_) <;> clear h
  · refine rg env_ok ?_
    refine rn 3 rfl ?_
    refine gs 8 h25 rfl rfl rfl (fun h26 => ?_) (fun h27 => ?_) <;> clear h25
    · refine rl rfl ?_
      have hr := Option.some.inj h26; subst hr
      exact npn (wk [] (free hA _) rfl rfl rfl (.cons rfl (.cons rfl (.cons rfl .nil))) .nil)
    · refine rn 4 rfl ?_
      refine gs 12 h27 rfl rfl rfl (fun h28 => ?_) (fun h29 => ?_) <;> clear h27
      · refine rl rfl ?_
        have hr := Option.some.inj h28; subst hr
        exact npn (wk [] (free hA _) rfl rfl rfl (.cons rfl (.cons rfl (.cons rfl .nil))) .nil)
      · refine rn 4 rfl ?_
        refine gs 16 h29 rfl rfl rfl (fun h30 => ?_) (fun h31 => ?_) <;> clear h29
        · refine rl rfl ?_
          have hr := Option.some.inj h30; subst hr
          exact npn (wk [] (free hA _) rfl rfl rfl (.cons rfl (.cons rfl (.cons rfl .nil))) .nil)
        · refine rl rfl ?_
          have hr := Option.some.inj h31; subst hr
          exact npn (wk [] (free hA _) rfl rfl rfl (.cons rfl (.cons rfl (.cons rfl .nil))) .nil)
  · refine cd rfl h32 (fun h33 => ?_) (fun h34 => ?_) <;> clear h32
    · refine rs env_ok ?_
      refine rl rfl ?_
      refine dwp_ret ?_
      refine thenD_r ?_
      have hr := Option.some.inj h33; subst hr
      exact er rfl Le.rfl
    · refine dwp_skip ?_
      refine thenD_n ?_
      refine rs env_ok ?_
      refine rl rfl ?_
      refine dwp_seq ?_
      refine rs env_ok ?_
      refine rl rfl ?_
      refine dwp_block ?_
      apply lp (a := r) (fun s52 : (Int × Int) => ⟨32, [(0, .p (.int .i64 s52.1)), (1, .p (.int .i64 x1)), (5, .p (.int .i64 s52.2))], [], 0⟩) h34 <;> clear h34
      · exact wk [] (free hA _) rfl rfl rfl (.cons rfl (.cons rfl (.cons rfl .nil))) .nil
      intro s52 b61 h62
      unfold g_plan_Stop_l1 at h62
      refine dwp_seq ?_
      refine rs env_ok ?_
      refine rl rfl ?_
      refine cd rfl h62 (fun h65 => ?_) (fun h66 => ?_) <;> clear h62
      · refine dwp_skip ?_
        refine thenD_n ?_
        refine dwp_seq ?_
        refine dwp_block ?_
        refine rg env_ok ?_
        refine rl rfl ?_
        refine inB_n ?_
        refine thenD_n ?_
        refine rg env_ok ?_
        refine rl rfl ?_
        have hr := Option.some.inj h65; subst hr
        exact lpn (wk [] (free hA _) rfl rfl rfl (.cons rfl (.cons rfl (.cons rfl .nil))) .nil)
      · refine dwp_exit ?_
        refine thenD_x ?_
        obtain ⟨a67, h68, rfl⟩ := mps h66; clear h66
        refine lpx ?_
        refine inB_x ?_
        refine thenD_n ?_
        refine rs env_ok ?_
        refine rl rfl ?_
        refine dwp_ret ?_
        have hr := Option.some.inj h68; subst hr
        exact er rfl Le.rfl

noncomputable def g_plan_long_l2 (x0 : Plan) (s352 : Int) : Option (Int ⊕ Bool) :=
  bif decide (s352 < (x0.elems.length : Int)) then (idx x0.elems s352).bind fun y433 => ((bif (y433.kind != 4) then some (decide (y433.length < x0.top)) else some false : Option (Bool))).bind fun (t437 : Bool) => bif t437 then some (.inr false) else some (.inl (wi64 (s352 + 1))) else some (.inr true)

noncomputable def g_plan_long_l1 (x0 : Plan) (s134 : Int) : Option (Int ⊕ Bool) :=
  bif decide (s134 < (x0.signals.length : Int)) then (idx x0.signals s134).bind fun y235 => (idx x0.elems y235.at_.elem).bind fun y239 => ((bif (y239.kind == 1) then some (decide (y239.length < x0.margin)) else some false : Option (Bool))).bind fun (t243 : Bool) => bif t243 then some (.inr false) else some (.inl (wi64 (s134 + 1))) else (loopR (g_plan_long_l2 x0) 0).map .inr

noncomputable def g_plan_long (x0 : Plan) : Option Bool :=
  (g_plan_Stop x0.top x0.brake).bind fun y9 => bif decide (x0.margin < wi64 (x0.top + y9)) then some false else loopR (g_plan_long_l1 x0) 0

theorem f_plan_long (x0 : Plan) (r : Bool) (h : g_plan_long x0 = some r) : Fun Try.prog 111 [.agg (planC x0)] (· = .bool r) := by
  refine fn env_ok Try.func111 rfl rfl 62 rfl [.tmp 2] rfl [(0, .p (.agg (planC x0)))] rfl rfl fun A hA => ?_
  unfold g_plan_long at h
  refine rs env_ok ?_
  refine rl rfl ?_
  refine dwp_seq ?_
  refine dwp_seq ?_
  refine rgd env_ok mixed [0, 1, 2, 3, 4, 5, 6, 7, 8, 9, 10] 11 (by kernel_rfl) rfl rfl rfl ?_
  refine rnD 8 rfl ?_
  obtain ⟨y9, ey9, h10⟩ := bd h; clear h
  refine sxD rfl (o_callD (f_plan_Stop _ _ _ ey9) (.inl rfl) rfl rfl rfl ?_)
  refine rlD rfl ?_
  refine thenD_n ?_
  refine cd rfl h10 (fun h11 => ?_) (fun h12 => ?_) <;> clear h10
  · refine rs env_ok ?_
    refine rl rfl ?_
    refine dwp_ret ?_
    refine thenD_r ?_
    have hr := Option.some.inj h11; subst hr
    exact er rfl Le.rfl
  · refine dwp_skip ?_
    refine thenD_n ?_
    refine dwp_seq ?_
    refine rs env_ok ?_
    refine rn 2 rfl ?_
    refine sx rfl (o_len rfl rfl ?_)
    refine rl rfl ?_
    refine dwp_block ?_
    apply lp (a := r) (fun s134 : Int => ⟨62, [(1, .lpb 0 0), (20, .p (.slice 4 (x0.signals.map signalC))), (21, .p (.int .i64 (x0.signals.length : Int))), (22, .p (.int .i64 s134))], [(0, .box [.p (.slice 3 (x0.elems.map elemC)), .p (.slice 4 (x0.joins.map joinC)), .p (.slice 4 (x0.signals.map signalC)), .p (.slice 2 (x0.lines.map lineC)), .p (.int .i64 x0.top), .p (.int .i64 x0.brake), .p (.int .i64 x0.margin), .p (.int .i64 x0.throw), .p (.bool x0.hard)])], 1⟩) h12 <;> clear h12
    · exact wk [(0, 0)] (free hA _) rfl rfl rfl (.cons rfl (.cons rfl (.cons rfl (.cons rfl .nil)))) (.cons rfl rfl .nil)
    intro s134 b211 h212
    unfold g_plan_long_l1 at h212
    refine rs env_ok ?_
    refine rl rfl ?_
    refine dwp_seq ?_
    refine cd rfl h212 (fun h215 => ?_) (fun h252 => ?_) <;> clear h212
    · refine dwp_skip ?_
      refine thenD_n ?_
      refine dwp_seq ?_
      refine dwp_block ?_
      refine rs env_ok ?_
      obtain ⟨y235, ey235, h236⟩ := bd h215; clear h215
      refine sx rfl (o_idx ey235 rfl rfl rfl ?_)
      refine rl rfl ?_
      refine rs env_ok ?_
      refine rn 5 rfl ?_
      obtain ⟨y239, ey239, h240⟩ := bd h236; clear h236
      refine sx rfl (o_idx ey239 rfl rfl rfl ?_)
      refine rl rfl ?_
      refine jb (fun t243 : Bool => ⟨62, [(1, .lpb 0 0), (20, .p (.slice 4 (x0.signals.map signalC))), (21, .p (.int .i64 (x0.signals.length : Int))), (22, .p (.int .i64 s134)), (42, .p (.bool t243))], [(0, .box [.p (.slice 3 (x0.elems.map elemC)), .p (.slice 4 (x0.joins.map joinC)), .p (.slice 4 (x0.signals.map signalC)), .p (.slice 2 (x0.lines.map lineC)), .p (.int .i64 x0.top), .p (.int .i64 x0.brake), .p (.int .i64 x0.margin), .p (.int .i64 x0.throw), .p (.bool x0.hard)])], 1⟩) h240 (fun t243 h244 => ?_) (fun t243 h247 => ?_) <;> clear h240
      · refine rg env_ok ?_
        refine rn 4 rfl ?_
        refine gs 36 h244 rfl rfl rfl (fun h245 => ?_) (fun h246 => ?_) <;> clear h244
        · refine rl rfl ?_
          have hr := Option.some.inj h245; subst hr
          exact npn (wk [(0, 0)] (free hA _) rfl rfl rfl (.cons rfl (.cons rfl (.cons rfl (.cons rfl (.cons rfl .nil))))) (.cons rfl rfl .nil))
        · refine rl rfl ?_
          have hr := Option.some.inj h246; subst hr
          exact npn (wk [(0, 0)] (free hA _) rfl rfl rfl (.cons rfl (.cons rfl (.cons rfl (.cons rfl (.cons rfl .nil))))) (.cons rfl rfl .nil))
      · refine cd rfl h247 (fun h248 => ?_) (fun h251 => ?_) <;> clear h247
        · refine rs env_ok ?_
          refine rl rfl ?_
          refine dwp_ret ?_
          refine inB_r ?_
          refine thenD_r ?_
          obtain ⟨a249, h250, rfl⟩ := mps h248; clear h248
          refine lpt ?_
          refine inB_r ?_
          refine thenD_r ?_
          have hr := Option.some.inj h250; subst hr
          exact er rfl Le.rfl
        · refine dwp_skip ?_
          refine inB_n ?_
          refine thenD_n ?_
          refine rg env_ok ?_
          refine rl rfl ?_
          have hr := Option.some.inj h251; subst hr
          exact lpn (wk [(0, 0)] (free hA _) rfl rfl rfl (.cons rfl (.cons rfl (.cons rfl (.cons rfl .nil)))) (.cons rfl rfl .nil))
    · refine dwp_exit ?_
      refine thenD_x ?_
      obtain ⟨a253, h254, rfl⟩ := mp h252; clear h252
      refine lpx ?_
      refine inB_x ?_
      refine thenD_n ?_
      refine dwp_seq ?_
      refine rs env_ok ?_
      refine rn 2 rfl ?_
      refine sx rfl (o_len rfl rfl ?_)
      refine rl rfl ?_
      refine dwp_block ?_
      apply lp (a := a253) (fun s352 : Int => ⟨62, [(1, .lpb 0 0), (45, .p (.slice 3 (x0.elems.map elemC))), (46, .p (.int .i64 (x0.elems.length : Int))), (47, .p (.int .i64 s352))], [(0, .box [.p (.slice 3 (x0.elems.map elemC)), .p (.slice 4 (x0.joins.map joinC)), .p (.slice 4 (x0.signals.map signalC)), .p (.slice 2 (x0.lines.map lineC)), .p (.int .i64 x0.top), .p (.int .i64 x0.brake), .p (.int .i64 x0.margin), .p (.int .i64 x0.throw), .p (.bool x0.hard)])], 1⟩) h254 <;> clear h254
      · exact wk [(0, 0)] (free hA _) rfl rfl rfl (.cons rfl (.cons rfl (.cons rfl (.cons rfl .nil)))) (.cons rfl rfl .nil)
      intro s352 b413 h414
      unfold g_plan_long_l2 at h414
      refine rs env_ok ?_
      refine rl rfl ?_
      refine dwp_seq ?_
      refine cd rfl h414 (fun h417 => ?_) (fun h446 => ?_) <;> clear h414
      · refine dwp_skip ?_
        refine thenD_n ?_
        refine dwp_seq ?_
        refine dwp_block ?_
        refine rs env_ok ?_
        obtain ⟨y433, ey433, h434⟩ := bd h417; clear h417
        refine sx rfl (o_idx ey433 rfl rfl rfl ?_)
        refine rl rfl ?_
        refine jb (fun t437 : Bool => ⟨62, [(1, .lpb 0 0), (45, .p (.slice 3 (x0.elems.map elemC))), (46, .p (.int .i64 (x0.elems.length : Int))), (47, .p (.int .i64 s352)), (60, .p (.bool t437))], [(0, .box [.p (.slice 3 (x0.elems.map elemC)), .p (.slice 4 (x0.joins.map joinC)), .p (.slice 4 (x0.signals.map signalC)), .p (.slice 2 (x0.lines.map lineC)), .p (.int .i64 x0.top), .p (.int .i64 x0.brake), .p (.int .i64 x0.margin), .p (.int .i64 x0.throw), .p (.bool x0.hard)])], 1⟩) h434 (fun t437 h438 => ?_) (fun t437 h441 => ?_) <;> clear h434
        · refine rg env_ok ?_
          refine rn 4 rfl ?_
          refine gs 54 h438 rfl rfl rfl (fun h439 => ?_) (fun h440 => ?_) <;> clear h438
          · refine rl rfl ?_
            have hr := Option.some.inj h439; subst hr
            exact npn (wk [(0, 0)] (free hA _) rfl rfl rfl (.cons rfl (.cons rfl (.cons rfl (.cons rfl (.cons rfl .nil))))) (.cons rfl rfl .nil))
          · refine rl rfl ?_
            have hr := Option.some.inj h440; subst hr
            exact npn (wk [(0, 0)] (free hA _) rfl rfl rfl (.cons rfl (.cons rfl (.cons rfl (.cons rfl (.cons rfl .nil))))) (.cons rfl rfl .nil))
        · refine cd rfl h441 (fun h442 => ?_) (fun h445 => ?_) <;> clear h441
          · refine rs env_ok ?_
            refine rl rfl ?_
            refine dwp_ret ?_
            refine inB_r ?_
            refine thenD_r ?_
            obtain ⟨a443, h444, rfl⟩ := mps h442; clear h442
            refine lpt ?_
            refine inB_r ?_
            refine thenD_r ?_
            have hr := Option.some.inj h444; subst hr
            exact er rfl Le.rfl
          · refine dwp_skip ?_
            refine inB_n ?_
            refine thenD_n ?_
            refine rg env_ok ?_
            refine rl rfl ?_
            have hr := Option.some.inj h445; subst hr
            exact lpn (wk [(0, 0)] (free hA _) rfl rfl rfl (.cons rfl (.cons rfl (.cons rfl (.cons rfl .nil)))) (.cons rfl rfl .nil))
      · refine dwp_exit ?_
        refine thenD_x ?_
        obtain ⟨a447, h448, rfl⟩ := mps h446; clear h446
        refine lpx ?_
        refine inB_x ?_
        refine thenD_n ?_
        refine rs env_ok ?_
        refine rl rfl ?_
        refine dwp_ret ?_
        have hr := Option.some.inj h448; subst hr
        exact er rfl Le.rfl

noncomputable def g_plan_Check_l1 (x0 : Plan) (s4112 : Int × (List (ByteArray × Bool))) : Option ((Int × (List (ByteArray × Bool))) ⊕ Bool) :=
  bif decide (s4112.1 < (x0.elems.length : Int)) then (g_plan_Check_1 s4112.1 x0).bind fun y4204 => bif ((assoc s4112.2 y4204).getD false) then some (.inr true) else (g_plan_Check_1 s4112.1 x0).bind fun y4210 => some (.inl (wi64 (s4112.1 + 1), aput y4210 true s4112.2)) else some (.inr false)

noncomputable def g_plan_Check_l2 (x0 : Plan) (s4529 : Int × (List (ByteArray × Bool))) : Option ((Int × (List (ByteArray × Bool))) ⊕ Bool) :=
  bif decide (s4529.1 < (x0.signals.length : Int)) then (g_plan_Check_2 s4529.1 x0).bind fun y4621 => bif ((assoc s4529.2 y4621).getD false) then some (.inr true) else (g_plan_Check_2 s4529.1 x0).bind fun y4627 => some (.inl (wi64 (s4529.1 + 1), aput y4627 true s4529.2)) else some (.inr false)

noncomputable def g_plan_Check_l3 (x0 : Plan) (s4946 : Int × (List (ByteArray × Bool))) : Option ((Int × (List (ByteArray × Bool))) ⊕ Bool) :=
  bif decide (s4946.1 < (x0.lines.length : Int)) then (g_plan_Check_3 s4946.1 x0).bind fun y5038 => bif ((assoc s4946.2 y5038).getD false) then some (.inr true) else (g_plan_Check_3 s4946.1 x0).bind fun y5044 => some (.inl (wi64 (s4946.1 + 1), aput y5044 true s4946.2)) else some (.inr false)

noncomputable def g_plan_Check (x0 : Plan) : Option Int :=
  ((bif decide (40 < (x0.elems.length : Int)) then some true else bif decide (24 < (x0.signals.length : Int)) then some true else bif decide (4 < (x0.lines.length : Int)) then some true else some (decide (80 < (x0.joins.length : Int))) : Option (Bool))).bind fun (t24 : Bool) => bif t24 then some 3 else (g_plan_numbers x0).bind fun y43 => bif (!y43) then some 1 else ((((loopR (g_plan_Check_l1 x0) (0, []) : Option (Bool))).bind fun (t4007 : Bool) => bif t4007 then some true else ((loopR (g_plan_Check_l2 x0) (0, []) : Option (Bool))).bind fun (t4424 : Bool) => bif t4424 then some true else ((loopR (g_plan_Check_l3 x0) (0, []) : Option (Bool))).bind fun (t4841 : Bool) => some t4841 : Option (Bool))).bind fun (t3799 : Bool) => bif t3799 then some 4 else (g_plan_joined x0).bind fun y5055 => bif (!y5055.2) then some 6 else (g_plan_signals x0 y5055.1).bind fun y5081 => bif (!y5081) then some 7 else (g_plan_lines x0 y5055.1).bind fun y5087 => bif (!y5087) then some 8 else (g_plan_long x0).bind fun y5093 => bif (!y5093) then some 9 else some 0

theorem f_plan_Check (x0 : Plan) (r : Int) (h : g_plan_Check x0 = some r) : Fun Try.prog 83 [.agg (planC x0)] (· = .int .i64 r) := by
  refine fn env_ok Try.func83 rfl rfl 71 rfl [.tmp 2] rfl [(0, .p (.agg (planC x0)))] rfl rfl fun A hA => ?_
  unfold g_plan_Check at h
  refine rs env_ok ?_
  refine rl rfl ?_
  refine dwp_seq ?_
  refine jb (fun t24 : Bool => ⟨71, [(1, .lpb 0 0), (26, .p (.bool t24))], [(0, .box [.p (.slice 3 (x0.elems.map elemC)), .p (.slice 4 (x0.joins.map joinC)), .p (.slice 4 (x0.signals.map signalC)), .p (.slice 2 (x0.lines.map lineC)), .p (.int .i64 x0.top), .p (.int .i64 x0.brake), .p (.int .i64 x0.margin), .p (.int .i64 x0.throw), .p (.bool x0.hard)])], 1⟩) h (fun t24 h25 => ?_) (fun t24 h32 => ?_) <;> clear h
  · refine rg env_ok ?_
    refine rn 2 rfl ?_
    refine sx rfl (o_len rfl rfl ?_)
    refine rn 2 rfl ?_
    refine gs 9 h25 rfl rfl rfl (fun h26 => ?_) (fun h27 => ?_) <;> clear h25
    · refine rl rfl ?_
      have hr := Option.some.inj h26; subst hr
      exact npn (wk [(0, 0)] (free hA _) rfl rfl rfl (.cons rfl (.cons rfl .nil)) (.cons rfl rfl .nil))
    · refine rn 2 rfl ?_
      refine sx rfl (o_len rfl rfl ?_)
      refine rn 3 rfl ?_
      refine gs 15 h27 rfl rfl rfl (fun h28 => ?_) (fun h29 => ?_) <;> clear h27
      · refine rl rfl ?_
        have hr := Option.some.inj h28; subst hr
        exact npn (wk [(0, 0)] (free hA _) rfl rfl rfl (.cons rfl (.cons rfl .nil)) (.cons rfl rfl .nil))
      · refine rn 2 rfl ?_
        refine sx rfl (o_len rfl rfl ?_)
        refine rn 3 rfl ?_
        refine gs 21 h29 rfl rfl rfl (fun h30 => ?_) (fun h31 => ?_) <;> clear h29
        · refine rl rfl ?_
          have hr := Option.some.inj h30; subst hr
          exact npn (wk [(0, 0)] (free hA _) rfl rfl rfl (.cons rfl (.cons rfl .nil)) (.cons rfl rfl .nil))
        · refine rn 2 rfl ?_
          refine sx rfl (o_len rfl rfl ?_)
          refine rl rfl ?_
          have hr := Option.some.inj h31; subst hr
          exact npn (wk [(0, 0)] (free hA _) rfl rfl rfl (.cons rfl (.cons rfl .nil)) (.cons rfl rfl .nil))
  · refine cd rfl h32 (fun h33 => ?_) (fun h34 => ?_) <;> clear h32
    · refine rs env_ok ?_
      refine rl rfl ?_
      refine dwp_ret ?_
      refine thenD_r ?_
      have hr := Option.some.inj h33; subst hr
      exact er rfl Le.rfl
    · refine dwp_skip ?_
      refine thenD_n ?_
      refine dwp_seq ?_
      refine rs env_ok ?_
      refine rn 1 rfl ?_
      obtain ⟨y43, ey43, h44⟩ := bd h34; clear h34
      refine sx rfl (o_call (f_plan_numbers _ _ ey43) (.inl rfl) rfl rfl rfl ?_)
      refine rl rfl ?_
      refine cd rfl h44 (fun h45 => ?_) (fun h46 => ?_) <;> clear h44
      · refine rs env_ok ?_
        refine rl rfl ?_
        refine dwp_ret ?_
        refine thenD_r ?_
        have hr := Option.some.inj h45; subst hr
        exact er rfl Le.rfl
      · refine dwp_skip ?_
        refine thenD_n ?_
        refine dwp_seq ?_
        refine jb (fun t3799 : Bool => ⟨71, [(1, .lpb 0 0), (48, .p (.bool t3799))], [(0, .box [.p (.slice 3 (x0.elems.map elemC)), .p (.slice 4 (x0.joins.map joinC)), .p (.slice 4 (x0.signals.map signalC)), .p (.slice 2 (x0.lines.map lineC)), .p (.int .i64 x0.top), .p (.int .i64 x0.brake), .p (.int .i64 x0.margin), .p (.int .i64 x0.throw), .p (.bool x0.hard)])], 1⟩) h46 (fun t3799 h3800 => ?_) (fun t3799 h5050 => ?_) <;> clear h46
        · refine rg env_ok ?_
          refine rn 2 rfl ?_
          refine sx rfl (o_len rfl rfl ?_)
          refine rn 1 rfl ?_
          refine sx rfl (o_in env_ok (fun t4007 : Bool => .p (.bool t4007)) (fun t4007 : Bool => [(0, .box [.p (.slice 3 (x0.elems.map elemC)), .p (.slice 4 (x0.joins.map joinC)), .p (.slice 4 (x0.signals.map signalC)), .p (.slice 2 (x0.lines.map lineC)), .p (.int .i64 x0.top), .p (.int .i64 x0.brake), .p (.int .i64 x0.margin), .p (.int .i64 x0.throw), .p (.bool x0.hard)])]) 1 h3800 Try.func104 22 [.tmp 4] [(0, .p (.int .i64 (x0.elems.length : Int))), (1, .fn 105 [.lpb 0 0])] rfl rfl rfl rfl rfl rfl rfl rfl (fun A hA t4007 h4008 => ?_) (fun t4007 h4215 => ?_)) <;> clear h3800
          · refine rs env_ok ?_
            refine rl rfl ?_
            refine rs env_ok ?_
            refine rl rfl ?_
            refine dwp_seq ?_
            refine rs env_ok ?_
            refine rl rfl ?_
            refine dwp_block ?_
            apply lp (a := t4007) (fun s4112 : (Int × (List (ByteArray × Bool))) => ⟨22, [(1, .fn 105 [.lpb 0 0]), (5, .lmap 1), (8, .p (.int .i64 (x0.elems.length : Int))), (9, .p (.int .i64 s4112.1))], [(0, .box [.p (.slice 3 (x0.elems.map elemC)), .p (.slice 4 (x0.joins.map joinC)), .p (.slice 4 (x0.signals.map signalC)), .p (.slice 2 (x0.lines.map lineC)), .p (.int .i64 x0.top), .p (.int .i64 x0.brake), .p (.int .i64 x0.margin), .p (.int .i64 x0.throw), .p (.bool x0.hard)]), (1, .map (mapD .str .bool s4112.2))], 2⟩) h4008 <;> clear h4008
            · exact wk [(0, 0), (1, 1)] (kept hA _ rfl) rfl rfl rfl (.cons rfl (.cons rfl (.cons rfl (.cons rfl .nil)))) (.cons rfl rfl (.cons rfl rfl .nil))
            intro s4112 b4177 h4178
            unfold g_plan_Check_l1 at h4178
            refine rs env_ok ?_
            refine rl rfl ?_
            refine dwp_seq ?_
            refine cd rfl h4178 (fun h4181 => ?_) (fun h4212 => ?_) <;> clear h4178
            · refine dwp_skip ?_
              refine thenD_n ?_
              refine dwp_seq ?_
              refine dwp_block ?_
              refine rs env_ok ?_
              refine rl rfl ?_
              refine dwp_seq ?_
              refine rs env_ok ?_
              refine rn 3 rfl ?_
              obtain ⟨y4204, ey4204, h4205⟩ := bd h4181; clear h4181
              refine sx rfl (o_call (f_plan_Check_1 _ _ _ ey4204) (.inl rfl) rfl rfl (LdA.eq (.cons (.one (.p _)) (.cons (.box rfl (.cons (.p _) (.cons (.p _) (.cons (.p _) (.cons (.p _) (.cons (.p _) (.cons (.p _) (.cons (.p _) (.cons (.p _) (.cons (.p _) .nil)))))))))) .nil))) ?_)
              refine sx rfl (o_lk1 (et := 4) (ke := .str) (ve := .bool) (mp := s4112.2) (y := y4204) false keyE_9 rfl rfl rfl rfl ?_)
              refine rl rfl ?_
              refine cd rfl h4205 (fun h4206 => ?_) (fun h4209 => ?_) <;> clear h4205
              · refine rs env_ok ?_
                refine rl rfl ?_
                refine dwp_ret ?_
                refine thenD_r ?_
                refine inB_r ?_
                refine thenD_r ?_
                obtain ⟨a4207, h4208, rfl⟩ := mps h4206; clear h4206
                refine lpt ?_
                refine inB_r ?_
                refine thenD_r ?_
                have hr := Option.some.inj h4208; subst hr
                exact ipr (nt := 22) (sl := [(4, .p (.bool true))]) (wk [(0, 0)] (kept hA _ rfl) rfl rfl rfl (.cons rfl .nil) (.cons rfl rfl .nil)) rfl
              · refine dwp_skip ?_
                refine thenD_n ?_
                refine rg env_ok ?_
                refine rn 3 rfl ?_
                obtain ⟨y4210, ey4210, h4211⟩ := bd h4209; clear h4209
                refine sx rfl (o_call (f_plan_Check_1 _ _ _ ey4210) (.inl rfl) rfl rfl (LdA.eq (.cons (.one (.p _)) (.cons (.box rfl (.cons (.p _) (.cons (.p _) (.cons (.p _) (.cons (.p _) (.cons (.p _) (.cons (.p _) (.cons (.p _) (.cons (.p _) (.cons (.p _) .nil)))))))))) .nil))) ?_)
                refine sx rfl (o_mup (et := 4) (ke := .str) (ve := .bool) (mp := s4112.2) (y := y4210) (z := true) keyE_9 rfl rfl rfl rfl rfl rfl ?_)
                refine rl rfl ?_
                refine inB_n ?_
                refine thenD_n ?_
                refine rg env_ok ?_
                refine rl rfl ?_
                have hr := Option.some.inj h4211; subst hr
                exact lpn (wk [(0, 0), (1, 1)] (kept hA _ rfl) rfl rfl rfl (.cons rfl (.cons rfl (.cons rfl (.cons rfl .nil)))) (.cons rfl rfl (.cons rfl rfl .nil)))
            · refine dwp_exit ?_
              refine thenD_x ?_
              obtain ⟨a4213, h4214, rfl⟩ := mps h4212; clear h4212
              refine lpx ?_
              refine inB_x ?_
              refine thenD_n ?_
              refine rs env_ok ?_
              refine rl rfl ?_
              refine dwp_ret ?_
              have hr := Option.some.inj h4214; subst hr
              exact ipr (nt := 22) (sl := [(4, .p (.bool false))]) (wk [(0, 0)] (kept hA _ rfl) rfl rfl rfl (.cons rfl .nil) (.cons rfl rfl .nil)) rfl
          · refine rn 1 rfl ?_
            refine gs 35 h4215 rfl rfl rfl (fun h4216 => ?_) (fun h4217 => ?_) <;> clear h4215
            · refine rl rfl ?_
              have hr := Option.some.inj h4216; subst hr
              exact npn (wk [(0, 0)] (free hA _) rfl rfl rfl (.cons rfl (.cons rfl .nil)) (.cons rfl rfl .nil))
            · refine rn 2 rfl ?_
              refine sx rfl (o_len rfl rfl ?_)
              refine rn 1 rfl ?_
              refine sx rfl (o_in env_ok (fun t4424 : Bool => .p (.bool t4424)) (fun t4424 : Bool => [(0, .box [.p (.slice 3 (x0.elems.map elemC)), .p (.slice 4 (x0.joins.map joinC)), .p (.slice 4 (x0.signals.map signalC)), .p (.slice 2 (x0.lines.map lineC)), .p (.int .i64 x0.top), .p (.int .i64 x0.brake), .p (.int .i64 x0.margin), .p (.int .i64 x0.throw), .p (.bool x0.hard)])]) 1 h4217 Try.func104 22 [.tmp 4] [(0, .p (.int .i64 (x0.signals.length : Int))), (1, .fn 106 [.lpb 0 0])] rfl rfl rfl rfl rfl rfl rfl rfl (fun A hA t4424 h4425 => ?_) (fun t4424 h4632 => ?_)) <;> clear h4217
              · refine rs env_ok ?_
                refine rl rfl ?_
                refine rs env_ok ?_
                refine rl rfl ?_
                refine dwp_seq ?_
                refine rs env_ok ?_
                refine rl rfl ?_
                refine dwp_block ?_
                apply lp (a := t4424) (fun s4529 : (Int × (List (ByteArray × Bool))) => ⟨22, [(1, .fn 106 [.lpb 0 0]), (5, .lmap 1), (8, .p (.int .i64 (x0.signals.length : Int))), (9, .p (.int .i64 s4529.1))], [(0, .box [.p (.slice 3 (x0.elems.map elemC)), .p (.slice 4 (x0.joins.map joinC)), .p (.slice 4 (x0.signals.map signalC)), .p (.slice 2 (x0.lines.map lineC)), .p (.int .i64 x0.top), .p (.int .i64 x0.brake), .p (.int .i64 x0.margin), .p (.int .i64 x0.throw), .p (.bool x0.hard)]), (1, .map (mapD .str .bool s4529.2))], 2⟩) h4425 <;> clear h4425
                · exact wk [(0, 0), (1, 1)] (kept hA _ rfl) rfl rfl rfl (.cons rfl (.cons rfl (.cons rfl (.cons rfl .nil)))) (.cons rfl rfl (.cons rfl rfl .nil))
                intro s4529 b4594 h4595
                unfold g_plan_Check_l2 at h4595
                refine rs env_ok ?_
                refine rl rfl ?_
                refine dwp_seq ?_
                refine cd rfl h4595 (fun h4598 => ?_) (fun h4629 => ?_) <;> clear h4595
                · refine dwp_skip ?_
                  refine thenD_n ?_
                  refine dwp_seq ?_
                  refine dwp_block ?_
                  refine rs env_ok ?_
                  refine rl rfl ?_
                  refine dwp_seq ?_
                  refine rs env_ok ?_
                  refine rn 3 rfl ?_
                  obtain ⟨y4621, ey4621, h4622⟩ := bd h4598; clear h4598
                  refine sx rfl (o_call (f_plan_Check_2 _ _ _ ey4621) (.inl rfl) rfl rfl (LdA.eq (.cons (.one (.p _)) (.cons (.box rfl (.cons (.p _) (.cons (.p _) (.cons (.p _) (.cons (.p _) (.cons (.p _) (.cons (.p _) (.cons (.p _) (.cons (.p _) (.cons (.p _) .nil)))))))))) .nil))) ?_)
                  refine sx rfl (o_lk1 (et := 4) (ke := .str) (ve := .bool) (mp := s4529.2) (y := y4621) false keyE_9 rfl rfl rfl rfl ?_)
                  refine rl rfl ?_
                  refine cd rfl h4622 (fun h4623 => ?_) (fun h4626 => ?_) <;> clear h4622
                  · refine rs env_ok ?_
                    refine rl rfl ?_
                    refine dwp_ret ?_
                    refine thenD_r ?_
                    refine inB_r ?_
                    refine thenD_r ?_
                    obtain ⟨a4624, h4625, rfl⟩ := mps h4623; clear h4623
                    refine lpt ?_
                    refine inB_r ?_
                    refine thenD_r ?_
                    have hr := Option.some.inj h4625; subst hr
                    exact ipr (nt := 22) (sl := [(4, .p (.bool true))]) (wk [(0, 0)] (kept hA _ rfl) rfl rfl rfl (.cons rfl .nil) (.cons rfl rfl .nil)) rfl
                  · refine dwp_skip ?_
                    refine thenD_n ?_
                    refine rg env_ok ?_
                    refine rn 3 rfl ?_
                    obtain ⟨y4627, ey4627, h4628⟩ := bd h4626; clear h4626
                    refine sx rfl (o_call (f_plan_Check_2 _ _ _ ey4627) (.inl rfl) rfl rfl (LdA.eq (.cons (.one (.p _)) (.cons (.box rfl (.cons (.p _) (.cons (.p _) (.cons (.p _) (.cons (.p _) (.cons (.p _) (.cons (.p _) (.cons (.p _) (.cons (.p _) (.cons (.p _) .nil)))))))))) .nil))) ?_)
                    refine sx rfl (o_mup (et := 4) (ke := .str) (ve := .bool) (mp := s4529.2) (y := y4627) (z := true) keyE_9 rfl rfl rfl rfl rfl rfl ?_)
                    refine rl rfl ?_
                    refine inB_n ?_
                    refine thenD_n ?_
                    refine rg env_ok ?_
                    refine rl rfl ?_
                    have hr := Option.some.inj h4628; subst hr
                    exact lpn (wk [(0, 0), (1, 1)] (kept hA _ rfl) rfl rfl rfl (.cons rfl (.cons rfl (.cons rfl (.cons rfl .nil)))) (.cons rfl rfl (.cons rfl rfl .nil)))
                · refine dwp_exit ?_
                  refine thenD_x ?_
                  obtain ⟨a4630, h4631, rfl⟩ := mps h4629; clear h4629
                  refine lpx ?_
                  refine inB_x ?_
                  refine thenD_n ?_
                  refine rs env_ok ?_
                  refine rl rfl ?_
                  refine dwp_ret ?_
                  have hr := Option.some.inj h4631; subst hr
                  exact ipr (nt := 22) (sl := [(4, .p (.bool false))]) (wk [(0, 0)] (kept hA _ rfl) rfl rfl rfl (.cons rfl .nil) (.cons rfl rfl .nil)) rfl
              · refine rn 2 rfl ?_
                refine gs 42 h4632 rfl rfl rfl (fun h4633 => ?_) (fun h4634 => ?_) <;> clear h4632
                · refine rl rfl ?_
                  have hr := Option.some.inj h4633; subst hr
                  exact npn (wk [(0, 0)] (free hA _) rfl rfl rfl (.cons rfl (.cons rfl .nil)) (.cons rfl rfl .nil))
                · refine rn 2 rfl ?_
                  refine sx rfl (o_len rfl rfl ?_)
                  refine rn 1 rfl ?_
                  refine sx rfl (o_in env_ok (fun t4841 : Bool => .p (.bool t4841)) (fun t4841 : Bool => [(0, .box [.p (.slice 3 (x0.elems.map elemC)), .p (.slice 4 (x0.joins.map joinC)), .p (.slice 4 (x0.signals.map signalC)), .p (.slice 2 (x0.lines.map lineC)), .p (.int .i64 x0.top), .p (.int .i64 x0.brake), .p (.int .i64 x0.margin), .p (.int .i64 x0.throw), .p (.bool x0.hard)])]) 1 h4634 Try.func104 22 [.tmp 4] [(0, .p (.int .i64 (x0.lines.length : Int))), (1, .fn 107 [.lpb 0 0])] rfl rfl rfl rfl rfl rfl rfl rfl (fun A hA t4841 h4842 => ?_) (fun t4841 h5049 => ?_)) <;> clear h4634
                  · refine rs env_ok ?_
                    refine rl rfl ?_
                    refine rs env_ok ?_
                    refine rl rfl ?_
                    refine dwp_seq ?_
                    refine rs env_ok ?_
                    refine rl rfl ?_
                    refine dwp_block ?_
                    apply lp (a := t4841) (fun s4946 : (Int × (List (ByteArray × Bool))) => ⟨22, [(1, .fn 107 [.lpb 0 0]), (5, .lmap 1), (8, .p (.int .i64 (x0.lines.length : Int))), (9, .p (.int .i64 s4946.1))], [(0, .box [.p (.slice 3 (x0.elems.map elemC)), .p (.slice 4 (x0.joins.map joinC)), .p (.slice 4 (x0.signals.map signalC)), .p (.slice 2 (x0.lines.map lineC)), .p (.int .i64 x0.top), .p (.int .i64 x0.brake), .p (.int .i64 x0.margin), .p (.int .i64 x0.throw), .p (.bool x0.hard)]), (1, .map (mapD .str .bool s4946.2))], 2⟩) h4842 <;> clear h4842
                    · exact wk [(0, 0), (1, 1)] (kept hA _ rfl) rfl rfl rfl (.cons rfl (.cons rfl (.cons rfl (.cons rfl .nil)))) (.cons rfl rfl (.cons rfl rfl .nil))
                    intro s4946 b5011 h5012
                    unfold g_plan_Check_l3 at h5012
                    refine rs env_ok ?_
                    refine rl rfl ?_
                    refine dwp_seq ?_
                    refine cd rfl h5012 (fun h5015 => ?_) (fun h5046 => ?_) <;> clear h5012
                    · refine dwp_skip ?_
                      refine thenD_n ?_
                      refine dwp_seq ?_
                      refine dwp_block ?_
                      refine rs env_ok ?_
                      refine rl rfl ?_
                      refine dwp_seq ?_
                      refine rs env_ok ?_
                      refine rn 3 rfl ?_
                      obtain ⟨y5038, ey5038, h5039⟩ := bd h5015; clear h5015
                      refine sx rfl (o_call (f_plan_Check_3 _ _ _ ey5038) (.inl rfl) rfl rfl (LdA.eq (.cons (.one (.p _)) (.cons (.box rfl (.cons (.p _) (.cons (.p _) (.cons (.p _) (.cons (.p _) (.cons (.p _) (.cons (.p _) (.cons (.p _) (.cons (.p _) (.cons (.p _) .nil)))))))))) .nil))) ?_)
                      refine sx rfl (o_lk1 (et := 4) (ke := .str) (ve := .bool) (mp := s4946.2) (y := y5038) false keyE_9 rfl rfl rfl rfl ?_)
                      refine rl rfl ?_
                      refine cd rfl h5039 (fun h5040 => ?_) (fun h5043 => ?_) <;> clear h5039
                      · refine rs env_ok ?_
                        refine rl rfl ?_
                        refine dwp_ret ?_
                        refine thenD_r ?_
                        refine inB_r ?_
                        refine thenD_r ?_
                        obtain ⟨a5041, h5042, rfl⟩ := mps h5040; clear h5040
                        refine lpt ?_
                        refine inB_r ?_
                        refine thenD_r ?_
                        have hr := Option.some.inj h5042; subst hr
                        exact ipr (nt := 22) (sl := [(4, .p (.bool true))]) (wk [(0, 0)] (kept hA _ rfl) rfl rfl rfl (.cons rfl .nil) (.cons rfl rfl .nil)) rfl
                      · refine dwp_skip ?_
                        refine thenD_n ?_
                        refine rg env_ok ?_
                        refine rn 3 rfl ?_
                        obtain ⟨y5044, ey5044, h5045⟩ := bd h5043; clear h5043
                        refine sx rfl (o_call (f_plan_Check_3 _ _ _ ey5044) (.inl rfl) rfl rfl (LdA.eq (.cons (.one (.p _)) (.cons (.box rfl (.cons (.p _) (.cons (.p _) (.cons (.p _) (.cons (.p _) (.cons (.p _) (.cons (.p _) (.cons (.p _) (.cons (.p _) (.cons (.p _) .nil)))))))))) .nil))) ?_)
                        refine sx rfl (o_mup (et := 4) (ke := .str) (ve := .bool) (mp := s4946.2) (y := y5044) (z := true) keyE_9 rfl rfl rfl rfl rfl rfl ?_)
                        refine rl rfl ?_
                        refine inB_n ?_
                        refine thenD_n ?_
                        refine rg env_ok ?_
                        refine rl rfl ?_
                        have hr := Option.some.inj h5045; subst hr
                        exact lpn (wk [(0, 0), (1, 1)] (kept hA _ rfl) rfl rfl rfl (.cons rfl (.cons rfl (.cons rfl (.cons rfl .nil)))) (.cons rfl rfl (.cons rfl rfl .nil)))
                    · refine dwp_exit ?_
                      refine thenD_x ?_
                      obtain ⟨a5047, h5048, rfl⟩ := mps h5046; clear h5046
                      refine lpx ?_
                      refine inB_x ?_
                      refine thenD_n ?_
                      refine rs env_ok ?_
                      refine rl rfl ?_
                      refine dwp_ret ?_
                      have hr := Option.some.inj h5048; subst hr
                      exact ipr (nt := 22) (sl := [(4, .p (.bool false))]) (wk [(0, 0)] (kept hA _ rfl) rfl rfl rfl (.cons rfl .nil) (.cons rfl rfl .nil)) rfl
                  · refine rl rfl ?_
                    have hr := Option.some.inj h5049; subst hr
                    exact npn (wk [(0, 0)] (free hA _) rfl rfl rfl (.cons rfl (.cons rfl .nil)) (.cons rfl rfl .nil))
        · refine cd rfl h5050 (fun h5051 => ?_) (fun h5052 => ?_) <;> clear h5050
          · refine rs env_ok ?_
            refine rl rfl ?_
            refine dwp_ret ?_
            refine thenD_r ?_
            have hr := Option.some.inj h5051; subst hr
            exact er rfl Le.rfl
          · refine dwp_skip ?_
            refine thenD_n ?_
            refine rs env_ok ?_
            refine rn 1 rfl ?_
            obtain ⟨y5055, ey5055, h5056⟩ := bd h5052; clear h5052
            refine sx rfl (o_call (f_plan_joined _ _ ey5055) (.inr rfl) rfl rfl rfl ?_)
            refine rl rfl ?_
            refine dwp_seq ?_
            refine dwp_block ?_
            refine rs env_ok ?_
            refine rl rfl ?_
            refine cd rfl h5056 (fun h5077 => ?_) (fun h5078 => ?_) <;> clear h5056
            · refine rs env_ok ?_
              refine rl rfl ?_
              refine dwp_ret ?_
              refine inB_r ?_
              refine thenD_r ?_
              have hr := Option.some.inj h5077; subst hr
              exact er rfl Le.rfl
            · refine rs env_ok ?_
              refine rn 2 rfl ?_
              obtain ⟨y5081, ey5081, h5082⟩ := bd h5078; clear h5078
              refine sx rfl (o_call (f_plan_signals _ _ _ ey5081) (.inl rfl) rfl rfl rfl ?_)
              refine rl rfl ?_
              refine cd rfl h5082 (fun h5083 => ?_) (fun h5084 => ?_) <;> clear h5082
              · refine rs env_ok ?_
                refine rl rfl ?_
                refine dwp_ret ?_
                refine inB_r ?_
                refine thenD_r ?_
                have hr := Option.some.inj h5083; subst hr
                exact er rfl Le.rfl
              · refine rs env_ok ?_
                refine rn 2 rfl ?_
                obtain ⟨y5087, ey5087, h5088⟩ := bd h5084; clear h5084
                refine sx rfl (o_call (f_plan_lines _ _ _ ey5087) (.inl rfl) rfl rfl rfl ?_)
                refine rl rfl ?_
                refine cd rfl h5088 (fun h5089 => ?_) (fun h5090 => ?_) <;> clear h5088
                · refine rs env_ok ?_
                  refine rl rfl ?_
                  refine dwp_ret ?_
                  refine inB_r ?_
                  refine thenD_r ?_
                  have hr := Option.some.inj h5089; subst hr
                  exact er rfl Le.rfl
                · refine rs env_ok ?_
                  refine rn 1 rfl ?_
                  obtain ⟨y5093, ey5093, h5094⟩ := bd h5090; clear h5090
                  refine sx rfl (o_call (f_plan_long _ _ ey5093) (.inl rfl) rfl rfl rfl ?_)
                  refine rl rfl ?_
                  refine cd rfl h5094 (fun h5095 => ?_) (fun h5096 => ?_) <;> clear h5094
                  · refine rs env_ok ?_
                    refine rl rfl ?_
                    refine dwp_ret ?_
                    refine inB_r ?_
                    refine thenD_r ?_
                    have hr := Option.some.inj h5095; subst hr
                    exact er rfl Le.rfl
                  · refine dwp_skip ?_
                    refine inB_n ?_
                    refine thenD_n ?_
                    refine rs env_ok ?_
                    refine rl rfl ?_
                    refine dwp_ret ?_
                    have hr := Option.some.inj h5096; subst hr
                    exact er rfl Le.rfl

end Go.E
/- Plain functions, and walks in step with them. Written by a program (gen.py). No condition. -/
set_option maxRecDepth 100000
namespace Go.E
open Go Go.RowKit Go.Proofs

noncomputable def g_slices_Clone_apiElem (x0 : (List Elem)) : Option (List Elem) :=
  nilS x0 (some []) ((appI ([] : List Elem) x0).bind fun y11 => some y11)

theorem f_slices_Clone_apiElem (x0 : (List Elem)) (r : (List Elem)) (h : g_slices_Clone_apiElem x0 = some r) : Fun Try.prog 112 [.slice 3 (x0.map elemC)] (· = .slice 3 (r.map elemC)) := by
  refine fn env_ok Try.func112 rfl rfl 8 rfl [.tmp 2] rfl [(0, .p (.slice 3 (x0.map elemC)))] rfl rfl fun A hA => ?_
  unfold g_slices_Clone_apiElem at h
  refine rs env_ok ?_
  refine rl rfl ?_
  refine dwp_seq ?_
  refine rs env_ok ?_
  refine rn 1 rfl ?_
  refine sx rfl (o_nilE h rfl rfl rfl (fun h7 => ?_) (fun h8 => ?_)) <;> clear h
  · refine rl rfl ?_
    refine cdt rfl ?_
    refine rs env_ok ?_
    refine rl rfl ?_
    refine dwp_ret ?_
    refine thenD_r ?_
    have hr := Option.some.inj h7; subst hr
    exact er rfl (Le.nil _)
  · refine rl rfl ?_
    refine cdf rfl ?_
    refine dwp_skip ?_
    refine thenD_n ?_
    refine rs env_ok ?_
    refine rn 2 rfl ?_
    obtain ⟨y11, ey11, h12⟩ := bd h8; clear h8
    refine sx rfl (o_app1 (enc := elemC) (l := ([] : List Elem)) (m := x0) ey11 (fun _ => ⟨rfl, rfl⟩) rfl rfl rfl rfl rfl rfl ?_)
    refine rl rfl ?_
    refine dwp_ret ?_
    have hr := Option.some.inj h12; subst hr
    exact er (rd1 rfl (.one (.own (enc := elemC) y11 rfl rfl))) Le.rfl

noncomputable def g_slices_Clone_apiJoin (x0 : (List Join)) : Option (List Join) :=
  nilS x0 (some []) ((appI ([] : List Join) x0).bind fun y11 => some y11)

theorem f_slices_Clone_apiJoin (x0 : (List Join)) (r : (List Join)) (h : g_slices_Clone_apiJoin x0 = some r) : Fun Try.prog 113 [.slice 4 (x0.map joinC)] (· = .slice 4 (r.map joinC)) := by
  refine fn env_ok Try.func113 rfl rfl 8 rfl [.tmp 2] rfl [(0, .p (.slice 4 (x0.map joinC)))] rfl rfl fun A hA => ?_
  unfold g_slices_Clone_apiJoin at h
  refine rs env_ok ?_
  refine rl rfl ?_
  refine dwp_seq ?_
  refine rs env_ok ?_
  refine rn 1 rfl ?_
  refine sx rfl (o_nilE h rfl rfl rfl (fun h7 => ?_) (fun h8 => ?_)) <;> clear h
  · refine rl rfl ?_
    refine cdt rfl ?_
    refine rs env_ok ?_
    refine rl rfl ?_
    refine dwp_ret ?_
    refine thenD_r ?_
    have hr := Option.some.inj h7; subst hr
    exact er rfl (Le.nil _)
  · refine rl rfl ?_
    refine cdf rfl ?_
    refine dwp_skip ?_
    refine thenD_n ?_
    refine rs env_ok ?_
    refine rn 2 rfl ?_
    obtain ⟨y11, ey11, h12⟩ := bd h8; clear h8
    refine sx rfl (o_app1 (enc := joinC) (l := ([] : List Join)) (m := x0) ey11 (fun _ => ⟨rfl, rfl⟩) rfl rfl rfl rfl rfl rfl ?_)
    refine rl rfl ?_
    refine dwp_ret ?_
    have hr := Option.some.inj h12; subst hr
    exact er (rd1 rfl (.one (.own (enc := joinC) y11 rfl rfl))) Le.rfl

noncomputable def g_slices_Clone_apiSignal (x0 : (List Signal)) : Option (List Signal) :=
  nilS x0 (some []) ((appI ([] : List Signal) x0).bind fun y11 => some y11)

theorem f_slices_Clone_apiSignal (x0 : (List Signal)) (r : (List Signal)) (h : g_slices_Clone_apiSignal x0 = some r) : Fun Try.prog 114 [.slice 4 (x0.map signalC)] (· = .slice 4 (r.map signalC)) := by
  refine fn env_ok Try.func114 rfl rfl 8 rfl [.tmp 2] rfl [(0, .p (.slice 4 (x0.map signalC)))] rfl rfl fun A hA => ?_
  unfold g_slices_Clone_apiSignal at h
  refine rs env_ok ?_
  refine rl rfl ?_
  refine dwp_seq ?_
  refine rs env_ok ?_
  refine rn 1 rfl ?_
  refine sx rfl (o_nilE h rfl rfl rfl (fun h7 => ?_) (fun h8 => ?_)) <;> clear h
  · refine rl rfl ?_
    refine cdt rfl ?_
    refine rs env_ok ?_
    refine rl rfl ?_
    refine dwp_ret ?_
    refine thenD_r ?_
    have hr := Option.some.inj h7; subst hr
    exact er rfl (Le.nil _)
  · refine rl rfl ?_
    refine cdf rfl ?_
    refine dwp_skip ?_
    refine thenD_n ?_
    refine rs env_ok ?_
    refine rn 2 rfl ?_
    obtain ⟨y11, ey11, h12⟩ := bd h8; clear h8
    refine sx rfl (o_app1 (enc := signalC) (l := ([] : List Signal)) (m := x0) ey11 (fun _ => ⟨rfl, rfl⟩) rfl rfl rfl rfl rfl rfl ?_)
    refine rl rfl ?_
    refine dwp_ret ?_
    have hr := Option.some.inj h12; subst hr
    exact er (rd1 rfl (.one (.own (enc := signalC) y11 rfl rfl))) Le.rfl

noncomputable def g_slices_Clone_apiLine (x0 : (List Line)) : Option (List Line) :=
  nilS x0 (some []) ((appI ([] : List Line) x0).bind fun y11 => some y11)

theorem fN_slices_Clone_apiLine (x0 : (List Line)) (r : (List Line)) (h : g_slices_Clone_apiLine x0 = some r) : FunN Try.prog 115 [.slice 2 (x0.map lineC)] 129 2 (r.map lineC) := by
  refine fnN (enc := lineC) (fun _ => ⟨rfl, rfl⟩) Try.func115 rfl rfl 8 rfl 2 rfl [(0, .p (.slice 2 (x0.map lineC)))] rfl rfl fun A hA => ?_
  unfold g_slices_Clone_apiLine at h
  refine rs env_ok ?_
  refine rl rfl ?_
  refine dwp_seq ?_
  refine rs env_ok ?_
  refine rn 1 rfl ?_
  refine sx rfl (o_nilE h rfl rfl rfl (fun h19 => ?_) (fun h20 => ?_)) <;> clear h
  · refine rl rfl ?_
    refine cdt rfl ?_
    refine rs env_ok ?_
    refine rl rfl ?_
    refine dwp_ret ?_
    refine thenD_r ?_
    have hr := Option.some.inj h19; subst hr
    exact erNn rfl
  · refine rl rfl ?_
    refine cdf rfl ?_
    refine dwp_skip ?_
    refine thenD_n ?_
    refine rs env_ok ?_
    refine rn 2 rfl ?_
    obtain ⟨y23, ey23, h24⟩ := bd h20; clear h20
    refine sx rfl (o_app1 (enc := lineC) (l := ([] : List Line)) (m := x0) ey23 (fun _ => ⟨rfl, rfl⟩) rfl rfl rfl rfl rfl rfl ?_)
    refine rl rfl ?_
    refine dwp_ret ?_
    have hr := Option.some.inj h24; subst hr
    exact erN rfl rfl rfl

noncomputable def g_slices_Clone_int (x0 : (List Int)) : Option (List Int) :=
  nilS x0 (some []) ((appI ([] : List Int) x0).bind fun y11 => some y11)

theorem f_slices_Clone_int (x0 : (List Int)) (r : (List Int)) (h : g_slices_Clone_int x0 = some r) : Fun Try.prog 116 [.slice 1 (x0.map intC)] (· = .slice 1 (r.map intC)) := by
  refine fn env_ok Try.func116 rfl rfl 8 rfl [.tmp 2] rfl [(0, .p (.slice 1 (x0.map intC)))] rfl rfl fun A hA => ?_
  unfold g_slices_Clone_int at h
  refine rs env_ok ?_
  refine rl rfl ?_
  refine dwp_seq ?_
  refine rs env_ok ?_
  refine rn 1 rfl ?_
  refine sx rfl (o_nilE h rfl rfl rfl (fun h7 => ?_) (fun h8 => ?_)) <;> clear h
  · refine rl rfl ?_
    refine cdt rfl ?_
    refine rs env_ok ?_
    refine rl rfl ?_
    refine dwp_ret ?_
    refine thenD_r ?_
    have hr := Option.some.inj h7; subst hr
    exact er rfl (Le.nil _)
  · refine rl rfl ?_
    refine cdf rfl ?_
    refine dwp_skip ?_
    refine thenD_n ?_
    refine rs env_ok ?_
    refine rn 2 rfl ?_
    obtain ⟨y11, ey11, h12⟩ := bd h8; clear h8
    refine sx rfl (o_app1 (enc := intC) (l := ([] : List Int)) (m := x0) ey11 (fun _ => ⟨rfl, rfl⟩) rfl rfl rfl rfl rfl rfl ?_)
    refine rl rfl ?_
    refine dwp_ret ?_
    have hr := Option.some.inj h12; subst hr
    exact er (rd1 rfl (.one (.own (enc := intC) y11 rfl rfl))) Le.rfl

noncomputable def g_net_twin_l1 (x0 : Plan) (y7 : (List Elem)) (y9 : (List Join)) (y11 : (List Signal)) (y15 : (List Line)) (s70 : Int × (List Line)) : Option ((Int × (List Line)) ⊕ Plan) :=
  bif decide (s70.1 < (y15.length : Int)) then (idx s70.2 s70.1).bind fun y114 => (g_slices_Clone_int y114.elems).bind fun y116 => (idx s70.2 s70.1).bind fun y118 => some (.inl (wi64 (s70.1 + 1), setI s70.2 s70.1 (⟨y118.name, y116⟩ : Line))) else some (.inr (⟨y7, y9, y11, s70.2, x0.top, x0.brake, x0.margin, x0.throw, x0.hard⟩ : Plan))

noncomputable def g_net_twin (x0 : Plan) : Option Plan :=
  (g_slices_Clone_apiElem x0.elems).bind fun y7 => (g_slices_Clone_apiJoin x0.joins).bind fun y9 => (g_slices_Clone_apiSignal x0.signals).bind fun y11 => (g_slices_Clone_apiLine x0.lines).bind fun y15 => loopR (g_net_twin_l1 x0 y7 y9 y11 y15) (0, y15)

theorem f_net_twin (x0 : Plan) (r : Plan) (h : g_net_twin x0 = some r) : Fun Try.prog 84 [.agg (planC x0)] (· = .agg (planC r)) := by
  refine fn env_ok Try.func84 rfl rfl 40 rfl [.cell 2 27] rfl [(0, .p (.agg (planC x0)))] rfl rfl fun A hA => ?_
  unfold g_net_twin at h
  refine rs env_ok ?_
  refine rl rfl ?_
  refine dwp_seq ?_
  refine rgd env_ok mixed [0, 1, 2, 3, 4, 5, 6, 7, 8, 9, 10, 11, 12, 13, 14] 15 (by kernel_rfl) rfl rfl rfl ?_
  refine rnD 2 rfl ?_
  obtain ⟨y7, ey7, h8⟩ := bd h; clear h
  refine sxD rfl (o_callD (f_slices_Clone_apiElem _ _ ey7) (.inr rfl) rfl rfl rfl ?_)
  refine rnD 2 rfl ?_
  obtain ⟨y9, ey9, h10⟩ := bd h8; clear h8
  refine sxD rfl (o_callD (f_slices_Clone_apiJoin _ _ ey9) (.inr rfl) rfl rfl rfl ?_)
  refine rnD 2 rfl ?_
  obtain ⟨y11, ey11, h12⟩ := bd h10; clear h10
  refine sxD rfl (o_callD (f_slices_Clone_apiSignal _ _ ey11) (.inr rfl) rfl rfl rfl ?_)
  refine rlD rfl ?_
  refine thenD_n ?_
  refine rs env_ok ?_
  refine rn 2 rfl ?_
  obtain ⟨y15, ey15, h16⟩ := bd h12; clear h12
  refine sx rfl (o_callN (fN_slices_Clone_apiLine _ _ ey15) rfl rfl rfl rfl ?_)
  refine rl rfl ?_
  refine dwp_seq ?_
  refine rs env_ok ?_
  refine rl rfl ?_
  refine dwp_block ?_
  apply lp (a := r) (fun s70 : (Int × (List Line)) => ⟨40, [(1, .lpb 0 0), (2, .lpb 1 0), (22, .p (.int .i64 (y15.length : Int))), (23, .p (.int .i64 s70.1))], [(0, .box [.p (.slice 3 (y7.map elemC)), .p (.slice 4 (y9.map joinC)), .p (.slice 4 (y11.map signalC)), .lsl 2 2 0 s70.2.length, .p (.int .i64 x0.top), .p (.int .i64 x0.brake), .p (.int .i64 x0.margin), .p (.int .i64 x0.throw), .p (.bool x0.hard)]), (1, .box [.p (.nils), .p (.nils), .p (.nils), .p (.nils), .p (.int .i64 0), .p (.int .i64 0), .p (.int .i64 0), .p (.int .i64 0), .p (.bool false)]), (2, .row 129 2 (s70.2.map lineC))], 3⟩) h16 <;> clear h16
  · exact wk [(0, 0), (1, 1), (2, 17)] (free hA _) rfl rfl rfl (.cons rfl (.cons rfl (.cons rfl (.cons rfl .nil)))) (.cons rfl rfl (.cons rfl rfl (.cons rfl rfl .nil)))
  intro s70 b103 h104
  unfold g_net_twin_l1 at h104
  refine rs env_ok ?_
  refine rl rfl ?_
  refine dwp_seq ?_
  refine cd rfl h104 (fun h107 => ?_) (fun h120 => ?_) <;> clear h104
  · refine dwp_skip ?_
    refine thenD_n ?_
    refine dwp_seq ?_
    refine dwp_block ?_
    refine rs env_ok ?_
    refine rl rfl ?_
    refine rgd env_ok mixed [0, 1, 2, 3, 4, 5, 6, 7, 8, 9, 10, 11, 12] 13 (by kernel_rfl) rfl rfl rfl ?_
    refine rnD 6 rfl ?_
    obtain ⟨y114, ey114, h115⟩ := bd h107; clear h107
    refine sxD rfl (opD_plain rfl (o_idxO ey114 rfl rfl rfl rfl ?_))
    refine rnD 1 rfl ?_
    refine sxD rfl (opD_ld rfl (o_ldO ey114 rfl rfl rfl ?_))
    obtain ⟨y116, ey116, h117⟩ := bd h115; clear h115
    refine sxD rfl (o_callD (f_slices_Clone_int _ _ ey116) (.inr rfl) rfl rfl rfl ?_)
    obtain ⟨y118, ey118, h119⟩ := bd h117; clear h117
    refine sxD rfl (opD_plain rfl (o_idxO ey118 rfl rfl rfl rfl ?_))
    refine rnD 1 rfl ?_
    refine sxD rfl (opD_st rfl (o_stO (z := (⟨y118.name, y116⟩ : Line)) ey118 rfl rfl rfl rfl rfl rfl rfl rfl ?_))
    refine rlD rfl ?_
    refine inB_n ?_
    refine thenD_n ?_
    refine rg env_ok ?_
    refine rl rfl ?_
    have hr := Option.some.inj h119; subst hr
    exact lpn (wk [(0, 0), (1, 1), (2, 2)] (free hA _) rfl rfl rfl (.cons rfl (.cons rfl (.cons rfl (.cons rfl .nil)))) (.cons rfl (by simp only [setI_len]; rfl) (.cons rfl rfl (.cons rfl rfl .nil))))
  · refine dwp_exit ?_
    refine thenD_x ?_
    obtain ⟨a121, h122, rfl⟩ := mps h120; clear h120
    refine lpx ?_
    refine inB_x ?_
    refine thenD_n ?_
    refine rs env_ok ?_
    refine rl rfl ?_
    refine dwp_ret ?_
    have hr := Option.some.inj h122; subst hr
    exact er (rd1 rfl (.agg (.cons (.p _) (.cons (.p _) (.cons (.p _) (.cons (.own (enc := lineC) s70.2 rfl rfl) (.cons (.p _) (.cons (.p _) (.cons (.p _) (.cons (.p _) (.cons (.p _) .nil))))))))))) Le.rfl

noncomputable def g_net_New_l4 (s58 : (Int × (List (Port × Port)))) (s714 : (Int × (List (Int × Arr2Int)) × (List (Int × Int)))) (y1160 : Line) (s1203 : Int × Int × (List (Int × Arr2Int)) × (List (Int × Int))) : Option ((Int × Int × (List (Int × Arr2Int)) × (List (Int × Int))) ⊕ ((Int × (List (Int × Arr2Int)) × (List (Int × Int))) ⊕ ((Option Net) × Int))) :=
  bif decide (s1203.2.1 < (y1160.elems.length : Int)) then (idx y1160.elems s1203.2.1).bind fun y1239 => some (.inl (((assoc s58.2 (⟨y1239, wi64 (1 - s1203.1)⟩ : Port)).getD (⟨0, 0⟩ : Port)).fin, wi64 (s1203.2.1 + 1), aput y1239 (⟨s714.1, s1203.2.1⟩ : Arr2Int) s1203.2.2.1, aput y1239 s1203.1 s1203.2.2.2)) else some (.inr (.inl (wi64 (s714.1 + 1), s1203.2.2.1, s1203.2.2.2)))

noncomputable def g_net_New_l3 (x0 : Plan) (y15 : Plan) (s58 : (Int × (List (Port × Port)))) (s140 : (Int × (List (Port × Int)))) (s714 : Int × (List (Int × Arr2Int)) × (List (Int × Int))) : Option ((Int × (List (Int × Arr2Int)) × (List (Int × Int))) ⊕ ((Option Net) × Int)) :=
  bif decide (s714.1 < (x0.lines.length : Int)) then (idx x0.lines s714.1).bind fun y1160 => ((bif decide (1 < (y1160.elems.length : Int)) then (idx y1160.elems 0).bind fun y1186 => ((bif (assoc s58.2 (⟨y1186, 0⟩ : Port)).isSome then (idx y1160.elems 1).bind fun y1195 => some ((((assoc s58.2 (⟨y1186, 0⟩ : Port)).getD (⟨0, 0⟩ : Port)).elem) == y1195) else some false : Option (Bool))).bind fun (t1192 : Bool) => bif t1192 then some 1 else some 0 else some 0 : Option (Int))).bind fun (t1181 : Int) => loopR (g_net_New_l4 s58 s714 y1160) (t1181, 0, s714.2.1, s714.2.2) else some (.inr (some (⟨y15, s58.2, s140.2, s714.2.1, s714.2.2⟩ : Net), 0))

noncomputable def g_net_New_l2 (x0 : Plan) (y15 : Plan) (s58 : (Int × (List (Port × Port)))) (s140 : Int × (List (Port × Int))) : Option ((Int × (List (Port × Int))) ⊕ ((Option Net) × Int)) :=
  bif decide (s140.1 < (x0.signals.length : Int)) then (idx x0.signals s140.1).bind fun y176 => some (.inl (wi64 (s140.1 + 1), aput y176.at_ s140.1 s140.2)) else (loopR (g_net_New_l3 x0 y15 s58 s140) (0, [], [])).map .inr

noncomputable def g_net_New_l1 (x0 : Plan) (y15 : Plan) (s58 : Int × (List (Port × Port))) : Option ((Int × (List (Port × Port))) ⊕ ((Option Net) × Int)) :=
  bif decide (s58.1 < (x0.joins.length : Int)) then (idx x0.joins s58.1).bind fun y94 => some (.inl (wi64 (s58.1 + 1), aput y94.b y94.a (aput y94.a y94.b s58.2))) else (loopR (g_net_New_l2 x0 y15 s58) (0, [])).map .inr

noncomputable def g_net_New (x0 : Plan) : Option ((Option Net) × Int) :=
  (g_plan_Check x0).bind fun y9 => bif (y9 != 0) then some (none, y9) else (g_net_twin x0).bind fun y15 => loopR (g_net_New_l1 x0 y15) (0, [])

theorem f_net_New (x0 : Plan) (r : ((Option Net) × Int)) (h : g_net_New x0 = some r) : Fun Try.prog 49 [.agg (planC x0)] (· = .tup [ptrD netC r.1, .int .i64 r.2]) := by
  refine fn env_ok Try.func49 rfl rfl 148 rfl [.tmp 2, .tmp 3] rfl [(0, .p (.agg (planC x0)))] rfl rfl fun A hA => ?_
  unfold g_net_New at h
  refine rs env_ok ?_
  refine rl rfl ?_
  refine dwp_seq ?_
  refine rs env_ok ?_
  refine rn 1 rfl ?_
  obtain ⟨y9, ey9, h10⟩ := bd h; clear h
  refine sx rfl (o_call (f_plan_Check _ _ ey9) (.inl rfl) rfl rfl rfl ?_)
  refine rl rfl ?_
  refine rs env_ok ?_
  refine rl rfl ?_
  refine cd rfl h10 (fun h11 => ?_) (fun h12 => ?_) <;> clear h10
  · refine rs env_ok ?_
    refine rl rfl ?_
    refine dwp_ret ?_
    refine thenD_r ?_
    have hr := Option.some.inj h11; subst hr
    exact er rfl Le.rfl
  · refine dwp_skip ?_
    refine thenD_n ?_
    refine rs env_ok ?_
    refine rn 1 rfl ?_
    obtain ⟨y15, ey15, h16⟩ := bd h12; clear h12
    refine sx rfl (o_call (f_net_twin _ _ ey15) (.inr rfl) rfl rfl rfl ?_)
    refine rl rfl ?_
    refine dwp_seq ?_
    refine rs env_ok ?_
    refine rn 2 rfl ?_
    refine sx rfl (o_len rfl rfl ?_)
    refine rl rfl ?_
    refine dwp_block ?_
    apply lp (a := r) (fun s58 : (Int × (List (Port × Port))) => ⟨148, [(1, .lpb 0 0), (5, .lpb 1 0), (31, .p (.slice 4 (x0.joins.map joinC))), (32, .p (.int .i64 (x0.joins.length : Int))), (33, .p (.int .i64 s58.1))], [(0, .box [.p (.slice 3 (x0.elems.map elemC)), .p (.slice 4 (x0.joins.map joinC)), .p (.slice 4 (x0.signals.map signalC)), .p (.slice 2 (x0.lines.map lineC)), .p (.int .i64 x0.top), .p (.int .i64 x0.brake), .p (.int .i64 x0.margin), .p (.int .i64 x0.throw), .p (.bool x0.hard)]), (1, .box [.p (.slice 3 (y15.elems.map elemC)), .p (.slice 4 (y15.joins.map joinC)), .p (.slice 4 (y15.signals.map signalC)), .p (.slice 2 (y15.lines.map lineC)), .p (.int .i64 y15.top), .p (.int .i64 y15.brake), .p (.int .i64 y15.margin), .p (.int .i64 y15.throw), .p (.bool y15.hard), .lmap 2, .lmap 3, .lmap 4, .lmap 5]), (2, .map (mapD (fun x => .agg (portC x)) (fun x => .agg (portC x)) s58.2)), (3, .map (mapD (fun x => .agg (portC x)) (.int .i64) [])), (4, .map (mapD (.int .i64) (fun x => .agg (arr2IntC x)) [])), (5, .map (mapD (.int .i64) (.int .i64) []))], 6⟩) h16 <;> clear h16
    · exact wk [(0, 0), (1, 5), (2, 1), (3, 2), (4, 3), (5, 4)] (free hA _) rfl rfl rfl (.cons rfl (.cons rfl (.cons rfl (.cons rfl (.cons rfl .nil))))) (.cons rfl rfl (.cons rfl rfl (.cons rfl rfl (.cons rfl rfl (.cons rfl rfl (.cons rfl rfl .nil))))))
    intro s58 b83 h84
    unfold g_net_New_l1 at h84
    refine rs env_ok ?_
    refine rl rfl ?_
    refine dwp_seq ?_
    refine cd rfl h84 (fun h87 => ?_) (fun h96 => ?_) <;> clear h84
    · refine dwp_skip ?_
      refine thenD_n ?_
      refine dwp_seq ?_
      refine dwp_block ?_
      refine rs env_ok ?_
      obtain ⟨y94, ey94, h95⟩ := bd h87; clear h87
      refine sx rfl (o_idx ey94 rfl rfl rfl ?_)
      refine rl rfl ?_
      refine rgd env_ok mixed [0, 1, 2, 3, 4, 5, 6, 7, 8, 9, 10, 11, 12, 13, 14, 15, 16, 17, 18, 19, 20, 21] 22 (by kernel_rfl) rfl rfl rfl ?_
      refine rnD 16 rfl ?_
      refine sxD rfl (opD_plain rfl (o_ment (et := 65) (ke := (fun x => .agg (portC x))) (ve := (fun x => .agg (portC x))) (mp := s58.2) (y := y94.a) (⟨0, 0⟩ : Port) keyE_65 rfl rfl rfl rfl rfl rfl ?_))
      refine rnD 1 rfl ?_
      refine sxD rfl (opD_plain rfl (o_esto (ke := (fun x => .agg (portC x))) (ve := (fun x => .agg (portC x))) (mp := s58.2) (y := y94.a) (z := (⟨0, 0⟩ : Port)) (w := y94.b) rfl rfl rfl rfl rfl ?_))
      refine sxD rfl (opD_plain rfl (o_ment (et := 65) (ke := (fun x => .agg (portC x))) (ve := (fun x => .agg (portC x))) (mp := aput y94.a y94.b s58.2) (y := y94.b) (⟨0, 0⟩ : Port) keyE_65 rfl rfl rfl rfl rfl rfl ?_))
      refine rnD 1 rfl ?_
      refine sxD rfl (opD_plain rfl (o_esto (ke := (fun x => .agg (portC x))) (ve := (fun x => .agg (portC x))) (mp := aput y94.a y94.b s58.2) (y := y94.b) (z := (⟨0, 0⟩ : Port)) (w := y94.a) rfl rfl rfl rfl rfl ?_))
      refine rlD rfl ?_
      refine inB_n ?_
      refine thenD_n ?_
      refine rg env_ok ?_
      refine rl rfl ?_
      have hr := Option.some.inj h95; subst hr
      exact lpn (wk [(0, 0), (1, 1), (2, 2), (3, 3), (4, 4), (5, 5)] (free hA _) rfl rfl rfl (.cons rfl (.cons rfl (.cons rfl (.cons rfl (.cons rfl .nil))))) (.cons rfl rfl (.cons rfl rfl (.cons rfl rfl (.cons rfl rfl (.cons rfl rfl (.cons rfl rfl .nil)))))))
    · refine dwp_exit ?_
      refine thenD_x ?_
      obtain ⟨a97, h98, rfl⟩ := mp h96; clear h96
      refine lpx ?_
      refine inB_x ?_
      refine thenD_n ?_
      refine dwp_seq ?_
      refine rs env_ok ?_
      refine rn 2 rfl ?_
      refine sx rfl (o_len rfl rfl ?_)
      refine rl rfl ?_
      refine dwp_block ?_
      apply lp (a := a97) (fun s140 : (Int × (List (Port × Int))) => ⟨148, [(1, .lpb 0 0), (5, .lpb 1 0), (59, .p (.slice 4 (x0.signals.map signalC))), (60, .p (.int .i64 (x0.signals.length : Int))), (61, .p (.int .i64 s140.1))], [(0, .box [.p (.slice 3 (x0.elems.map elemC)), .p (.slice 4 (x0.joins.map joinC)), .p (.slice 4 (x0.signals.map signalC)), .p (.slice 2 (x0.lines.map lineC)), .p (.int .i64 x0.top), .p (.int .i64 x0.brake), .p (.int .i64 x0.margin), .p (.int .i64 x0.throw), .p (.bool x0.hard)]), (1, .box [.p (.slice 3 (y15.elems.map elemC)), .p (.slice 4 (y15.joins.map joinC)), .p (.slice 4 (y15.signals.map signalC)), .p (.slice 2 (y15.lines.map lineC)), .p (.int .i64 y15.top), .p (.int .i64 y15.brake), .p (.int .i64 y15.margin), .p (.int .i64 y15.throw), .p (.bool y15.hard), .lmap 2, .lmap 3, .lmap 4, .lmap 5]), (2, .map (mapD (fun x => .agg (portC x)) (fun x => .agg (portC x)) s58.2)), (3, .map (mapD (fun x => .agg (portC x)) (.int .i64) s140.2)), (4, .map (mapD (.int .i64) (fun x => .agg (arr2IntC x)) [])), (5, .map (mapD (.int .i64) (.int .i64) []))], 6⟩) h98 <;> clear h98
      · exact wk [(0, 0), (1, 1), (2, 2), (3, 3), (4, 4), (5, 5)] (free hA _) rfl rfl rfl (.cons rfl (.cons rfl (.cons rfl (.cons rfl (.cons rfl .nil))))) (.cons rfl rfl (.cons rfl rfl (.cons rfl rfl (.cons rfl rfl (.cons rfl rfl (.cons rfl rfl .nil))))))
      intro s140 b165 h166
      unfold g_net_New_l2 at h166
      refine rs env_ok ?_
      refine rl rfl ?_
      refine dwp_seq ?_
      refine cd rfl h166 (fun h169 => ?_) (fun h178 => ?_) <;> clear h166
      · refine dwp_skip ?_
        refine thenD_n ?_
        refine dwp_seq ?_
        refine dwp_block ?_
        refine rs env_ok ?_
        refine rn 1 rfl ?_
        obtain ⟨y176, ey176, h177⟩ := bd h169; clear h169
        refine sx rfl (o_idx ey176 rfl rfl rfl ?_)
        refine rl rfl ?_
        refine rgd env_ok mixed [0, 1, 2, 3, 4, 5, 6, 7] 8 (by kernel_rfl) rfl rfl rfl ?_
        refine rnD 7 rfl ?_
        refine sxD rfl (opD_plain rfl (o_mup (et := 3) (ke := (fun x => .agg (portC x))) (ve := (.int .i64)) (mp := s140.2) (y := y176.at_) (z := s140.1) keyE_65 rfl rfl rfl rfl rfl rfl ?_))
        refine rlD rfl ?_
        refine inB_n ?_
        refine thenD_n ?_
        refine rg env_ok ?_
        refine rl rfl ?_
        have hr := Option.some.inj h177; subst hr
        exact lpn (wk [(0, 0), (1, 1), (2, 2), (3, 3), (4, 4), (5, 5)] (free hA _) rfl rfl rfl (.cons rfl (.cons rfl (.cons rfl (.cons rfl (.cons rfl .nil))))) (.cons rfl rfl (.cons rfl rfl (.cons rfl rfl (.cons rfl rfl (.cons rfl rfl (.cons rfl rfl .nil)))))))
      · refine dwp_exit ?_
        refine thenD_x ?_
        obtain ⟨a179, h180, rfl⟩ := mp h178; clear h178
        refine lpx ?_
        refine inB_x ?_
        refine thenD_n ?_
        refine dwp_seq ?_
        refine rs env_ok ?_
        refine rn 2 rfl ?_
        refine sx rfl (o_len rfl rfl ?_)
        refine rl rfl ?_
        refine dwp_block ?_
        apply lp (a := a179) (fun s714 : (Int × (List (Int × Arr2Int)) × (List (Int × Int))) => ⟨148, [(5, .lpb 0 0), (75, .p (.slice 2 (x0.lines.map lineC))), (76, .p (.int .i64 (x0.lines.length : Int))), (77, .p (.int .i64 s714.1))], [(0, .box [.p (.slice 3 (y15.elems.map elemC)), .p (.slice 4 (y15.joins.map joinC)), .p (.slice 4 (y15.signals.map signalC)), .p (.slice 2 (y15.lines.map lineC)), .p (.int .i64 y15.top), .p (.int .i64 y15.brake), .p (.int .i64 y15.margin), .p (.int .i64 y15.throw), .p (.bool y15.hard), .lmap 1, .lmap 2, .lmap 3, .lmap 4]), (1, .map (mapD (fun x => .agg (portC x)) (fun x => .agg (portC x)) s58.2)), (2, .map (mapD (fun x => .agg (portC x)) (.int .i64) s140.2)), (3, .map (mapD (.int .i64) (fun x => .agg (arr2IntC x)) s714.2.1)), (4, .map (mapD (.int .i64) (.int .i64) s714.2.2))], 5⟩) h180 <;> clear h180
        · exact wk [(0, 1), (1, 2), (2, 3), (3, 4), (4, 5)] (free hA _) rfl rfl rfl (.cons rfl (.cons rfl (.cons rfl (.cons rfl .nil)))) (.cons rfl rfl (.cons rfl rfl (.cons rfl rfl (.cons rfl rfl (.cons rfl rfl .nil)))))
        intro s714 b1067 h1068
        unfold g_net_New_l3 at h1068
        refine rs env_ok ?_
        refine rl rfl ?_
        refine dwp_seq ?_
        refine cd rfl h1068 (fun h1071 => ?_) (fun h1244 => ?_) <;> clear h1068
        · refine dwp_skip ?_
          refine thenD_n ?_
          refine dwp_seq ?_
          refine dwp_block ?_
          refine rs env_ok ?_
          refine rn 1 rfl ?_
          obtain ⟨y1160, ey1160, h1161⟩ := bd h1071; clear h1071
          refine sx rfl (o_idx ey1160 rfl rfl rfl ?_)
          refine rl rfl ?_
          refine rs env_ok ?_
          refine rl rfl ?_
          refine jb (fun t1181 : Int => ⟨148, [(5, .lpb 0 0), (10, .p (.int .i64 s714.1)), (11, .lpb 1 0), (12, .p (.int .i64 t1181)), (75, .p (.slice 2 (x0.lines.map lineC))), (76, .p (.int .i64 (x0.lines.length : Int))), (77, .p (.int .i64 s714.1))], [(0, .box [.p (.slice 3 (y15.elems.map elemC)), .p (.slice 4 (y15.joins.map joinC)), .p (.slice 4 (y15.signals.map signalC)), .p (.slice 2 (y15.lines.map lineC)), .p (.int .i64 y15.top), .p (.int .i64 y15.brake), .p (.int .i64 y15.margin), .p (.int .i64 y15.throw), .p (.bool y15.hard), .lmap 2, .lmap 3, .lmap 4, .lmap 5]), (1, .box [.p (.str y1160.name), .p (.slice 1 (y1160.elems.map intC))]), (2, .map (mapD (fun x => .agg (portC x)) (fun x => .agg (portC x)) s58.2)), (3, .map (mapD (fun x => .agg (portC x)) (.int .i64) s140.2)), (4, .map (mapD (.int .i64) (fun x => .agg (arr2IntC x)) s714.2.1)), (5, .map (mapD (.int .i64) (.int .i64) s714.2.2))], 6⟩) h1161 (fun t1181 h1182 => ?_) (fun t1181 h1202 => ?_) <;> clear h1161
          · refine rs env_ok ?_
            refine rn 2 rfl ?_
            refine sx rfl (o_len rfl rfl ?_)
            refine rl rfl ?_
            refine cd rfl h1182 (fun h1183 => ?_) (fun h1201 => ?_) <;> clear h1182
            · refine dwp_seq ?_
              refine rgd env_ok mixed [0, 1, 2, 3, 4, 5, 6, 7, 8, 9, 10, 11, 12, 13, 14, 15] 16 (by kernel_rfl) rfl rfl rfl ?_
              refine rnD 6 rfl ?_
              obtain ⟨y1186, ey1186, h1187⟩ := bd h1183; clear h1183
              refine sxD rfl (opD_plain rfl (o_idx ey1186 rfl rfl rfl ?_))
              refine rnD 2 rfl ?_
              refine sxD rfl (opD_plain rfl (o_lk2 (et := 65) (ke := (fun x => .agg (portC x))) (ve := (fun x => .agg (portC x))) (mp := s58.2) (y := (⟨y1186, 0⟩ : Port)) (⟨0, 0⟩ : Port) keyE_65 rfl rfl rfl rfl ?_))
              refine rlD rfl ?_
              refine thenD_n ?_
              refine jb (fun t1192 : Bool => ⟨148, [(5, .lpb 0 0), (10, .p (.int .i64 s714.1)), (11, .lpb 1 0), (12, .p (.int .i64 0)), (75, .p (.slice 2 (x0.lines.map lineC))), (76, .p (.int .i64 (x0.lines.length : Int))), (77, .p (.int .i64 s714.1)), (108, .p (.bool t1192))], [(0, .box [.p (.slice 3 (y15.elems.map elemC)), .p (.slice 4 (y15.joins.map joinC)), .p (.slice 4 (y15.signals.map signalC)), .p (.slice 2 (y15.lines.map lineC)), .p (.int .i64 y15.top), .p (.int .i64 y15.brake), .p (.int .i64 y15.margin), .p (.int .i64 y15.throw), .p (.bool y15.hard), .lmap 2, .lmap 3, .lmap 4, .lmap 5]), (1, .box [.p (.str y1160.name), .p (.slice 1 (y1160.elems.map intC))]), (2, .map (mapD (fun x => .agg (portC x)) (fun x => .agg (portC x)) s58.2)), (3, .map (mapD (fun x => .agg (portC x)) (.int .i64) s140.2)), (4, .map (mapD (.int .i64) (fun x => .agg (arr2IntC x)) s714.2.1)), (5, .map (mapD (.int .i64) (.int .i64) s714.2.2))], 6⟩) h1187 (fun t1192 h1193 => ?_) (fun t1192 h1198 => ?_) <;> clear h1187
              · refine rgd env_ok mixed [0, 1, 2, 3, 4, 5, 6, 7, 8, 9] 10 (by kernel_rfl) rfl rfl rfl ?_
                refine rnD 2 rfl ?_
                refine gsD 100 h1193 rfl rfl rfl (fun h1194 => ?_) (fun h1197 => ?_) <;> clear h1193
                · refine rnD 4 rfl ?_
                  obtain ⟨y1195, ey1195, h1196⟩ := bd h1194; clear h1194
                  refine sxD rfl (opD_plain rfl (o_idx ey1195 rfl rfl rfl ?_))
                  refine rlD rfl ?_
                  have hr := Option.some.inj h1196; subst hr
                  exact npn (wk [(0, 0), (1, 5), (2, 1), (3, 2), (4, 3), (5, 4)] (free hA _) rfl rfl rfl (.cons rfl (.cons rfl (.cons rfl (.cons rfl (.cons rfl (.cons rfl (.cons rfl (.cons rfl .nil)))))))) (.cons rfl rfl (.cons rfl rfl (.cons rfl rfl (.cons rfl rfl (.cons rfl rfl (.cons rfl rfl .nil)))))))
                · refine rlD rfl ?_
                  have hr := Option.some.inj h1197; subst hr
                  exact npn (wk [(0, 0), (1, 5), (2, 1), (3, 2), (4, 3), (5, 4)] (free hA _) rfl rfl rfl (.cons rfl (.cons rfl (.cons rfl (.cons rfl (.cons rfl (.cons rfl (.cons rfl (.cons rfl .nil)))))))) (.cons rfl rfl (.cons rfl rfl (.cons rfl rfl (.cons rfl rfl (.cons rfl rfl (.cons rfl rfl .nil)))))))
              · refine cd rfl h1198 (fun h1199 => ?_) (fun h1200 => ?_) <;> clear h1198
                · refine rg env_ok ?_
                  refine rl rfl ?_
                  have hr := Option.some.inj h1199; subst hr
                  exact npn (wk [(0, 0), (1, 1), (2, 2), (3, 3), (4, 4), (5, 5)] (free hA _) rfl rfl rfl (.cons rfl (.cons rfl (.cons rfl (.cons rfl (.cons rfl (.cons rfl (.cons rfl .nil))))))) (.cons rfl rfl (.cons rfl rfl (.cons rfl rfl (.cons rfl rfl (.cons rfl rfl (.cons rfl rfl .nil)))))))
                · refine dwp_skip ?_
                  have hr := Option.some.inj h1200; subst hr
                  exact npn (wk [(0, 0), (1, 1), (2, 2), (3, 3), (4, 4), (5, 5)] (free hA _) rfl rfl rfl (.cons rfl (.cons rfl (.cons rfl (.cons rfl (.cons rfl (.cons rfl (.cons rfl .nil))))))) (.cons rfl rfl (.cons rfl rfl (.cons rfl rfl (.cons rfl rfl (.cons rfl rfl (.cons rfl rfl .nil)))))))
            · refine dwp_skip ?_
              have hr := Option.some.inj h1201; subst hr
              exact npn (wk [(0, 0), (1, 5), (2, 1), (3, 2), (4, 3), (5, 4)] (free hA _) rfl rfl rfl (.cons rfl (.cons rfl (.cons rfl (.cons rfl (.cons rfl (.cons rfl (.cons rfl .nil))))))) (.cons rfl rfl (.cons rfl rfl (.cons rfl rfl (.cons rfl rfl (.cons rfl rfl (.cons rfl rfl .nil)))))))
          · refine rs env_ok ?_
            refine rn 2 rfl ?_
            refine sx rfl (o_len rfl rfl ?_)
            refine rl rfl ?_
            refine dwp_block ?_
            apply lp (a := b1067) (fun s1203 : (Int × Int × (List (Int × Arr2Int)) × (List (Int × Int))) => ⟨148, [(5, .lpb 0 0), (10, .p (.int .i64 s714.1)), (12, .p (.int .i64 s1203.1)), (75, .p (.slice 2 (x0.lines.map lineC))), (76, .p (.int .i64 (x0.lines.length : Int))), (77, .p (.int .i64 s714.1)), (110, .p (.slice 1 (y1160.elems.map intC))), (111, .p (.int .i64 (y1160.elems.length : Int))), (112, .p (.int .i64 s1203.2.1))], [(0, .box [.p (.slice 3 (y15.elems.map elemC)), .p (.slice 4 (y15.joins.map joinC)), .p (.slice 4 (y15.signals.map signalC)), .p (.slice 2 (y15.lines.map lineC)), .p (.int .i64 y15.top), .p (.int .i64 y15.brake), .p (.int .i64 y15.margin), .p (.int .i64 y15.throw), .p (.bool y15.hard), .lmap 1, .lmap 2, .lmap 3, .lmap 4]), (1, .map (mapD (fun x => .agg (portC x)) (fun x => .agg (portC x)) s58.2)), (2, .map (mapD (fun x => .agg (portC x)) (.int .i64) s140.2)), (3, .map (mapD (.int .i64) (fun x => .agg (arr2IntC x)) s1203.2.2.1)), (4, .map (mapD (.int .i64) (.int .i64) s1203.2.2.2))], 5⟩) h1202 <;> clear h1202
            · exact wk [(0, 0), (1, 2), (2, 3), (3, 4), (4, 5)] (free hA _) rfl rfl rfl (.cons rfl (.cons rfl (.cons rfl (.cons rfl (.cons rfl (.cons rfl (.cons rfl (.cons rfl (.cons rfl .nil))))))))) (.cons rfl rfl (.cons rfl rfl (.cons rfl rfl (.cons rfl rfl (.cons rfl rfl .nil)))))
            intro s1203 b1228 h1229
            unfold g_net_New_l4 at h1229
            refine rs env_ok ?_
            refine rl rfl ?_
            refine dwp_seq ?_
            refine cd rfl h1229 (fun h1232 => ?_) (fun h1241 => ?_) <;> clear h1229
            · refine dwp_skip ?_
              refine thenD_n ?_
              refine dwp_seq ?_
              refine dwp_block ?_
              refine rs env_ok ?_
              refine rn 1 rfl ?_
              obtain ⟨y1239, ey1239, h1240⟩ := bd h1232; clear h1232
              refine sx rfl (o_idx ey1239 rfl rfl rfl ?_)
              refine rl rfl ?_
              refine dwp_seq ?_
              refine rgd env_ok mixed [0, 1, 2, 3, 4, 5, 6, 7, 8, 9, 10, 11, 12, 13, 14, 15, 16, 17, 18, 19] 20 (by kernel_rfl) rfl rfl rfl ?_
              refine rnD 14 rfl ?_
              refine sxD rfl (opD_plain rfl (o_ment (et := 135) (ke := (.int .i64)) (ve := (fun x => .agg (arr2IntC x))) (mp := s1203.2.2.1) (y := y1239) (⟨0, 0⟩ : Arr2Int) keyE_3 rfl rfl rfl rfl rfl rfl ?_))
              refine rnD 1 rfl ?_
              refine sxD rfl (opD_plain rfl (o_esto (ke := (.int .i64)) (ve := (fun x => .agg (arr2IntC x))) (mp := s1203.2.2.1) (y := y1239) (z := (⟨0, 0⟩ : Arr2Int)) (w := (⟨s714.1, s1203.2.1⟩ : Arr2Int)) rfl rfl rfl rfl rfl ?_))
              refine sxD rfl (opD_plain rfl (o_ment (et := 3) (ke := (.int .i64)) (ve := (.int .i64)) (mp := s1203.2.2.2) (y := y1239) 0 keyE_3 rfl rfl rfl rfl rfl rfl ?_))
              refine rnD 1 rfl ?_
              refine sxD rfl (opD_plain rfl (o_esto (ke := (.int .i64)) (ve := (.int .i64)) (mp := s1203.2.2.2) (y := y1239) (z := 0) (w := s1203.1) rfl rfl rfl rfl rfl ?_))
              refine rlD rfl ?_
              refine thenD_n ?_
              refine rg env_ok ?_
              refine rn 8 rfl ?_
              refine sx rfl (o_lk1 (et := 65) (ke := (fun x => .agg (portC x))) (ve := (fun x => .agg (portC x))) (mp := s58.2) (y := (⟨y1239, wi64 (1 - s1203.1)⟩ : Port)) (⟨0, 0⟩ : Port) keyE_65 rfl rfl rfl rfl ?_)
              refine rl rfl ?_
              refine inB_n ?_
              refine thenD_n ?_
              refine rg env_ok ?_
              refine rl rfl ?_
              have hr := Option.some.inj h1240; subst hr
              exact lpn (wk [(0, 0), (1, 1), (2, 2), (3, 3), (4, 4)] (free hA _) rfl rfl rfl (.cons rfl (.cons rfl (.cons rfl (.cons rfl (.cons rfl (.cons rfl (.cons rfl (.cons rfl (.cons rfl .nil))))))))) (.cons rfl rfl (.cons rfl rfl (.cons rfl rfl (.cons rfl rfl (.cons rfl rfl .nil))))))
            · refine dwp_exit ?_
              refine thenD_x ?_
              obtain ⟨a1242, h1243, rfl⟩ := mps h1241; clear h1241
              refine lpx ?_
              refine inB_x ?_
              refine inB_n ?_
              refine thenD_n ?_
              refine rg env_ok ?_
              refine rl rfl ?_
              have hr := Option.some.inj h1243; subst hr
              exact lpn (wk [(0, 0), (1, 1), (2, 2), (3, 3), (4, 4)] (free hA _) rfl rfl rfl (.cons rfl (.cons rfl (.cons rfl (.cons rfl .nil)))) (.cons rfl rfl (.cons rfl rfl (.cons rfl rfl (.cons rfl rfl (.cons rfl rfl .nil))))))
        · refine dwp_exit ?_
          refine thenD_x ?_
          obtain ⟨a1245, h1246, rfl⟩ := mps h1244; clear h1244
          refine lpx ?_
          refine inB_x ?_
          refine thenD_n ?_
          refine rs env_ok ?_
          refine rl rfl ?_
          refine dwp_ret ?_
          have hr := Option.some.inj h1246; subst hr
          exact er (rdN rfl (.cons (.box rfl (.cons (.p _) (.cons (.p _) (.cons (.p _) (.cons (.p _) (.cons (.p _) (.cons (.p _) (.cons (.p _) (.cons (.p _) (.cons (.p _) (.cons (.map rfl) (.cons (.map rfl) (.cons (.map rfl) (.cons (.map rfl) .nil)))))))))))))) (.cons (.one (.p _)) .nil))) Le.rfl

end Go.E
/- Plain functions, and walks in step with them. Written by a program (gen.py). No condition. -/
set_option maxRecDepth 100000
namespace Go.E
open Go Go.RowKit Go.Proofs

noncomputable def g_L4_Made (x0 : Plan) : Option (Option Net) :=
  (g_R6_Fine x0).bind fun y9 => bif (!y9) then some none else (g_net_New x0).bind fun y16 => optM y16.1 (bif (y16.2 != 0) then some none else some none) fun z18 => bif (y16.2 != 0) then some none else some (some z18)

theorem f_L4_Made (x0 : Plan) (r : (Option Net)) (h : g_L4_Made x0 = some r) : Fun Try.prog 16 [.agg (planC x0)] (· = ptrD netC r) := by
  refine fn env_ok Try.func16 rfl rfl 16 rfl [.tmp 2] rfl [(0, .p (.agg (planC x0)))] rfl rfl fun A hA => ?_
  unfold g_L4_Made at h
  refine rs env_ok ?_
  refine rl rfl ?_
  refine dwp_seq ?_
  refine rs env_ok ?_
  refine rn 1 rfl ?_
  obtain ⟨y9, ey9, h10⟩ := bd h; clear h
  refine sx rfl (o_call (f_R6_Fine _ _ ey9) (.inl rfl) rfl rfl rfl ?_)
  refine rl rfl ?_
  refine cd rfl h10 (fun h11 => ?_) (fun h12 => ?_) <;> clear h10
  · refine rs env_ok ?_
    refine rl rfl ?_
    refine dwp_ret ?_
    refine thenD_r ?_
    have hr := Option.some.inj h11; subst hr
    exact er rfl Le.rfl
  · refine dwp_skip ?_
    refine thenD_n ?_
    refine rs env_ok ?_
    refine rn 1 rfl ?_
    obtain ⟨y16, ey16, h17⟩ := bd h12; clear h12
    refine sx rfl (o_call (f_net_New _ _ ey16) (.inr rfl) rfl rfl rfl ?_)
    revert h17; rcases hqz18 : y16.1 with _ | z18 <;> intro h17
    · replace h17 := omN h17
      refine rl rfl ?_
      refine dwp_seq ?_
      refine rs env_ok ?_
      refine rl rfl ?_
      refine cd rfl h17 (fun h21 => ?_) (fun h22 => ?_) <;> clear h17
      · refine rs env_ok ?_
        refine rl rfl ?_
        refine dwp_ret ?_
        refine thenD_r ?_
        have hr := Option.some.inj h21; subst hr
        exact er rfl Le.rfl
      · refine dwp_skip ?_
        refine thenD_n ?_
        refine rs env_ok ?_
        refine rl rfl ?_
        refine dwp_ret ?_
        have hr := Option.some.inj h22; subst hr
        exact er rfl Le.rfl
    · replace h17 := omS h17
      refine rl rfl ?_
      refine dwp_seq ?_
      refine rs env_ok ?_
      refine rl rfl ?_
      refine cd rfl h17 (fun h25 => ?_) (fun h26 => ?_) <;> clear h17
      · refine rs env_ok ?_
        refine rl rfl ?_
        refine dwp_ret ?_
        refine thenD_r ?_
        have hr := Option.some.inj h25; subst hr
        exact er rfl Le.rfl
      · refine dwp_skip ?_
        refine thenD_n ?_
        refine rs env_ok ?_
        refine rl rfl ?_
        refine dwp_ret ?_
        have hr := Option.some.inj h26; subst hr
        exact er rfl Le.rfl

noncomputable def g_R6_At (x0 : Plan) (x1 : Int) : Option (Port × Bool) :=
  ((bif decide (x1 < 0) then some true else some (decide ((x0.signals.length : Int) ≤ x1)) : Option (Bool))).bind fun (t12 : Bool) => bif t12 then some ((⟨0, 0⟩ : Port), false) else (idx x0.signals x1).bind fun y21 => some (y21.at_, true)

theorem f_R6_At (x0 : Plan) (x1 : Int) (r : (Port × Bool)) (h : g_R6_At x0 x1 = some r) : Fun Try.prog 74 [.agg (planC x0), .int .i64 x1] (· = .tup [.agg (portC r.1), .bool r.2]) := by
  refine fn env_ok Try.func74 rfl rfl 22 rfl [.cell 4 65, .tmp 5] rfl [(0, .p (.agg (planC x0))), (1, .p (.int .i64 x1))] rfl rfl fun A hA => ?_
  unfold g_R6_At at h
  refine rs env_ok ?_
  refine rl rfl ?_
  refine dwp_seq ?_
  refine jb (fun t12 : Bool => ⟨22, [(1, .p (.int .i64 x1)), (2, .lpb 0 0), (4, .lpb 1 0), (14, .p (.bool t12))], [(0, .box [.p (.slice 3 (x0.elems.map elemC)), .p (.slice 4 (x0.joins.map joinC)), .p (.slice 4 (x0.signals.map signalC)), .p (.slice 2 (x0.lines.map lineC)), .p (.int .i64 x0.top), .p (.int .i64 x0.brake), .p (.int .i64 x0.margin), .p (.int .i64 x0.throw), .p (.bool x0.hard)]), (1, .box [.p (.int .i64 0), .p (.int .i64 0)])], 2⟩) h (fun t12 h13 => ?_) (fun t12 h16 => ?_) <;> clear h
  · refine rg env_ok ?_
    refine rn 3 rfl ?_
    refine gs 8 h13 rfl rfl rfl (fun h14 => ?_) (fun h15 => ?_) <;> clear h13
    · refine rl rfl ?_
      have hr := Option.some.inj h14; subst hr
      exact npn (wk [(0, 0), (1, 1)] (free hA _) rfl rfl rfl (.cons rfl (.cons rfl (.cons rfl (.cons rfl .nil)))) (.cons rfl rfl (.cons rfl rfl .nil)))
    · refine rn 3 rfl ?_
      refine sx rfl (o_len rfl rfl ?_)
      refine rl rfl ?_
      have hr := Option.some.inj h15; subst hr
      exact npn (wk [(0, 0), (1, 1)] (free hA _) rfl rfl rfl (.cons rfl (.cons rfl (.cons rfl (.cons rfl .nil)))) (.cons rfl rfl (.cons rfl rfl .nil)))
  · refine cd rfl h16 (fun h17 => ?_) (fun h18 => ?_) <;> clear h16
    · refine rs env_ok ?_
      refine rl rfl ?_
      refine dwp_ret ?_
      refine thenD_r ?_
      have hr := Option.some.inj h17; subst hr
      exact er rfl Le.rfl
    · refine dwp_skip ?_
      refine thenD_n ?_
      refine rs env_ok ?_
      refine rn 3 rfl ?_
      obtain ⟨y21, ey21, h22⟩ := bd h18; clear h18
      refine sx rfl (o_idx ey21 rfl rfl rfl ?_)
      refine rl rfl ?_
      refine dwp_ret ?_
      have hr := Option.some.inj h22; subst hr
      exact er rfl Le.rfl

noncomputable def g_R6_Kind (x0 : Plan) (x1 : Int) : Option Int :=
  (g_R6_kind x0 x1).bind fun y3 => some y3

theorem f_R6_Kind (x0 : Plan) (x1 : Int) (r : Int) (h : g_R6_Kind x0 x1 = some r) : Fun Try.prog 68 [.agg (planC x0), .int .i64 x1] (· = .int .i64 r) := by
  refine fn env_ok Try.func68 rfl rfl 8 rfl [.tmp 4] rfl [(0, .p (.agg (planC x0))), (1, .p (.int .i64 x1))] rfl rfl fun A hA => ?_
  unfold g_R6_Kind at h
  refine rs env_ok ?_
  refine rl rfl ?_
  refine rs env_ok ?_
  refine rn 2 rfl ?_
  obtain ⟨y3, ey3, h4⟩ := bd h; clear h
  refine sx rfl (o_call (f_R6_kind _ _ _ ey3) (.inl rfl) rfl rfl rfl ?_)
  refine rl rfl ?_
  refine dwp_ret ?_
  have hr := Option.some.inj h4; subst hr
  exact er rfl Le.rfl

noncomputable def g_R12_with (x0 : Road) (x1 : Step) (x2 : Int) (x3 : Int) (x4 : Int) : Option Road :=
  (appI ([] : List Step) x0.steps).bind fun y5 => (appI y5 [x1]).bind fun y7 => (appI ([] : List Need) x0.needs).bind fun y11 => ((bif (x2 != 0) then (appI y11 [(⟨x1.elem, x2⟩ : Need)]).bind fun y20 => some y20 else some y11 : Option ((List Need)))).bind fun (t17 : (List Need)) => some (⟨x0.frm, x4, x3, y7, t17, [], [], [], false⟩ : Road)

theorem f_R12_with (x0 : Road) (x1 : Step) (x2 : Int) (x3 : Int) (x4 : Int) (r : Road) (h : g_R12_with x0 x1 x2 x3 x4 = some r) : Fun Try.prog 94 [.agg (roadC x0), .agg (stepC x1), .int .i64 x2, .int .i64 x3, .int .i64 x4] (· = .agg (roadC r)) := by
  refine fn env_ok Try.func94 rfl rfl 42 rfl [.cell 10 36] rfl [(0, .p (.agg (roadC x0))), (1, .p (.agg (stepC x1))), (2, .p (.int .i64 x2)), (3, .p (.int .i64 x3)), (4, .p (.int .i64 x4))] rfl rfl fun A hA => ?_
  unfold g_R12_with at h
  refine rs env_ok ?_
  refine rl rfl ?_
  refine rs env_ok ?_
  refine rl rfl ?_
  refine dwp_seq ?_
  obtain ⟨y5, ey5, h6⟩ := bd h; clear h
  obtain ⟨y7, ey7, h8⟩ := bd h6; clear h6
  refine rgdT env_ok mixed (.picks [1, 2] (.alt 0 [] (.alt 3 [4, 5, 6, 7, 8] .done (.alt 4 [] (.alt 3 [5, 6, 7, 8] .done (.alt 5 [3, 6, 7, 8] .done .nil)) .nil)) (.alt 4 [0] (.alt 3 [5, 6, 7, 8] .done (.alt 5 [3, 6, 7, 8] .done .nil)) .nil))) 9 ⟨42, [(2, .p (.int .i64 x2)), (5, .lpb 0 0), (6, .lpb 1 0), (10, .lpb 2 0), (11, .lpb 3 0)], [(0, .box [.p (.int .i64 x0.frm), .p (.int .i64 x0.to), .p (.int .i64 x0.fin), .p (.slice 3 (x0.steps.map stepC)), .p (.slice 2 (x0.needs.map needC)), .p (.slice 2 (x0.guards.map needC)), .p (.slice 1 (x0.zone.map intC)), .p (.slice 1 (x0.holds.map intC)), .p (.bool x0.bare)]), (1, .box [.p (.int .i64 x1.elem), .p (.int .i64 x1.in_), .p (.int .i64 x1.out)]), (2, .box [.p (.int .i64 0), .p (.int .i64 0), .p (.int .i64 0), .p (.nils), .p (.nils), .p (.nils), .p (.nils), .p (.nils), .p (.bool false)]), (3, .box [.p (.int .i64 x0.frm), .p (.int .i64 x4), .p (.int .i64 x3), .lsl 4 3 0 y7.length, .p (.nils), .p (.nils), .p (.nils), .p (.nils), .p (.bool false)]), (4, .row 63 3 (y7.map stepC))], 5⟩ (by kernel_rfl) rfl ?_ ?_
  · refine drT_p ?_
    refine rlD rfl ?_
    refine drT_a ?_ ?_
    · refine rlD rfl ?_
      refine drT_a ?_ ?_
      · refine sxD rfl (opD_app (o_app1 (enc := stepC) (l := ([] : List Step)) (m := x0.steps) ey5 (fun _ => ⟨rfl, rfl⟩) rfl rfl rfl rfl rfl rfl ?_))
        refine rnD 2 rfl ?_
        refine sxD rfl (opD_app (o_app1 (enc := stepC) (l := y5) (m := [x1]) ey7 (fun _ => ⟨rfl, rfl⟩) rfl rfl rfl rfl rfl rfl ?_))
        refine rlD rfl ?_
        exact drT_d (wk [(0, 0), (1, 1), (2, 2), (3, 3), (4, 10)] (free hA _) rfl rfl rfl (.cons rfl (.cons rfl (.cons rfl (.cons rfl (.cons rfl .nil))))) (.cons rfl rfl (.cons rfl rfl (.cons rfl rfl (.cons rfl rfl (.cons rfl rfl .nil))))))
      refine drT_a ?_ ?_
      · refine rlD rfl ?_
        refine drT_a ?_ ?_
        · refine sxD rfl (opD_app (o_app1 (enc := stepC) (l := ([] : List Step)) (m := x0.steps) ey5 (fun _ => ⟨rfl, rfl⟩) rfl rfl rfl rfl rfl rfl ?_))
          refine rnD 1 rfl ?_
          refine sxD rfl (opD_app (o_app1 (enc := stepC) (l := y5) (m := [x1]) ey7 (fun _ => ⟨rfl, rfl⟩) rfl rfl rfl rfl rfl rfl ?_))
          refine rlD rfl ?_
          exact drT_d (wk [(0, 0), (1, 1), (2, 2), (3, 3), (4, 10)] (free hA _) rfl rfl rfl (.cons rfl (.cons rfl (.cons rfl (.cons rfl (.cons rfl .nil))))) (.cons rfl rfl (.cons rfl rfl (.cons rfl rfl (.cons rfl rfl (.cons rfl rfl .nil))))))
        refine drT_a ?_ ?_
        · refine rnD 1 rfl ?_
          refine sxD rfl (opD_app (o_app1 (enc := stepC) (l := ([] : List Step)) (m := x0.steps) ey5 (fun _ => ⟨rfl, rfl⟩) rfl rfl rfl rfl rfl rfl ?_))
          refine sxD rfl (opD_app (o_app1 (enc := stepC) (l := y5) (m := [x1]) ey7 (fun _ => ⟨rfl, rfl⟩) rfl rfl rfl rfl rfl rfl ?_))
          refine rlD rfl ?_
          exact drT_d (wk [(0, 0), (1, 1), (2, 2), (3, 3), (4, 10)] (free hA _) rfl rfl rfl (.cons rfl (.cons rfl (.cons rfl (.cons rfl (.cons rfl .nil))))) (.cons rfl rfl (.cons rfl rfl (.cons rfl rfl (.cons rfl rfl (.cons rfl rfl .nil))))))
        exact drT_n
      exact drT_n
    refine drT_a ?_ ?_
    · refine rlD rfl ?_
      refine drT_a ?_ ?_
      · refine sxD rfl (opD_app (o_app1 (enc := stepC) (l := ([] : List Step)) (m := x0.steps) ey5 (fun _ => ⟨rfl, rfl⟩) rfl rfl rfl rfl rfl rfl ?_))
        refine rnD 1 rfl ?_
        refine sxD rfl (opD_app (o_app1 (enc := stepC) (l := y5) (m := [x1]) ey7 (fun _ => ⟨rfl, rfl⟩) rfl rfl rfl rfl rfl rfl ?_))
        refine rlD rfl ?_
        exact drT_d (wk [(0, 0), (1, 1), (2, 2), (3, 3), (4, 10)] (free hA _) rfl rfl rfl (.cons rfl (.cons rfl (.cons rfl (.cons rfl (.cons rfl .nil))))) (.cons rfl rfl (.cons rfl rfl (.cons rfl rfl (.cons rfl rfl (.cons rfl rfl .nil))))))
      refine drT_a ?_ ?_
      · refine rnD 1 rfl ?_
        refine sxD rfl (opD_app (o_app1 (enc := stepC) (l := ([] : List Step)) (m := x0.steps) ey5 (fun _ => ⟨rfl, rfl⟩) rfl rfl rfl rfl rfl rfl ?_))
        refine sxD rfl (opD_app (o_app1 (enc := stepC) (l := y5) (m := [x1]) ey7 (fun _ => ⟨rfl, rfl⟩) rfl rfl rfl rfl rfl rfl ?_))
        refine rlD rfl ?_
        exact drT_d (wk [(0, 0), (1, 1), (2, 2), (3, 3), (4, 10)] (free hA _) rfl rfl rfl (.cons rfl (.cons rfl (.cons rfl (.cons rfl (.cons rfl .nil))))) (.cons rfl rfl (.cons rfl rfl (.cons rfl rfl (.cons rfl rfl (.cons rfl rfl .nil))))))
      exact drT_n
    exact drT_n
  · refine thenD_n ?_
    refine rs env_ok ?_
    refine rn 3 rfl ?_
    obtain ⟨y11, ey11, h12⟩ := bd h8; clear h8
    refine sx rfl (o_app1 (enc := needC) (l := ([] : List Need)) (m := x0.needs) ey11 (fun _ => ⟨rfl, rfl⟩) rfl rfl rfl rfl rfl rfl ?_)
    refine rl rfl ?_
    refine jb (fun t17 : (List Need) => ⟨42, [(10, .lpb 0 0), (11, .lpb 1 0)], [(0, .box [.p (.int .i64 0), .p (.int .i64 0), .p (.int .i64 0), .p (.nils), .p (.nils), .p (.nils), .p (.nils), .p (.nils), .p (.bool false)]), (1, .box [.p (.int .i64 x0.frm), .p (.int .i64 x4), .p (.int .i64 x3), .lsl 2 3 0 y7.length, .lsl 3 2 0 t17.length, .p (.nils), .p (.nils), .p (.nils), .p (.bool false)]), (2, .row 63 3 (y7.map stepC)), (3, .row 46 2 (t17.map needC))], 4⟩) h12 (fun t17 h18 => ?_) (fun t17 h23 => ?_) <;> clear h12
    · refine rs env_ok ?_
      refine rl rfl ?_
      refine cd rfl h18 (fun h19 => ?_) (fun h22 => ?_) <;> clear h18
      · refine rg env_ok ?_
        refine rn 7 rfl ?_
        obtain ⟨y20, ey20, h21⟩ := bd h19; clear h19
        refine sx rfl (o_app1 (enc := needC) (l := y11) (m := [(⟨x1.elem, x2⟩ : Need)]) ey20 (fun _ => ⟨rfl, rfl⟩) rfl rfl rfl rfl rfl rfl ?_)
        refine rl rfl ?_
        have hr := Option.some.inj h21; subst hr
        exact npn (wk [(0, 2), (1, 3), (2, 4), (3, 8)] (free hA _) rfl rfl rfl (.cons rfl (.cons rfl .nil)) (.cons rfl rfl (.cons rfl rfl (.cons rfl rfl (.cons rfl rfl .nil)))))
      · refine dwp_skip ?_
        have hr := Option.some.inj h22; subst hr
        exact npn (wk [(0, 2), (1, 3), (2, 4), (3, 6)] (free hA _) rfl rfl rfl (.cons rfl (.cons rfl .nil)) (.cons rfl rfl (.cons rfl rfl (.cons rfl rfl (.cons rfl rfl .nil)))))
    · refine rs env_ok ?_
      refine rl rfl ?_
      refine dwp_ret ?_
      have hr := Option.some.inj h23; subst hr
      exact er (rd1 rfl (.agg (.cons (.p _) (.cons (.p _) (.cons (.p _) (.cons (.own (enc := stepC) y7 rfl rfl) (.cons (.own (enc := needC) t17 rfl rfl) (.cons (.p _) (.cons (.p _) (.cons (.p _) (.cons (.p _) .nil))))))))))) (Le.agg' (.cons Le.rfl (.cons Le.rfl (.cons Le.rfl (.cons Le.rfl (.cons Le.rfl (.cons (Le.nil _) (.cons (Le.nil _) (.cons (Le.nil _) (.cons Le.rfl .nil))))))))))

noncomputable def g_R6_Outs (x0 : Plan) (x1 : Int) (x2 : Int) : Option (List Way) :=
  (g_R6_has x0 (⟨x1, x2⟩ : Port)).bind fun y9 => bif (!y9) then some [] else (g_R6_kind x0 x1).bind fun y29 => bif (y29 == 1) then some [(⟨wi64 (1 - x2), 0⟩ : Way)] else bif (y29 == 3) then some [(⟨xor64 x2 1, 0⟩ : Way)] else bif (y29 == 2) then bif (x2 == 0) then some [(⟨1, 1⟩ : Way), (⟨2, 2⟩ : Way)] else some [(⟨0, x2⟩ : Way)] else some []

theorem f_R6_Outs (x0 : Plan) (x1 : Int) (x2 : Int) (r : (List Way)) (h : g_R6_Outs x0 x1 x2 = some r) : Fun Try.prog 95 [.agg (planC x0), .int .i64 x1, .int .i64 x2] (· = .slice 2 (r.map wayC)) := by
  refine fn env_ok Try.func95 rfl rfl 38 rfl [.tmp 6] rfl [(0, .p (.agg (planC x0))), (1, .p (.int .i64 x1)), (2, .p (.int .i64 x2))] rfl rfl fun A hA => ?_
  unfold g_R6_Outs at h
  refine rs env_ok ?_
  refine rl rfl ?_
  refine dwp_seq ?_
  refine rs env_ok ?_
  refine rn 4 rfl ?_
  obtain ⟨y9, ey9, h10⟩ := bd h; clear h
  refine sx rfl (o_call (f_R6_has _ _ _ ey9) (.inl rfl) rfl rfl rfl ?_)
  refine rl rfl ?_
  refine cd rfl h10 (fun h11 => ?_) (fun h12 => ?_) <;> clear h10
  · refine rs env_ok ?_
    refine rl rfl ?_
    refine dwp_ret ?_
    refine thenD_r ?_
    have hr := Option.some.inj h11; subst hr
    exact er rfl (Le.nil _)
  · refine dwp_skip ?_
    refine thenD_n ?_
    refine dwp_seq ?_
    refine rs env_ok ?_
    refine rn 2 rfl ?_
    obtain ⟨y29, ey29, h30⟩ := bd h12; clear h12
    refine sx rfl (o_call (f_R6_kind _ _ _ ey29) (.inl rfl) rfl rfl rfl ?_)
    refine rl rfl ?_
    refine dwp_block ?_
    refine rs env_ok ?_
    refine rl rfl ?_
    refine cd rfl h30 (fun h31 => ?_) (fun h32 => ?_) <;> clear h30
    · refine rs env_ok ?_
      refine rl rfl ?_
      refine dwp_ret ?_
      refine inB_r ?_
      refine thenD_r ?_
      have hr := Option.some.inj h31; subst hr
      exact er (rd1 rfl (.one (.own (enc := wayC) ([(⟨wi64 (1 - x2), 0⟩ : Way)] : List Way) rfl rfl))) Le.rfl
    · refine rs env_ok ?_
      refine rl rfl ?_
      refine cd rfl h32 (fun h33 => ?_) (fun h34 => ?_) <;> clear h32
      · refine rs env_ok ?_
        refine rl rfl ?_
        refine dwp_ret ?_
        refine inB_r ?_
        refine thenD_r ?_
        have hr := Option.some.inj h33; subst hr
        exact er (rd1 rfl (.one (.own (enc := wayC) ([(⟨xor64 x2 1, 0⟩ : Way)] : List Way) rfl rfl))) Le.rfl
      · refine rs env_ok ?_
        refine rl rfl ?_
        refine cd rfl h34 (fun h35 => ?_) (fun h40 => ?_) <;> clear h34
        · refine dwp_seq ?_
          refine rs env_ok ?_
          refine rl rfl ?_
          refine cd rfl h35 (fun h38 => ?_) (fun h39 => ?_) <;> clear h35
          · refine rs env_ok ?_
            refine rl rfl ?_
            refine dwp_ret ?_
            refine thenD_r ?_
            refine inB_r ?_
            refine thenD_r ?_
            have hr := Option.some.inj h38; subst hr
            exact er (rd1 rfl (.one (.own (enc := wayC) ([(⟨1, 1⟩ : Way), (⟨2, 2⟩ : Way)] : List Way) rfl rfl))) Le.rfl
          · refine dwp_skip ?_
            refine thenD_n ?_
            refine rs env_ok ?_
            refine rl rfl ?_
            refine dwp_ret ?_
            refine inB_r ?_
            refine thenD_r ?_
            have hr := Option.some.inj h39; subst hr
            exact er (rd1 rfl (.one (.own (enc := wayC) ([(⟨0, x2⟩ : Way)] : List Way) rfl rfl))) Le.rfl
        · refine dwp_skip ?_
          refine inB_n ?_
          refine thenD_n ?_
          refine rs env_ok ?_
          refine rl rfl ?_
          refine dwp_ret ?_
          have hr := Option.some.inj h40; subst hr
          exact er rfl (Le.nil _)

noncomputable def g_R12_on_b_l1 (x0 : Plan) (x1 : Road) (x2 : Port) (rc : (Plan × Road × Port × (List Int)) → Option (List Road)) (y33 : (List Int)) (y57 : (List Way)) (s951 : Int × (List Road)) : Option ((Int × (List Road)) ⊕ (List Road)) :=
  bif decide (s951.1 < (y57.length : Int)) then (((idx y57 s951.1).bind fun y1757 => (idx y57 s951.1).bind fun y1761 => (g_R6_Reads x0 (⟨x2.elem, y1757.out⟩ : Port)).bind fun y1783 => bif decide (0 ≤ y1783) then (idx y57 s951.1).bind fun y1792 => (g_R12_with x1 (⟨x2.elem, x2.fin, y1761.out⟩ : Step) y1792.pos 1 y1783).bind fun y1794 => (appI s951.2 [y1794]).bind fun y1796 => some y1796 else (g_R6_Next x0 (⟨x2.elem, y1757.out⟩ : Port)).bind fun y1801 => bif (!y1801.2) then (idx y57 s951.1).bind fun y1824 => (g_R12_with x1 (⟨x2.elem, x2.fin, y1761.out⟩ : Step) y1824.pos 3 (-1)).bind fun y1826 => (appI s951.2 [y1826]).bind fun y1828 => some y1828 else (idx y57 s951.1).bind fun y1831 => (g_R12_with x1 (⟨x2.elem, x2.fin, y1761.out⟩ : Step) y1831.pos 0 (-1)).bind fun y1833 => (rc (x0, y1833, y1801.1, y33)).bind fun y1835 => (appI s951.2 y1835).bind fun y1837 => some y1837 : Option ((List Road)))).bind fun (t1753 : (List Road)) => some (.inl (wi64 (s951.1 + 1), t1753)) else some (.inr s951.2)

noncomputable def g_R12_on_b (rc : (Plan × Road × Port × (List Int)) → Option (List Road)) (x0 : Plan) (x1 : Road) (x2 : Port) (x3 : (List Int)) : Option (List Road) :=
  (((g_R6_In x3 x2.elem).bind fun y20 => bif y20 then some true else some ((x1.steps.length : Int) == 12) : Option (Bool))).bind fun (t18 : Bool) => bif t18 then some [] else (appI ([] : List Int) x3).bind fun y31 => (appI y31 [x2.elem]).bind fun y33 => (g_R6_Kind x0 x2.elem).bind fun y47 => bif (y47 == 4) then (g_R12_with x1 (⟨x2.elem, x2.fin, (-1)⟩ : Step) 0 2 (-1)).bind fun y52 => some [y52] else (g_R6_Outs x0 x2.elem x2.fin).bind fun y57 => loopR (g_R12_on_b_l1 x0 x1 x2 rc y33 y57) (0, ([] : List Road))

noncomputable def g_R12_on (x0 : Plan) (x1 : Road) (x2 : Port) (x3 : (List Int)) : Option (List Road) :=
  recF (fun (rc : (Plan × Road × Port × (List Int)) → Option (List Road)) (a : (Plan × Road × Port × (List Int))) => g_R12_on_b rc a.1 a.2.1 a.2.2.1 a.2.2.2) 1000 (x0, x1, x2, x3)

theorem f_R12_on_b (rc : (Plan × Road × Port × (List Int)) → Option (List Road)) (hrec : ∀ (x0 : Plan) (x1 : Road) (x2 : Port) (x3 : (List Int)) (r : (List Road)), rc (x0, x1, x2, x3) = some r → Fun Try.prog 75 [.agg (planC x0), .agg (roadC x1), .agg (portC x2), .slice 1 (x3.map intC)] (· = .slice 9 (r.map roadC))) (x0 : Plan) (x1 : Road) (x2 : Port) (x3 : (List Int)) (r : (List Road)) (h : g_R12_on_b rc x0 x1 x2 x3 = some r) : Fun Try.prog 75 [.agg (planC x0), .agg (roadC x1), .agg (portC x2), .slice 1 (x3.map intC)] (· = .slice 9 (r.map roadC)) := by
  refine fn env_ok Try.func75 rfl rfl 128 rfl [.tmp 8] rfl [(0, .p (.agg (planC x0))), (1, .p (.agg (roadC x1))), (2, .p (.agg (portC x2))), (3, .p (.slice 1 (x3.map intC)))] rfl rfl fun A hA => ?_
  unfold g_R12_on_b at h
  refine rs env_ok ?_
  refine rl rfl ?_
  refine dwp_seq ?_
  refine jb (fun t18 : Bool => ⟨128, [(3, .p (.slice 1 (x3.map intC))), (4, .lpb 0 0), (5, .lpb 1 0), (6, .lpb 2 0), (26, .p (.bool t18))], [(0, .box [.p (.slice 3 (x0.elems.map elemC)), .p (.slice 4 (x0.joins.map joinC)), .p (.slice 4 (x0.signals.map signalC)), .p (.slice 2 (x0.lines.map lineC)), .p (.int .i64 x0.top), .p (.int .i64 x0.brake), .p (.int .i64 x0.margin), .p (.int .i64 x0.throw), .p (.bool x0.hard)]), (1, .box [.p (.int .i64 x1.frm), .p (.int .i64 x1.to), .p (.int .i64 x1.fin), .p (.slice 3 (x1.steps.map stepC)), .p (.slice 2 (x1.needs.map needC)), .p (.slice 2 (x1.guards.map needC)), .p (.slice 1 (x1.zone.map intC)), .p (.slice 1 (x1.holds.map intC)), .p (.bool x1.bare)]), (2, .box [.p (.int .i64 x2.elem), .p (.int .i64 x2.fin)])], 3⟩) h (fun t18 h19 => ?_) (fun t18 h24 => ?_) <;> clear h
  · refine rg env_ok ?_
    refine rn 3 rfl ?_
    obtain ⟨y20, ey20, h21⟩ := bd h19; clear h19
    refine sx rfl (o_call (f_R6_In _ _ _ ey20) (.inl rfl) rfl rfl rfl ?_)
    refine rn 1 rfl ?_
    refine gs 21 h21 rfl rfl rfl (fun h22 => ?_) (fun h23 => ?_) <;> clear h21
    · refine rl rfl ?_
      have hr := Option.some.inj h22; subst hr
      exact npn (wk [(0, 0), (1, 1), (2, 2)] (free hA _) rfl rfl rfl (.cons rfl (.cons rfl (.cons rfl (.cons rfl (.cons rfl .nil))))) (.cons rfl rfl (.cons rfl rfl (.cons rfl rfl .nil))))
    · refine rn 2 rfl ?_
      refine sx rfl (o_len rfl rfl ?_)
      refine rl rfl ?_
      have hr := Option.some.inj h23; subst hr
      exact npn (wk [(0, 0), (1, 1), (2, 2)] (free hA _) rfl rfl rfl (.cons rfl (.cons rfl (.cons rfl (.cons rfl (.cons rfl .nil))))) (.cons rfl rfl (.cons rfl rfl (.cons rfl rfl .nil))))
  · refine cd rfl h24 (fun h25 => ?_) (fun h26 => ?_) <;> clear h24
    · refine rs env_ok ?_
      refine rl rfl ?_
      refine dwp_ret ?_
      refine thenD_r ?_
      have hr := Option.some.inj h25; subst hr
      exact er rfl (Le.nil _)
    · refine dwp_skip ?_
      refine thenD_n ?_
      refine dwp_seq ?_
      obtain ⟨y31, ey31, h32⟩ := bd h26; clear h26
      obtain ⟨y33, ey33, h34⟩ := bd h32; clear h32
      refine rgdT env_ok mixed (.picks [1, 3] (.alt 0 [] (.alt 2 [4, 5, 6, 7] .done (.alt 4 [] (.alt 2 [5, 6, 7] .done (.alt 5 [2, 6, 7] .done .nil)) .nil)) (.alt 4 [0] (.alt 2 [5, 6, 7] .done (.alt 5 [2, 6, 7] .done .nil)) .nil))) 8 ⟨128, [(3, .lsl 0 1 0 y33.length), (4, .lpb 1 0), (5, .lpb 2 0), (6, .lpb 3 0)], [(0, .row 3 1 (y33.map intC)), (1, .box [.p (.slice 3 (x0.elems.map elemC)), .p (.slice 4 (x0.joins.map joinC)), .p (.slice 4 (x0.signals.map signalC)), .p (.slice 2 (x0.lines.map lineC)), .p (.int .i64 x0.top), .p (.int .i64 x0.brake), .p (.int .i64 x0.margin), .p (.int .i64 x0.throw), .p (.bool x0.hard)]), (2, .box [.p (.int .i64 x1.frm), .p (.int .i64 x1.to), .p (.int .i64 x1.fin), .p (.slice 3 (x1.steps.map stepC)), .p (.slice 2 (x1.needs.map needC)), .p (.slice 2 (x1.guards.map needC)), .p (.slice 1 (x1.zone.map intC)), .p (.slice 1 (x1.holds.map intC)), .p (.bool x1.bare)]), (3, .box [.p (.int .i64 x2.elem), .p (.int .i64 x2.fin)])], 4⟩ (by kernel_rfl) rfl ?_ ?_
      · refine drT_p ?_
        refine rlD rfl ?_
        refine drT_a ?_ ?_
        · refine rlD rfl ?_
          refine drT_a ?_ ?_
          · refine sxD rfl (opD_app (o_app1 (enc := intC) (l := ([] : List Int)) (m := x3) ey31 (fun _ => ⟨rfl, rfl⟩) rfl rfl rfl rfl rfl rfl ?_))
            refine rnD 2 rfl ?_
            refine sxD rfl (opD_app (o_app1 (enc := intC) (l := y31) (m := [x2.elem]) ey33 (fun _ => ⟨rfl, rfl⟩) rfl rfl rfl rfl rfl rfl ?_))
            refine rlD rfl ?_
            exact drT_d (wk [(0, 9), (1, 0), (2, 1), (3, 2)] (free hA _) rfl rfl rfl (.cons rfl (.cons rfl (.cons rfl (.cons rfl .nil)))) (.cons rfl rfl (.cons rfl rfl (.cons rfl rfl (.cons rfl rfl .nil)))))
          refine drT_a ?_ ?_
          · refine rlD rfl ?_
            refine drT_a ?_ ?_
            · refine sxD rfl (opD_app (o_app1 (enc := intC) (l := ([] : List Int)) (m := x3) ey31 (fun _ => ⟨rfl, rfl⟩) rfl rfl rfl rfl rfl rfl ?_))
              refine rnD 1 rfl ?_
              refine sxD rfl (opD_app (o_app1 (enc := intC) (l := y31) (m := [x2.elem]) ey33 (fun _ => ⟨rfl, rfl⟩) rfl rfl rfl rfl rfl rfl ?_))
              refine rlD rfl ?_
              exact drT_d (wk [(0, 9), (1, 0), (2, 1), (3, 2)] (free hA _) rfl rfl rfl (.cons rfl (.cons rfl (.cons rfl (.cons rfl .nil)))) (.cons rfl rfl (.cons rfl rfl (.cons rfl rfl (.cons rfl rfl .nil)))))
            refine drT_a ?_ ?_
            · refine rnD 1 rfl ?_
              refine sxD rfl (opD_app (o_app1 (enc := intC) (l := ([] : List Int)) (m := x3) ey31 (fun _ => ⟨rfl, rfl⟩) rfl rfl rfl rfl rfl rfl ?_))
              refine sxD rfl (opD_app (o_app1 (enc := intC) (l := y31) (m := [x2.elem]) ey33 (fun _ => ⟨rfl, rfl⟩) rfl rfl rfl rfl rfl rfl ?_))
              refine rlD rfl ?_
              exact drT_d (wk [(0, 9), (1, 0), (2, 1), (3, 2)] (free hA _) rfl rfl rfl (.cons rfl (.cons rfl (.cons rfl (.cons rfl .nil)))) (.cons rfl rfl (.cons rfl rfl (.cons rfl rfl (.cons rfl rfl .nil)))))
            exact drT_n
          exact drT_n
        refine drT_a ?_ ?_
        · refine rlD rfl ?_
          refine drT_a ?_ ?_
          · refine sxD rfl (opD_app (o_app1 (enc := intC) (l := ([] : List Int)) (m := x3) ey31 (fun _ => ⟨rfl, rfl⟩) rfl rfl rfl rfl rfl rfl ?_))
            refine rnD 1 rfl ?_
            refine sxD rfl (opD_app (o_app1 (enc := intC) (l := y31) (m := [x2.elem]) ey33 (fun _ => ⟨rfl, rfl⟩) rfl rfl rfl rfl rfl rfl ?_))
            refine rlD rfl ?_
            exact drT_d (wk [(0, 9), (1, 0), (2, 1), (3, 2)] (free hA _) rfl rfl rfl (.cons rfl (.cons rfl (.cons rfl (.cons rfl .nil)))) (.cons rfl rfl (.cons rfl rfl (.cons rfl rfl (.cons rfl rfl .nil)))))
          refine drT_a ?_ ?_
          · refine rnD 1 rfl ?_
            refine sxD rfl (opD_app (o_app1 (enc := intC) (l := ([] : List Int)) (m := x3) ey31 (fun _ => ⟨rfl, rfl⟩) rfl rfl rfl rfl rfl rfl ?_))
            refine sxD rfl (opD_app (o_app1 (enc := intC) (l := y31) (m := [x2.elem]) ey33 (fun _ => ⟨rfl, rfl⟩) rfl rfl rfl rfl rfl rfl ?_))
            refine rlD rfl ?_
            exact drT_d (wk [(0, 9), (1, 0), (2, 1), (3, 2)] (free hA _) rfl rfl rfl (.cons rfl (.cons rfl (.cons rfl (.cons rfl .nil)))) (.cons rfl rfl (.cons rfl rfl (.cons rfl rfl (.cons rfl rfl .nil)))))
          exact drT_n
        exact drT_n
      · refine thenD_n ?_
        refine dwp_seq ?_
        refine rs env_ok ?_
        refine rn 3 rfl ?_
        obtain ⟨y47, ey47, h48⟩ := bd h34; clear h34
        refine sx rfl (o_call (f_R6_Kind _ _ _ ey47) (.inl rfl) rfl rfl rfl ?_)
        refine rl rfl ?_
        refine cd rfl h48 (fun h49 => ?_) (fun h54 => ?_) <;> clear h48
        · refine rs env_ok ?_
          refine rn 6 rfl ?_
          obtain ⟨y52, ey52, h53⟩ := bd h49; clear h49
          refine sx rfl (o_call (f_R12_with _ _ _ _ _ _ ey52) (.inr rfl) rfl rfl rfl ?_)
          refine rl rfl ?_
          refine dwp_ret ?_
          refine thenD_r ?_
          have hr := Option.some.inj h53; subst hr
          exact er (rd1 rfl (.one (.own (enc := roadC) ([y52] : List Road) rfl rfl))) Le.rfl
        · refine dwp_skip ?_
          refine thenD_n ?_
          refine rs env_ok ?_
          refine rl rfl ?_
          refine rs env_ok ?_
          refine rn 5 rfl ?_
          obtain ⟨y57, ey57, h58⟩ := bd h54; clear h54
          refine sx rfl (o_call (f_R6_Outs _ _ _ _ ey57) (.inr rfl) rfl rfl rfl ?_)
          refine rl rfl ?_
          refine dwp_seq ?_
          refine rs env_ok ?_
          refine rl rfl ?_
          refine dwp_block ?_
          apply lp (a := r) (fun s951 : (Int × (List Road)) => ⟨128, [(3, .p (.slice 1 (y33.map intC))), (4, .lpb 0 0), (5, .lpb 1 0), (6, .lpb 2 0), (9, .lsl 3 9 0 s951.2.length), (10, .p (.slice 2 (y57.map wayC))), (11, .p (.int .i64 s951.1))], [(0, .box [.p (.slice 3 (x0.elems.map elemC)), .p (.slice 4 (x0.joins.map joinC)), .p (.slice 4 (x0.signals.map signalC)), .p (.slice 2 (x0.lines.map lineC)), .p (.int .i64 x0.top), .p (.int .i64 x0.brake), .p (.int .i64 x0.margin), .p (.int .i64 x0.throw), .p (.bool x0.hard)]), (1, .box [.p (.int .i64 x1.frm), .p (.int .i64 x1.to), .p (.int .i64 x1.fin), .p (.slice 3 (x1.steps.map stepC)), .p (.slice 2 (x1.needs.map needC)), .p (.slice 2 (x1.guards.map needC)), .p (.slice 1 (x1.zone.map intC)), .p (.slice 1 (x1.holds.map intC)), .p (.bool x1.bare)]), (2, .box [.p (.int .i64 x2.elem), .p (.int .i64 x2.fin)]), (3, .row 36 9 (s951.2.map roadC))], 4⟩) h58 <;> clear h58
          · exact Weak.trans (weak_frz 0 (own_dv (enc := intC) (l := y33) rfl) (.cons 3 .hit (.cons 4 (.same _) (.cons 5 (.same _) (.cons 6 (.same _) (.cons 9 (.same _) (.cons 10 (.same _) (.cons 11 (.same _) .nil))))))) (.cons 1 rfl rfl (.same _) (.cons 2 rfl rfl (.same _) (.cons 3 rfl rfl (.same _) .nil)))) (Weak.trans (weak_ghost 9 36 9 rfl) (wk [(0, 1), (1, 2), (2, 3), (3, 4)] (free hA _) rfl rfl rfl (.cons rfl (.cons rfl (.cons rfl (.cons rfl (.cons rfl (.cons rfl (.cons rfl .nil))))))) (.cons rfl rfl (.cons rfl rfl (.cons rfl rfl (.cons rfl rfl .nil))))))
          intro s951 b1664 h1665
          unfold g_R12_on_b_l1 at h1665
          refine dwp_seq ?_
          refine rs env_ok ?_
          refine rn 2 rfl ?_
          refine sx rfl (o_len rfl rfl ?_)
          refine rl rfl ?_
          refine cd rfl h1665 (fun h1668 => ?_) (fun h1840 => ?_) <;> clear h1665
          · refine dwp_skip ?_
            refine thenD_n ?_
            refine jb (fun t1753 : (List Road) => ⟨128, [(3, .p (.slice 1 (y33.map intC))), (4, .lpb 0 0), (5, .lpb 1 0), (6, .lpb 2 0), (9, .lsl 3 9 0 t1753.length), (10, .p (.slice 2 (y57.map wayC))), (11, .p (.int .i64 s951.1))], [(0, .box [.p (.slice 3 (x0.elems.map elemC)), .p (.slice 4 (x0.joins.map joinC)), .p (.slice 4 (x0.signals.map signalC)), .p (.slice 2 (x0.lines.map lineC)), .p (.int .i64 x0.top), .p (.int .i64 x0.brake), .p (.int .i64 x0.margin), .p (.int .i64 x0.throw), .p (.bool x0.hard)]), (1, .box [.p (.int .i64 x1.frm), .p (.int .i64 x1.to), .p (.int .i64 x1.fin), .p (.slice 3 (x1.steps.map stepC)), .p (.slice 2 (x1.needs.map needC)), .p (.slice 2 (x1.guards.map needC)), .p (.slice 1 (x1.zone.map intC)), .p (.slice 1 (x1.holds.map intC)), .p (.bool x1.bare)]), (2, .box [.p (.int .i64 x2.elem), .p (.int .i64 x2.fin)]), (3, .row 36 9 (t1753.map roadC))], 4⟩) h1668 (fun t1753 h1754 => ?_) (fun t1753 h1839 => ?_) <;> clear h1668
            · refine dwp_block ?_
              refine dwp_seq ?_
              refine rgd env_ok mixed [0, 1, 2, 3, 4, 5, 6, 7, 8, 9] 10 (by kernel_rfl) rfl rfl rfl ?_
              refine rnD 4 rfl ?_
              obtain ⟨y1757, ey1757, h1758⟩ := bd h1754; clear h1754
              refine sxD rfl (opD_plain rfl (o_idx ey1757 rfl rfl rfl ?_))
              refine rlD rfl ?_
              refine thenD_n ?_
              refine dwp_seq ?_
              refine rgd env_ok mixed [0, 1, 2, 3, 4, 5, 6, 7, 8, 9, 10, 11] 12 (by kernel_rfl) rfl rfl rfl ?_
              refine rnD 6 rfl ?_
              obtain ⟨y1761, ey1761, h1762⟩ := bd h1758; clear h1758
              refine sxD rfl (opD_plain rfl (o_idx ey1761 rfl rfl rfl ?_))
              refine rlD rfl ?_
              refine thenD_n ?_
              refine dwp_seq ?_
              refine rs env_ok ?_
              refine rn 2 rfl ?_
              obtain ⟨y1783, ey1783, h1784⟩ := bd h1762; clear h1762
              refine sx rfl (o_call (f_R6_Reads _ _ _ ey1783) (.inl rfl) rfl rfl rfl ?_)
              refine rl rfl ?_
              refine rs env_ok ?_
              refine rl rfl ?_
              refine cd rfl h1784 (fun h1785 => ?_) (fun h1798 => ?_) <;> clear h1784
              · refine dwp_seq ?_
                refine rgd env_ok mixed [0, 1, 2, 3, 4, 5, 6, 7, 8, 9, 10, 11, 12] 13 (by kernel_rfl) rfl rfl rfl ?_
                refine rnD 5 rfl ?_
                obtain ⟨y1792, ey1792, h1793⟩ := bd h1785; clear h1785
                refine sxD rfl (opD_plain rfl (o_idx ey1792 rfl rfl rfl ?_))
                refine rnD 3 rfl ?_
                obtain ⟨y1794, ey1794, h1795⟩ := bd h1793; clear h1793
                refine sxD rfl (o_callD (f_R12_with _ _ _ _ _ _ ey1794) (.inr rfl) rfl rfl rfl ?_)
                refine rnD 1 rfl ?_
                obtain ⟨y1796, ey1796, h1797⟩ := bd h1795; clear h1795
                refine sxD rfl (opD_app (o_app1 (enc := roadC) (l := s951.2) (m := [y1794]) ey1796 (fun _ => ⟨rfl, rfl⟩) rfl rfl rfl rfl rfl rfl ?_))
                refine rlD rfl ?_
                refine thenD_n ?_
                refine dwp_exit ?_
                refine thenD_x ?_
                refine inB_x ?_
                have hr := Option.some.inj h1797; subst hr
                exact npn (wk [(0, 0), (1, 1), (2, 2), (3, 37)] (free hA _) rfl rfl rfl (.cons rfl (.cons rfl (.cons rfl (.cons rfl (.cons rfl (.cons rfl (.cons rfl .nil))))))) (.cons rfl rfl (.cons rfl rfl (.cons rfl rfl (.cons rfl rfl .nil)))))
              · refine dwp_skip ?_
                refine thenD_n ?_
                refine rs env_ok ?_
                refine rn 2 rfl ?_
                obtain ⟨y1801, ey1801, h1802⟩ := bd h1798; clear h1798
                refine sx rfl (o_call (f_R6_Next _ _ _ ey1801) (.inl rfl) rfl rfl rfl ?_)
                refine rl rfl ?_
                refine dwp_seq ?_
                refine rs env_ok ?_
                refine rl rfl ?_
                refine cd rfl h1802 (fun h1817 => ?_) (fun h1830 => ?_) <;> clear h1802
                · refine dwp_seq ?_
                  refine rgd env_ok mixed [0, 1, 2, 3, 4, 5, 6, 7, 8, 9, 10, 11] 12 (by kernel_rfl) rfl rfl rfl ?_
                  refine rnD 5 rfl ?_
                  obtain ⟨y1824, ey1824, h1825⟩ := bd h1817; clear h1817
                  refine sxD rfl (opD_plain rfl (o_idx ey1824 rfl rfl rfl ?_))
                  refine rnD 2 rfl ?_
                  obtain ⟨y1826, ey1826, h1827⟩ := bd h1825; clear h1825
                  refine sxD rfl (o_callD (f_R12_with _ _ _ _ _ _ ey1826) (.inr rfl) rfl rfl rfl ?_)
                  refine rnD 1 rfl ?_
                  obtain ⟨y1828, ey1828, h1829⟩ := bd h1827; clear h1827
                  refine sxD rfl (opD_app (o_app1 (enc := roadC) (l := s951.2) (m := [y1826]) ey1828 (fun _ => ⟨rfl, rfl⟩) rfl rfl rfl rfl rfl rfl ?_))
                  refine rlD rfl ?_
                  refine thenD_n ?_
                  refine dwp_exit ?_
                  refine thenD_x ?_
                  refine inB_x ?_
                  have hr := Option.some.inj h1829; subst hr
                  exact npn (wk [(0, 0), (1, 1), (2, 2), (3, 37)] (free hA _) rfl rfl rfl (.cons rfl (.cons rfl (.cons rfl (.cons rfl (.cons rfl (.cons rfl (.cons rfl .nil))))))) (.cons rfl rfl (.cons rfl rfl (.cons rfl rfl (.cons rfl rfl .nil)))))
                · refine dwp_skip ?_
                  refine thenD_n ?_
                  refine rgd env_ok mixed [0, 1, 2, 3, 4, 5, 6, 7, 8, 9, 10, 11, 12, 13, 14] 15 (by kernel_rfl) rfl rfl rfl ?_
                  refine rnD 6 rfl ?_
                  obtain ⟨y1831, ey1831, h1832⟩ := bd h1830; clear h1830
                  refine sxD rfl (opD_plain rfl (o_idx ey1831 rfl rfl rfl ?_))
                  refine rnD 2 rfl ?_
                  obtain ⟨y1833, ey1833, h1834⟩ := bd h1832; clear h1832
                  refine sxD rfl (o_callD (f_R12_with _ _ _ _ _ _ ey1833) (.inr rfl) rfl rfl rfl ?_)
                  refine rnD 2 rfl ?_
                  obtain ⟨y1835, ey1835, h1836⟩ := bd h1834; clear h1834
                  refine sxD rfl (o_callD (hrec _ _ _ _ _ ey1835) (.inr rfl) rfl rfl rfl ?_)
                  obtain ⟨y1837, ey1837, h1838⟩ := bd h1836; clear h1836
                  refine sxD rfl (opD_app (o_app1 (enc := roadC) (l := s951.2) (m := y1835) ey1837 (fun _ => ⟨rfl, rfl⟩) rfl rfl rfl rfl rfl rfl ?_))
                  refine rlD rfl ?_
                  refine inB_n ?_
                  have hr := Option.some.inj h1838; subst hr
                  exact npn (wk [(0, 0), (1, 1), (2, 2), (3, 40)] (free hA _) rfl rfl rfl (.cons rfl (.cons rfl (.cons rfl (.cons rfl (.cons rfl (.cons rfl (.cons rfl .nil))))))) (.cons rfl rfl (.cons rfl rfl (.cons rfl rfl (.cons rfl rfl .nil)))))
            · refine rg env_ok ?_
              refine rl rfl ?_
              have hr := Option.some.inj h1839; subst hr
              exact lpn (wk [(0, 0), (1, 1), (2, 2), (3, 3)] (free hA _) rfl rfl rfl (.cons rfl (.cons rfl (.cons rfl (.cons rfl (.cons rfl (.cons rfl (.cons rfl .nil))))))) (.cons rfl rfl (.cons rfl rfl (.cons rfl rfl (.cons rfl rfl .nil)))))
          · refine dwp_exit ?_
            refine thenD_x ?_
            obtain ⟨a1841, h1842, rfl⟩ := mps h1840; clear h1840
            refine lpx ?_
            refine inB_x ?_
            refine thenD_n ?_
            refine rs env_ok ?_
            refine rl rfl ?_
            refine dwp_ret ?_
            have hr := Option.some.inj h1842; subst hr
            exact er (rd1 rfl (.one (.own (enc := roadC) s951.2 rfl rfl))) Le.rfl

theorem f_R12_on (x0 : Plan) (x1 : Road) (x2 : Port) (x3 : (List Int)) (r : (List Road)) (h : g_R12_on x0 x1 x2 x3 = some r) : Fun Try.prog 75 [.agg (planC x0), .agg (roadC x1), .agg (portC x2), .slice 1 (x3.map intC)] (· = .slice 9 (r.map roadC)) :=
  recF_holds (F := fun (rc : (Plan × Road × Port × (List Int)) → Option (List Road)) (a : (Plan × Road × Port × (List Int))) => g_R12_on_b rc a.1 a.2.1 a.2.2.1 a.2.2.2) (C := fun (a : (Plan × Road × Port × (List Int))) (r : (List Road)) => Fun Try.prog 75 [.agg (planC a.1), .agg (roadC a.2.1), .agg (portC a.2.2.1), .slice 1 (a.2.2.2.map intC)] (· = .slice 9 (r.map roadC))) (fun rc hrec a r h => f_R12_on_b rc (fun z0 z1 z2 z3 r h => hrec (z0, z1, z2, z3) r h) a.1 a.2.1 a.2.2.1 a.2.2.2 r h) 1000 (x0, x1, x2, x3) r h

noncomputable def g_R12_Of (x0 : Plan) (x1 : Int) : Option (List Road) :=
  (g_R6_At x0 x1).bind fun y3 => bif (!y3.2) then some [] else (g_R6_Next x0 y3.1).bind fun y11 => bif (!y11.2) then some [] else (g_R12_on x0 (⟨x1, 0, 0, [], [], [], [], [], false⟩ : Road) y11.1 ([y3.1.elem] : (List Int))).bind fun y19 => some y19

theorem f_R12_Of (x0 : Plan) (x1 : Int) (r : (List Road)) (h : g_R12_Of x0 x1 = some r) : Fun Try.prog 46 [.agg (planC x0), .int .i64 x1] (· = .slice 9 (r.map roadC)) := by
  refine fn env_ok Try.func46 rfl rfl 33 rfl [.tmp 4] rfl [(0, .p (.agg (planC x0))), (1, .p (.int .i64 x1))] rfl rfl fun A hA => ?_
  unfold g_R12_Of at h
  refine rs env_ok ?_
  refine rl rfl ?_
  refine rs env_ok ?_
  refine rn 2 rfl ?_
  obtain ⟨y3, ey3, h4⟩ := bd h; clear h
  refine sx rfl (o_call (f_R6_At _ _ _ ey3) (.inl rfl) rfl rfl rfl ?_)
  refine rl rfl ?_
  refine dwp_seq ?_
  refine rs env_ok ?_
  refine rl rfl ?_
  refine cd rfl h4 (fun h7 => ?_) (fun h8 => ?_) <;> clear h4
  · refine rs env_ok ?_
    refine rl rfl ?_
    refine dwp_ret ?_
    refine thenD_r ?_
    have hr := Option.some.inj h7; subst hr
    exact er rfl (Le.nil _)
  · refine dwp_skip ?_
    refine thenD_n ?_
    refine rs env_ok ?_
    refine rn 2 rfl ?_
    obtain ⟨y11, ey11, h12⟩ := bd h8; clear h8
    refine sx rfl (o_call (f_R6_Next _ _ _ ey11) (.inl rfl) rfl rfl rfl ?_)
    refine rl rfl ?_
    refine dwp_seq ?_
    refine rs env_ok ?_
    refine rl rfl ?_
    refine cd rfl h12 (fun h15 => ?_) (fun h16 => ?_) <;> clear h12
    · refine rs env_ok ?_
      refine rl rfl ?_
      refine dwp_ret ?_
      refine thenD_r ?_
      have hr := Option.some.inj h15; subst hr
      exact er rfl (Le.nil _)
    · refine dwp_skip ?_
      refine thenD_n ?_
      refine rs env_ok ?_
      refine rn 7 rfl ?_
      obtain ⟨y19, ey19, h20⟩ := bd h16; clear h16
      refine sx rfl (o_call2 (Fun.le (f_R12_on _ _ _ _ _ ey19) (.cons Le.rfl (.cons (Le.agg' (.cons Le.rfl (.cons Le.rfl (.cons Le.rfl (.cons (Le.nil _) (.cons (Le.nil _) (.cons (Le.nil _) (.cons (Le.nil _) (.cons (Le.nil _) (.cons Le.rfl .nil)))))))))) (.cons Le.rfl (.cons Le.rfl .nil))))) rfl rfl rfl (LdA.eq (.cons (.one (.p _)) (.cons (.one (.p _)) (.cons (.one (.p _)) (.cons (.one (.own (enc := intC) ([y3.1.elem] : List Int) rfl rfl)) .nil))))) rfl ?_)
      refine rl rfl ?_
      refine dwp_ret ?_
      have hr := Option.some.inj h20; subst hr
      exact er rfl Le.rfl

end Go.E
/- Plain functions, and walks in step with them. Written by a program (gen.py). No condition. -/
set_option maxRecDepth 100000
namespace Go.E
open Go Go.RowKit Go.Proofs

noncomputable def g_slices_Clone_apiStep (x0 : (List Step)) : Option (List Step) :=
  nilS x0 (some []) ((appI ([] : List Step) x0).bind fun y11 => some y11)

theorem f_slices_Clone_apiStep (x0 : (List Step)) (r : (List Step)) (h : g_slices_Clone_apiStep x0 = some r) : Fun Try.prog 52 [.slice 3 (x0.map stepC)] (· = .slice 3 (r.map stepC)) := by
  refine fn env_ok Try.func52 rfl rfl 8 rfl [.tmp 2] rfl [(0, .p (.slice 3 (x0.map stepC)))] rfl rfl fun A hA => ?_
  unfold g_slices_Clone_apiStep at h
  refine rs env_ok ?_
  refine rl rfl ?_
  refine dwp_seq ?_
  refine rs env_ok ?_
  refine rn 1 rfl ?_
  refine sx rfl (o_nilE h rfl rfl rfl (fun h7 => ?_) (fun h8 => ?_)) <;> clear h
  · refine rl rfl ?_
    refine cdt rfl ?_
    refine rs env_ok ?_
    refine rl rfl ?_
    refine dwp_ret ?_
    refine thenD_r ?_
    have hr := Option.some.inj h7; subst hr
    exact er rfl (Le.nil _)
  · refine rl rfl ?_
    refine cdf rfl ?_
    refine dwp_skip ?_
    refine thenD_n ?_
    refine rs env_ok ?_
    refine rn 2 rfl ?_
    obtain ⟨y11, ey11, h12⟩ := bd h8; clear h8
    refine sx rfl (o_app1 (enc := stepC) (l := ([] : List Step)) (m := x0) ey11 (fun _ => ⟨rfl, rfl⟩) rfl rfl rfl rfl rfl rfl ?_)
    refine rl rfl ?_
    refine dwp_ret ?_
    have hr := Option.some.inj h12; subst hr
    exact er (rd1 rfl (.one (.own (enc := stepC) y11 rfl rfl))) Le.rfl

noncomputable def g_slices_Clone_apiNeed (x0 : (List Need)) : Option (List Need) :=
  nilS x0 (some []) ((appI ([] : List Need) x0).bind fun y11 => some y11)

theorem f_slices_Clone_apiNeed (x0 : (List Need)) (r : (List Need)) (h : g_slices_Clone_apiNeed x0 = some r) : Fun Try.prog 53 [.slice 2 (x0.map needC)] (· = .slice 2 (r.map needC)) := by
  refine fn env_ok Try.func53 rfl rfl 8 rfl [.tmp 2] rfl [(0, .p (.slice 2 (x0.map needC)))] rfl rfl fun A hA => ?_
  unfold g_slices_Clone_apiNeed at h
  refine rs env_ok ?_
  refine rl rfl ?_
  refine dwp_seq ?_
  refine rs env_ok ?_
  refine rn 1 rfl ?_
  refine sx rfl (o_nilE h rfl rfl rfl (fun h7 => ?_) (fun h8 => ?_)) <;> clear h
  · refine rl rfl ?_
    refine cdt rfl ?_
    refine rs env_ok ?_
    refine rl rfl ?_
    refine dwp_ret ?_
    refine thenD_r ?_
    have hr := Option.some.inj h7; subst hr
    exact er rfl (Le.nil _)
  · refine rl rfl ?_
    refine cdf rfl ?_
    refine dwp_skip ?_
    refine thenD_n ?_
    refine rs env_ok ?_
    refine rn 2 rfl ?_
    obtain ⟨y11, ey11, h12⟩ := bd h8; clear h8
    refine sx rfl (o_app1 (enc := needC) (l := ([] : List Need)) (m := x0) ey11 (fun _ => ⟨rfl, rfl⟩) rfl rfl rfl rfl rfl rfl ?_)
    refine rl rfl ?_
    refine dwp_ret ?_
    have hr := Option.some.inj h12; subst hr
    exact er (rd1 rfl (.one (.own (enc := needC) y11 rfl rfl))) Le.rfl

noncomputable def g_net_Net_Plan (x0 : Net) : Option Plan :=
  (g_net_twin x0.p).bind fun y3 => some y3

theorem f_net_Net_Plan (x0 : Net) (r : Plan) (h : g_net_Net_Plan x0 = some r) : Fun Try.prog 54 [.place (netC x0) 0] (· = .agg (planC r)) := by
  refine fn env_ok Try.func54 rfl rfl 8 rfl [.cell 2 27] rfl [(0, .p (.place (netC x0) 0))] rfl rfl fun A hA => ?_
  unfold g_net_Net_Plan at h
  refine rs env_ok ?_
  refine rl rfl ?_
  refine rs env_ok ?_
  refine rn 4 rfl ?_
  obtain ⟨y3, ey3, h4⟩ := bd h; clear h
  refine sx rfl (o_call (f_net_twin _ _ ey3) (.inr rfl) rfl rfl rfl ?_)
  refine rl rfl ?_
  refine dwp_ret ?_
  have hr := Option.some.inj h4; subst hr
  exact er rfl Le.rfl

noncomputable def g_net_Net_elem (x0 : Net) (x1 : Int) : Option Elem :=
  ((bif decide (x1 < 0) then some true else some (decide ((x0.p.elems.length : Int) ≤ x1)) : Option (Bool))).bind fun (t12 : Bool) => bif t12 then some (⟨ByteArray.empty, 0, 0⟩ : Elem) else (idx x0.p.elems x1).bind fun y21 => some y21

theorem f_net_Net_elem (x0 : Net) (x1 : Int) (r : Elem) (h : g_net_Net_elem x0 x1 = some r) : Fun Try.prog 67 [.place (netC x0) 0, .int .i64 x1] (· = .agg (elemC r)) := by
  refine fn env_ok Try.func67 rfl rfl 26 rfl [.cell 4 73] rfl [(0, .p (.place (netC x0) 0)), (1, .p (.int .i64 x1))] rfl rfl fun A hA => ?_
  unfold g_net_Net_elem at h
  refine rs env_ok ?_
  refine rl rfl ?_
  refine dwp_seq ?_
  refine jb (fun t12 : Bool => ⟨26, [(0, .p (.place (netC x0) 0)), (1, .p (.int .i64 x1)), (4, .lpb 0 0), (16, .p (.bool t12))], [(0, .box [.p (.str ByteArray.empty), .p (.int .i64 0), .p (.int .i64 0)])], 1⟩) h (fun t12 h13 => ?_) (fun t12 h16 => ?_) <;> clear h
  · refine rg env_ok ?_
    refine rn 3 rfl ?_
    refine gs 7 h13 rfl rfl rfl (fun h14 => ?_) (fun h15 => ?_) <;> clear h13
    · refine rl rfl ?_
      have hr := Option.some.inj h14; subst hr
      exact npn (wk [(0, 0)] (free hA _) rfl rfl rfl (.cons rfl (.cons rfl (.cons rfl (.cons rfl .nil)))) (.cons rfl rfl .nil))
    · refine rn 6 rfl ?_
      refine sx rfl (o_len rfl rfl ?_)
      refine rl rfl ?_
      have hr := Option.some.inj h15; subst hr
      exact npn (wk [(0, 0)] (free hA _) rfl rfl rfl (.cons rfl (.cons rfl (.cons rfl (.cons rfl .nil)))) (.cons rfl rfl .nil))
  · refine cd rfl h16 (fun h17 => ?_) (fun h18 => ?_) <;> clear h16
    · refine rs env_ok ?_
      refine rl rfl ?_
      refine dwp_ret ?_
      refine thenD_r ?_
      have hr := Option.some.inj h17; subst hr
      exact er rfl Le.rfl
    · refine dwp_skip ?_
      refine thenD_n ?_
      refine rs env_ok ?_
      refine rn 6 rfl ?_
      obtain ⟨y21, ey21, h22⟩ := bd h18; clear h18
      refine sx rfl (o_idx ey21 rfl rfl rfl ?_)
      refine rl rfl ?_
      refine dwp_ret ?_
      have hr := Option.some.inj h22; subst hr
      exact er rfl Le.rfl

noncomputable def g_net_Net_Kind (x0 : Net) (x1 : Int) : Option Int :=
  (g_net_Net_elem x0 x1).bind fun y3 => some y3.kind

theorem f_net_Net_Kind (x0 : Net) (x1 : Int) (r : Int) (h : g_net_Net_Kind x0 x1 = some r) : Fun Try.prog 28 [.place (netC x0) 0, .int .i64 x1] (· = .int .i64 r) := by
  refine fn env_ok Try.func28 rfl rfl 9 rfl [.tmp 4] rfl [(0, .p (.place (netC x0) 0)), (1, .p (.int .i64 x1))] rfl rfl fun A hA => ?_
  unfold g_net_Net_Kind at h
  refine rs env_ok ?_
  refine rl rfl ?_
  refine rs env_ok ?_
  refine rn 2 rfl ?_
  obtain ⟨y3, ey3, h4⟩ := bd h; clear h
  refine sx rfl (o_call (f_net_Net_elem _ _ _ ey3) (.inl rfl) rfl rfl rfl ?_)
  refine rl rfl ?_
  refine dwp_ret ?_
  have hr := Option.some.inj h4; subst hr
  exact er rfl Le.rfl

noncomputable def g_net_Net_Next (x0 : Net) (x1 : Port) : Option (Port × Bool) :=
  some (((assoc x0.next x1).getD (⟨0, 0⟩ : Port)), (assoc x0.next x1).isSome)

theorem f_net_Net_Next (x0 : Net) (x1 : Port) (r : (Port × Bool)) (h : g_net_Net_Next x0 x1 = some r) : Fun Try.prog 37 [.place (netC x0) 0, .agg (portC x1)] (· = .tup [.agg (portC r.1), .bool r.2]) := by
  refine fn env_ok Try.func37 rfl rfl 19 rfl [.cell 4 65, .tmp 5] rfl [(0, .p (.place (netC x0) 0)), (1, .p (.agg (portC x1)))] rfl rfl fun A hA => ?_
  unfold g_net_Net_Next at h
  refine rs env_ok ?_
  refine rl rfl ?_
  refine dwp_seq ?_
  refine rgd env_ok mixed [0, 1, 2, 3, 4, 5, 6, 7, 8, 9, 10, 11] 12 (by kernel_rfl) rfl rfl rfl ?_
  refine rnD 5 rfl ?_
  refine sxD rfl (opD_plain rfl (o_lk2 (et := 65) (ke := (fun x => .agg (portC x))) (ve := (fun x => .agg (portC x))) (mp := x0.next) (y := x1) (⟨0, 0⟩ : Port) keyE_65 rfl rfl rfl rfl ?_))
  refine rlD rfl ?_
  refine thenD_n ?_
  refine rs env_ok ?_
  refine rl rfl ?_
  refine dwp_ret ?_
  have hr := Option.some.inj h; subst hr
  exact er rfl Le.rfl

noncomputable def g_side_Ports_l2 (x0 : Net) (s1084 : (Int × (List Port))) (y2041 : Step) (t2053 : (List Int)) (s2066 : Int × (List Port)) : Option ((Int × (List Port)) ⊕ ((Int × (List Port)) ⊕ (List Port))) :=
  bif decide (s2066.1 < (t2053.length : Int)) then (((idx t2053 s2066.1).bind fun y2150 => (g_net_Net_Next x0 (⟨y2041.elem, y2150⟩ : Port)).bind fun y2154 => bif y2154.2 then (appI s2066.2 [(⟨y2041.elem, y2150⟩ : Port)]).bind fun y2157 => some y2157 else some s2066.2 : Option ((List Port)))).bind fun (t2146 : (List Port)) => some (.inl (wi64 (s2066.1 + 1), t2146)) else some (.inr (.inl (wi64 (s1084.1 + 1), s2066.2)))

noncomputable def g_side_Ports_l1 (x0 : Net) (x1 : Road) (s1084 : Int × (List Port)) : Option ((Int × (List Port)) ⊕ (List Port)) :=
  bif decide (s1084.1 < (x1.steps.length : Int)) then (idx x1.steps s1084.1).bind fun y2041 => (((g_net_Net_Kind x0 y2041.elem).bind fun y2057 => bif (y2057 == 2) then some [wi64 (3 - (if y2041.out > y2041.in_ then y2041.out else y2041.in_))] else bif (y2057 == 3) then bif decide (1 < y2041.in_) then some [0, 1] else some [2, 3] else some ([] : List Int) : Option ((List Int)))).bind fun (t2053 : (List Int)) => loopR (g_side_Ports_l2 x0 s1084 y2041 t2053) (0, s1084.2) else some (.inr s1084.2)

noncomputable def g_side_Ports (x0 : Net) (x1 : Road) : Option (List Port) :=
  loopR (g_side_Ports_l1 x0 x1) (0, ([] : List Port))

theorem f_side_Ports (x0 : Net) (x1 : Road) (r : (List Port)) (h : g_side_Ports x0 x1 = some r) : Fun Try.prog 30 [.place (netC x0) 0, .agg (roadC x1)] (· = .slice 2 (r.map portC)) := by
  refine fn env_ok Try.func30 rfl rfl 67 rfl [.tmp 4] rfl [(0, .p (.place (netC x0) 0)), (1, .p (.agg (roadC x1)))] rfl rfl fun A hA => ?_
  unfold g_side_Ports at h
  refine rs env_ok ?_
  refine rl rfl ?_
  refine rs env_ok ?_
  refine rl rfl ?_
  refine dwp_seq ?_
  refine rs env_ok ?_
  refine rn 2 rfl ?_
  refine sx rfl (o_len rfl rfl ?_)
  refine rl rfl ?_
  refine dwp_block ?_
  apply lp (a := r) (fun s1084 : (Int × (List Port)) => ⟨67, [(0, .p (.place (netC x0) 0)), (5, .lsl 0 2 0 s1084.2.length), (16, .p (.slice 3 (x1.steps.map stepC))), (17, .p (.int .i64 (x1.steps.length : Int))), (18, .p (.int .i64 s1084.1))], [(0, .row 65 2 (s1084.2.map portC))], 1⟩) h <;> clear h
  · exact Weak.trans (weak_ghost 5 65 2 rfl) (wk [(0, 1)] (free hA _) rfl rfl rfl (.cons rfl (.cons rfl (.cons rfl (.cons rfl (.cons rfl .nil))))) (.cons rfl rfl .nil))
  intro s1084 b1909 h1910
  unfold g_side_Ports_l1 at h1910
  refine rs env_ok ?_
  refine rl rfl ?_
  refine dwp_seq ?_
  refine cd rfl h1910 (fun h1913 => ?_) (fun h2164 => ?_) <;> clear h1910
  · refine dwp_skip ?_
    refine thenD_n ?_
    refine dwp_seq ?_
    refine dwp_block ?_
    refine rs env_ok ?_
    obtain ⟨y2041, ey2041, h2042⟩ := bd h1913; clear h1913
    refine sx rfl (o_idx ey2041 rfl rfl rfl ?_)
    refine rl rfl ?_
    refine rs env_ok ?_
    refine rl rfl ?_
    refine jb (fun t2053 : (List Int) => ⟨67, [(0, .p (.place (netC x0) 0)), (5, .lsl 0 2 0 s1084.2.length), (7, .lpb 1 0), (8, .lsl 2 1 0 t2053.length), (16, .p (.slice 3 (x1.steps.map stepC))), (17, .p (.int .i64 (x1.steps.length : Int))), (18, .p (.int .i64 s1084.1))], [(0, .row 65 2 (s1084.2.map portC)), (1, .box [.p (.int .i64 y2041.elem), .p (.int .i64 y2041.in_), .p (.int .i64 y2041.out)]), (2, .row 3 1 (t2053.map intC))], 3⟩) h2042 (fun t2053 h2054 => ?_) (fun t2053 h2065 => ?_) <;> clear h2042
    · refine rs env_ok ?_
      refine rn 3 rfl ?_
      obtain ⟨y2057, ey2057, h2058⟩ := bd h2054; clear h2054
      refine sx rfl (o_call (f_net_Net_Kind _ _ _ ey2057) (.inl rfl) rfl rfl rfl ?_)
      refine rl rfl ?_
      refine dwp_block ?_
      refine rs env_ok ?_
      refine rl rfl ?_
      refine cd rfl h2058 (fun h2059 => ?_) (fun h2060 => ?_) <;> clear h2058
      · refine rs env_ok ?_
        refine rl rfl ?_
        refine rg env_ok ?_
        refine rl rfl ?_
        refine inB_n ?_
        have hr := Option.some.inj h2059; subst hr
        exact npn (wk [(0, 0), (1, 1), (2, 2)] (free hA _) rfl rfl rfl (.cons rfl (.cons rfl (.cons rfl (.cons rfl (.cons rfl (.cons rfl (.cons rfl .nil))))))) (.cons rfl rfl (.cons rfl rfl (.cons rfl rfl .nil))))
      · refine rs env_ok ?_
        refine rl rfl ?_
        refine cd rfl h2060 (fun h2061 => ?_) (fun h2064 => ?_) <;> clear h2060
        · refine rs env_ok ?_
          refine rl rfl ?_
          refine rs env_ok ?_
          refine rl rfl ?_
          refine cd rfl h2061 (fun h2062 => ?_) (fun h2063 => ?_) <;> clear h2061
          · refine rg env_ok ?_
            refine rl rfl ?_
            refine inB_n ?_
            have hr := Option.some.inj h2062; subst hr
            exact npn (wk [(0, 0), (1, 1), (2, 3)] (free hA _) rfl rfl rfl (.cons rfl (.cons rfl (.cons rfl (.cons rfl (.cons rfl (.cons rfl (.cons rfl .nil))))))) (.cons rfl rfl (.cons rfl rfl (.cons rfl rfl .nil))))
          · refine dwp_skip ?_
            refine inB_n ?_
            have hr := Option.some.inj h2063; subst hr
            exact npn (wk [(0, 0), (1, 1), (2, 2)] (free hA _) rfl rfl rfl (.cons rfl (.cons rfl (.cons rfl (.cons rfl (.cons rfl (.cons rfl (.cons rfl .nil))))))) (.cons rfl rfl (.cons rfl rfl (.cons rfl rfl .nil))))
        · refine dwp_skip ?_
          refine inB_n ?_
          have hr := Option.some.inj h2064; subst hr
          exact npn (Weak.trans (weak_ghost 8 3 1 rfl) (wk [(0, 0), (1, 1), (2, 2)] (free hA _) rfl rfl rfl (.cons rfl (.cons rfl (.cons rfl (.cons rfl (.cons rfl (.cons rfl (.cons rfl .nil))))))) (.cons rfl rfl (.cons rfl rfl (.cons rfl rfl .nil)))))
    · refine rs env_ok ?_
      refine rl rfl ?_
      refine dwp_block ?_
      apply lp (a := b1909) (fun s2066 : (Int × (List Port)) => ⟨67, [(0, .p (.place (netC x0) 0)), (5, .lsl 0 2 0 s2066.2.length), (7, .lpb 1 0), (16, .p (.slice 3 (x1.steps.map stepC))), (17, .p (.int .i64 (x1.steps.length : Int))), (18, .p (.int .i64 s1084.1)), (43, .lsl 2 1 0 t2053.length), (44, .p (.int .i64 (t2053.length : Int))), (45, .p (.int .i64 s2066.1))], [(0, .row 65 2 (s2066.2.map portC)), (1, .box [.p (.int .i64 y2041.elem), .p (.int .i64 y2041.in_), .p (.int .i64 y2041.out)]), (2, .row 3 1 (t2053.map intC))], 3⟩) h2065 <;> clear h2065
      · exact wk [(0, 0), (1, 1), (2, 2)] (free hA _) rfl rfl rfl (.cons rfl (.cons rfl (.cons rfl (.cons rfl (.cons rfl (.cons rfl (.cons rfl (.cons rfl (.cons rfl .nil))))))))) (.cons rfl rfl (.cons rfl rfl (.cons rfl rfl .nil)))
      intro s2066 b2129 h2130
      unfold g_side_Ports_l2 at h2130
      refine rs env_ok ?_
      refine rl rfl ?_
      refine dwp_seq ?_
      refine cd rfl h2130 (fun h2133 => ?_) (fun h2161 => ?_) <;> clear h2130
      · refine dwp_skip ?_
        refine thenD_n ?_
        refine jb (fun t2146 : (List Port) => ⟨67, [(0, .p (.place (netC x0) 0)), (5, .lsl 0 2 0 t2146.length), (7, .lpb 1 0), (16, .p (.slice 3 (x1.steps.map stepC))), (17, .p (.int .i64 (x1.steps.length : Int))), (18, .p (.int .i64 s1084.1)), (43, .lsl 2 1 0 t2053.length), (44, .p (.int .i64 (t2053.length : Int))), (45, .p (.int .i64 s2066.1))], [(0, .row 65 2 (t2146.map portC)), (1, .box [.p (.int .i64 y2041.elem), .p (.int .i64 y2041.in_), .p (.int .i64 y2041.out)]), (2, .row 3 1 (t2053.map intC))], 3⟩) h2133 (fun t2146 h2147 => ?_) (fun t2146 h2160 => ?_) <;> clear h2133
        · refine dwp_block ?_
          refine rs env_ok ?_
          obtain ⟨y2150, ey2150, h2151⟩ := bd h2147; clear h2147
          refine sx rfl (o_idxO ey2150 rfl rfl rfl rfl ?_)
          refine sx rfl (o_ldO ey2150 rfl rfl rfl ?_)
          refine rl rfl ?_
          refine rs env_ok ?_
          refine rl rfl ?_
          refine rs env_ok ?_
          refine rn 2 rfl ?_
          obtain ⟨y2154, ey2154, h2155⟩ := bd h2151; clear h2151
          refine sx rfl (o_call (f_net_Net_Next _ _ _ ey2154) (.inl rfl) rfl rfl rfl ?_)
          refine rl rfl ?_
          refine rs env_ok ?_
          refine rl rfl ?_
          refine cd rfl h2155 (fun h2156 => ?_) (fun h2159 => ?_) <;> clear h2155
          · refine rg env_ok ?_
            refine rn 3 rfl ?_
            obtain ⟨y2157, ey2157, h2158⟩ := bd h2156; clear h2156
            refine sx rfl (o_app1 (enc := portC) (l := s2066.2) (m := [(⟨y2041.elem, y2150⟩ : Port)]) ey2157 (fun _ => ⟨rfl, rfl⟩) rfl rfl rfl rfl rfl rfl ?_)
            refine rl rfl ?_
            refine inB_n ?_
            have hr := Option.some.inj h2158; subst hr
            exact npn (wk [(0, 6), (1, 1), (2, 2)] (free hA _) rfl rfl rfl (.cons rfl (.cons rfl (.cons rfl (.cons rfl (.cons rfl (.cons rfl (.cons rfl (.cons rfl (.cons rfl .nil))))))))) (.cons rfl rfl (.cons rfl rfl (.cons rfl rfl .nil))))
          · refine dwp_skip ?_
            refine inB_n ?_
            have hr := Option.some.inj h2159; subst hr
            exact npn (wk [(0, 0), (1, 1), (2, 2)] (free hA _) rfl rfl rfl (.cons rfl (.cons rfl (.cons rfl (.cons rfl (.cons rfl (.cons rfl (.cons rfl (.cons rfl (.cons rfl .nil))))))))) (.cons rfl rfl (.cons rfl rfl (.cons rfl rfl .nil))))
        · refine rg env_ok ?_
          refine rl rfl ?_
          have hr := Option.some.inj h2160; subst hr
          exact lpn (wk [(0, 0), (1, 1), (2, 2)] (free hA _) rfl rfl rfl (.cons rfl (.cons rfl (.cons rfl (.cons rfl (.cons rfl (.cons rfl (.cons rfl (.cons rfl (.cons rfl .nil))))))))) (.cons rfl rfl (.cons rfl rfl (.cons rfl rfl .nil))))
      · refine dwp_exit ?_
        refine thenD_x ?_
        obtain ⟨a2162, h2163, rfl⟩ := mps h2161; clear h2161
        refine lpx ?_
        refine inB_x ?_
        refine inB_n ?_
        refine thenD_n ?_
        refine rg env_ok ?_
        refine rl rfl ?_
        have hr := Option.some.inj h2163; subst hr
        exact lpn (wk [(0, 0)] (free hA _) rfl rfl rfl (.cons rfl (.cons rfl (.cons rfl (.cons rfl (.cons rfl .nil))))) (.cons rfl rfl .nil))
  · refine dwp_exit ?_
    refine thenD_x ?_
    obtain ⟨a2165, h2166, rfl⟩ := mps h2164; clear h2164
    refine lpx ?_
    refine inB_x ?_
    refine thenD_n ?_
    refine rs env_ok ?_
    refine rl rfl ?_
    refine dwp_ret ?_
    have hr := Option.some.inj h2166; subst hr
    exact er (rd1 rfl (.one (.own (enc := portC) s1084.2 rfl rfl))) Le.rfl

noncomputable def g_side_Own_1 (x0 : Step) (x1 : Int) : Option Bool :=
  some (x0.elem == x1)

theorem f_side_Own_1 (x0 : Step) (x1 : Int) (r : Bool) (h : g_side_Own_1 x0 x1 = some r) : Fun Try.prog 66 [.agg (stepC x0), .place (intC x1) 0] (· = .bool r) := by
  refine fn env_ok Try.func66 rfl rfl 8 rfl [.tmp 3] rfl [(0, .p (.agg (stepC x0))), (1, .p (.place (intC x1) 0))] rfl rfl fun A hA => ?_
  unfold g_side_Own_1 at h
  refine rs env_ok ?_
  refine rl rfl ?_
  refine rs env_ok ?_
  refine rl rfl ?_
  refine dwp_ret ?_
  have hr := Option.some.inj h; subst hr
  exact er rfl Le.rfl

noncomputable def g_side_Own_l1 (x0 : Road) (x1 : Int) (s2478 : Int) : Option (Int ⊕ Int) :=
  bif decide (s2478 < (x0.steps.length : Int)) then (idx x0.steps s2478).bind fun y2546 => (g_side_Own_1 y2546 x1).bind fun y2548 => bif y2548 then some (.inr s2478) else some (.inl (wi64 (s2478 + 1))) else some (.inr (-1))

noncomputable def g_side_Own (x0 : Road) (x1 : Int) : Option Bool :=
  ((((loopR (g_side_Own_l1 x0 x1) 0 : Option (Int))).bind fun (t2397 : Int) => some (decide (0 ≤ t2397)) : Option (Bool))).bind fun (t1918 : Bool) => some t1918

theorem f_side_Own (x0 : Road) (x1 : Int) (r : Bool) (h : g_side_Own x0 x1 = some r) : Fun Try.prog 27 [.agg (roadC x0), .int .i64 x1] (· = .bool r) := by
  refine fn env_ok Try.func27 rfl rfl 9 rfl [.tmp 4] rfl [(0, .p (.agg (roadC x0))), (1, .p (.int .i64 x1))] rfl rfl fun A hA => ?_
  unfold g_side_Own at h
  refine rs env_ok ?_
  refine rl rfl ?_
  refine rs env_ok ?_
  refine rn 3 rfl ?_
  refine sx rfl (o_in env_ok (fun t1918 : Bool => .p (.bool t1918)) (fun t1918 : Bool => [(0, .box [.p (.int .i64 x0.frm), .p (.int .i64 x0.to), .p (.int .i64 x0.fin), .p (.slice 3 (x0.steps.map stepC)), .p (.slice 2 (x0.needs.map needC)), .p (.slice 2 (x0.guards.map needC)), .p (.slice 1 (x0.zone.map intC)), .p (.slice 1 (x0.holds.map intC)), .p (.bool x0.bare)]), (1, .box [.p (.int .i64 x1)])]) 2 h Try.func65 9 [.tmp 4] [(0, .p (.slice 3 (x0.steps.map stepC))), (1, .fn 66 [.lpb 1 0])] rfl rfl rfl rfl rfl rfl rfl rfl (fun A hA t1918 h1919 => ?_) (fun t1918 h2558 => ?_)) <;> clear h
  · refine rs env_ok ?_
    refine rl rfl ?_
    refine rs env_ok ?_
    refine rn 2 rfl ?_
    refine sx rfl (o_in env_ok (fun t2397 : Int => .p (.int .i64 t2397)) (fun t2397 : Int => [(0, .box [.p (.int .i64 x0.frm), .p (.int .i64 x0.to), .p (.int .i64 x0.fin), .p (.slice 3 (x0.steps.map stepC)), .p (.slice 2 (x0.needs.map needC)), .p (.slice 2 (x0.guards.map needC)), .p (.slice 1 (x0.zone.map intC)), .p (.slice 1 (x0.holds.map intC)), .p (.bool x0.bare)]), (1, .box [.p (.int .i64 x1)])]) 2 h1919 Try.func90 19 [.tmp 4] [(0, .p (.slice 3 (x0.steps.map stepC))), (1, .fn 66 [.lpb 1 0])] rfl rfl rfl rfl rfl rfl rfl rfl (fun A hA t2397 h2398 => ?_) (fun t2397 h2557 => ?_)) <;> clear h1919
    · refine rs env_ok ?_
      refine rl rfl ?_
      refine dwp_seq ?_
      refine rs env_ok ?_
      refine rn 1 rfl ?_
      refine sx rfl (o_len rfl rfl ?_)
      refine rl rfl ?_
      refine dwp_block ?_
      apply lp (a := t2397) (fun s2478 : Int => ⟨19, [(0, .p (.slice 3 (x0.steps.map stepC))), (1, .fn 66 [.lpb 1 0]), (7, .p (.int .i64 (x0.steps.length : Int))), (8, .p (.int .i64 s2478))], [(0, .box [.p (.int .i64 x0.frm), .p (.int .i64 x0.to), .p (.int .i64 x0.fin), .p (.slice 3 (x0.steps.map stepC)), .p (.slice 2 (x0.needs.map needC)), .p (.slice 2 (x0.guards.map needC)), .p (.slice 1 (x0.zone.map intC)), .p (.slice 1 (x0.holds.map intC)), .p (.bool x0.bare)]), (1, .box [.p (.int .i64 x1)])], 2⟩) h2398 <;> clear h2398
      · exact wk [(0, 0), (1, 1)] (kept hA _ rfl) rfl rfl rfl (.cons rfl (.cons rfl (.cons rfl (.cons rfl .nil)))) (.cons rfl rfl (.cons rfl rfl .nil))
      intro s2478 b2527 h2528
      unfold g_side_Own_l1 at h2528
      refine rs env_ok ?_
      refine rl rfl ?_
      refine dwp_seq ?_
      refine cd rfl h2528 (fun h2531 => ?_) (fun h2554 => ?_) <;> clear h2528
      · refine dwp_skip ?_
        refine thenD_n ?_
        refine dwp_seq ?_
        refine dwp_block ?_
        refine rs env_ok ?_
        refine rl rfl ?_
        refine rs env_ok ?_
        refine rn 3 rfl ?_
        obtain ⟨y2546, ey2546, h2547⟩ := bd h2531; clear h2531
        refine sx rfl (o_idx ey2546 rfl rfl rfl ?_)
        refine rn 1 rfl ?_
        obtain ⟨y2548, ey2548, h2549⟩ := bd h2547; clear h2547
        refine sx rfl (o_call (f_side_Own_1 _ _ _ ey2548) (.inl rfl) rfl rfl (LdA.eq (.cons (.one (.p _)) (.cons (.box rfl (.cons (.p _) .nil)) .nil))) ?_)
        refine rl rfl ?_
        refine cd rfl h2549 (fun h2550 => ?_) (fun h2553 => ?_) <;> clear h2549
        · refine rs env_ok ?_
          refine rl rfl ?_
          refine dwp_ret ?_
          refine inB_r ?_
          refine thenD_r ?_
          obtain ⟨a2551, h2552, rfl⟩ := mps h2550; clear h2550
          refine lpt ?_
          refine inB_r ?_
          refine thenD_r ?_
          have hr := Option.some.inj h2552; subst hr
          exact ipr (nt := 19) (sl := [(4, .p (.int .i64 s2478))]) (wk [(0, 0), (1, 1)] (kept hA _ rfl) rfl rfl rfl (.cons rfl .nil) (.cons rfl rfl (.cons rfl rfl .nil))) rfl
        · refine dwp_skip ?_
          refine inB_n ?_
          refine thenD_n ?_
          refine rg env_ok ?_
          refine rl rfl ?_
          have hr := Option.some.inj h2553; subst hr
          exact lpn (wk [(0, 0), (1, 1)] (kept hA _ rfl) rfl rfl rfl (.cons rfl (.cons rfl (.cons rfl (.cons rfl .nil)))) (.cons rfl rfl (.cons rfl rfl .nil)))
      · refine dwp_exit ?_
        refine thenD_x ?_
        obtain ⟨a2555, h2556, rfl⟩ := mps h2554; clear h2554
        refine lpx ?_
        refine inB_x ?_
        refine thenD_n ?_
        refine rs env_ok ?_
        refine rl rfl ?_
        refine dwp_ret ?_
        have hr := Option.some.inj h2556; subst hr
        exact ipr (nt := 19) (sl := [(4, .p (.int .i64 (-1)))]) (wk [(0, 0), (1, 1)] (kept hA _ rfl) rfl rfl rfl (.cons rfl .nil) (.cons rfl rfl (.cons rfl rfl .nil))) rfl
    · refine rl rfl ?_
      refine dwp_ret ?_
      have hr := Option.some.inj h2557; subst hr
      exact ipr (nt := 9) (sl := [(4, .p (.bool (decide (0 ≤ t2397))))]) (wk [(0, 0), (1, 1)] (kept hA _ rfl) rfl rfl rfl (.cons rfl .nil) (.cons rfl rfl (.cons rfl rfl .nil))) rfl
  · refine rl rfl ?_
    refine dwp_ret ?_
    have hr := Option.some.inj h2558; subst hr
    exact er rfl Le.rfl

noncomputable def g_net_Net_Reads (x0 : Net) (x1 : Port) : Option Int :=
  bif (assoc x0.reads x1).isSome then some ((assoc x0.reads x1).getD 0) else some (-1)

theorem f_net_Net_Reads (x0 : Net) (x1 : Port) (r : Int) (h : g_net_Net_Reads x0 x1 = some r) : Fun Try.prog 44 [.place (netC x0) 0, .agg (portC x1)] (· = .int .i64 r) := by
  refine fn env_ok Try.func44 rfl rfl 18 rfl [.tmp 4] rfl [(0, .p (.place (netC x0) 0)), (1, .p (.agg (portC x1)))] rfl rfl fun A hA => ?_
  unfold g_net_Net_Reads at h
  refine rs env_ok ?_
  refine rl rfl ?_
  refine dwp_seq ?_
  refine dwp_seq ?_
  refine rgd env_ok mixed [0, 1, 2, 3, 4, 5, 6, 7, 8, 9, 10] 11 (by kernel_rfl) rfl rfl rfl ?_
  refine rnD 5 rfl ?_
  refine sxD rfl (opD_plain rfl (o_lk2 (et := 3) (ke := (fun x => .agg (portC x))) (ve := (.int .i64)) (mp := x0.reads) (y := x1) 0 keyE_65 rfl rfl rfl rfl ?_))
  refine rlD rfl ?_
  refine thenD_n ?_
  refine rs env_ok ?_
  refine rl rfl ?_
  refine cd rfl h (fun h3 => ?_) (fun h4 => ?_) <;> clear h
  · refine rs env_ok ?_
    refine rl rfl ?_
    refine dwp_ret ?_
    refine thenD_r ?_
    have hr := Option.some.inj h3; subst hr
    exact er rfl Le.rfl
  · refine dwp_skip ?_
    refine thenD_n ?_
    refine rs env_ok ?_
    refine rl rfl ?_
    refine dwp_ret ?_
    have hr := Option.some.inj h4; subst hr
    exact er rfl Le.rfl

noncomputable def g_slices_Index_int_l1 (x0 : (List Int)) (x1 : Int) (s56 : Int) : Option (Int ⊕ Int) :=
  bif decide (s56 < (x0.length : Int)) then (idx x0 s56).bind fun y102 => bif (x1 == y102) then some (.inr s56) else some (.inl (wi64 (s56 + 1))) else some (.inr (-1))

noncomputable def g_slices_Index_int (x0 : (List Int)) (x1 : Int) : Option Int :=
  loopR (g_slices_Index_int_l1 x0 x1) 0

theorem f_slices_Index_int (x0 : (List Int)) (x1 : Int) (r : Int) (h : g_slices_Index_int x0 x1 = some r) : Fun Try.prog 85 [.slice 1 (x0.map intC), .int .i64 x1] (· = .int .i64 r) := by
  refine fn env_ok Try.func85 rfl rfl 19 rfl [.tmp 4] rfl [(0, .p (.slice 1 (x0.map intC))), (1, .p (.int .i64 x1))] rfl rfl fun A hA => ?_
  unfold g_slices_Index_int at h
  refine rs env_ok ?_
  refine rl rfl ?_
  refine dwp_seq ?_
  refine rs env_ok ?_
  refine rn 1 rfl ?_
  refine sx rfl (o_len rfl rfl ?_)
  refine rl rfl ?_
  refine dwp_block ?_
  apply lp (a := r) (fun s56 : Int => ⟨19, [(0, .p (.slice 1 (x0.map intC))), (1, .p (.int .i64 x1)), (7, .p (.int .i64 (x0.length : Int))), (8, .p (.int .i64 s56))], [], 0⟩) h <;> clear h
  · exact wk [] (free hA _) rfl rfl rfl (.cons rfl (.cons rfl (.cons rfl (.cons rfl .nil)))) .nil
  intro s56 b89 h90
  unfold g_slices_Index_int_l1 at h90
  refine rs env_ok ?_
  refine rl rfl ?_
  refine dwp_seq ?_
  refine cd rfl h90 (fun h93 => ?_) (fun h108 => ?_) <;> clear h90
  · refine dwp_skip ?_
    refine thenD_n ?_
    refine dwp_seq ?_
    refine dwp_block ?_
    refine rs env_ok ?_
    refine rl rfl ?_
    refine rs env_ok ?_
    refine rn 3 rfl ?_
    obtain ⟨y102, ey102, h103⟩ := bd h93; clear h93
    refine sx rfl (o_idx ey102 rfl rfl rfl ?_)
    refine rl rfl ?_
    refine cd rfl h103 (fun h104 => ?_) (fun h107 => ?_) <;> clear h103
    · refine rs env_ok ?_
      refine rl rfl ?_
      refine dwp_ret ?_
      refine inB_r ?_
      refine thenD_r ?_
      obtain ⟨a105, h106, rfl⟩ := mps h104; clear h104
      refine lpt ?_
      refine inB_r ?_
      refine thenD_r ?_
      have hr := Option.some.inj h106; subst hr
      exact er rfl Le.rfl
    · refine dwp_skip ?_
      refine inB_n ?_
      refine thenD_n ?_
      refine rg env_ok ?_
      refine rl rfl ?_
      have hr := Option.some.inj h107; subst hr
      exact lpn (wk [] (free hA _) rfl rfl rfl (.cons rfl (.cons rfl (.cons rfl (.cons rfl .nil)))) .nil)
  · refine dwp_exit ?_
    refine thenD_x ?_
    obtain ⟨a109, h110, rfl⟩ := mps h108; clear h108
    refine lpx ?_
    refine inB_x ?_
    refine thenD_n ?_
    refine rs env_ok ?_
    refine rl rfl ?_
    refine dwp_ret ?_
    have hr := Option.some.inj h110; subst hr
    exact er rfl Le.rfl

noncomputable def g_slices_Contains_int (x0 : (List Int)) (x1 : Int) : Option Bool :=
  (g_slices_Index_int x0 x1).bind fun y3 => some (decide (0 ≤ y3))

theorem f_slices_Contains_int (x0 : (List Int)) (x1 : Int) (r : Bool) (h : g_slices_Contains_int x0 x1 = some r) : Fun Try.prog 56 [.slice 1 (x0.map intC), .int .i64 x1] (· = .bool r) := by
  refine fn env_ok Try.func56 rfl rfl 9 rfl [.tmp 4] rfl [(0, .p (.slice 1 (x0.map intC))), (1, .p (.int .i64 x1))] rfl rfl fun A hA => ?_
  unfold g_slices_Contains_int at h
  refine rs env_ok ?_
  refine rl rfl ?_
  refine rs env_ok ?_
  refine rn 2 rfl ?_
  obtain ⟨y3, ey3, h4⟩ := bd h; clear h
  refine sx rfl (o_call (f_slices_Index_int _ _ _ ey3) (.inl rfl) rfl rfl rfl ?_)
  refine rl rfl ?_
  refine dwp_ret ?_
  have hr := Option.some.inj h4; subst hr
  exact er rfl Le.rfl

noncomputable def g_slices_Index_apiNeed_l1 (x0 : (List Need)) (x1 : Need) (s56 : Int) : Option (Int ⊕ Int) :=
  bif decide (s56 < (x0.length : Int)) then (idx x0 s56).bind fun y102 => bif (x1 == y102) then some (.inr s56) else some (.inl (wi64 (s56 + 1))) else some (.inr (-1))

noncomputable def g_slices_Index_apiNeed (x0 : (List Need)) (x1 : Need) : Option Int :=
  loopR (g_slices_Index_apiNeed_l1 x0 x1) 0

theorem f_slices_Index_apiNeed (x0 : (List Need)) (x1 : Need) (r : Int) (h : g_slices_Index_apiNeed x0 x1 = some r) : Fun Try.prog 86 [.slice 2 (x0.map needC), .agg (needC x1)] (· = .int .i64 r) := by
  refine fn env_ok Try.func86 rfl rfl 19 rfl [.tmp 4] rfl [(0, .p (.slice 2 (x0.map needC))), (1, .p (.agg (needC x1)))] rfl rfl fun A hA => ?_
  unfold g_slices_Index_apiNeed at h
  refine rs env_ok ?_
  refine rl rfl ?_
  refine dwp_seq ?_
  refine rs env_ok ?_
  refine rn 1 rfl ?_
  refine sx rfl (o_len rfl rfl ?_)
  refine rl rfl ?_
  refine dwp_block ?_
  apply lp (a := r) (fun s56 : Int => ⟨19, [(0, .p (.slice 2 (x0.map needC))), (3, .lpb 0 0), (7, .p (.int .i64 (x0.length : Int))), (8, .p (.int .i64 s56))], [(0, .box [.p (.int .i64 x1.elem), .p (.int .i64 x1.pos)])], 1⟩) h <;> clear h
  · exact wk [(0, 0)] (free hA _) rfl rfl rfl (.cons rfl (.cons rfl (.cons rfl (.cons rfl .nil)))) (.cons rfl rfl .nil)
  intro s56 b89 h90
  unfold g_slices_Index_apiNeed_l1 at h90
  refine rs env_ok ?_
  refine rl rfl ?_
  refine dwp_seq ?_
  refine cd rfl h90 (fun h93 => ?_) (fun h108 => ?_) <;> clear h90
  · refine dwp_skip ?_
    refine thenD_n ?_
    refine dwp_seq ?_
    refine dwp_block ?_
    refine rs env_ok ?_
    refine rl rfl ?_
    refine dwp_seq ?_
    refine rgd env_ok mixed [0, 1, 2, 3, 4, 5] 6 (by kernel_rfl) rfl rfl rfl ?_
    refine rnD 3 rfl ?_
    obtain ⟨y102, ey102, h103⟩ := bd h93; clear h93
    refine sxD rfl (opD_plain rfl (o_idx ey102 rfl rfl rfl ?_))
    refine rnD 1 rfl ?_
    refine sxD rfl (o_eqAD (eqE_Need x1 y102) rfl rfl rfl rfl rfl ?_)
    refine rlD rfl ?_
    refine thenD_n ?_
    refine cd rfl h103 (fun h104 => ?_) (fun h107 => ?_) <;> clear h103
    · refine rs env_ok ?_
      refine rl rfl ?_
      refine dwp_ret ?_
      refine inB_r ?_
      refine thenD_r ?_
      obtain ⟨a105, h106, rfl⟩ := mps h104; clear h104
      refine lpt ?_
      refine inB_r ?_
      refine thenD_r ?_
      have hr := Option.some.inj h106; subst hr
      exact er rfl Le.rfl
    · refine dwp_skip ?_
      refine inB_n ?_
      refine thenD_n ?_
      refine rg env_ok ?_
      refine rl rfl ?_
      have hr := Option.some.inj h107; subst hr
      exact lpn (wk [(0, 0)] (free hA _) rfl rfl rfl (.cons rfl (.cons rfl (.cons rfl (.cons rfl .nil)))) (.cons rfl rfl .nil))
  · refine dwp_exit ?_
    refine thenD_x ?_
    obtain ⟨a109, h110, rfl⟩ := mps h108; clear h108
    refine lpx ?_
    refine inB_x ?_
    refine thenD_n ?_
    refine rs env_ok ?_
    refine rl rfl ?_
    refine dwp_ret ?_
    have hr := Option.some.inj h110; subst hr
    exact er rfl Le.rfl

noncomputable def g_slices_Contains_apiNeed (x0 : (List Need)) (x1 : Need) : Option Bool :=
  (g_slices_Index_apiNeed x0 x1).bind fun y3 => some (decide (0 ≤ y3))

theorem f_slices_Contains_apiNeed (x0 : (List Need)) (x1 : Need) (r : Bool) (h : g_slices_Contains_apiNeed x0 x1 = some r) : Fun Try.prog 58 [.slice 2 (x0.map needC), .agg (needC x1)] (· = .bool r) := by
  refine fn env_ok Try.func58 rfl rfl 9 rfl [.tmp 4] rfl [(0, .p (.slice 2 (x0.map needC))), (1, .p (.agg (needC x1)))] rfl rfl fun A hA => ?_
  unfold g_slices_Contains_apiNeed at h
  refine rs env_ok ?_
  refine rl rfl ?_
  refine rs env_ok ?_
  refine rn 2 rfl ?_
  obtain ⟨y3, ey3, h4⟩ := bd h; clear h
  refine sx rfl (o_call (f_slices_Index_apiNeed _ _ _ ey3) (.inl rfl) rfl rfl rfl ?_)
  refine rl rfl ?_
  refine dwp_ret ?_
  have hr := Option.some.inj h4; subst hr
  exact er rfl Le.rfl

noncomputable def g_net_Net_Outs (x0 : Net) (x1 : Int) (x2 : Int) : Option (List Way) :=
  ((bif decide (x2 < 0) then some true else (g_net_Net_Kind x0 x1).bind fun y28 => (g_plan_Ends y28).bind fun y30 => some (decide (y30 ≤ x2)) : Option (Bool))).bind fun (t24 : Bool) => bif t24 then some [] else (g_net_Net_Kind x0 x1).bind fun y59 => bif (y59 == 1) then some [(⟨wi64 (1 - x2), 0⟩ : Way)] else bif (y59 == 3) then (idx ([1, 0, 3, 2] : List Int) x2).bind fun y66 => some [(⟨y66, 0⟩ : Way)] else bif (y59 == 2) then bif (x2 == 0) then some [(⟨1, 1⟩ : Way), (⟨2, 2⟩ : Way)] else (idx ([0, 1, 2] : List Int) x2).bind fun y76 => some [(⟨0, y76⟩ : Way)] else some []

theorem f_net_Net_Outs (x0 : Net) (x1 : Int) (x2 : Int) (r : (List Way)) (h : g_net_Net_Outs x0 x1 x2 = some r) : Fun Try.prog 117 [.place (netC x0) 0, .int .i64 x1, .int .i64 x2] (· = .slice 2 (r.map wayC)) := by
  refine fn env_ok Try.func117 rfl rfl 47 rfl [.tmp 6] rfl [(0, .p (.place (netC x0) 0)), (1, .p (.int .i64 x1)), (2, .p (.int .i64 x2))] rfl rfl fun A hA => ?_
  unfold g_net_Net_Outs at h
  refine rs env_ok ?_
  refine rl rfl ?_
  refine dwp_seq ?_
  refine jb (fun t24 : Bool => ⟨47, [(0, .p (.place (netC x0) 0)), (1, .p (.int .i64 x1)), (2, .p (.int .i64 x2)), (17, .p (.bool t24))], [], 0⟩) h (fun t24 h25 => ?_) (fun t24 h32 => ?_) <;> clear h
  · refine rg env_ok ?_
    refine rn 3 rfl ?_
    refine gs 10 h25 rfl rfl rfl (fun h26 => ?_) (fun h27 => ?_) <;> clear h25
    · refine rl rfl ?_
      have hr := Option.some.inj h26; subst hr
      exact npn (wk [] (free hA _) rfl rfl rfl (.cons rfl (.cons rfl (.cons rfl (.cons rfl .nil)))) .nil)
    · refine rn 3 rfl ?_
      obtain ⟨y28, ey28, h29⟩ := bd h27; clear h27
      refine sx rfl (o_call (f_net_Net_Kind _ _ _ ey28) (.inl rfl) rfl rfl rfl ?_)
      obtain ⟨y30, ey30, h31⟩ := bd h29; clear h29
      refine sx rfl (o_call (f_plan_Ends _ _ ey30) (.inl rfl) rfl rfl rfl ?_)
      refine rl rfl ?_
      have hr := Option.some.inj h31; subst hr
      exact npn (wk [] (free hA _) rfl rfl rfl (.cons rfl (.cons rfl (.cons rfl (.cons rfl .nil)))) .nil)
  · refine cd rfl h32 (fun h33 => ?_) (fun h34 => ?_) <;> clear h32
    · refine rs env_ok ?_
      refine rl rfl ?_
      refine dwp_ret ?_
      refine thenD_r ?_
      have hr := Option.some.inj h33; subst hr
      exact er rfl (Le.nil _)
    · refine dwp_skip ?_
      refine thenD_n ?_
      refine dwp_seq ?_
      refine rs env_ok ?_
      refine rn 2 rfl ?_
      obtain ⟨y59, ey59, h60⟩ := bd h34; clear h34
      refine sx rfl (o_call (f_net_Net_Kind _ _ _ ey59) (.inl rfl) rfl rfl rfl ?_)
      refine rl rfl ?_
      refine dwp_block ?_
      refine rs env_ok ?_
      refine rl rfl ?_
      refine cd rfl h60 (fun h61 => ?_) (fun h62 => ?_) <;> clear h60
      · refine rs env_ok ?_
        refine rl rfl ?_
        refine dwp_ret ?_
        refine inB_r ?_
        refine thenD_r ?_
        have hr := Option.some.inj h61; subst hr
        exact er (rd1 rfl (.one (.own (enc := wayC) ([(⟨wi64 (1 - x2), 0⟩ : Way)] : List Way) rfl rfl))) Le.rfl
      · refine rs env_ok ?_
        refine rl rfl ?_
        refine cd rfl h62 (fun h63 => ?_) (fun h68 => ?_) <;> clear h62
        · refine rs env_ok ?_
          refine rl rfl ?_
          refine rs env_ok ?_
          refine rn 1 rfl ?_
          obtain ⟨y66, ey66, h67⟩ := bd h63; clear h63
          refine sx rfl (o_ixP (l := ([1, 0, 3, 2] : List Int)) ey66 rfl rfl rfl rfl ?_)
          refine sx rfl (o_ldX (g := fun y => .p (.int .i64 y)) ey66 rfl rfl rfl rfl ?_)
          refine rl rfl ?_
          refine dwp_ret ?_
          refine inB_r ?_
          refine thenD_r ?_
          have hr := Option.some.inj h67; subst hr
          exact er (rd1 rfl (.one (.own (enc := wayC) ([(⟨y66, 0⟩ : Way)] : List Way) rfl rfl))) Le.rfl
        · refine rs env_ok ?_
          refine rl rfl ?_
          refine cd rfl h68 (fun h69 => ?_) (fun h78 => ?_) <;> clear h68
          · refine dwp_seq ?_
            refine rs env_ok ?_
            refine rl rfl ?_
            refine cd rfl h69 (fun h72 => ?_) (fun h73 => ?_) <;> clear h69
            · refine rs env_ok ?_
              refine rl rfl ?_
              refine dwp_ret ?_
              refine thenD_r ?_
              refine inB_r ?_
              refine thenD_r ?_
              have hr := Option.some.inj h72; subst hr
              exact er (rd1 rfl (.one (.own (enc := wayC) ([(⟨1, 1⟩ : Way), (⟨2, 2⟩ : Way)] : List Way) rfl rfl))) Le.rfl
            · refine dwp_skip ?_
              refine thenD_n ?_
              refine rs env_ok ?_
              refine rn 2 rfl ?_
              obtain ⟨y76, ey76, h77⟩ := bd h73; clear h73
              refine sx rfl (o_ixA (l := ([0, 1, 2] : List Int)) (g := fun y => .int .i64 y) ey76 rfl rfl rfl rfl ?_)
              refine rl rfl ?_
              refine dwp_ret ?_
              refine inB_r ?_
              refine thenD_r ?_
              have hr := Option.some.inj h77; subst hr
              exact er (rd1 rfl (.one (.own (enc := wayC) ([(⟨0, y76⟩ : Way)] : List Way) rfl rfl))) Le.rfl
          · refine dwp_skip ?_
            refine inB_n ?_
            refine thenD_n ?_
            refine rs env_ok ?_
            refine rl rfl ?_
            refine dwp_ret ?_
            have hr := Option.some.inj h78; subst hr
            exact er rfl (Le.nil _)

end Go.E
