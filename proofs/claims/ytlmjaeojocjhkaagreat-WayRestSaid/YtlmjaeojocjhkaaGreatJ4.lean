/- Plain functions, and walks in step with them. Written by a program (gen.py). No condition. -/
import Derived.Test.YtlmjaeojocjhkaaGreatJ3
set_option linter.unusedVariables false
set_option linter.unusedSimpArgs false
set_option maxRecDepth 100000
set_option maxHeartbeats 1000000
namespace Go.E
open Go Go.RowKit Go.Proofs
noncomputable def NC (b : Int) (a : Int × Int) : Option ((Int × Int) ⊕ Int) :=
 bif decide (0 < a.1) then some (.inl (AO (a.1 - b), AO (a.2 + a.1))) else some (.inr a.2)
noncomputable def Jq (b : Int) (a : Int) : Option Int :=
 ((bif decide (b < 0) then some true else bif decide (60 < b) then some true else bif decide (a < 1) then some true else some (decide (10 < a)) : Option (Bool))).bind fun (c : Bool) => bif c then some 0 else AQ (NC a) (AO (b - a), 0)
theorem Vl (c : Int) (b : Int) (r : Int) (h : Jq c b = some r) : Ax Tryz.prog 161 [.int .i64 c, .int .i64 b] (· = .int .i64 r) := by
 refine fn AA Tryz.func161 Z Z 32 Z [.tmp 4] Z [(0, .p (.int .i64 c)), (1, .p (.int .i64 b))] Z Z fun A hA => ?_
 unfold Jq at h
 refine rs AA <| rl Z <| AB <| jb (fun e : Bool => ⟨32, [(0, li c), (1, li b), (19, lb e)], [], 0⟩) h (fun e g => ?_) (fun e o => ?_)
 .refine rg AA <| rn 3 Z <| gs 8 g Z Z Z (fun i => ?_) (fun j => ?_)
  .exact rl Z <| AL i (wf hA [] Z Z Z)
  refine rn 4 Z <| gs 12 j Z Z Z (fun k => ?_) (fun l => ?_)
  .exact rl Z <| AL k (wf hA [] Z Z Z)
  refine rn 4 Z <| gs 16 l Z Z Z (fun m => ?_) (fun n => ?_)
  .exact rl Z <| AL m (wf hA [] Z Z Z)
  exact rl Z <| AL n (wf hA [] Z Z Z)
 refine cd Z o (fun q => ?_) (fun s => ?_)
 .refine rs AA <| rl Z <| AF <| AG ?_
  cases q
  exact er Z Le.rfl
 refine AE <| AC <| rs AA <| rl Z <| AB <| rs AA <| rl Z <| AH ?_
 apply lp (a := r) (fun d : (Int × Int) => ⟨32, [(0, li d.1), (1, li b), (5, li d.2)], [], 0⟩) s
 . exact wf hA [] Z Z Z
 intro d x f
 unfold NC at f
 refine AB <| rs AA <| rl Z <| cd Z f (fun t => ?_) (fun u => ?_)
 .exact AE <| AC <| AB <| AH <| rg AA <| rl Z <| Ag <| AC <| rg AA <| rl Z <| Ar t (wf hA [] Z Z Z)
 refine AV <| AX <| BI u fun w v => Ap <| AC <| rs AA <| rl Z <| AF ?_
 cases v
 exact er Z Le.rfl
noncomputable def D9 (b : AK) (a : Int) : Option (Int ⊕ Bool) :=
 bif decide (a < (b.elems.length : Int)) then (AY b.elems a).bind fun c => ((bif (c.kind != 4) then some (decide (c.length < b.top)) else some false : Option (Bool))).bind fun (d : Bool) => bif d then some (.inr false) else some (.inl (AO (a + 1))) else some (.inr true)
noncomputable def FW (a : AK) (b : Int) : Option (Int ⊕ Bool) :=
 bif decide (b < (a.signals.length : Int)) then (AY a.signals b).bind fun e => (AY a.elems e.at_.elem).bind fun c => ((bif (c.kind == 1) then some (decide (c.length < a.margin)) else some false : Option (Bool))).bind fun (d : Bool) => bif d then some (.inr false) else some (.inl (AO (b + 1))) else (AQ (D9 a) 0).map .inr
noncomputable def H7 (a : AK) : Option Bool :=
 (Jq a.top a.brake).bind fun b => bif decide (a.margin < AO (a.top + b)) then some false else AQ (FW a) 0
theorem Vm (b : AK) (r : Bool) (h : H7 b = some r) : Ax Tryz.prog 135 [.agg (AU b)] (· = .bool r) := by
 refine fn AA Tryz.func135 Z Z 62 Z [.tmp 2] Z [(0, .p (.agg (AU b)))] Z Z fun A hA => ?_
 unfold H7 at h
 refine rs AA <| rl Z <| AB <| AB ?_
 refine Bz AA mixed [0, 1, 2, 3, 4, 5, 6, 7, 8, 9, 10] 11 (by kernel_rfl) Z Z Z ?_
 refine Au 8 Z <| bq h fun a0 n o => As Z (A6 (Vl _ _ _ n) (.inl Z) Z Z Z <| BJ Z <| AC <| cd Z o (fun q => ?_) (fun s => ?_))
 .refine rs AA <| rl Z <| AF <| AG ?_
  cases q
  exact er Z Le.rfl
 refine AE <| AC <| AB <| rs AA <| rn 2 Z <| sx Z (Ad Z Z <| rl Z <| AH ?_)
 apply lp (a := r) (fun c : Int => ⟨62, [(1, .lpb 0 0), (20, ls 4 BT b.signals), (21, li (b.signals.length : Int)), (22, li c)], [(0, bx (AU b))], 1⟩) s
 . exact wf hA [(0, 0)] Z Z Z
 intro c av g
 unfold FW at g
 refine rs AA <| rl Z <| AB <| cd Z g (fun t => ?_) (fun ad => ?_)
 .refine AE <| AC <| AB <| AH <| rs AA <| bq t fun ax k u => sx Z (Af k Z Z Z <| rl Z <| rs AA <| rn 5 Z <| bq u fun ay l v => sx Z (Af l Z Z Z <| rl Z <| jb (fun e : Bool => ⟨62, [(1, .lpb 0 0), (20, ls 4 BT b.signals), (21, li (b.signals.length : Int)), (22, li c), (42, lb e)], [(0, bx (AU b))], 1⟩) v (fun e w => ?_) (fun e z => ?_)))
  .refine rg AA <| rn 4 Z <| gs 36 w Z Z Z (fun x => ?_) (fun y => ?_)
   .exact rl Z <| AL x (wf hA [(0, 0)] Z Z Z)
   exact rl Z <| AL y (wf hA [(0, 0)] Z Z Z)
  refine cd Z z (fun aa => ?_) (fun ac => ?_)
  .refine rs AA <| rl Z <| AF <| AN <| AG <| A2 aa fun aq ab => AN <| AG ?_
   cases ab
   exact er Z Le.rfl
  exact AE <| Ag <| AC <| rg AA <| rl Z <| Ar ac (wf hA [(0, 0)] Z Z Z)
 refine AV <| AX <| CP ad fun j ae => Ap <| AC <| AB <| rs AA <| rn 2 Z <| sx Z (Ad Z Z <| rl Z <| AH ?_)
 apply lp (a := j) (fun d : Int => ⟨62, [(1, .lpb 0 0), (45, ls 3 CA b.elems), (46, li (b.elems.length : Int)), (47, li d)], [(0, bx (AU b))], 1⟩) ae
 . exact wf hA [(0, 0)] Z Z Z
 intro d aw i
 unfold D9 at i
 refine rs AA <| rl Z <| AB <| cd Z i (fun af => ?_) (fun ao => ?_)
 .refine AE <| AC <| AB <| AH <| rs AA <| bq af fun az m ag => sx Z (Af m Z Z Z <| rl Z <| jb (fun f : Bool => ⟨62, [(1, .lpb 0 0), (45, ls 3 CA b.elems), (46, li (b.elems.length : Int)), (47, li d), (60, lb f)], [(0, bx (AU b))], 1⟩) ag (fun f ah => ?_) (fun f ak => ?_))
  .refine rg AA <| rn 4 Z <| gs 54 ah Z Z Z (fun ai => ?_) (fun aj => ?_)
   .exact rl Z <| AL ai (wf hA [(0, 0)] Z Z Z)
   exact rl Z <| AL aj (wf hA [(0, 0)] Z Z Z)
  refine cd Z ak (fun al => ?_) (fun an => ?_)
  .refine rs AA <| rl Z <| AF <| AN <| AG <| A2 al fun ar am => AN <| AG ?_
   cases am
   exact er Z Le.rfl
  exact AE <| Ag <| AC <| rg AA <| rl Z <| Ar an (wf hA [(0, 0)] Z Z Z)
 refine AV <| AX <| BI ao fun au ap => Ap <| AC <| rs AA <| rl Z <| AF ?_
 cases ap
 exact er Z Le.rfl
noncomputable def Dd (b : AK) (a : Int × (List (ByteArray × Bool))) : Option ((Int × (List (ByteArray × Bool))) ⊕ Bool) :=
 bif decide (a.1 < (b.elems.length : Int)) then (FR a.1 b).bind fun c => bif ((Ak a.2 c).getD false) then some (.inr true) else (FR a.1 b).bind fun d => some (.inl (AO (a.1 + 1), A0 d true a.2)) else some (.inr false)
noncomputable def De (b : AK) (a : Int × (List (ByteArray × Bool))) : Option ((Int × (List (ByteArray × Bool))) ⊕ Bool) :=
 bif decide (a.1 < (b.signals.length : Int)) then (FT a.1 b).bind fun c => bif ((Ak a.2 c).getD false) then some (.inr true) else (FT a.1 b).bind fun d => some (.inl (AO (a.1 + 1), A0 d true a.2)) else some (.inr false)
noncomputable def Df (b : AK) (a : Int × (List (ByteArray × Bool))) : Option ((Int × (List (ByteArray × Bool))) ⊕ Bool) :=
 bif decide (a.1 < (b.lines.length : Int)) then (FU a.1 b).bind fun c => bif ((Ak a.2 c).getD false) then some (.inr true) else (FU a.1 b).bind fun d => some (.inl (AO (a.1 + 1), A0 d true a.2)) else some (.inr false)
noncomputable def HA (a : AK) : Option Int :=
 ((bif decide (40 < (a.elems.length : Int)) then some true else bif decide (24 < (a.signals.length : Int)) then some true else bif decide (4 < (a.lines.length : Int)) then some true else some (decide (80 < (a.joins.length : Int))) : Option (Bool))).bind fun (c : Bool) => bif c then some 3 else (FQ a).bind fun h => bif (!h) then some 1 else ((((AQ (Dd a) (0, []) : Option (Bool))).bind fun (e : Bool) => bif e then some true else ((AQ (De a) (0, []) : Option (Bool))).bind fun (f : Bool) => bif f then some true else ((AQ (Df a) (0, []) : Option (Bool))).bind fun (g : Bool) => some g : Option (Bool))).bind fun (d : Bool) => bif d then some 4 else (GJ a).bind fun b => bif (!b.2) then some 6 else (FV a b.1).bind fun i => bif (!i) then some 7 else (G9 a b.1).bind fun j => bif (!j) then some 8 else (H7 a).bind fun k => bif (!k) then some 9 else some 0
theorem UZ (b : AK) (r : Int) (h : HA b = some r) : Ax Tryz.prog 91 [.agg (AU b)] (· = .int .i64 r) := by
 refine fn AA Tryz.func91 Z Z 71 Z [.tmp 2] Z [(0, .p (.agg (AU b)))] Z Z fun A hA => ?_
 unfold HA at h
 refine rs AA <| rl Z <| AB <| jb (fun j : Bool => ⟨71, [(1, .lpb 0 0), (26, lb j)], [(0, bx (AU b))], 1⟩) h (fun j ad => ?_) (fun j ak => ?_)
 .refine rg AA <| rn 2 Z <| sx Z (Ad Z Z <| rn 2 Z <| gs 9 ad Z Z Z (fun ae => ?_) (fun af => ?_))
  .exact rl Z <| AL ae (wf hA [(0, 0)] Z Z Z)
  refine rn 2 Z <| sx Z (Ad Z Z <| rn 3 Z <| gs 15 af Z Z Z (fun ag => ?_) (fun ah => ?_))
  .exact rl Z <| AL ag (wf hA [(0, 0)] Z Z Z)
  refine rn 2 Z <| sx Z (Ad Z Z <| rn 3 Z <| gs 21 ah Z Z Z (fun ai => ?_) (fun aj => ?_))
  .exact rl Z <| AL ai (wf hA [(0, 0)] Z Z Z)
  exact rn 2 Z <| sx Z (Ad Z Z <| rl Z <| AL aj (wf hA [(0, 0)] Z Z Z))
 refine cd Z ak (fun al => ?_) (fun am => ?_)
 .refine rs AA <| rl Z <| AF <| AG ?_
  cases al
  exact er Z Le.rfl
 refine AE <| AC <| AB <| rs AA <| rn 1 Z <| bq am fun cq s a2 => sx Z (AM (SL _ _ s) (.inl Z) Z Z Z <| rl Z <| cd Z a2 (fun a4 => ?_) (fun a6 => ?_))
 .refine rs AA <| rl Z <| AF <| AG ?_
  cases a4
  exact er Z Le.rfl
 refine AE <| AC <| AB <| jb (fun k : Bool => ⟨71, [(1, .lpb 0 0), (48, lb k)], [(0, bx (AU b))], 1⟩) a6 (fun k an => ?_) (fun k bt => ?_)
 .refine rg AA <| rn 2 Z <| sx Z (Ad Z Z <| rn 1 Z <| sx Z (CT AA (fun f : Bool => lb f) (fun f : Bool => [(0, bx (AU b))]) 1 an Tryz.func128 22 [.tmp 4] [(0, li (b.elems.length : Int)), (1, .fn 129 [.lpb 0 0])] Z Z Z Z Z Z Z Z (fun A hA f ao => ?_) (fun f az => ?_)))
  .refine rs AA <| rl Z <| rs AA <| rl Z <| AB <| rs AA <| rl Z <| AH ?_
   apply lp (a := f) (fun c : (Int × (List (ByteArray × Bool))) => ⟨22, [(1, .fn 129 [.lpb 0 0]), (5, .lmap 1), (8, li (b.elems.length : Int)), (9, li c.1)], [(0, bx (AU b)), (1, .map (An .str .bool c.2))], 2⟩) ao
   . exact wj hA [(0, 0), (1, 1)] Z Z Z Z
   intro c cn l
   unfold Dd at l
   refine rs AA <| rl Z <| AB <| cd Z l (fun ap => ?_) (fun ax => ?_)
   .refine AE <| AC <| AB <| AH <| rs AA <| rl Z <| AB <| rs AA <| rn 3 Z <| bq ap fun ca o aq => sx Z (AM (M9 _ _ _ o) (.inl Z) Z Z (Dc.eq (.cons (.one (.p _)) (.cons (.box Z (.cons (.p _) (.cons (.p _) (.cons (.p _) (.cons (.p _) (.cons (.p _) (.cons (.p _) (.cons (.p _) (.cons (.p _) (.cons (.p _) .nil)))))))))) .nil))) <| sx Z (Ko (et := 4) (ke := .str) (ve := .bool) (mp := c.2) (y := ca) false ND Z Z Z Z <| rl Z <| cd Z aq (fun ar => ?_) (fun av => ?_)))
    .refine rs AA <| rl Z <| AF <| AG <| AN <| AG <| A2 ar fun ch au => AN <| AG ?_
     cases au
     exact CW (nt := 22) (sl := [(4, lb true)]) (wj hA [(0, 0)] Z Z Z Z) Z
    exact AE <| AC <| rg AA <| rn 3 Z <| bq av fun cb q aw => sx Z (AM (M9 _ _ _ q) (.inl Z) Z Z (Dc.eq (.cons (.one (.p _)) (.cons (.box Z (.cons (.p _) (.cons (.p _) (.cons (.p _) (.cons (.p _) (.cons (.p _) (.cons (.p _) (.cons (.p _) (.cons (.p _) (.cons (.p _) .nil)))))))))) .nil))) <| sx Z (Gi (et := 4) (ke := .str) (ve := .bool) (mp := c.2) (y := cb) (z := true) ND Z Z Z Z Z Z <| rl Z <| Ag <| AC <| rg AA <| rl Z <| Ar aw (wj hA [(0, 0), (1, 1)] Z Z Z Z)))
   refine AV <| AX <| BI ax fun ci ay => Ap <| AC <| rs AA <| rl Z <| AF ?_
   cases ay
   exact CW (nt := 22) (sl := [(4, lb false)]) (wj hA [(0, 0)] Z Z Z Z) Z
  refine rn 1 Z <| gs 35 az Z Z Z (fun a0 => ?_) (fun a1 => ?_)
  .exact rl Z <| AL a0 (wf hA [(0, 0)] Z Z Z)
  refine rn 2 Z <| sx Z (Ad Z Z <| rn 1 Z <| sx Z (CT AA (fun g : Bool => lb g) (fun g : Bool => [(0, bx (AU b))]) 1 a1 Tryz.func128 22 [.tmp 4] [(0, li (b.signals.length : Int)), (1, .fn 130 [.lpb 0 0])] Z Z Z Z Z Z Z Z (fun A hA g a3 => ?_) (fun g bf => ?_)))
  .refine rs AA <| rl Z <| rs AA <| rl Z <| AB <| rs AA <| rl Z <| AH ?_
   apply lp (a := g) (fun d : (Int × (List (ByteArray × Bool))) => ⟨22, [(1, .fn 130 [.lpb 0 0]), (5, .lmap 1), (8, li (b.signals.length : Int)), (9, li d.1)], [(0, bx (AU b)), (1, .map (An .str .bool d.2))], 2⟩) a3
   . exact wj hA [(0, 0), (1, 1)] Z Z Z Z
   intro d co m
   unfold De at m
   refine rs AA <| rl Z <| AB <| cd Z m (fun a5 => ?_) (fun bc => ?_)
   .refine AE <| AC <| AB <| AH <| rs AA <| rl Z <| AB <| rs AA <| rn 3 Z <| bq a5 fun cc t a7 => sx Z (AM (NA _ _ _ t) (.inl Z) Z Z (Dc.eq (.cons (.one (.p _)) (.cons (.box Z (.cons (.p _) (.cons (.p _) (.cons (.p _) (.cons (.p _) (.cons (.p _) (.cons (.p _) (.cons (.p _) (.cons (.p _) (.cons (.p _) .nil)))))))))) .nil))) <| sx Z (Ko (et := 4) (ke := .str) (ve := .bool) (mp := d.2) (y := cc) false ND Z Z Z Z <| rl Z <| cd Z a7 (fun a8 => ?_) (fun ba => ?_)))
    .refine rs AA <| rl Z <| AF <| AG <| AN <| AG <| A2 a8 fun cj a9 => AN <| AG ?_
     cases a9
     exact CW (nt := 22) (sl := [(4, lb true)]) (wj hA [(0, 0)] Z Z Z Z) Z
    exact AE <| AC <| rg AA <| rn 3 Z <| bq ba fun ce u bb => sx Z (AM (NA _ _ _ u) (.inl Z) Z Z (Dc.eq (.cons (.one (.p _)) (.cons (.box Z (.cons (.p _) (.cons (.p _) (.cons (.p _) (.cons (.p _) (.cons (.p _) (.cons (.p _) (.cons (.p _) (.cons (.p _) (.cons (.p _) .nil)))))))))) .nil))) <| sx Z (Gi (et := 4) (ke := .str) (ve := .bool) (mp := d.2) (y := ce) (z := true) ND Z Z Z Z Z Z <| rl Z <| Ag <| AC <| rg AA <| rl Z <| Ar bb (wj hA [(0, 0), (1, 1)] Z Z Z Z)))
   refine AV <| AX <| BI bc fun ck be => Ap <| AC <| rs AA <| rl Z <| AF ?_
   cases be
   exact CW (nt := 22) (sl := [(4, lb false)]) (wj hA [(0, 0)] Z Z Z Z) Z
  refine rn 2 Z <| gs 42 bf Z Z Z (fun bg => ?_) (fun bh => ?_)
  .exact rl Z <| AL bg (wf hA [(0, 0)] Z Z Z)
  refine rn 2 Z <| sx Z (Ad Z Z <| rn 1 Z <| sx Z (CT AA (fun i : Bool => lb i) (fun i : Bool => [(0, bx (AU b))]) 1 bh Tryz.func128 22 [.tmp 4] [(0, li (b.lines.length : Int)), (1, .fn 131 [.lpb 0 0])] Z Z Z Z Z Z Z Z (fun A hA i bi => ?_) (fun i bs => ?_)))
  .refine rs AA <| rl Z <| rs AA <| rl Z <| AB <| rs AA <| rl Z <| AH ?_
   apply lp (a := i) (fun e : (Int × (List (ByteArray × Bool))) => ⟨22, [(1, .fn 131 [.lpb 0 0]), (5, .lmap 1), (8, li (b.lines.length : Int)), (9, li e.1)], [(0, bx (AU b)), (1, .map (An .str .bool e.2))], 2⟩) bi
   . exact wj hA [(0, 0), (1, 1)] Z Z Z Z
   intro e cp n
   unfold Df at n
   refine rs AA <| rl Z <| AB <| cd Z n (fun bj => ?_) (fun bp => ?_)
   .refine AE <| AC <| AB <| AH <| rs AA <| rl Z <| AB <| rs AA <| rn 3 Z <| bq bj fun cf v bk => sx Z (AM (NB _ _ _ v) (.inl Z) Z Z (Dc.eq (.cons (.one (.p _)) (.cons (.box Z (.cons (.p _) (.cons (.p _) (.cons (.p _) (.cons (.p _) (.cons (.p _) (.cons (.p _) (.cons (.p _) (.cons (.p _) (.cons (.p _) .nil)))))))))) .nil))) <| sx Z (Ko (et := 4) (ke := .str) (ve := .bool) (mp := e.2) (y := cf) false ND Z Z Z Z <| rl Z <| cd Z bk (fun bl => ?_) (fun bn => ?_)))
    .refine rs AA <| rl Z <| AF <| AG <| AN <| AG <| A2 bl fun cl bm => AN <| AG ?_
     cases bm
     exact CW (nt := 22) (sl := [(4, lb true)]) (wj hA [(0, 0)] Z Z Z Z) Z
    exact AE <| AC <| rg AA <| rn 3 Z <| bq bn fun cg w bo => sx Z (AM (NB _ _ _ w) (.inl Z) Z Z (Dc.eq (.cons (.one (.p _)) (.cons (.box Z (.cons (.p _) (.cons (.p _) (.cons (.p _) (.cons (.p _) (.cons (.p _) (.cons (.p _) (.cons (.p _) (.cons (.p _) (.cons (.p _) .nil)))))))))) .nil))) <| sx Z (Gi (et := 4) (ke := .str) (ve := .bool) (mp := e.2) (y := cg) (z := true) ND Z Z Z Z Z Z <| rl Z <| Ag <| AC <| rg AA <| rl Z <| Ar bo (wj hA [(0, 0), (1, 1)] Z Z Z Z)))
   refine AV <| AX <| BI bp fun cm br => Ap <| AC <| rs AA <| rl Z <| AF ?_
   cases br
   exact CW (nt := 22) (sl := [(4, lb false)]) (wj hA [(0, 0)] Z Z Z Z) Z
  exact rl Z <| AL bs (wf hA [(0, 0)] Z Z Z)
 refine cd Z bt (fun bu => ?_) (fun bv => ?_)
 .refine rs AA <| rl Z <| AF <| AG ?_
  cases bu
  exact er Z Le.rfl
 refine AE <| AC <| rs AA <| rn 1 Z <| bq bv fun cr x bw => sx Z (AM (TS _ _ x) (.inr Z) Z Z Z <| rl Z <| AB <| AH <| rs AA <| rl Z <| cd Z bw (fun bz => ?_) (fun b0 => ?_))
 .refine rs AA <| rl Z <| AF <| AN <| AG ?_
  cases bz
  exact er Z Le.rfl
 refine rs AA <| rn 2 Z <| bq b0 fun cs aa b1 => sx Z (AM (SM _ _ _ aa) (.inl Z) Z Z Z <| rl Z <| cd Z b1 (fun b2 => ?_) (fun b3 => ?_))
 .refine rs AA <| rl Z <| AF <| AN <| AG ?_
  cases b2
  exact er Z Le.rfl
 refine rs AA <| rn 2 Z <| bq b3 fun ct ab b4 => sx Z (AM (UY _ _ _ ab) (.inl Z) Z Z Z <| rl Z <| cd Z b4 (fun b5 => ?_) (fun b6 => ?_))
 .refine rs AA <| rl Z <| AF <| AN <| AG ?_
  cases b5
  exact er Z Le.rfl
 refine rs AA <| rn 1 Z <| bq b6 fun cu ac b7 => sx Z (AM (Vm _ _ ac) (.inl Z) Z Z Z <| rl Z <| cd Z b7 (fun b8 => ?_) (fun b9 => ?_))
 .refine rs AA <| rl Z <| AF <| AN <| AG ?_
  cases b8
  exact er Z Le.rfl
 refine AE <| Ag <| AC <| rs AA <| rl Z <| AF ?_
 cases b9
 exact er Z Le.rfl
noncomputable def DK (a : (List Cw)) : Option (List Cw) :=
 MM a (some []) ((Bu ([] : List Cw) a).bind fun b => some b)
theorem MW (a : (List Cw)) (r : (List Cw)) (h : DK a = some r) : Ax Tryz.prog 103 [.slice 3 (a.map CA)] (· = .slice 3 (r.map CA)) := by
 refine fn AA Tryz.func103 Z Z 8 Z [.tmp 2] Z [(0, .p (.slice 3 (a.map CA)))] Z Z fun A hA => ?_
 unfold DK at h
 refine rs AA <| rl Z <| AB <| rs AA <| rn 1 Z <| sx Z (J9 h Z Z Z (fun d => ?_) (fun e => ?_))
 .refine rl Z <| RH Z <| rs AA <| rl Z <| AF <| AG ?_
  cases d
  exact er Z (Le.nil _)
 refine rl Z <| Si Z <| AE <| AC <| rs AA <| rn 2 Z <| bq e fun f b c => sx Z (BY (enc := CA) (l := ([] : List Cw)) (m := a) b (fun _ => ⟨Z, Z⟩) Z Z Z Z Z Z <| rl Z <| AF ?_)
 have hr := Option.some.inj c; subst hr
 exact er (Ip Z (.one (.own (enc := CA) f Z Z))) Le.rfl
noncomputable def DL (a : (List C5)) : Option (List C5) :=
 MM a (some []) ((Bu ([] : List C5) a).bind fun b => some b)
theorem MX (a : (List C5)) (r : (List C5)) (h : DL a = some r) : Ax Tryz.prog 104 [.slice 4 (a.map Cv)] (· = .slice 4 (r.map Cv)) := by
 refine fn AA Tryz.func104 Z Z 8 Z [.tmp 2] Z [(0, .p (.slice 4 (a.map Cv)))] Z Z fun A hA => ?_
 unfold DL at h
 refine rs AA <| rl Z <| AB <| rs AA <| rn 1 Z <| sx Z (J9 h Z Z Z (fun d => ?_) (fun e => ?_))
 .refine rl Z <| RH Z <| rs AA <| rl Z <| AF <| AG ?_
  cases d
  exact er Z (Le.nil _)
 refine rl Z <| Si Z <| AE <| AC <| rs AA <| rn 2 Z <| bq e fun f b c => sx Z (BY (enc := Cv) (l := ([] : List C5)) (m := a) b (fun _ => ⟨Z, Z⟩) Z Z Z Z Z Z <| rl Z <| AF ?_)
 have hr := Option.some.inj c; subst hr
 exact er (Ip Z (.one (.own (enc := Cv) f Z Z))) Le.rfl
noncomputable def Cy (a : (List Bv)) : Option (List Bv) :=
 MM a (some []) ((Bu ([] : List Bv) a).bind fun b => some b)
theorem LZ (a : (List Bv)) (r : (List Bv)) (h : Cy a = some r) : Ax Tryz.prog 105 [.slice 4 (a.map BT)] (· = .slice 4 (r.map BT)) := by
 refine fn AA Tryz.func105 Z Z 8 Z [.tmp 2] Z [(0, .p (.slice 4 (a.map BT)))] Z Z fun A hA => ?_
 unfold Cy at h
 refine rs AA <| rl Z <| AB <| rs AA <| rn 1 Z <| sx Z (J9 h Z Z Z (fun d => ?_) (fun e => ?_))
 .refine rl Z <| RH Z <| rs AA <| rl Z <| AF <| AG ?_
  cases d
  exact er Z (Le.nil _)
 refine rl Z <| Si Z <| AE <| AC <| rs AA <| rn 2 Z <| bq e fun f b c => sx Z (BY (enc := BT) (l := ([] : List Bv)) (m := a) b (fun _ => ⟨Z, Z⟩) Z Z Z Z Z Z <| rl Z <| AF ?_)
 have hr := Option.some.inj c; subst hr
 exact er (Ip Z (.one (.own (enc := BT) f Z Z))) Le.rfl
noncomputable def DM (a : (List CQ)) : Option (List CQ) :=
 MM a (some []) ((Bu ([] : List CQ) a).bind fun b => some b)
theorem Lm (a : (List CQ)) (r : (List CQ)) (h : DM a = some r) : Gu Tryz.prog 106 [.slice 2 (a.map Bg)] 147 2 (r.map Bg) := by
 refine fnN (enc := Bg) (fun _ => ⟨Z, Z⟩) Tryz.func106 Z Z 8 Z 2 Z [(0, .p (.slice 2 (a.map Bg)))] Z Z fun A hA => ?_
 unfold DM at h
 refine rs AA <| rl Z <| AB <| rs AA <| rn 1 Z <| sx Z (J9 h Z Z Z (fun d => ?_) (fun e => ?_))
 .refine rl Z <| RH Z <| rs AA <| rl Z <| AF <| AG ?_
  cases d
  exact AA0 Z
 refine rl Z <| Si Z <| AE <| AC <| rs AA <| rn 2 Z <| bq e fun f b c => sx Z (BY (enc := Bg) (l := ([] : List CQ)) (m := a) b (fun _ => ⟨Z, Z⟩) Z Z Z Z Z Z <| rl Z <| AF ?_)
 have hr := Option.some.inj c; subst hr
 exact erN Z Z Z
noncomputable def En (a : (List Int)) : Option (List Int) :=
 MM a (some []) ((Bu ([] : List Int) a).bind fun b => some b)
theorem PN (a : (List Int)) (r : (List Int)) (h : En a = some r) : Ax Tryz.prog 107 [.slice 1 (a.map AZ)] (· = .slice 1 (r.map AZ)) := by
 refine fn AA Tryz.func107 Z Z 8 Z [.tmp 2] Z [(0, .p (.slice 1 (a.map AZ)))] Z Z fun A hA => ?_
 unfold En at h
 refine rs AA <| rl Z <| AB <| rs AA <| rn 1 Z <| sx Z (J9 h Z Z Z (fun d => ?_) (fun e => ?_))
 .refine rl Z <| RH Z <| rs AA <| rl Z <| AF <| AG ?_
  cases d
  exact er Z (Le.nil _)
 refine rl Z <| Si Z <| AE <| AC <| rs AA <| rn 2 Z <| bq e fun f b c => sx Z (BY (enc := AZ) (l := ([] : List Int)) (m := a) b (fun _ => ⟨Z, Z⟩) Z Z Z Z Z Z <| rl Z <| AF ?_)
 have hr := Option.some.inj c; subst hr
 exact er (Ip Z (.one (.own (enc := AZ) f Z Z))) Le.rfl
end Go.E
/- Plain functions, and walks in step with them. Written by a program (gen.py). No condition. -/
set_option maxRecDepth 100000
set_option maxHeartbeats 1000000
namespace Go.E
open Go Go.RowKit Go.Proofs
noncomputable def GK (b : AK) (h : (List Cw)) (i : (List C5)) (c : (List Bv)) (g : (List CQ)) (a : Int × (List CQ)) : Option ((Int × (List CQ)) ⊕ AK) :=
 bif decide (a.1 < (g.length : Int)) then (AY a.2 a.1).bind fun d => (En d.elems).bind fun e => (AY a.2 a.1).bind fun f => some (.inl (AO (a.1 + 1), A5 a.2 a.1 (⟨f.name, e⟩ : CQ))) else some (.inr (⟨h, i, c, a.2, b.top, b.brake, b.margin, b.throw, b.hard⟩ : AK))
noncomputable def HY (a : AK) : Option AK :=
 (DK a.elems).bind fun d => (DL a.joins).bind fun e => (Cy a.signals).bind fun c => (DM a.lines).bind fun b => AQ (GK a d e c b) (0, b)
theorem Re (b : AK) (r : AK) (h : HY b = some r) : Ax Tryz.prog 75 [.agg (AU b)] (· = .agg (AU r)) := by
 refine fn AA Tryz.func75 Z Z 40 Z [.cell 2 27] Z [(0, .p (.agg (AU b)))] Z Z fun A hA => ?_
 unfold HY at h
 refine rs AA <| rl Z <| AB ?_
 refine Bz AA mixed [0, 1, 2, 3, 4, 5, 6, 7, 8, 9, 10, 11, 12, 13, 14] 15 (by kernel_rfl) Z Z Z ?_
 refine Au 2 Z <| bq h fun ad k x => As Z (A6 (MW _ _ k) (.inr Z) Z Z Z <| Au 2 Z <| bq x fun ae l m => As Z (A6 (MX _ _ l) (.inr Z) Z Z Z <| Au 2 Z <| bq m fun y g t => As Z (A6 (LZ _ _ g) (.inr Z) Z Z Z <| BJ Z <| AC <| rs AA <| rn 2 Z <| bq t fun ac j w => sx Z (AAO (Lm _ _ j) Z Z Z Z <| rl Z <| AB <| rs AA <| rl Z <| AH ?_))))
 apply lp (a := r) (fun c : (Int × (List CQ)) => ⟨40, [(1, .lpb 0 0), (2, .lpb 1 0), (22, li (ac.length : Int)), (23, li c.1)], [(0, .box [ls 3 CA ad, ls 4 Cv ae, ls 4 BT y, .lsl 2 2 0 c.2.length, li b.top, li b.brake, li b.margin, li b.throw, lb b.hard]), (1, .box [.p (.nils), .p (.nils), .p (.nils), .p (.nils), li 0, li 0, li 0, li 0, lb false]), (2, .row 147 2 (c.2.map Bg))], 3⟩) w
 . exact wf hA [(0, 0), (1, 1), (2, 17)] Z Z Z
 intro c ag f
 unfold GK at f
 refine rs AA <| rl Z <| AB <| cd Z f (fun n => ?_) (fun u => ?_)
 .refine AE <| AC <| AB <| AH <| rs AA <| rl Z ?_
  refine Bz AA mixed [0, 1, 2, 3, 4, 5, 6, 7, 8, 9, 10, 11, 12] 13 (by kernel_rfl) Z Z Z ?_
  exact Au 6 Z <| bq n fun ah d o => As Z (Aj Z (B2 d Z Z Z Z <| Au 1 Z <| As Z (Gy Z (C7 d Z Z Z <| bq o fun aa i q => As Z (A6 (PN _ _ i) (.inr Z) Z Z Z <| bq q fun ab e s => As Z (Aj Z (B2 e Z Z Z Z <| Au 1 Z <| As Z (Mu Z (Lw (z := (⟨ab.name, aa⟩ : CQ)) e Z Z Z Z Z Z Z Z <| BJ Z <| Ag <| AC <| rg AA <| rl Z <| Ar s (wk (gi 3 []) (free hA _) Z Z Z (.cons Z (.cons Z (.cons Z (.cons Z .nil)))) (.cons Z (by simp only [BF]; rfl) (.cons Z Z (.cons Z Z .nil)))))))))))))
 refine AV <| AX <| BI u fun af v => Ap <| AC <| rs AA <| rl Z <| AF ?_
 cases v
 exact er (Ip Z (.agg (.cons (.p _) (.cons (.p _) (.cons (.p _) (.cons (.own (enc := Bg) c.2 Z Z) (.cons (.p _) (.cons (.p _) (.cons (.p _) (.cons (.p _) (.cons (.p _) .nil))))))))))) Le.rfl
noncomputable def DX (e : (Int × (List (AI × AI)))) (c : (Int × (List (Int × Bk)) × (List (Int × Int)))) (d : CQ) (a : Int × Int × (List (Int × Bk)) × (List (Int × Int))) : Option ((Int × Int × (List (Int × Bk)) × (List (Int × Int))) ⊕ ((Int × (List (Int × Bk)) × (List (Int × Int))) ⊕ ((Option Ay) × Int))) :=
 bif decide (a.2.1 < (d.elems.length : Int)) then (AY d.elems a.2.1).bind fun b => some (.inl (((Ak e.2 (⟨b, AO (1 - a.1)⟩ : AI)).getD (⟨0, 0⟩ : AI)).fin, AO (a.2.1 + 1), A0 b (⟨c.1, a.2.1⟩ : Bk) a.2.2.1, A0 b a.1 a.2.2.2)) else some (.inr (.inl (AO (c.1 + 1), a.2.2.1, a.2.2.2)))
noncomputable def Cd (d : AK) (j : AK) (b : (Int × (List (AI × AI)))) (f : (Int × (List (AI × Int)))) (a : Int × (List (Int × Bk)) × (List (Int × Int))) : Option ((Int × (List (Int × Bk)) × (List (Int × Int))) ⊕ ((Option Ay) × Int)) :=
 bif decide (a.1 < (d.lines.length : Int)) then (AY d.lines a.1).bind fun c => ((bif decide (1 < (c.elems.length : Int)) then (AY c.elems 0).bind fun e => ((bif (Ak b.2 (⟨e, 0⟩ : AI)).isSome then (AY c.elems 1).bind fun i => some ((((Ak b.2 (⟨e, 0⟩ : AI)).getD (⟨0, 0⟩ : AI)).elem) == i) else some false : Option (Bool))).bind fun (h : Bool) => bif h then some 1 else some 0 else some 0 : Option (Int))).bind fun (g : Int) => AQ (DX b a c) (g, 0, a.2.1, a.2.2) else some (.inr (some (⟨j, b.2, f.2, a.2.1, a.2.2⟩ : Ay), 0))
noncomputable def DY (b : AK) (d : AK) (c : (Int × (List (AI × AI)))) (a : Int × (List (AI × Int))) : Option ((Int × (List (AI × Int))) ⊕ ((Option Ay) × Int)) :=
 bif decide (a.1 < (b.signals.length : Int)) then (AY b.signals a.1).bind fun e => some (.inl (AO (a.1 + 1), A0 e.at_ a.1 a.2)) else (AQ (Cd b d c a) (0, [], [])).map .inr
noncomputable def DZ (e : AK) (f : AK) (c : Int × (List (AI × AI))) : Option ((Int × (List (AI × AI))) ⊕ ((Option Ay) × Int)) :=
 bif decide (c.1 < (e.joins.length : Int)) then (AY e.joins c.1).bind fun d => some (.inl (AO (c.1 + 1), A0 d.b d.a (A0 d.a d.b c.2))) else (AQ (DY e f c) (0, [])).map .inr
noncomputable def Cl (a : AK) : Option ((Option Ay) × Int) :=
 (HA a).bind fun b => bif (b != 0) then some (none, b) else (HY a).bind fun c => AQ (DZ a c) (0, [])
theorem PK (d : AK) (r : ((Option Ay) × Int)) (h : Cl d = some r) : Ax Tryz.prog 56 [.agg (AU d)] (· = .tup [XG Aq r.1, .int .i64 r.2]) := by
 refine fn AA Tryz.func56 Z Z 148 Z [.tmp 2, .tmp 3] Z [(0, .p (.agg (AU d)))] Z Z fun A hA => ?_
 unfold Cl at h
 refine rs AA <| rl Z <| AB <| rs AA <| rn 1 Z <| bq h fun br ah aj => sx Z (AM (UZ _ _ ah) (.inl Z) Z Z Z <| rl Z <| rs AA <| rl Z <| cd Z aj (fun al => ?_) (fun ay => ?_))
 .refine rs AA <| rl Z <| AF <| AG ?_
  cases al
  exact er Z Le.rfl
 refine AE <| AC <| rs AA <| rn 1 Z <| bq ay fun c af a8 => sx Z (AM (Re _ _ af) (.inr Z) Z Z Z <| rl Z <| AB <| rs AA <| rn 2 Z <| sx Z (Ad Z Z <| rl Z <| AH ?_))
 apply lp (a := r) (fun f : (Int × (List (AI × AI))) => ⟨148, [(1, .lpb 0 0), (5, .lpb 1 0), (31, ls 4 Cv d.joins), (32, li (d.joins.length : Int)), (33, li f.1)], [(0, bx (AU d)), (1, .box [ls 3 CA c.elems, ls 4 Cv c.joins, ls 4 BT c.signals, ls 2 Bg c.lines, li c.top, li c.brake, li c.margin, li c.throw, lb c.hard, .lmap 2, .lmap 3, .lmap 4, .lmap 5]), (2, .map (An (fun x => .agg (AT x)) (fun x => .agg (AT x)) f.2)), (3, .map (An (fun x => .agg (AT x)) (.int .i64) [])), (4, .map (An (.int .i64) (fun x => .agg (E4 x)) [])), (5, .map (An (.int .i64) (.int .i64) []))], 6⟩) a8
 . exact wf hA [(0, 0), (1, 5), (2, 1), (3, 2), (4, 3), (5, 4)] Z Z Z
 intro f bo t
 unfold DZ at t
 refine rs AA <| rl Z <| AB <| cd Z t (fun be => ?_) (fun bg => ?_)
 .refine AE <| AC <| AB <| AH <| rs AA <| bq be fun i ai bf => sx Z (Af ai Z Z Z <| rl Z ?_)
  refine Bz AA mixed [0, 1, 2, 3, 4, 5, 6, 7, 8, 9, 10, 11, 12, 13, 14, 15, 16, 17, 18, 19, 20, 21] 22 (by kernel_rfl) Z Z Z ?_
  exact Au 16 Z <| As Z (Aj Z (RQ (et := 40) (ke := (fun x => .agg (AT x))) (ve := (fun x => .agg (AT x))) (mp := f.2) (y := i.a) (⟨0, 0⟩ : AI) CJ Z Z Z Z Z Z <| Au 1 Z <| As Z (Aj Z (RR (ke := (fun x => .agg (AT x))) (ve := (fun x => .agg (AT x))) (mp := f.2) (y := i.a) (z := (⟨0, 0⟩ : AI)) (w := i.b) Z Z Z Z Z <| As Z (Aj Z (RQ (et := 40) (ke := (fun x => .agg (AT x))) (ve := (fun x => .agg (AT x))) (mp := A0 i.a i.b f.2) (y := i.b) (⟨0, 0⟩ : AI) CJ Z Z Z Z Z Z <| Au 1 Z <| As Z (Aj Z (RR (ke := (fun x => .agg (AT x))) (ve := (fun x => .agg (AT x))) (mp := A0 i.a i.b f.2) (y := i.b) (z := (⟨0, 0⟩ : AI)) (w := i.a) Z Z Z Z Z <| BJ Z <| Ag <| AC <| rg AA <| rl Z <| Ar bf (wf hA (gi 6 []) Z Z Z)))))))))
 refine AV <| AX <| CP bg fun v bh => Ap <| AC <| AB <| rs AA <| rn 2 Z <| sx Z (Ad Z Z <| rl Z <| AH ?_)
 apply lp (a := v) (fun j : (Int × (List (AI × Int))) => ⟨148, [(1, .lpb 0 0), (5, .lpb 1 0), (59, ls 4 BT d.signals), (60, li (d.signals.length : Int)), (61, li j.1)], [(0, bx (AU d)), (1, .box [ls 3 CA c.elems, ls 4 Cv c.joins, ls 4 BT c.signals, ls 2 Bg c.lines, li c.top, li c.brake, li c.margin, li c.throw, lb c.hard, .lmap 2, .lmap 3, .lmap 4, .lmap 5]), (2, .map (An (fun x => .agg (AT x)) (fun x => .agg (AT x)) f.2)), (3, .map (An (fun x => .agg (AT x)) (.int .i64) j.2)), (4, .map (An (.int .i64) (fun x => .agg (E4 x)) [])), (5, .map (An (.int .i64) (.int .i64) []))], 6⟩) bh
 . exact wf hA (gi 6 []) Z Z Z
 intro j bn s
 unfold DY at s
 refine rs AA <| rl Z <| AB <| cd Z s (fun a9 => ?_) (fun bb => ?_)
 .refine AE <| AC <| AB <| AH <| rs AA <| rn 1 Z <| bq a9 fun bj ag ba => sx Z (Af ag Z Z Z <| rl Z ?_)
  refine Bz AA mixed [0, 1, 2, 3, 4, 5, 6, 7] 8 (by kernel_rfl) Z Z Z ?_
  exact Au 7 Z <| As Z (Aj Z (Gi (et := 3) (ke := (fun x => .agg (AT x))) (ve := (.int .i64)) (mp := j.2) (y := bj.at_) (z := j.1) CJ Z Z Z Z Z Z <| BJ Z <| Ag <| AC <| rg AA <| rl Z <| Ar ba (wf hA (gi 6 []) Z Z Z)))
 refine AV <| AX <| CP bb fun u bc => Ap <| AC <| AB <| rs AA <| rn 2 Z <| sx Z (Ad Z Z <| rl Z <| AH ?_)
 apply lp (a := u) (fun e : (Int × (List (Int × Bk)) × (List (Int × Int))) => ⟨148, [(5, .lpb 0 0), (75, ls 2 Bg d.lines), (76, li (d.lines.length : Int)), (77, li e.1)], [(0, .box [ls 3 CA c.elems, ls 4 Cv c.joins, ls 4 BT c.signals, ls 2 Bg c.lines, li c.top, li c.brake, li c.margin, li c.throw, lb c.hard, .lmap 1, .lmap 2, .lmap 3, .lmap 4]), (1, .map (An (fun x => .agg (AT x)) (fun x => .agg (AT x)) f.2)), (2, .map (An (fun x => .agg (AT x)) (.int .i64) j.2)), (3, .map (An (.int .i64) (fun x => .agg (E4 x)) e.2.1)), (4, .map (An (.int .i64) (.int .i64) e.2.2))], 5⟩) bc
 . exact wf hA [(0, 1), (1, 2), (2, 3), (3, 4), (4, 5)] Z Z Z
 intro e aa o
 unfold Cd at o
 refine rs AA <| rl Z <| AB <| cd Z o (fun ak => ?_) (fun a6 => ?_)
 .refine AE <| AC <| AB <| AH <| rs AA <| rn 1 Z <| bq ak fun k ab am => sx Z (Af ab Z Z Z <| rl Z <| rs AA <| rl Z <| jb (fun m : Int => ⟨148, [(5, .lpb 0 0), (10, li e.1), (11, .lpb 1 0), (12, li m), (75, ls 2 Bg d.lines), (76, li (d.lines.length : Int)), (77, li e.1)], [(0, .box [ls 3 CA c.elems, ls 4 Cv c.joins, ls 4 BT c.signals, ls 2 Bg c.lines, li c.top, li c.brake, li c.margin, li c.throw, lb c.hard, .lmap 2, .lmap 3, .lmap 4, .lmap 5]), (1, .box [.p (.str k.name), ls 1 AZ k.elems]), (2, .map (An (fun x => .agg (AT x)) (fun x => .agg (AT x)) f.2)), (3, .map (An (fun x => .agg (AT x)) (.int .i64) j.2)), (4, .map (An (.int .i64) (fun x => .agg (E4 x)) e.2.1)), (5, .map (An (.int .i64) (.int .i64) e.2.2))], 6⟩) am (fun m an => ?_) (fun m a1 => ?_))
  .refine rs AA <| rn 2 Z <| sx Z (Ad Z Z <| rl Z <| cd Z an (fun ao => ?_) (fun a0 => ?_))
   .refine AB ?_
    refine Bz AA mixed [0, 1, 2, 3, 4, 5, 6, 7, 8, 9, 10, 11, 12, 13, 14, 15] 16 (by kernel_rfl) Z Z Z ?_
    refine Au 6 Z <| bq ao fun bi ac ap => As Z (Aj Z (Af ac Z Z Z <| Au 2 Z <| As Z (Aj Z (Jk (et := 40) (ke := (fun x => .agg (AT x))) (ve := (fun x => .agg (AT x))) (mp := f.2) (y := (⟨bi, 0⟩ : AI)) (⟨0, 0⟩ : AI) CJ Z Z Z Z <| BJ Z <| AC <| jb (fun n : Bool => ⟨148, [(5, .lpb 0 0), (10, li e.1), (11, .lpb 1 0), (12, li 0), (75, ls 2 Bg d.lines), (76, li (d.lines.length : Int)), (77, li e.1), (108, lb n)], [(0, .box [ls 3 CA c.elems, ls 4 Cv c.joins, ls 4 BT c.signals, ls 2 Bg c.lines, li c.top, li c.brake, li c.margin, li c.throw, lb c.hard, .lmap 2, .lmap 3, .lmap 4, .lmap 5]), (1, .box [.p (.str k.name), ls 1 AZ k.elems]), (2, .map (An (fun x => .agg (AT x)) (fun x => .agg (AT x)) f.2)), (3, .map (An (fun x => .agg (AT x)) (.int .i64) j.2)), (4, .map (An (.int .i64) (fun x => .agg (E4 x)) e.2.1)), (5, .map (An (.int .i64) (.int .i64) e.2.2))], 6⟩) ap (fun n aq => ?_) (fun n aw => ?_)))))
    .refine Bz AA mixed [0, 1, 2, 3, 4, 5, 6, 7, 8, 9] 10 (by kernel_rfl) Z Z Z ?_
     refine Au 2 Z <| ES 100 aq Z Z Z (fun ar => ?_) (fun av => ?_)
     .exact Au 4 Z <| bq ar fun bp ad au => As Z (Aj Z (Af ad Z Z Z <| BJ Z <| AL au (wf hA [(0, 0), (1, 5), (2, 1), (3, 2), (4, 3), (5, 4)] Z Z Z)))
     exact BJ Z <| AL av (wf hA [(0, 0), (1, 5), (2, 1), (3, 2), (4, 3), (5, 4)] Z Z Z)
    refine cd Z aw (fun ax => ?_) (fun az => ?_)
    .exact rg AA <| rl Z <| AL ax (wf hA (gi 6 []) Z Z Z)
    exact AE <| AL az (wf hA (gi 6 []) Z Z Z)
   exact AE <| AL a0 (wf hA [(0, 0), (1, 5), (2, 1), (3, 2), (4, 3), (5, 4)] Z Z Z)
  refine rs AA <| rn 2 Z <| sx Z (Ad Z Z <| rl Z <| AH ?_)
  apply lp (a := aa) (fun g : (Int × Int × (List (Int × Bk)) × (List (Int × Int))) => ⟨148, [(5, .lpb 0 0), (10, li e.1), (12, li g.1), (75, ls 2 Bg d.lines), (76, li (d.lines.length : Int)), (77, li e.1), (110, ls 1 AZ k.elems), (111, li (k.elems.length : Int)), (112, li g.2.1)], [(0, .box [ls 3 CA c.elems, ls 4 Cv c.joins, ls 4 BT c.signals, ls 2 Bg c.lines, li c.top, li c.brake, li c.margin, li c.throw, lb c.hard, .lmap 1, .lmap 2, .lmap 3, .lmap 4]), (1, .map (An (fun x => .agg (AT x)) (fun x => .agg (AT x)) f.2)), (2, .map (An (fun x => .agg (AT x)) (.int .i64) j.2)), (3, .map (An (.int .i64) (fun x => .agg (E4 x)) g.2.2.1)), (4, .map (An (.int .i64) (.int .i64) g.2.2.2))], 5⟩) a1
  . exact wf hA [(0, 0), (1, 2), (2, 3), (3, 4), (4, 5)] Z Z Z
  intro g bm q
  unfold DX at q
  refine rs AA <| rl Z <| AB <| cd Z q (fun a2 => ?_) (fun a4 => ?_)
  .refine AE <| AC <| AB <| AH <| rs AA <| rn 1 Z <| bq a2 fun l ae a3 => sx Z (Af ae Z Z Z <| rl Z <| AB ?_)
   refine Bz AA mixed [0, 1, 2, 3, 4, 5, 6, 7, 8, 9, 10, 11, 12, 13, 14, 15, 16, 17, 18, 19] 20 (by kernel_rfl) Z Z Z ?_
   exact Au 14 Z <| As Z (Aj Z (RQ (et := 161) (ke := (.int .i64)) (ve := (fun x => .agg (E4 x))) (mp := g.2.2.1) (y := l) (⟨0, 0⟩ : Bk) GF Z Z Z Z Z Z <| Au 1 Z <| As Z (Aj Z (RR (ke := (.int .i64)) (ve := (fun x => .agg (E4 x))) (mp := g.2.2.1) (y := l) (z := (⟨0, 0⟩ : Bk)) (w := (⟨e.1, g.2.1⟩ : Bk)) Z Z Z Z Z <| As Z (Aj Z (RQ (et := 3) (ke := (.int .i64)) (ve := (.int .i64)) (mp := g.2.2.2) (y := l) 0 GF Z Z Z Z Z Z <| Au 1 Z <| As Z (Aj Z (RR (ke := (.int .i64)) (ve := (.int .i64)) (mp := g.2.2.2) (y := l) (z := 0) (w := g.1) Z Z Z Z Z <| BJ Z <| AC <| rg AA <| rn 8 Z <| sx Z (Ko (et := 40) (ke := (fun x => .agg (AT x))) (ve := (fun x => .agg (AT x))) (mp := f.2) (y := (⟨l, AO (1 - g.1)⟩ : AI)) (⟨0, 0⟩ : AI) CJ Z Z Z Z <| rl Z <| Ag <| AC <| rg AA <| rl Z <| Ar a3 (wf hA (gi 5 []) Z Z Z))))))))))
  exact AV <| AX <| BI a4 fun bk a5 => Ap <| Ag <| AC <| rg AA <| rl Z <| Ar a5 (wf hA (gi 5 []) Z Z Z)
 refine AV <| AX <| BI a6 fun bl a7 => Ap <| AC <| rs AA <| rl Z <| AF ?_
 cases a7
 exact er (UL Z (.cons (.box Z (.cons (.p _) (.cons (.p _) (.cons (.p _) (.cons (.p _) (.cons (.p _) (.cons (.p _) (.cons (.p _) (.cons (.p _) (.cons (.p _) (.cons (.map Z) (.cons (.map Z) (.cons (.map Z) (.cons (.map Z) .nil)))))))))))))) (.cons (.one (.p _)) .nil))) Le.rfl
noncomputable def Dp (a : Ay) : Option Int :=
 some (a.p.signals.length : Int)
theorem QB (a : Ay) (r : Int) (h : Dp a = some r) : Ax Tryz.prog 111 [.place (Aq a) 0] (· = .int .i64 r) := by
 refine fn AA Tryz.func111 Z Z 9 Z [.tmp 2] Z [(0, .p (.place (Aq a) 0))] Z Z fun A hA => ?_
 unfold Dp at h
 refine rs AA <| rl Z <| rs AA <| rn 5 Z <| sx Z (Ad Z Z <| rl Z <| AF ?_)
 cases h
 exact er Z Le.rfl
noncomputable def Cb (b : Ay) (a : Int) : Option (AI × Bool) :=
 ((bif decide (a < 0) then some true else some (decide ((b.p.signals.length : Int) <= a)) : Option (Bool))).bind fun (c : Bool) => bif c then some ((⟨0, 0⟩ : AI), false) else (AY b.p.signals a).bind fun d => some (d.at_, true)
theorem G3 (a : Ay) (b : Int) (r : (AI × Bool)) (h : Cb a b = some r) : Ax Tryz.prog 37 [.place (Aq a) 0, .int .i64 b] (· = .tup [.agg (AT r.1), .bool r.2]) := by
 refine fn AA Tryz.func37 Z Z 28 Z [.cell 4 40, .tmp 5] Z [(0, .p (.place (Aq a) 0)), (1, .p (.int .i64 b))] Z Z fun A hA => ?_
 unfold Cb at h
 refine rs AA <| rl Z <| AB <| jb (fun c : Bool => ⟨28, [(0, lq (Aq a)), (1, li b), (4, .lpb 0 0), (17, lb c)], [(0, .box [li 0, li 0])], 1⟩) h (fun c e => ?_) (fun c i => ?_)
 .refine rg AA <| rn 3 Z <| gs 8 e Z Z Z (fun f => ?_) (fun g => ?_)
  .exact rl Z <| AL f (wf hA [(0, 0)] Z Z Z)
  exact rn 6 Z <| sx Z (Ad Z Z <| rl Z <| AL g (wf hA [(0, 0)] Z Z Z))
 refine cd Z i (fun j => ?_) (fun k => ?_)
 .refine rs AA <| rl Z <| AF <| AG ?_
  cases j
  exact er Z Le.rfl
 refine AE <| AC <| rs AA <| rn 6 Z <| bq k fun m d l => sx Z (Af d Z Z Z <| rl Z <| AF ?_)
 cases l
 exact er Z Le.rfl
noncomputable def Bd (a : Ay) (b : AI) : Option (AI × Bool) :=
 some (((Ak a.next b).getD (⟨0, 0⟩ : AI)), (Ak a.next b).isSome)
theorem CG (a : Ay) (b : AI) (r : (AI × Bool)) (h : Bd a b = some r) : Ax Tryz.prog 72 [.place (Aq a) 0, .agg (AT b)] (· = .tup [.agg (AT r.1), .bool r.2]) := by
 refine fn AA Tryz.func72 Z Z 19 Z [.cell 4 40, .tmp 5] Z [(0, .p (.place (Aq a) 0)), (1, .p (.agg (AT b)))] Z Z fun A hA => ?_
 unfold Bd at h
 refine rs AA <| rl Z <| AB ?_
 refine Bz AA mixed [0, 1, 2, 3, 4, 5, 6, 7, 8, 9, 10, 11] 12 (by kernel_rfl) Z Z Z ?_
 refine Au 5 Z <| As Z (Aj Z (Jk (et := 40) (ke := (fun x => .agg (AT x))) (ve := (fun x => .agg (AT x))) (mp := a.next) (y := b) (⟨0, 0⟩ : AI) CJ Z Z Z Z <| BJ Z <| AC <| rs AA <| rl Z <| AF ?_))
 cases h
 exact er Z Le.rfl
noncomputable def Dq (a : Ab) (b : Int) : Option Bool :=
 some (a.elem == b)
theorem QC (a : Ab) (b : Int) (r : Bool) (h : Dq a b = some r) : Ax Tryz.prog 165 [.agg (Aw a), .place (AZ b) 0] (· = .bool r) := by
 refine fn AA Tryz.func165 Z Z 8 Z [.tmp 3] Z [(0, .p (.agg (Aw a))), (1, .p (.place (AZ b) 0))] Z Z fun A hA => ?_
 unfold Dq at h
 refine rs AA <| rl Z <| rs AA <| rl Z <| AF ?_
 cases h
 exact er Z Le.rfl
noncomputable def BP (b : (List Ab)) (x1_0 : Int) (a : Int) : Option (Int ⊕ Int) :=
 bif decide (a < (b.length : Int)) then (AY b a).bind fun c => (Dq c x1_0).bind fun d => bif d then some (.inr a) else some (.inl (AO (a + 1))) else some (.inr (-1))
noncomputable def Bo (b : (List Ab)) (x1_0 : Int) : Option Bool :=
 ((AQ (BP b x1_0) 0 : Option (Int))).bind fun (a : Int) => some (decide (0 <= a))
theorem Hn (b : (List Ab)) (x1_0 : Int) (r : Bool) (h : Bo b x1_0 = some r) : Ax Tryz.prog 150 [.slice 3 (b.map Aw), .fn 165 [.place (AZ x1_0) 0]] (· = .bool r) := by
 refine fn AA Tryz.func150 Z Z 9 Z [.tmp 4] Z [(0, .p (.slice 3 (b.map Aw))), (1, .p (.fn 165 [.place (AZ x1_0) 0]))] Z Z fun A hA => ?_
 unfold Bo at h
 refine Nn (ZT 1 Z) <| rs AA <| rl Z <| rs AA <| rn 2 Z <| sx Z (CT AA (fun c : Int => li c) (fun c : Int => []) 0 h Tryz.func167 19 [.tmp 4] [(0, ls 3 Aw b), (1, .fn 165 [lq (AZ x1_0)])] Z Z Z Z Z Z Z Z (fun A hA c i => ?_) (fun c t => ?_))
 .refine rs AA <| rl Z <| AB <| rs AA <| rn 1 Z <| sx Z (Ad Z Z <| rl Z <| AH ?_)
  apply lp (a := c) (fun d : Int => ⟨19, [(0, ls 3 Aw b), (1, .fn 165 [lq (AZ x1_0)]), (7, li (b.length : Int)), (8, li d)], [], 0⟩) i
  . exact wj hA [] Z Z Z Z
  intro d w e
  unfold BP at e
  refine rs AA <| rl Z <| AB <| cd Z e (fun j => ?_) (fun q => ?_)
  .refine AE <| AC <| AB <| AH <| rs AA <| rl Z <| rs AA <| rn 3 Z <| bq j fun x f k => sx Z (Af f Z Z Z <| rn 1 Z <| bq k fun y g l => sx Z (AM (QC _ _ _ g) (.inl Z) Z Z Z <| rl Z <| cd Z l (fun m => ?_) (fun o => ?_)))
   .refine rs AA <| rl Z <| AF <| AN <| AG <| A2 m fun u n => AN <| AG ?_
    have hr := Option.some.inj n; subst hr
    exact CW (nt := 19) (sl := [(4, li d)]) (wj hA [] Z Z Z Z) Z
   exact AE <| Ag <| AC <| rg AA <| rl Z <| Ar o (wj hA [] Z Z Z Z)
  refine AV <| AX <| BI q fun v s => Ap <| AC <| rs AA <| rl Z <| AF ?_
  cases s
  exact CW (nt := 19) (sl := [(4, li (-1))]) (wj hA [] Z Z Z Z) Z
 refine rl Z <| AF ?_
 cases t
 exact er Z Le.rfl
noncomputable def Eo (a : N8) (b : Int) : Option Bool :=
 ((bif decide ((a.steps.length : Int) < 12) then bif (b != a.berth) then (Bo a.steps b).bind fun d => some (!d) else some false else some false : Option (Bool))).bind fun (c : Bool) => some c
theorem Rf (b : N8) (c : Int) (r : Bool) (h : Eo b c = some r) : Ax Tryz.prog 146 [.place (Sv b) 0, .int .i64 c] (· = .bool r) := by
 refine fn AA Tryz.func146 Z Z 28 Z [.tmp 4] Z [(0, .p (.place (Sv b) 0)), (1, .p (.int .i64 c))] Z Z fun A hA => ?_
 unfold Eo at h
 refine rs AA <| rl Z <| jb (fun a : Bool => ⟨28, [(4, lb a)], [], 0⟩) h (fun a k => ?_) (fun a j => ?_)
 .refine Bz AA mixed [0, 1, 2, 3, 4, 5, 6, 7, 8, 9, 10, 11, 12, 13, 14, 15, 16, 17, 18, 19, 20, 21, 22, 23] 24 (by kernel_rfl) Z Z Z ?_
  refine Au 4 Z <| As Z (F9 Z Z <| Au 2 Z <| ES 11 k Z Z Z (fun l => ?_) (fun i => ?_))
  .refine Au 8 Z <| ES 19 l Z Z Z (fun e => ?_) (fun g => ?_)
   .exact Au 5 Z <| bq e fun m d f => As Z (A6 (Hn _ _ _ d) (.inl Z) Z Z (Dc.eq (.cons (.one (.p _)) (.cons (.fn (.box Z (.cons (.p _) .nil) .nil)) .nil))) <| BJ Z <| AL f (wf hA [] Z Z Z))
   exact BJ Z <| AL g (wf hA [] Z Z Z)
  exact BJ Z <| AL i (wf hA [] Z Z Z)
 refine AF ?_
 have hr := Option.some.inj j; subst hr
 exact er Z Le.rfl
noncomputable def EA (b : Ay) (a : Int) : Option Cw :=
 ((bif decide (a < 0) then some true else some (decide ((b.p.elems.length : Int) <= a)) : Option (Bool))).bind fun (c : Bool) => bif c then some (⟨ByteArray.empty, 0, 0⟩ : Cw) else (AY b.p.elems a).bind fun d => some d
theorem NE (a : Ay) (b : Int) (r : Cw) (h : EA a b = some r) : Ax Tryz.prog 69 [.place (Aq a) 0, .int .i64 b] (· = .agg (CA r)) := by
 refine fn AA Tryz.func69 Z Z 26 Z [.cell 4 123] Z [(0, .p (.place (Aq a) 0)), (1, .p (.int .i64 b))] Z Z fun A hA => ?_
 unfold EA at h
 refine rs AA <| rl Z <| AB <| jb (fun c : Bool => ⟨26, [(0, lq (Aq a)), (1, li b), (4, .lpb 0 0), (16, lb c)], [(0, .box [.p (.str ByteArray.empty), li 0, li 0])], 1⟩) h (fun c e => ?_) (fun c i => ?_)
 .refine rg AA <| rn 3 Z <| gs 7 e Z Z Z (fun f => ?_) (fun g => ?_)
  .exact rl Z <| AL f (wf hA [(0, 0)] Z Z Z)
  exact rn 6 Z <| sx Z (Ad Z Z <| rl Z <| AL g (wf hA [(0, 0)] Z Z Z))
 refine cd Z i (fun j => ?_) (fun k => ?_)
 .refine rs AA <| rl Z <| AF <| AG ?_
  cases j
  exact er Z Le.rfl
 refine AE <| AC <| rs AA <| rn 6 Z <| bq k fun m d l => sx Z (Af d Z Z Z <| rl Z <| AF ?_)
 have hr := Option.some.inj l; subst hr
 exact er Z Le.rfl
noncomputable def BS (a : Ay) (b : Int) : Option Int :=
 (EA a b).bind fun c => some c.kind
theorem Bs (a : Ay) (b : Int) (r : Int) (h : BS a b = some r) : Ax Tryz.prog 38 [.place (Aq a) 0, .int .i64 b] (· = .int .i64 r) := by
 refine fn AA Tryz.func38 Z Z 9 Z [.tmp 4] Z [(0, .p (.place (Aq a) 0)), (1, .p (.int .i64 b))] Z Z fun A hA => ?_
 unfold BS at h
 refine rs AA <| rl Z <| rs AA <| rn 2 Z <| bq h fun e c d => sx Z (AM (NE _ _ _ c) (.inl Z) Z Z Z <| rl Z <| AF ?_)
 cases d
 exact er Z Le.rfl
noncomputable def EB (c : Ay) (d : Int) (a : Int) : Option (List Bi) :=
 ((bif decide (a < 0) then some true else (BS c d).bind fun f => (E3 f).bind fun g => some (decide (g <= a)) : Option (Bool))).bind fun (e : Bool) => bif e then some [] else (BS c d).bind fun b => bif (b == 1) then some [(⟨AO (1 - a), 0⟩ : Bi)] else bif (b == 3) then (AY ([1, 0, 3, 2] : List Int) a).bind fun h => some [(⟨h, 0⟩ : Bi)] else bif (b == 2) then bif (a == 0) then some [(⟨1, 1⟩ : Bi), (⟨2, 2⟩ : Bi)] else (AY ([0, 1, 2] : List Int) a).bind fun i => some [(⟨0, i⟩ : Bi)] else some []
theorem NF (b : Ay) (c : Int) (a : Int) (r : (List Bi)) (h : EB b c a = some r) : Ax Tryz.prog 166 [.place (Aq b) 0, .int .i64 c, .int .i64 a] (· = .slice 2 (r.map Dm)) := by
 refine fn AA Tryz.func166 Z Z 47 Z [.tmp 6] Z [(0, .p (.place (Aq b) 0)), (1, .p (.int .i64 c)), (2, .p (.int .i64 a))] Z Z fun A hA => ?_
 unfold EB at h
 refine rs AA <| rl Z <| AB <| jb (fun d : Bool => ⟨47, [(0, lq (Aq b)), (1, li c), (2, li a), (17, lb d)], [], 0⟩) h (fun d m => ?_) (fun d t => ?_)
 .refine rg AA <| rn 3 Z <| gs 10 m Z Z Z (fun n => ?_) (fun o => ?_)
  .exact rl Z <| AL n (wf hA [] Z Z Z)
  exact rn 3 Z <| bq o fun ak f q => sx Z (AM (Bs _ _ _ f) (.inl Z) Z Z Z <| bq q fun al i s => sx Z (AM (Jo _ _ i) (.inl Z) Z Z Z <| rl Z <| AL s (wf hA [] Z Z Z)))
 refine cd Z t (fun u => ?_) (fun v => ?_)
 .refine rs AA <| rl Z <| AF <| AG ?_
  cases u
  exact er Z (Le.nil _)
 refine AE <| AC <| AB <| rs AA <| rn 2 Z <| bq v fun am j w => sx Z (AM (Bs _ _ _ j) (.inl Z) Z Z Z <| rl Z <| AH <| rs AA <| rl Z <| cd Z w (fun x => ?_) (fun z => ?_))
 .refine rs AA <| rl Z <| AF <| AN <| AG ?_
  cases x
  exact er (Ip Z (.one (.own (enc := Dm) ([(⟨AO (1 - a), 0⟩ : Bi)] : List Bi) Z Z))) Le.rfl
 refine rs AA <| rl Z <| cd Z z (fun aa => ?_) (fun ac => ?_)
 .refine rs AA <| rl Z <| rs AA <| rn 1 Z <| bq aa fun ai e ab => sx Z (W5 (l := ([1, 0, 3, 2] : List Int)) e Z Z Z Z <| sx Z (W7 (g := fun y => .p (.int .i64 y)) e Z Z Z Z <| rl Z <| AF <| AN <| AG ?_))
  cases ab
  exact er (Ip Z (.one (.own (enc := Dm) ([(⟨ai, 0⟩ : Bi)] : List Bi) Z Z))) Le.rfl
 refine rs AA <| rl Z <| cd Z ac (fun ad => ?_) (fun ah => ?_)
 .refine AB <| rs AA <| rl Z <| cd Z ad (fun ae => ?_) (fun af => ?_)
  .refine rs AA <| rl Z <| AF <| AG <| AN <| AG ?_
   cases ae
   exact er (Ip Z (.one (.own (enc := Dm) ([(⟨1, 1⟩ : Bi), (⟨2, 2⟩ : Bi)] : List Bi) Z Z))) Le.rfl
  refine AE <| AC <| rs AA <| rn 2 Z <| bq af fun aj k ag => sx Z (ABs (l := ([0, 1, 2] : List Int)) (g := fun y => .int .i64 y) k Z Z Z Z <| rl Z <| AF <| AN <| AG ?_)
  cases ag
  exact er (Ip Z (.one (.own (enc := Dm) ([(⟨0, aj⟩ : Bi)] : List Bi) Z Z))) Le.rfl
 refine AE <| Ag <| AC <| rs AA <| rl Z <| AF ?_
 cases ah
 exact er Z (Le.nil _)
noncomputable def BU (a : (List Ab)) : Option (List Ab) :=
 MM a (some []) ((Bu ([] : List Ab) a).bind fun b => some b)
theorem MY (a : (List Ab)) (r : (List Ab)) (h : BU a = some r) : Ax Tryz.prog 113 [.slice 3 (a.map Aw)] (· = .slice 3 (r.map Aw)) := by
 refine fn AA Tryz.func113 Z Z 8 Z [.tmp 2] Z [(0, .p (.slice 3 (a.map Aw)))] Z Z fun A hA => ?_
 unfold BU at h
 refine rs AA <| rl Z <| AB <| rs AA <| rn 1 Z <| sx Z (J9 h Z Z Z (fun d => ?_) (fun e => ?_))
 .refine rl Z <| RH Z <| rs AA <| rl Z <| AF <| AG ?_
  cases d
  exact er Z (Le.nil _)
 refine rl Z <| Si Z <| AE <| AC <| rs AA <| rn 2 Z <| bq e fun f b c => sx Z (BY (enc := Aw) (l := ([] : List Ab)) (m := a) b (fun _ => ⟨Z, Z⟩) Z Z Z Z Z Z <| rl Z <| AF ?_)
 have hr := Option.some.inj c; subst hr
 exact er (Ip Z (.one (.own (enc := Aw) f Z Z))) Le.rfl
theorem EW (a : (List Ab)) (r : (List Ab)) (h : BU a = some r) : Gu Tryz.prog 113 [.slice 3 (a.map Aw)] 76 3 (r.map Aw) := by
 refine fnN (enc := Aw) (fun _ => ⟨Z, Z⟩) Tryz.func113 Z Z 8 Z 2 Z [(0, .p (.slice 3 (a.map Aw)))] Z Z fun A hA => ?_
 unfold BU at h
 refine rs AA <| rl Z <| AB <| rs AA <| rn 1 Z <| sx Z (J9 h Z Z Z (fun d => ?_) (fun e => ?_))
 .refine rl Z <| RH Z <| rs AA <| rl Z <| AF <| AG ?_
  cases d
  exact AA0 Z
 refine rl Z <| Si Z <| AE <| AC <| rs AA <| rn 2 Z <| bq e fun f b c => sx Z (BY (enc := Aw) (l := ([] : List Ab)) (m := a) b (fun _ => ⟨Z, Z⟩) Z Z Z Z Z Z <| rl Z <| AF ?_)
 have hr := Option.some.inj c; subst hr
 exact erN Z Z Z
noncomputable def CX (a : Ay) (b : AI) : Option Int :=
 bif (Ak a.reads b).isSome then some ((Ak a.reads b).getD 0) else some (-1)
theorem Gk (a : Ay) (b : AI) (r : Int) (h : CX a b = some r) : Ax Tryz.prog 43 [.place (Aq a) 0, .agg (AT b)] (· = .int .i64 r) := by
 refine fn AA Tryz.func43 Z Z 18 Z [.tmp 4] Z [(0, .p (.place (Aq a) 0)), (1, .p (.agg (AT b)))] Z Z fun A hA => ?_
 unfold CX at h
 refine rs AA <| rl Z <| AB <| AB ?_
 refine Bz AA mixed [0, 1, 2, 3, 4, 5, 6, 7, 8, 9, 10] 11 (by kernel_rfl) Z Z Z ?_
 refine Au 5 Z <| As Z (Aj Z (Jk (et := 3) (ke := (fun x => .agg (AT x))) (ve := (.int .i64)) (mp := a.reads) (y := b) 0 CJ Z Z Z Z <| BJ Z <| AC <| rs AA <| rl Z <| cd Z h (fun c => ?_) (fun d => ?_)))
 .refine rs AA <| rl Z <| AF <| AG ?_
  cases c
  exact er Z Le.rfl
 refine AE <| AC <| rs AA <| rl Z <| AF ?_
 cases d
 exact er Z Le.rfl
end Go.E
/- Plain functions, and walks in step with them. Written by a program (gen.py). No condition. -/
set_option maxRecDepth 100000
set_option maxHeartbeats 1000000
namespace Go.E
open Go Go.RowKit Go.Proofs
noncomputable def La (b : ((List Ab) × (List Int) × (List (List Bi)))) (d : (List Ab)) (a : Int × (List Ao)) : Option ((Int × (List Ao)) ⊕ ((List Ab) × (List Ao))) :=
 bif decide (a.1 < (b.1.length : Int)) then (((AY b.1 a.1).bind fun e => (AY b.2.1 a.1).bind fun f => bif (f != 0) then (AY b.2.1 a.1).bind fun g => (Bu a.2 [(⟨e.elem, g⟩ : Ao)]).bind fun h => some h else some a.2 : Option ((List Ao)))).bind fun (c : (List Ao)) => some (.inl (AO (a.1 + 1), c)) else some (.inr (d, a.2))
noncomputable def Lb (a : ((List Ai) × (List Ab) × (List Int) × (List (List Bi)))) (c : Bi) (d : Ab) (f : (List Ab)) (b : Int × (List Ao)) : Option ((Int × (List Ao)) ⊕ ((List Ab) × (List Ao))) :=
 bif decide (b.1 < ((A5 a.2.1 (AO ((a.2.1.length : Int) - 1)) (⟨d.elem, d.in_, c.out⟩ : Ab)).length : Int)) then (((AY (A5 a.2.1 (AO ((a.2.1.length : Int) - 1)) (⟨d.elem, d.in_, c.out⟩ : Ab)) b.1).bind fun g => (AY (A5 a.2.2.1 (AO ((a.2.1.length : Int) - 1)) c.pos) b.1).bind fun h => bif (h != 0) then (AY (A5 a.2.2.1 (AO ((a.2.1.length : Int) - 1)) c.pos) b.1).bind fun i => (Bu b.2 [(⟨g.elem, i⟩ : Ao)]).bind fun j => some j else some b.2 : Option ((List Ao)))).bind fun (e : (List Ao)) => some (.inl (AO (b.1 + 1), e)) else some (.inr (f, b.2))
noncomputable def Lc (a : ((List Ai) × (List Ab) × (List Int) × (List (List Bi)))) (c : Bi) (d : Ab) (f : (List Ab)) (b : Int × (List Ao)) : Option ((Int × (List Ao)) ⊕ ((List Ab) × (List Ao))) :=
 bif decide (b.1 < ((A5 a.2.1 (AO ((a.2.1.length : Int) - 1)) (⟨d.elem, d.in_, c.out⟩ : Ab)).length : Int)) then (((AY (A5 a.2.1 (AO ((a.2.1.length : Int) - 1)) (⟨d.elem, d.in_, c.out⟩ : Ab)) b.1).bind fun g => (AY (A5 a.2.2.1 (AO ((a.2.1.length : Int) - 1)) c.pos) b.1).bind fun h => bif (h != 0) then (AY (A5 a.2.2.1 (AO ((a.2.1.length : Int) - 1)) c.pos) b.1).bind fun i => (Bu b.2 [(⟨g.elem, i⟩ : Ao)]).bind fun j => some j else some b.2 : Option ((List Ao)))).bind fun (e : (List Ao)) => some (.inl (AO (b.1 + 1), e)) else some (.inr (f, b.2))
noncomputable def CC (i : Ay) (j : Int) (a : (List Ai) × (List Ab) × (List Int) × (List (List Bi))) : Option (((List Ai) × (List Ab) × (List Int) × (List (List Bi))) ⊕ ((Int × Int × (List Ai) × (List Ab) × (List Int) × (List (List Bi))) ⊕ (List Ai))) :=
 bif decide (0 < (a.2.1.length : Int)) then (AY a.2.2.2 (AO ((a.2.1.length : Int) - 1))).bind fun n => bif ((n.length : Int) == 0) then (((JL a.2.1 0 (AO ((a.2.1.length : Int) - 1))).bind fun o => (JL a.2.2.1 0 (AO ((a.2.1.length : Int) - 1))).bind fun p => (JL a.2.2.2 0 (AO ((a.2.1.length : Int) - 1))).bind fun q => some (o, p, q) : Option ((List Ab) × (List Int) × (List (List Bi))))).bind fun (d : (List Ab) × (List Int) × (List (List Bi))) => some (.inl (a.1, d.1, d.2.1, d.2.2)) else (AY a.2.2.2 (AO ((a.2.1.length : Int) - 1))).bind fun r => (AY r 0).bind fun c => (AY a.2.2.2 (AO ((a.2.1.length : Int) - 1))).bind fun k => (Hv k 1 (k.length : Int)).bind fun e => (AY a.2.2.2 (AO ((a.2.1.length : Int) - 1))).bind fun w => (AY a.2.1 (AO ((a.2.1.length : Int) - 1))).bind fun b => (AY a.2.2.1 (AO ((a.2.1.length : Int) - 1))).bind fun x => (AY (A5 a.2.1 (AO ((a.2.1.length : Int) - 1)) (⟨b.elem, b.in_, c.out⟩ : Ab)) (AO ((a.2.1.length : Int) - 1))).bind fun l => (CX i (⟨l.elem, c.out⟩ : AI)).bind fun m => bif decide (0 <= m) then (((BU (A5 a.2.1 (AO ((a.2.1.length : Int) - 1)) (⟨b.elem, b.in_, c.out⟩ : Ab))).bind fun s => AQ (Lb a c b s) (0, ([] : List Ao)) : Option ((List Ab) × (List Ao)))).bind fun (g : (List Ab) × (List Ao)) => (Bu a.1 ([(⟨j, m, 1, g.1, g.2, ([] : List Ao), ([] : List Int), ([] : List Int), false⟩ : Ai)])).bind fun t => some (.inl (t, A5 a.2.1 (AO ((a.2.1.length : Int) - 1)) (⟨b.elem, b.in_, c.out⟩ : Ab), A5 a.2.2.1 (AO ((a.2.1.length : Int) - 1)) c.pos, A5 a.2.2.2 (AO ((a.2.1.length : Int) - 1)) e)) else (Bd i (⟨l.elem, c.out⟩ : AI)).bind fun f => bif (!f.2) then (((BU (A5 a.2.1 (AO ((a.2.1.length : Int) - 1)) (⟨b.elem, b.in_, c.out⟩ : Ab))).bind fun u => AQ (Lc a c b u) (0, ([] : List Ao)) : Option ((List Ab) × (List Ao)))).bind fun (h : (List Ab) × (List Ao)) => (Bu a.1 ([(⟨j, (-1), 3, h.1, h.2, ([] : List Ao), ([] : List Int), ([] : List Int), false⟩ : Ai)])).bind fun v => some (.inl (v, A5 a.2.1 (AO ((a.2.1.length : Int) - 1)) (⟨b.elem, b.in_, c.out⟩ : Ab), A5 a.2.2.1 (AO ((a.2.1.length : Int) - 1)) c.pos, A5 a.2.2.2 (AO ((a.2.1.length : Int) - 1)) e)) else some (.inr (.inl (f.1.elem, f.1.fin, a.1, A5 a.2.1 (AO ((a.2.1.length : Int) - 1)) (⟨b.elem, b.in_, c.out⟩ : Ab), A5 a.2.2.1 (AO ((a.2.1.length : Int) - 1)) c.pos, A5 a.2.2.2 (AO ((a.2.1.length : Int) - 1)) e))) else some (.inr (.inr a.1))
noncomputable def CM (d : Ay) (f : Int) (o : (AI × Bool)) (a : Int × Int × (List Ai) × (List Ab) × (List Int) × (List (List Bi))) : Option ((Int × Int × (List Ai) × (List Ab) × (List Int) × (List (List Bi))) ⊕ (List Ai)) :=
 (((Eo (⟨o.1.elem, a.2.2.2.1, a.2.2.2.2.1, a.2.2.2.2.2⟩ : N8) a.1).bind fun g => bif g then (((Bu a.2.2.2.1 [(⟨a.1, a.2.1, (-1)⟩ : Ab)]).bind fun h => (Bu a.2.2.2.2.1 [0]).bind fun i => (EB d a.1 a.2.1).bind fun j => (Bu a.2.2.2.2.2 [j]).bind fun k => some (h, i, k) : Option ((List Ab) × (List Int) × (List (List Bi))))).bind fun (b : (List Ab) × (List Int) × (List (List Bi))) => (BS d a.1).bind fun l => bif (l == 4) then (((BU b.1).bind fun m => AQ (La b m) (0, ([] : List Ao)) : Option ((List Ab) × (List Ao)))).bind fun (e : (List Ab) × (List Ao)) => (Bu a.2.2.1 ([(⟨f, (-1), 2, e.1, e.2, ([] : List Ao), ([] : List Int), ([] : List Int), false⟩ : Ai)])).bind fun n => some (n, b.1, b.2.1, b.2.2) else some (a.2.2.1, b.1, b.2.1, b.2.2) else some (a.2.2.1, a.2.2.2.1, a.2.2.2.2.1, a.2.2.2.2.2) : Option ((List Ai) × (List Ab) × (List Int) × (List (List Bi))))).bind fun (c : (List Ai) × (List Ab) × (List Int) × (List (List Bi))) => AQ (CC d f) (c.1, c.2.1, c.2.2.1, c.2.2.2)
noncomputable def KM (a : Ay) (d : Int) : Option (List Ai) :=
 (Cb a d).bind fun c => bif (!c.2) then some [] else (Bd a c.1).bind fun b => bif (!b.2) then some [] else AQ (CM a d c) (b.1.elem, b.1.fin, ([] : List Ai), ([] : List Ab), ([] : List Int), ([] : List (List Bi)))
theorem YR (t : Ay) (g : Int) (r : (List Ai)) (h : KM t g = some r) : Ax Tryz.prog 112 [.place (Aq t) 0, .int .i64 g] (· = .slice 9 (r.map BK)) := by
 refine fn AA Tryz.func112 Z Z 157 Z [.tmp 4] Z [(0, .p (.place (Aq t) 0)), (1, .p (.int .i64 g))] Z Z fun A hA => ?_
 unfold KM at h
 refine rs AA <| rl Z <| sc <| rs AA <| rn 2 Z <| bq h fun j bu ef => sx Z (AM (G3 _ _ _ bu) (.inl Z) Z Z Z <| rl Z <| AB <| rs AA <| rl Z <| cd Z ef (fun eg => ?_) (fun eh => ?_))
 .refine rs AA <| rl Z <| AF <| AG <| Iq ?_
  cases eg
  exact er Z (Le.nil _)
 refine AE <| AC <| rs AA <| rn 2 Z <| bq eh fun e2 a8 bv => sx Z (AM (CG _ _ _ a8) (.inl Z) Z Z Z <| rl Z <| AB <| rs AA <| rl Z <| cd Z bv (fun bw => ?_) (fun bx => ?_))
 .refine rs AA <| rl Z <| AF <| AG <| Iq ?_
  cases bw
  exact er Z (Le.nil _)
 refine AE <| AC <| rs AA <| rl Z <| rs AA <| rl Z <| AB <| Jx <| AC <| AB <| AH ?_
 apply lp (a := r) (fun d : (Int × Int × (List Ai) × (List Ab) × (List Int) × (List (List Bi))) => ⟨157, [(0, lq (Aq t)), (1, li g), (7, .lpb 0 0), (8, .lsl 1 9 0 d.2.2.1.length), (9, .lpb 2 0)], [(0, .box [li d.1, li d.2.1]), (1, .row 72 9 (d.2.2.1.map BK)), (2, .box [li j.1.elem, .lsl 3 3 0 d.2.2.2.1.length, .lsl 4 1 0 d.2.2.2.2.1.length, .lsl 5 1 0 d.2.2.2.2.2.length]), (3, .row 76 3 (d.2.2.2.1.map Aw)), (4, .row 3 1 (d.2.2.2.2.1.map AZ)), (5, .row 215 1 (d.2.2.2.2.2.map (Da 2 Dm)))], 6⟩) bx
 . exact A7.trans (Ci 8 72 9 Z) (A7.trans (CE 2 1 76 3 Z Z Z Z) (A7.trans (CE 2 2 3 1 Z Z Z Z) (A7.trans (CE 2 3 215 1 Z Z Z Z) (wf hA [(0, 1), (1, 3), (2, 2), (3, 4), (4, 5), (5, 6)] Z Z Z))))
 intro d a7 a2
 unfold CM at a2
 refine AH <| sc <| jb (fun k : ((List Ai) × (List Ab) × (List Int) × (List (List Bi))) => ⟨157, [(0, lq (Aq t)), (1, li g), (7, .lpb 0 0), (8, .lsl 1 9 0 k.1.length), (9, .lpb 2 0)], [(0, .box [li d.1, li d.2.1]), (1, .row 72 9 (k.1.map BK)), (2, .box [li j.1.elem, .lsl 3 3 0 k.2.1.length, .lsl 4 1 0 k.2.2.1.length, .lsl 5 1 0 k.2.2.2.length]), (3, .row 76 3 (k.2.1.map Aw)), (4, .row 3 1 (k.2.2.1.map AZ)), (5, .row 215 1 (k.2.2.2.map (Da 2 Dm)))], 6⟩) a2 (fun k bz => ?_) (fun k cs => ?_)
 .refine rs AA <| rn 3 Z <| bq bz fun e3 a9 b0 => sx Z (AM (Rf _ _ _ a9) (.inl Z) Z Z (Dc.eq (.cons (.box Z (.cons (.p _) (.cons (.own (enc := Aw) d.2.2.2.1 Z Z) (.cons (.own (enc := AZ) d.2.2.2.2.1 Z Z) (.cons (.own (enc := (Da 2 Dm)) d.2.2.2.2.2 Z Z) .nil))))) (.cons (.one (.p _)) .nil))) <| rl Z <| cd Z b0 (fun b1 => ?_) (fun cr => ?_))
  .refine rs AA <| rn 3 Z <| sx Z (CT AA (fun f : ((List Ab) × (List Int) × (List (List Bi))) => .tup []) (fun f : ((List Ab) × (List Int) × (List (List Bi))) => [(0, .box [li d.1, li d.2.1]), (1, .row 72 9 (d.2.2.1.map BK)), (2, .box [li j.1.elem, .lsl 6 3 0 f.1.length, .lsl 7 1 0 f.2.1.length, .lsl 8 1 0 f.2.2.length]), (6, .row 76 3 (f.1.map Aw)), (7, .row 3 1 (f.2.1.map AZ)), (8, .row 215 1 (f.2.2.map (Da 2 Dm)))]) 9 b1 Tryz.func147 44 [] [(0, .lpb 2 0), (1, lq (Aq t)), (2, .p (.agg [.int .i64 d.1, .int .i64 d.2.1]))] Z Z Z Z Z Z Z Z (fun A hA f b2 => ?_) (fun f b7 => ?_))
   .refine rs AA <| rl Z <| AB ?_
    refine Bz AA mixed [0, 1, 2, 3, 4, 5, 6, 7, 8, 9, 10, 11, 12, 13, 14] 15 (by kernel_rfl) Z Z Z ?_
    refine Au 11 Z <| bq b2 fun e4 ba b3 => As Z (JS Z (BY (enc := Aw) (l := d.2.2.2.1) (m := [(⟨d.1, d.2.1, (-1)⟩ : Ab)]) ba (fun _ => ⟨Z, Z⟩) Z Z Z Z Z Z <| BJ Z <| AC <| rs AA <| rn 6 Z <| bq b3 fun e5 bb b4 => sx Z (BY (enc := AZ) (l := d.2.2.2.2.1) (m := [0]) bb (fun _ => ⟨Z, Z⟩) Z Z Z Z Z Z <| rl Z ?_)))
    refine Bz AA mixed [0, 1, 2, 3, 4, 5, 6, 7, 8, 9, 10, 11, 12, 13, 14, 15] 16 (by kernel_rfl) Z Z Z ?_
    refine Au 10 Z <| bq b4 fun ei bc b5 => As Z (A6 (NF _ _ _ _ bc) (.inr Z) Z Z Z <| Au 1 Z <| bq b5 fun e6 be b6 => As Z (JS Z (BY (enc := (Da 2 Dm)) (l := d.2.2.2.2.2) (m := [ei]) be (fun _ => ⟨Z, Z⟩) Z Z Z Z Z Z <| BJ Z ?_)))
    cases b6
    exact Ly (nt := 44) (sl := []) (wj hA (gi 6 [(6, 18), (7, 23), (8, 36)]) Z Z Z Z) Z
   refine rl Z <| rs AA <| rn 3 Z <| bq b7 fun e7 bf b8 => sx Z (AM (Bs _ _ _ bf) (.inl Z) Z Z Z <| rl Z <| cd Z b8 (fun b9 => ?_) (fun cq => ?_))
   .refine rg AA <| rn 3 Z <| sx Z (CT AA (fun n : ((List Ab) × (List Ao)) => .p (.agg [.int .i64 g, .int .i64 (-1), .int .i64 2, .slice 3 (n.1.map Aw), .slice 2 (n.2.map A1), .slice 2 (([] : List Ao).map A1), .slice 1 (([] : List Int).map AZ), .slice 1 (([] : List Int).map AZ), .bool false])) (fun n : ((List Ab) × (List Ao)) => [(0, .box [li d.1, li d.2.1]), (1, .row 72 9 (d.2.2.1.map BK)), (2, .box [li j.1.elem, .lsl 6 3 0 f.1.length, .lsl 7 1 0 f.2.1.length, .lsl 8 1 0 f.2.2.length]), (6, .row 76 3 (f.1.map Aw)), (7, .row 3 1 (f.2.1.map AZ)), (8, .row 215 1 (f.2.2.map (Da 2 Dm))), (9, .box [li g, li (-1), li 2, ls 3 Aw n.1, ls 2 A1 n.2, ls 2 A1 ([] : List Ao), ls 1 AZ ([] : List Int), ls 1 AZ ([] : List Int), lb false])]) 10 b9 Tryz.func148 56 [.cell 8 72] [(0, .lpb 2 0), (1, li g), (2, li (-1)), (3, li 2)] Z Z Z Z Z Z Z Z (fun A hA n ca => ?_) (fun n co => ?_))
    .refine rs AA <| rl Z <| rs AA <| rn 7 Z <| bq ca fun ab bg cb => sx Z (N5 (EW _ _ bg) (fun _ => Z) Z Z (Dc.eq (.cons (.one (.own (enc := Aw) f.1 Z Z)) .nil)) <| rl Z <| AB <| rs AA <| rl Z <| AH ?_)
     apply lp (a := n) (fun u : (Int × (List Ao)) => ⟨56, [(0, .lpb 2 0), (8, .lpb 9 0), (9, .lpb 10 0), (24, .lsl 6 3 0 f.1.length), (25, li (f.1.length : Int)), (26, li u.1)], [(0, .box [li d.1, li d.2.1]), (1, .row 72 9 (d.2.2.1.map BK)), (2, .box [li j.1.elem, .lsl 6 3 0 f.1.length, .lsl 7 1 0 f.2.1.length, .lsl 8 1 0 f.2.2.length]), (6, .row 76 3 (f.1.map Aw)), (7, .row 3 1 (f.2.1.map AZ)), (8, .row 215 1 (f.2.2.map (Da 2 Dm))), (9, .box [li 0, li 0, li 0, .p (.nils), .p (.nils), .p (.nils), .p (.nils), .p (.nils), lb false]), (10, .box [li g, li (-1), li 2, .lsl 11 3 0 ab.length, .lsl 12 2 0 u.2.length, .p (.nils), .p (.nils), .p (.nils), lb false]), (11, .row 76 3 (ab.map Aw)), (12, .row 185 2 (u.2.map A1))], 13⟩) cb
     . exact A7.trans (CE 11 4 185 2 Z Z Z Z) (wj hA (gi 10 [(10, 11), (11, 10), (12, 12)]) Z Z Z Z)
     intro u ey a3
     unfold La at a3
     refine rs AA <| rl Z <| AB <| cd Z a3 (fun cc => ?_) (fun cm => ?_)
     .refine AE <| AC <| jb (fun af : (List Ao) => ⟨56, [(0, .lpb 2 0), (8, .lpb 9 0), (9, .lpb 10 0), (24, .lsl 6 3 0 f.1.length), (25, li (f.1.length : Int)), (26, li u.1)], [(0, .box [li d.1, li d.2.1]), (1, .row 72 9 (d.2.2.1.map BK)), (2, .box [li j.1.elem, .lsl 6 3 0 f.1.length, .lsl 7 1 0 f.2.1.length, .lsl 8 1 0 f.2.2.length]), (6, .row 76 3 (f.1.map Aw)), (7, .row 3 1 (f.2.1.map AZ)), (8, .row 215 1 (f.2.2.map (Da 2 Dm))), (9, .box [li 0, li 0, li 0, .p (.nils), .p (.nils), .p (.nils), .p (.nils), .p (.nils), lb false]), (10, .box [li g, li (-1), li 2, .lsl 11 3 0 ab.length, .lsl 12 2 0 af.length, .p (.nils), .p (.nils), .p (.nils), lb false]), (11, .row 76 3 (ab.map Aw)), (12, .row 185 2 (af.map A1))], 13⟩) cc (fun af ce => ?_) (fun af cl => ?_)
      .refine AH <| rs AA <| rn 1 Z <| bq ce fun ej aj cf => sx Z (B2 aj Z Z Z Z <| sx Z (C7 aj Z Z Z <| rl Z <| rs AA <| rn 5 Z <| bq cf fun e8 ak cg => sx Z (B2 ak Z Z Z Z <| sx Z (C7 ak Z Z Z <| rl Z <| cd Z cg (fun ch => ?_) (fun ck => ?_)))))
       .refine Bz AA mixed [0, 1, 2, 3, 4, 5, 6, 7, 8, 9, 10, 11, 12, 13, 14, 15] 16 (by kernel_rfl) Z Z Z ?_
        exact Au 9 Z <| bq ch fun ek al ci => As Z (Aj Z (B2 al Z Z Z Z <| As Z (Gy Z (C7 al Z Z Z <| Au 2 Z <| bq ci fun e9 bh cj => As Z (JS Z (BY (enc := A1) (l := u.2) (m := [(⟨ej.elem, ek⟩ : Ao)]) bh (fun _ => ⟨Z, Z⟩) Z Z Z Z Z Z <| BJ Z <| Ag <| AL cj (wj hA (gi 12 [(12, 27)]) Z Z Z Z)))))))
       exact AE <| Ag <| AL ck (wj hA (gi 13 []) Z Z Z Z)
      exact rg AA <| rl Z <| Ar cl (wj hA (gi 13 []) Z Z Z Z)
     refine AV <| AX <| BI cm fun es cn => Ap <| AC <| rs AA <| rl Z <| AF ?_
     cases cn
     exact CW (nt := 56) (sl := [(8, .lpb 9 0)]) (A7.trans (JY 11 (NG (enc := Aw) (l := ab) Z) (.cons 8 (.same _) .nil) (.cons 0 Z Z (.same _) (.cons 1 Z Z (.same _) (.cons 2 Z Z (.same _) (.cons 6 Z Z (.same _) (.cons 7 Z Z (.same _) (.cons 8 Z Z (.same _) (.cons 9 Z Z (.box (.cons (.same _) (.cons (.same _) (.cons (.same _) (.cons .hit (.cons (.same _) (.cons (.same _) (.cons (.same _) (.cons (.same _) (.cons (.same _) .nil)))))))))) (.cons 10 Z Z (.box (.cons (.same _) (.cons (.same _) (.cons (.same _) (.cons .hit (.cons (.same _) (.cons (.same _) (.cons (.same _) (.cons (.same _) (.cons (.same _) .nil)))))))))) (.cons 12 Z Z (.same _) .nil)))))))))) (A7.trans (JY 12 (NG (enc := A1) (l := u.2) Z) (.cons 8 (.same _) .nil) (.cons 0 Z Z (.same _) (.cons 1 Z Z (.same _) (.cons 2 Z Z (.same _) (.cons 6 Z Z (.same _) (.cons 7 Z Z (.same _) (.cons 8 Z Z (.same _) (.cons 9 Z Z (.box (.cons (.same _) (.cons (.same _) (.cons (.same _) (.cons (.same _) (.cons .hit (.cons (.same _) (.cons (.same _) (.cons (.same _) (.cons (.same _) .nil)))))))))) (.cons 10 Z Z (.box (.cons (.same _) (.cons (.same _) (.cons (.same _) (.cons (.same _) (.cons .hit (.cons (.same _) (.cons (.same _) (.cons (.same _) (.cons (.same _) .nil)))))))))) .nil))))))))) (A7.trans (Ep (.cons 8 (.same _) .nil) (.cons 0 Z Z (.same _) (.cons 1 Z Z (.same _) (.cons 2 Z Z (.same _) (.cons 6 Z Z (.same _) (.cons 7 Z Z (.same _) (.cons 8 Z Z (.same _) (.cons 9 Z Z (.box (.cons (.same _) (.cons (.same _) (.cons (.same _) (.cons (.same _) (.cons (.same _) (.cons (.nil 2) (.cons (.same _) (.cons (.same _) (.cons (.same _) .nil)))))))))) (.cons 10 Z Z (.same _) .nil))))))))) (A7.trans (Ep (.cons 8 (.same _) .nil) (.cons 0 Z Z (.same _) (.cons 1 Z Z (.same _) (.cons 2 Z Z (.same _) (.cons 6 Z Z (.same _) (.cons 7 Z Z (.same _) (.cons 8 Z Z (.same _) (.cons 9 Z Z (.box (.cons (.same _) (.cons (.same _) (.cons (.same _) (.cons (.same _) (.cons (.same _) (.cons (.same _) (.cons (.nil 1) (.cons (.same _) (.cons (.same _) .nil)))))))))) (.cons 10 Z Z (.same _) .nil))))))))) (A7.trans (Ep (.cons 8 (.same _) .nil) (.cons 0 Z Z (.same _) (.cons 1 Z Z (.same _) (.cons 2 Z Z (.same _) (.cons 6 Z Z (.same _) (.cons 7 Z Z (.same _) (.cons 8 Z Z (.same _) (.cons 9 Z Z (.box (.cons (.same _) (.cons (.same _) (.cons (.same _) (.cons (.same _) (.cons (.same _) (.cons (.same _) (.cons (.same _) (.cons (.nil 1) (.cons (.same _) .nil)))))))))) (.cons 10 Z Z (.same _) .nil))))))))) (wj hA (gi 10 []) Z Z Z Z)))))) Z
    exact rn 1 Z <| bq co fun fa bi cp => sx Z (BY (enc := BK) (l := d.2.2.1) (m := [(⟨g, (-1), 2, n.1, n.2, ([] : List Ao), ([] : List Int), ([] : List Int), false⟩ : Ai)]) bi (fun _ => ⟨Z, Z⟩) Z Z Z Z Z Z <| rl Z <| AL cp (wf hA [(0, 0), (1, 11), (2, 2), (3, 6), (4, 7), (5, 8)] Z Z Z))
   exact AE <| AL cq (wf hA (gi 3 [(3, 6), (4, 7), (5, 8)]) Z Z Z)
  exact AE <| AL cr (wf hA (gi 6 []) Z Z Z)
 refine AB <| Jx <| AC <| AB <| AH ?_
 apply lp (a := a7) (fun b : ((List Ai) × (List Ab) × (List Int) × (List (List Bi))) => ⟨157, [(0, lq (Aq t)), (1, li g), (7, .lpb 0 0), (8, .lsl 1 9 0 b.1.length), (9, .lpb 2 0)], [(0, .box [li d.1, li d.2.1]), (1, .row 72 9 (b.1.map BK)), (2, .box [li j.1.elem, .lsl 3 3 0 b.2.1.length, .lsl 4 1 0 b.2.2.1.length, .lsl 5 1 0 b.2.2.2.length]), (3, .row 76 3 (b.2.1.map Aw)), (4, .row 3 1 (b.2.2.1.map AZ)), (5, .row 215 1 (b.2.2.2.map (Da 2 Dm)))], 6⟩) cs
 . exact wf hA (gi 6 []) Z Z Z
 intro b ez a4
 unfold CC at a4
 refine AB <| rs AA <| rl Z <| cd Z a4 (fun ct => ?_) (fun ec => ?_)
 .refine AE <| AC <| AH <| rs AA <| rl Z <| AB <| rs AA <| rn 5 Z <| bq ct fun fb am cu => sx Z (B2 am Z Z Z Z <| sx Z (C7 am Z Z Z <| sx Z (Ad Z Z <| rl Z <| cd Z cu (fun cv => ?_) (fun c1 => ?_))))
  .refine rs AA <| rn 1 Z <| sx Z (CT AA (fun s : ((List Ab) × (List Int) × (List (List Bi))) => .tup []) (fun s : ((List Ab) × (List Int) × (List (List Bi))) => [(0, .box [li d.1, li d.2.1]), (1, .row 72 9 (b.1.map BK)), (2, .box [li j.1.elem, .lsl 3 3 0 s.1.length, .lsl 4 1 0 s.2.1.length, .lsl 5 1 0 s.2.2.length]), (3, .row 76 3 (s.1.map Aw)), (4, .row 3 1 (s.2.1.map AZ)), (5, .row 215 1 (s.2.2.map (Da 2 Dm)))]) 6 cv Tryz.func149 36 [] [(0, .lpb 2 0)] Z Z Z Z Z Z Z Z (fun A hA s cw => ?_) (fun s c0 => ?_))
   .refine rs AA <| rl Z ?_
    refine Bz AA mixed [0, 1, 2, 3, 4, 5, 6, 7, 8, 9, 10, 11, 12, 13, 14, 15, 16, 17, 18, 19, 20, 21, 22, 23, 24, 25, 26, 27, 28, 29] 30 (by kernel_rfl) Z Z Z ?_
    refine Au 8 Z <| bq cw fun fc an cx => As Z (Aj Z (RX (l := b.2.1) an Z Z Z Z <| Au 5 Z <| bq cx fun fd ao cy => As Z (Aj Z (RX (l := b.2.2.1) ao Z Z Z Z <| Au 5 Z <| bq cy fun fe ap cz => As Z (Aj Z (RX (l := b.2.2.2) ap Z Z Z Z <| BJ Z ?_))))))
    cases cz
    exact Ly (nt := 36) (sl := []) (A7.trans (JV 3 an Z Z) (A7.trans (JV 4 ao Z Z) (A7.trans (JV 5 ap Z Z) (wj hA (gi 6 []) Z Z Z Z)))) Z
   exact rl Z <| AV <| AX <| Ap <| Ar c0 (wf hA (gi 6 []) Z Z Z)
  refine AE <| AC <| rs AA <| rn 5 Z <| bq c1 fun ff aq c2 => sx Z (B2 aq Z Z Z Z <| sx Z (C7 aq Z Z Z <| bq c2 fun c bj c3 => sx Z (Af bj Z Z Z <| rl Z <| AB ?_)))
  refine Bz AA mixed [0, 1, 2, 3, 4, 5, 6, 7, 8, 9, 10, 11, 12, 13, 14] 15 (by kernel_rfl) Z Z Z ?_
  refine Au 10 Z <| bq c3 fun fg ar c4 => As Z (Aj Z (B2 ar Z Z Z Z <| As Z (Gy Z (C7 ar Z Z Z <| bq c4 fun i bk c5 => As Z (Aj Z (RL bk Z Z Z Z <| bq c5 fun fh au c6 => As Z (Aj Z (B2 au Z Z Z Z <| As Z (Mu Z (Lw (z := i) au Z Z Z Z Z Z Z Z <| BJ Z <| AC <| AB <| bq c6 fun e ai c7 => bq c7 fun fi ae c8 => ?_))))))))))
  refine ACR AA mixed (.picks [0, 1, 2, 3, 4, 5, 6, 7, 8, 9, 10, 11, 12, 14, 15] (.alt 13 [16, 17, 18] .done (.alt 16 [13, 17, 18] .done .nil))) 19 ⟨157, [(0, lq (Aq t)), (1, li g), (7, .lpb 0 0), (8, .lsl 1 9 0 b.1.length), (9, .lpb 2 0), (10, li (AO ((b.2.1.length : Int) - 1))), (11, .lpb 3 0)], [(0, .box [li d.1, li d.2.1]), (1, .row 72 9 (b.1.map BK)), (2, .box [li j.1.elem, .lsl 4 3 0 (A5 b.2.1 (AO ((b.2.1.length : Int) - 1)) (⟨e.elem, e.in_, c.out⟩ : Ab)).length, .lsl 5 1 0 (A5 b.2.2.1 (AO ((b.2.1.length : Int) - 1)) c.pos).length, .lsl 6 1 0 (A5 b.2.2.2 (AO ((b.2.1.length : Int) - 1)) i).length]), (3, .box [li c.out, li c.pos]), (4, .row 76 3 ((A5 b.2.1 (AO ((b.2.1.length : Int) - 1)) (⟨e.elem, e.in_, c.out⟩ : Ab)).map Aw)), (5, .row 3 1 ((A5 b.2.2.1 (AO ((b.2.1.length : Int) - 1)) c.pos).map AZ)), (6, .row 215 1 ((A5 b.2.2.2 (AO ((b.2.1.length : Int) - 1)) i).map (Da 2 Dm)))], 7⟩ (by kernel_rfl) Z ?_ ?_
  .refine ABv <| Au 13 Z <| As Z (Aj Z (B2 ai Z Z Z Z <| BJ Z <| Zz ?_ ?_))
   .exact Au 1 Z <| As Z (Mu Z (Lw (z := (⟨e.elem, e.in_, c.out⟩ : Ab)) ai Z Z Z Z Z Z Z Z <| As Z (Aj Z (B2 ae Z Z Z Z <| As Z (Mu Z (Lw (z := c.pos) ae Z Z Z Z Z Z Z Z <| BJ Z <| Z0 (wk (gi 3 [(3, 6), (4, 3), (5, 4), (6, 5)]) (free hA _) Z Z Z (.cons Z (.cons Z (.cons Z (.cons Z (.cons Z (.cons Z (.cons Z .nil))))))) (.cons Z Z (.cons Z Z (.cons Z (by simp only [BF]; rfl) (.cons Z Z (.cons Z Z (.cons Z Z (.cons Z Z .nil))))))))))))))
   refine Zz ?_ ?_
   .exact As Z (Mu Z (Lw (z := (⟨e.elem, e.in_, c.out⟩ : Ab)) ai Z Z Z Z Z Z Z Z <| Au 1 Z <| As Z (Aj Z (B2 ae Z Z Z Z <| As Z (Mu Z (Lw (z := c.pos) ae Z Z Z Z Z Z Z Z <| BJ Z <| Z0 (wk (gi 3 [(3, 6), (4, 3), (5, 4), (6, 5)]) (free hA _) Z Z Z (.cons Z (.cons Z (.cons Z (.cons Z (.cons Z (.cons Z (.cons Z .nil))))))) (.cons Z Z (.cons Z Z (.cons Z (by simp only [BF]; rfl) (.cons Z Z (.cons Z Z (.cons Z Z (.cons Z Z .nil))))))))))))))
   exact ABw
  refine AC <| AB ?_
  refine Bz AA mixed [0, 1, 2, 3, 4, 5, 6, 7, 8, 9, 10, 11, 12] 13 (by kernel_rfl) Z Z Z ?_
  refine Au 5 Z <| bq c8 fun x av c9 => As Z (Aj Z (B2 av Z Z Z (by simp only [BF]) <| Au 1 Z <| As Z (Gy Z (C7 av Z Z Z <| BJ Z <| AC <| AB <| rs AA <| rn 2 Z <| bq c9 fun y bl da => sx Z (AM (Gk _ _ _ bl) (.inl Z) Z Z Z <| rl Z <| rs AA <| rl Z <| cd Z da (fun db => ?_) (fun ds => ?_))))))
  .refine rs AA <| rn 4 Z <| sx Z (CT AA (fun o : ((List Ab) × (List Ao)) => .p (.agg [.int .i64 g, .int .i64 y, .int .i64 1, .slice 3 (o.1.map Aw), .slice 2 (o.2.map A1), .slice 2 (([] : List Ao).map A1), .slice 1 (([] : List Int).map AZ), .slice 1 (([] : List Int).map AZ), .bool false])) (fun o : ((List Ab) × (List Ao)) => [(0, .box [li d.1, li d.2.1]), (1, .row 72 9 (b.1.map BK)), (2, .box [li j.1.elem, .lsl 4 3 0 (A5 b.2.1 (AO ((b.2.1.length : Int) - 1)) (⟨e.elem, e.in_, c.out⟩ : Ab)).length, .lsl 5 1 0 (A5 b.2.2.1 (AO ((b.2.1.length : Int) - 1)) c.pos).length, .lsl 6 1 0 (A5 b.2.2.2 (AO ((b.2.1.length : Int) - 1)) i).length]), (3, .box [li c.out, li c.pos]), (4, .row 76 3 ((A5 b.2.1 (AO ((b.2.1.length : Int) - 1)) (⟨e.elem, e.in_, c.out⟩ : Ab)).map Aw)), (5, .row 3 1 ((A5 b.2.2.1 (AO ((b.2.1.length : Int) - 1)) c.pos).map AZ)), (6, .row 215 1 ((A5 b.2.2.2 (AO ((b.2.1.length : Int) - 1)) i).map (Da 2 Dm))), (18, .box [li x.elem, li c.out]), (20, .box [li g, li y, li 1, ls 3 Aw o.1, ls 2 A1 o.2, ls 2 A1 ([] : List Ao), ls 1 AZ ([] : List Int), ls 1 AZ ([] : List Int), lb false])]) 21 db Tryz.func148 56 [.cell 8 72] [(0, .lpb 2 0), (1, li g), (2, li y), (3, li 1)] Z Z Z Z Z Z Z Z (fun A hA o dc => ?_) (fun o dq => ?_))
   .refine rs AA <| rl Z <| rs AA <| rn 7 Z <| bq dc fun ac bm dd => sx Z (N5 (EW _ _ bm) (fun _ => Z) Z Z (Dc.eq (.cons (.one (.own (enc := Aw) (A5 b.2.1 (AO ((b.2.1.length : Int) - 1)) (⟨e.elem, e.in_, c.out⟩ : Ab)) Z (by simp only [BF]))) .nil)) <| rl Z <| AB <| rs AA <| rl Z <| AH ?_)
    apply lp (a := o) (fun v : (Int × (List Ao)) => ⟨56, [(0, .lpb 2 0), (8, .lpb 20 0), (9, .lpb 21 0), (24, .lsl 4 3 0 (A5 b.2.1 (AO ((b.2.1.length : Int) - 1)) (⟨e.elem, e.in_, c.out⟩ : Ab)).length), (25, li ((A5 b.2.1 (AO ((b.2.1.length : Int) - 1)) (⟨e.elem, e.in_, c.out⟩ : Ab)).length : Int)), (26, li v.1)], [(0, .box [li d.1, li d.2.1]), (1, .row 72 9 (b.1.map BK)), (2, .box [li j.1.elem, .lsl 4 3 0 (A5 b.2.1 (AO ((b.2.1.length : Int) - 1)) (⟨e.elem, e.in_, c.out⟩ : Ab)).length, .lsl 5 1 0 (A5 b.2.2.1 (AO ((b.2.1.length : Int) - 1)) c.pos).length, .lsl 6 1 0 (A5 b.2.2.2 (AO ((b.2.1.length : Int) - 1)) i).length]), (3, .box [li c.out, li c.pos]), (4, .row 76 3 ((A5 b.2.1 (AO ((b.2.1.length : Int) - 1)) (⟨e.elem, e.in_, c.out⟩ : Ab)).map Aw)), (5, .row 3 1 ((A5 b.2.2.1 (AO ((b.2.1.length : Int) - 1)) c.pos).map AZ)), (6, .row 215 1 ((A5 b.2.2.2 (AO ((b.2.1.length : Int) - 1)) i).map (Da 2 Dm))), (18, .box [li x.elem, li c.out]), (20, .box [li 0, li 0, li 0, .p (.nils), .p (.nils), .p (.nils), .p (.nils), .p (.nils), lb false]), (21, .box [li g, li y, li 1, .lsl 22 3 0 ac.length, .lsl 23 2 0 v.2.length, .p (.nils), .p (.nils), .p (.nils), lb false]), (22, .row 76 3 (ac.map Aw)), (23, .row 185 2 (v.2.map A1))], 24⟩) dd
    . exact A7.trans (CE 22 4 185 2 Z Z Z Z) (wk (gi 21 [(21, 22), (22, 21), (23, 23)]) (KW hA _ Z) Z Z Z (.cons Z (.cons Z (.cons Z (.cons (by simp only [BF]; rfl) (.cons Z (.cons Z .nil)))))) (.cons Z Z (.cons Z Z (.cons Z (by simp only [BF]; rfl) (.cons Z Z (.cons Z Z (.cons Z Z (.cons Z Z (.cons Z Z (.cons Z Z (.cons Z Z (.cons Z Z (.cons Z Z .nil)))))))))))))
    intro v e0 a5
    unfold Lb at a5
    refine rs AA <| rl Z <| AB <| cd Z a5 (fun de => ?_) (fun dn => ?_)
    .refine AE <| AC <| jb (fun ag : (List Ao) => ⟨56, [(0, .lpb 2 0), (8, .lpb 20 0), (9, .lpb 21 0), (24, .lsl 4 3 0 (A5 b.2.1 (AO ((b.2.1.length : Int) - 1)) (⟨e.elem, e.in_, c.out⟩ : Ab)).length), (25, li ((A5 b.2.1 (AO ((b.2.1.length : Int) - 1)) (⟨e.elem, e.in_, c.out⟩ : Ab)).length : Int)), (26, li v.1)], [(0, .box [li d.1, li d.2.1]), (1, .row 72 9 (b.1.map BK)), (2, .box [li j.1.elem, .lsl 4 3 0 (A5 b.2.1 (AO ((b.2.1.length : Int) - 1)) (⟨e.elem, e.in_, c.out⟩ : Ab)).length, .lsl 5 1 0 (A5 b.2.2.1 (AO ((b.2.1.length : Int) - 1)) c.pos).length, .lsl 6 1 0 (A5 b.2.2.2 (AO ((b.2.1.length : Int) - 1)) i).length]), (3, .box [li c.out, li c.pos]), (4, .row 76 3 ((A5 b.2.1 (AO ((b.2.1.length : Int) - 1)) (⟨e.elem, e.in_, c.out⟩ : Ab)).map Aw)), (5, .row 3 1 ((A5 b.2.2.1 (AO ((b.2.1.length : Int) - 1)) c.pos).map AZ)), (6, .row 215 1 ((A5 b.2.2.2 (AO ((b.2.1.length : Int) - 1)) i).map (Da 2 Dm))), (18, .box [li x.elem, li c.out]), (20, .box [li 0, li 0, li 0, .p (.nils), .p (.nils), .p (.nils), .p (.nils), .p (.nils), lb false]), (21, .box [li g, li y, li 1, .lsl 22 3 0 ac.length, .lsl 23 2 0 ag.length, .p (.nils), .p (.nils), .p (.nils), lb false]), (22, .row 76 3 (ac.map Aw)), (23, .row 185 2 (ag.map A1))], 24⟩) de (fun ag df => ?_) (fun ag dm => ?_)
     .refine AH <| rs AA <| rn 1 Z <| bq df fun el aw dg => sx Z (B2 aw Z Z Z (by simp only [BF]) <| sx Z (C7 aw Z Z Z <| rl Z <| rs AA <| rn 5 Z <| bq dg fun fj ax dh => sx Z (B2 ax Z Z Z (by simp only [BF]) <| sx Z (C7 ax Z Z Z <| rl Z <| cd Z dh (fun di => ?_) (fun dl => ?_)))))
      .refine Bz AA mixed [0, 1, 2, 3, 4, 5, 6, 7, 8, 9, 10, 11, 12, 13, 14, 15] 16 (by kernel_rfl) Z Z Z ?_
       exact Au 9 Z <| bq di fun em ay dj => As Z (Aj Z (B2 ay Z Z Z (by simp only [BF]) <| As Z (Gy Z (C7 ay Z Z Z <| Au 2 Z <| bq dj fun fk bn dk => As Z (JS Z (BY (enc := A1) (l := v.2) (m := [(⟨el.elem, em⟩ : Ao)]) bn (fun _ => ⟨Z, Z⟩) Z Z Z Z Z Z <| BJ Z <| Ag <| AL dk (wk (gi 23 [(23, 38)]) (KW hA _ Z) Z Z Z (.cons Z (.cons Z (.cons Z (.cons (by simp only [BF]; rfl) (.cons Z (.cons Z .nil)))))) (.cons Z Z (.cons Z Z (.cons Z (by simp only [BF]; rfl) (.cons Z Z (.cons Z Z (.cons Z Z (.cons Z Z (.cons Z Z (.cons Z Z (.cons Z Z (.cons Z Z (.cons Z Z .nil)))))))))))))))))))
      exact AE <| Ag <| AL dl (wk (gi 24 []) (KW hA _ Z) Z Z Z (.cons Z (.cons Z (.cons Z (.cons (by simp only [BF]; rfl) (.cons Z (.cons Z .nil)))))) (.cons Z Z (.cons Z Z (.cons Z (by simp only [BF]; rfl) (.cons Z Z (.cons Z Z (.cons Z Z (.cons Z Z (.cons Z Z (.cons Z Z (.cons Z Z (.cons Z Z (.cons Z Z .nil)))))))))))))
     exact rg AA <| rl Z <| Ar dm (wk (gi 24 []) (KW hA _ Z) Z Z Z (.cons Z (.cons Z (.cons Z (.cons (by simp only [BF]; rfl) (.cons Z (.cons Z .nil)))))) (.cons Z Z (.cons Z Z (.cons Z (by simp only [BF]; rfl) (.cons Z Z (.cons Z Z (.cons Z Z (.cons Z Z (.cons Z Z (.cons Z Z (.cons Z Z (.cons Z Z (.cons Z Z .nil)))))))))))))
    refine AV <| AX <| BI dn fun et dp => Ap <| AC <| rs AA <| rl Z <| AF ?_
    cases dp
    exact CW (nt := 56) (sl := [(8, .lpb 20 0)]) (A7.trans (JY 22 (NG (enc := Aw) (l := ac) Z) (.cons 8 (.same _) .nil) (.cons 0 Z Z (.same _) (.cons 1 Z Z (.same _) (.cons 2 Z Z (.same _) (.cons 3 Z Z (.same _) (.cons 4 Z Z (.same _) (.cons 5 Z Z (.same _) (.cons 6 Z Z (.same _) (.cons 18 Z Z (.same _) (.cons 20 Z Z (.box (.cons (.same _) (.cons (.same _) (.cons (.same _) (.cons .hit (.cons (.same _) (.cons (.same _) (.cons (.same _) (.cons (.same _) (.cons (.same _) .nil)))))))))) (.cons 21 Z Z (.box (.cons (.same _) (.cons (.same _) (.cons (.same _) (.cons .hit (.cons (.same _) (.cons (.same _) (.cons (.same _) (.cons (.same _) (.cons (.same _) .nil)))))))))) (.cons 23 Z Z (.same _) .nil)))))))))))) (A7.trans (JY 23 (NG (enc := A1) (l := v.2) Z) (.cons 8 (.same _) .nil) (.cons 0 Z Z (.same _) (.cons 1 Z Z (.same _) (.cons 2 Z Z (.same _) (.cons 3 Z Z (.same _) (.cons 4 Z Z (.same _) (.cons 5 Z Z (.same _) (.cons 6 Z Z (.same _) (.cons 18 Z Z (.same _) (.cons 20 Z Z (.box (.cons (.same _) (.cons (.same _) (.cons (.same _) (.cons (.same _) (.cons .hit (.cons (.same _) (.cons (.same _) (.cons (.same _) (.cons (.same _) .nil)))))))))) (.cons 21 Z Z (.box (.cons (.same _) (.cons (.same _) (.cons (.same _) (.cons (.same _) (.cons .hit (.cons (.same _) (.cons (.same _) (.cons (.same _) (.cons (.same _) .nil)))))))))) .nil))))))))))) (A7.trans (Ep (.cons 8 (.same _) .nil) (.cons 0 Z Z (.same _) (.cons 1 Z Z (.same _) (.cons 2 Z Z (.same _) (.cons 3 Z Z (.same _) (.cons 4 Z Z (.same _) (.cons 5 Z Z (.same _) (.cons 6 Z Z (.same _) (.cons 18 Z Z (.same _) (.cons 20 Z Z (.box (.cons (.same _) (.cons (.same _) (.cons (.same _) (.cons (.same _) (.cons (.same _) (.cons (.nil 2) (.cons (.same _) (.cons (.same _) (.cons (.same _) .nil)))))))))) (.cons 21 Z Z (.same _) .nil))))))))))) (A7.trans (Ep (.cons 8 (.same _) .nil) (.cons 0 Z Z (.same _) (.cons 1 Z Z (.same _) (.cons 2 Z Z (.same _) (.cons 3 Z Z (.same _) (.cons 4 Z Z (.same _) (.cons 5 Z Z (.same _) (.cons 6 Z Z (.same _) (.cons 18 Z Z (.same _) (.cons 20 Z Z (.box (.cons (.same _) (.cons (.same _) (.cons (.same _) (.cons (.same _) (.cons (.same _) (.cons (.same _) (.cons (.nil 1) (.cons (.same _) (.cons (.same _) .nil)))))))))) (.cons 21 Z Z (.same _) .nil))))))))))) (A7.trans (Ep (.cons 8 (.same _) .nil) (.cons 0 Z Z (.same _) (.cons 1 Z Z (.same _) (.cons 2 Z Z (.same _) (.cons 3 Z Z (.same _) (.cons 4 Z Z (.same _) (.cons 5 Z Z (.same _) (.cons 6 Z Z (.same _) (.cons 18 Z Z (.same _) (.cons 20 Z Z (.box (.cons (.same _) (.cons (.same _) (.cons (.same _) (.cons (.same _) (.cons (.same _) (.cons (.same _) (.cons (.same _) (.cons (.nil 1) (.cons (.same _) .nil)))))))))) (.cons 21 Z Z (.same _) .nil))))))))))) (wk (gi 21 []) (KW hA _ Z) Z Z Z (.cons Z .nil) (.cons Z Z (.cons Z Z (.cons Z (by simp only [BF]; rfl) (.cons Z Z (.cons Z Z (.cons Z Z (.cons Z Z (.cons Z Z (.cons Z Z .nil))))))))))))))) Z
   exact rn 1 Z <| bq dq fun fl bo dr => sx Z (BY (enc := BK) (l := b.1) (m := [(⟨g, y, 1, o.1, o.2, ([] : List Ao), ([] : List Int), ([] : List Int), false⟩ : Ai)]) bo (fun _ => ⟨Z, Z⟩) Z Z Z Z Z Z <| rl Z <| AV <| AX <| Ap <| Ar dr (wk [(0, 0), (1, 22), (2, 2), (3, 4), (4, 5), (5, 6)] (free hA _) Z Z Z (.cons Z (.cons Z (.cons Z (.cons Z (.cons Z .nil))))) (.cons Z Z (.cons Z Z (.cons Z (by simp only [BF]; rfl) (.cons Z Z (.cons Z Z (.cons Z Z .nil))))))))
  refine AE <| AC <| rs AA <| rn 2 Z <| bq ds fun aa bp dt => sx Z (AM (CG _ _ _ bp) (.inl Z) Z Z Z <| rl Z <| AB <| rs AA <| rl Z <| cd Z dt (fun du => ?_) (fun ea => ?_))
  .refine rs AA <| rn 3 Z <| sx Z (CT AA (fun q : ((List Ab) × (List Ao)) => .p (.agg [.int .i64 g, .int .i64 (-1), .int .i64 3, .slice 3 (q.1.map Aw), .slice 2 (q.2.map A1), .slice 2 (([] : List Ao).map A1), .slice 1 (([] : List Int).map AZ), .slice 1 (([] : List Int).map AZ), .bool false])) (fun q : ((List Ab) × (List Ao)) => [(0, .box [li d.1, li d.2.1]), (1, .row 72 9 (b.1.map BK)), (2, .box [li j.1.elem, .lsl 4 3 0 (A5 b.2.1 (AO ((b.2.1.length : Int) - 1)) (⟨e.elem, e.in_, c.out⟩ : Ab)).length, .lsl 5 1 0 (A5 b.2.2.1 (AO ((b.2.1.length : Int) - 1)) c.pos).length, .lsl 6 1 0 (A5 b.2.2.2 (AO ((b.2.1.length : Int) - 1)) i).length]), (3, .box [li c.out, li c.pos]), (4, .row 76 3 ((A5 b.2.1 (AO ((b.2.1.length : Int) - 1)) (⟨e.elem, e.in_, c.out⟩ : Ab)).map Aw)), (5, .row 3 1 ((A5 b.2.2.1 (AO ((b.2.1.length : Int) - 1)) c.pos).map AZ)), (6, .row 215 1 ((A5 b.2.2.2 (AO ((b.2.1.length : Int) - 1)) i).map (Da 2 Dm))), (18, .box [li x.elem, li c.out]), (20, .box [li aa.1.elem, li aa.1.fin]), (21, .box [li g, li (-1), li 3, ls 3 Aw q.1, ls 2 A1 q.2, ls 2 A1 ([] : List Ao), ls 1 AZ ([] : List Int), ls 1 AZ ([] : List Int), lb false])]) 22 du Tryz.func148 56 [.cell 8 72] [(0, .lpb 2 0), (1, li g), (2, li (-1)), (3, li 3)] Z Z Z Z Z Z Z Z (fun A hA q dv => ?_) (fun q d8 => ?_))
   .refine rs AA <| rl Z <| rs AA <| rn 7 Z <| bq dv fun ad br dw => sx Z (N5 (EW _ _ br) (fun _ => Z) Z Z (Dc.eq (.cons (.one (.own (enc := Aw) (A5 b.2.1 (AO ((b.2.1.length : Int) - 1)) (⟨e.elem, e.in_, c.out⟩ : Ab)) Z (by simp only [BF]))) .nil)) <| rl Z <| AB <| rs AA <| rl Z <| AH ?_)
    apply lp (a := q) (fun w : (Int × (List Ao)) => ⟨56, [(0, .lpb 2 0), (8, .lpb 21 0), (9, .lpb 22 0), (24, .lsl 4 3 0 (A5 b.2.1 (AO ((b.2.1.length : Int) - 1)) (⟨e.elem, e.in_, c.out⟩ : Ab)).length), (25, li ((A5 b.2.1 (AO ((b.2.1.length : Int) - 1)) (⟨e.elem, e.in_, c.out⟩ : Ab)).length : Int)), (26, li w.1)], [(0, .box [li d.1, li d.2.1]), (1, .row 72 9 (b.1.map BK)), (2, .box [li j.1.elem, .lsl 4 3 0 (A5 b.2.1 (AO ((b.2.1.length : Int) - 1)) (⟨e.elem, e.in_, c.out⟩ : Ab)).length, .lsl 5 1 0 (A5 b.2.2.1 (AO ((b.2.1.length : Int) - 1)) c.pos).length, .lsl 6 1 0 (A5 b.2.2.2 (AO ((b.2.1.length : Int) - 1)) i).length]), (3, .box [li c.out, li c.pos]), (4, .row 76 3 ((A5 b.2.1 (AO ((b.2.1.length : Int) - 1)) (⟨e.elem, e.in_, c.out⟩ : Ab)).map Aw)), (5, .row 3 1 ((A5 b.2.2.1 (AO ((b.2.1.length : Int) - 1)) c.pos).map AZ)), (6, .row 215 1 ((A5 b.2.2.2 (AO ((b.2.1.length : Int) - 1)) i).map (Da 2 Dm))), (18, .box [li x.elem, li c.out]), (20, .box [li aa.1.elem, li aa.1.fin]), (21, .box [li 0, li 0, li 0, .p (.nils), .p (.nils), .p (.nils), .p (.nils), .p (.nils), lb false]), (22, .box [li g, li (-1), li 3, .lsl 23 3 0 ad.length, .lsl 24 2 0 w.2.length, .p (.nils), .p (.nils), .p (.nils), lb false]), (23, .row 76 3 (ad.map Aw)), (24, .row 185 2 (w.2.map A1))], 25⟩) dw
    . exact A7.trans (CE 23 4 185 2 Z Z Z Z) (wk (gi 22 [(22, 23), (23, 22), (24, 24)]) (KW hA _ Z) Z Z Z (.cons Z (.cons Z (.cons Z (.cons (by simp only [BF]; rfl) (.cons Z (.cons Z .nil)))))) (.cons Z Z (.cons Z Z (.cons Z (by simp only [BF]; rfl) (.cons Z Z (.cons Z Z (.cons Z Z (.cons Z Z (.cons Z Z (.cons Z Z (.cons Z Z (.cons Z Z (.cons Z Z (.cons Z Z .nil))))))))))))))
    intro w e1 a6
    unfold Lc at a6
    refine rs AA <| rl Z <| AB <| cd Z a6 (fun dx => ?_) (fun d6 => ?_)
    .refine AE <| AC <| jb (fun ah : (List Ao) => ⟨56, [(0, .lpb 2 0), (8, .lpb 21 0), (9, .lpb 22 0), (24, .lsl 4 3 0 (A5 b.2.1 (AO ((b.2.1.length : Int) - 1)) (⟨e.elem, e.in_, c.out⟩ : Ab)).length), (25, li ((A5 b.2.1 (AO ((b.2.1.length : Int) - 1)) (⟨e.elem, e.in_, c.out⟩ : Ab)).length : Int)), (26, li w.1)], [(0, .box [li d.1, li d.2.1]), (1, .row 72 9 (b.1.map BK)), (2, .box [li j.1.elem, .lsl 4 3 0 (A5 b.2.1 (AO ((b.2.1.length : Int) - 1)) (⟨e.elem, e.in_, c.out⟩ : Ab)).length, .lsl 5 1 0 (A5 b.2.2.1 (AO ((b.2.1.length : Int) - 1)) c.pos).length, .lsl 6 1 0 (A5 b.2.2.2 (AO ((b.2.1.length : Int) - 1)) i).length]), (3, .box [li c.out, li c.pos]), (4, .row 76 3 ((A5 b.2.1 (AO ((b.2.1.length : Int) - 1)) (⟨e.elem, e.in_, c.out⟩ : Ab)).map Aw)), (5, .row 3 1 ((A5 b.2.2.1 (AO ((b.2.1.length : Int) - 1)) c.pos).map AZ)), (6, .row 215 1 ((A5 b.2.2.2 (AO ((b.2.1.length : Int) - 1)) i).map (Da 2 Dm))), (18, .box [li x.elem, li c.out]), (20, .box [li aa.1.elem, li aa.1.fin]), (21, .box [li 0, li 0, li 0, .p (.nils), .p (.nils), .p (.nils), .p (.nils), .p (.nils), lb false]), (22, .box [li g, li (-1), li 3, .lsl 23 3 0 ad.length, .lsl 24 2 0 ah.length, .p (.nils), .p (.nils), .p (.nils), lb false]), (23, .row 76 3 (ad.map Aw)), (24, .row 185 2 (ah.map A1))], 25⟩) dx (fun ah dy => ?_) (fun ah d5 => ?_)
     .refine AH <| rs AA <| rn 1 Z <| bq dy fun eo az dz => sx Z (B2 az Z Z Z (by simp only [BF]) <| sx Z (C7 az Z Z Z <| rl Z <| rs AA <| rn 5 Z <| bq dz fun fm a0 d0 => sx Z (B2 a0 Z Z Z (by simp only [BF]) <| sx Z (C7 a0 Z Z Z <| rl Z <| cd Z d0 (fun d1 => ?_) (fun d4 => ?_)))))
      .refine Bz AA mixed [0, 1, 2, 3, 4, 5, 6, 7, 8, 9, 10, 11, 12, 13, 14, 15] 16 (by kernel_rfl) Z Z Z ?_
       exact Au 9 Z <| bq d1 fun ep a1 d2 => As Z (Aj Z (B2 a1 Z Z Z (by simp only [BF]) <| As Z (Gy Z (C7 a1 Z Z Z <| Au 2 Z <| bq d2 fun fo bs d3 => As Z (JS Z (BY (enc := A1) (l := w.2) (m := [(⟨eo.elem, ep⟩ : Ao)]) bs (fun _ => ⟨Z, Z⟩) Z Z Z Z Z Z <| BJ Z <| Ag <| AL d3 (wk (gi 24 [(24, 39)]) (KW hA _ Z) Z Z Z (.cons Z (.cons Z (.cons Z (.cons (by simp only [BF]; rfl) (.cons Z (.cons Z .nil)))))) (.cons Z Z (.cons Z Z (.cons Z (by simp only [BF]; rfl) (.cons Z Z (.cons Z Z (.cons Z Z (.cons Z Z (.cons Z Z (.cons Z Z (.cons Z Z (.cons Z Z (.cons Z Z (.cons Z Z .nil))))))))))))))))))))
      exact AE <| Ag <| AL d4 (wk (gi 25 []) (KW hA _ Z) Z Z Z (.cons Z (.cons Z (.cons Z (.cons (by simp only [BF]; rfl) (.cons Z (.cons Z .nil)))))) (.cons Z Z (.cons Z Z (.cons Z (by simp only [BF]; rfl) (.cons Z Z (.cons Z Z (.cons Z Z (.cons Z Z (.cons Z Z (.cons Z Z (.cons Z Z (.cons Z Z (.cons Z Z (.cons Z Z .nil))))))))))))))
     exact rg AA <| rl Z <| Ar d5 (wk (gi 25 []) (KW hA _ Z) Z Z Z (.cons Z (.cons Z (.cons Z (.cons (by simp only [BF]; rfl) (.cons Z (.cons Z .nil)))))) (.cons Z Z (.cons Z Z (.cons Z (by simp only [BF]; rfl) (.cons Z Z (.cons Z Z (.cons Z Z (.cons Z Z (.cons Z Z (.cons Z Z (.cons Z Z (.cons Z Z (.cons Z Z (.cons Z Z .nil))))))))))))))
    refine AV <| AX <| BI d6 fun eu d7 => Ap <| AC <| rs AA <| rl Z <| AF ?_
    cases d7
    exact CW (nt := 56) (sl := [(8, .lpb 21 0)]) (A7.trans (JY 23 (NG (enc := Aw) (l := ad) Z) (.cons 8 (.same _) .nil) (.cons 0 Z Z (.same _) (.cons 1 Z Z (.same _) (.cons 2 Z Z (.same _) (.cons 3 Z Z (.same _) (.cons 4 Z Z (.same _) (.cons 5 Z Z (.same _) (.cons 6 Z Z (.same _) (.cons 18 Z Z (.same _) (.cons 20 Z Z (.same _) (.cons 21 Z Z (.box (.cons (.same _) (.cons (.same _) (.cons (.same _) (.cons .hit (.cons (.same _) (.cons (.same _) (.cons (.same _) (.cons (.same _) (.cons (.same _) .nil)))))))))) (.cons 22 Z Z (.box (.cons (.same _) (.cons (.same _) (.cons (.same _) (.cons .hit (.cons (.same _) (.cons (.same _) (.cons (.same _) (.cons (.same _) (.cons (.same _) .nil)))))))))) (.cons 24 Z Z (.same _) .nil))))))))))))) (A7.trans (JY 24 (NG (enc := A1) (l := w.2) Z) (.cons 8 (.same _) .nil) (.cons 0 Z Z (.same _) (.cons 1 Z Z (.same _) (.cons 2 Z Z (.same _) (.cons 3 Z Z (.same _) (.cons 4 Z Z (.same _) (.cons 5 Z Z (.same _) (.cons 6 Z Z (.same _) (.cons 18 Z Z (.same _) (.cons 20 Z Z (.same _) (.cons 21 Z Z (.box (.cons (.same _) (.cons (.same _) (.cons (.same _) (.cons (.same _) (.cons .hit (.cons (.same _) (.cons (.same _) (.cons (.same _) (.cons (.same _) .nil)))))))))) (.cons 22 Z Z (.box (.cons (.same _) (.cons (.same _) (.cons (.same _) (.cons (.same _) (.cons .hit (.cons (.same _) (.cons (.same _) (.cons (.same _) (.cons (.same _) .nil)))))))))) .nil)))))))))))) (A7.trans (Ep (.cons 8 (.same _) .nil) (.cons 0 Z Z (.same _) (.cons 1 Z Z (.same _) (.cons 2 Z Z (.same _) (.cons 3 Z Z (.same _) (.cons 4 Z Z (.same _) (.cons 5 Z Z (.same _) (.cons 6 Z Z (.same _) (.cons 18 Z Z (.same _) (.cons 20 Z Z (.same _) (.cons 21 Z Z (.box (.cons (.same _) (.cons (.same _) (.cons (.same _) (.cons (.same _) (.cons (.same _) (.cons (.nil 2) (.cons (.same _) (.cons (.same _) (.cons (.same _) .nil)))))))))) (.cons 22 Z Z (.same _) .nil)))))))))))) (A7.trans (Ep (.cons 8 (.same _) .nil) (.cons 0 Z Z (.same _) (.cons 1 Z Z (.same _) (.cons 2 Z Z (.same _) (.cons 3 Z Z (.same _) (.cons 4 Z Z (.same _) (.cons 5 Z Z (.same _) (.cons 6 Z Z (.same _) (.cons 18 Z Z (.same _) (.cons 20 Z Z (.same _) (.cons 21 Z Z (.box (.cons (.same _) (.cons (.same _) (.cons (.same _) (.cons (.same _) (.cons (.same _) (.cons (.same _) (.cons (.nil 1) (.cons (.same _) (.cons (.same _) .nil)))))))))) (.cons 22 Z Z (.same _) .nil)))))))))))) (A7.trans (Ep (.cons 8 (.same _) .nil) (.cons 0 Z Z (.same _) (.cons 1 Z Z (.same _) (.cons 2 Z Z (.same _) (.cons 3 Z Z (.same _) (.cons 4 Z Z (.same _) (.cons 5 Z Z (.same _) (.cons 6 Z Z (.same _) (.cons 18 Z Z (.same _) (.cons 20 Z Z (.same _) (.cons 21 Z Z (.box (.cons (.same _) (.cons (.same _) (.cons (.same _) (.cons (.same _) (.cons (.same _) (.cons (.same _) (.cons (.same _) (.cons (.nil 1) (.cons (.same _) .nil)))))))))) (.cons 22 Z Z (.same _) .nil)))))))))))) (wk (gi 22 []) (KW hA _ Z) Z Z Z (.cons Z .nil) (.cons Z Z (.cons Z Z (.cons Z (by simp only [BF]; rfl) (.cons Z Z (.cons Z Z (.cons Z Z (.cons Z Z (.cons Z Z (.cons Z Z (.cons Z Z .nil)))))))))))))))) Z
   exact rn 1 Z <| bq d8 fun fp bt d9 => sx Z (BY (enc := BK) (l := b.1) (m := [(⟨g, (-1), 3, q.1, q.2, ([] : List Ao), ([] : List Int), ([] : List Int), false⟩ : Ai)]) bt (fun _ => ⟨Z, Z⟩) Z Z Z Z Z Z <| rl Z <| AV <| AX <| Ap <| Ar d9 (wk [(0, 0), (1, 23), (2, 2), (3, 4), (4, 5), (5, 6)] (free hA _) Z Z Z (.cons Z (.cons Z (.cons Z (.cons Z (.cons Z .nil))))) (.cons Z Z (.cons Z Z (.cons Z (by simp only [BF]; rfl) (.cons Z Z (.cons Z Z (.cons Z Z .nil))))))))
  exact AE <| AC <| rs AA <| rl Z <| AV <| Lt Z <| BI ea fun ev eb => Lt Z <| AX <| AAz <| Ap <| Ar eb (wk (gi 3 [(3, 4), (4, 5), (5, 6)]) (free hA _) Z Z Z (.cons Z (.cons Z (.cons Z (.cons Z (.cons Z .nil))))) (.cons Z Z (.cons Z Z (.cons Z (by simp only [BF]; rfl) (.cons Z Z (.cons Z Z (.cons Z Z .nil)))))))
 refine AV <| AX <| BI ec fun ew ed => Ap <| AC <| AV <| AAz <| Lt Z <| BI ed fun ex ee => Ap <| AC <| rs AA <| rl Z <| AF <| Iq ?_
 cases ee
 exact er (Ip Z (.one (.own (enc := BK) b.1 Z Z))) Le.rfl
end Go.E
/- Plain functions, and walks in step with them. Written by a program (gen.py). No condition. -/
set_option maxRecDepth 100000
set_option maxHeartbeats 1000000
namespace Go.E
open Go Go.RowKit Go.Proofs
noncomputable def Ee (b : Ay) (e : Int) (a : Int × (List Ai)) : Option ((Int × (List Ai)) ⊕ ((List Ai) × Int)) :=
 bif decide (a.1 < e) then (KM b a.1).bind fun c => (Bu a.2 c).bind fun d => some (.inl (AO (a.1 + 1), d)) else (bif decide (64 < (a.2.length : Int)) then some (([] : List Ai), 3) else some (a.2, 0)).map .inr
noncomputable def I9 (a : Ay) : Option ((List Ai) × Int) :=
 (Dp a).bind fun b => AQ (Ee a b) (0, ([] : List Ai))
theorem XK (c : Ay) (r : ((List Ai) × Int)) (h : I9 c = some r) : ZU Tryz.prog 81 [] 0 [lq (Aq c)] (.tup [.lsl 0 9 0 r.1.length, li r.2]) [(0, .row 72 9 (r.1.map BK))] 1 := by
 refine fnM AA Tryz.func81 21 [.tmp 2, .tmp 3] [(0, lq (Aq c))] Z Z Z Z Z Z (fun A hA => ?_)
 unfold I9 at h
 refine rs AA <| rl Z <| rs AA <| rl Z <| AB <| rs AA <| rn 1 Z <| bq h fun u g s => sx Z (AM (QB _ _ g) (.inl Z) Z Z Z <| rl Z <| AH ?_)
 apply lp (a := r) (fun b : (Int × (List Ai)) => ⟨21, [(0, lq (Aq c)), (4, .lsl 0 9 0 b.2.length), (7, li u), (8, li b.1)], [(0, .row 72 9 (b.2.map BK))], 1⟩) s
 . exact A7.trans (Ci 4 72 9 Z) (wj hA [(0, 0)] Z Z Z Z)
 intro b w d
 unfold Ee at d
 refine rs AA <| rl Z <| AB <| cd Z d (fun i => ?_) (fun n => ?_)
 .exact AE <| AC <| AB <| AH <| rs AA <| rl Z <| rg AA <| rn 3 Z <| bq i fun t e j => sx Z (AM (YR _ _ _ e) (.inr Z) Z Z Z <| bq j fun x f k => sx Z (BY (enc := BK) (l := b.2) (m := t) f (fun _ => ⟨Z, Z⟩) Z Z Z Z Z Z <| rl Z <| Ag <| AC <| rg AA <| rl Z <| Ar k (wj hA [(0, 1)] Z Z Z Z)))
 refine AV <| AX <| CP n fun v o => Ap <| AC <| AB <| rs AA <| rl Z <| cd Z o (fun p => ?_) (fun q => ?_)
 .refine rs AA <| rl Z <| AF <| AG ?_
  cases p
  exact CW (nt := 21) (sl := [(2, .lsl 0 9 0 ([] : List Ai).length), (3, li 3)]) (A7.trans (Ci 2 72 9 Z) (wj hA [(0, 1)] Z Z Z Z)) Z
 refine AE <| AC <| rs AA <| rl Z <| AF ?_
 cases q
 exact CW (nt := 21) (sl := [(2, .lsl 0 9 0 b.2.length), (3, li 0)]) (wj hA [(0, 0)] Z Z Z Z) Z
noncomputable def DN (a : (List Ao)) : Option (List Ao) :=
 MM a (some []) ((Bu ([] : List Ao) a).bind fun b => some b)
theorem MZ (a : (List Ao)) (r : (List Ao)) (h : DN a = some r) : Ax Tryz.prog 114 [.slice 2 (a.map A1)] (· = .slice 2 (r.map A1)) := by
 refine fn AA Tryz.func114 Z Z 8 Z [.tmp 2] Z [(0, .p (.slice 2 (a.map A1)))] Z Z fun A hA => ?_
 unfold DN at h
 refine rs AA <| rl Z <| AB <| rs AA <| rn 1 Z <| sx Z (J9 h Z Z Z (fun d => ?_) (fun e => ?_))
 .refine rl Z <| RH Z <| rs AA <| rl Z <| AF <| AG ?_
  cases d
  exact er Z (Le.nil _)
 refine rl Z <| Si Z <| AE <| AC <| rs AA <| rn 2 Z <| bq e fun f b c => sx Z (BY (enc := A1) (l := ([] : List Ao)) (m := a) b (fun _ => ⟨Z, Z⟩) Z Z Z Z Z Z <| rl Z <| AF ?_)
 have hr := Option.some.inj c; subst hr
 exact er (Ip Z (.one (.own (enc := A1) f Z Z))) Le.rfl
noncomputable def B0 (a : Ay) : Option AK :=
 (HY a.p).bind fun b => some b
theorem HN (a : Ay) (r : AK) (h : B0 a = some r) : Ax Tryz.prog 49 [.place (Aq a) 0] (· = .agg (AU r)) := by
 refine fn AA Tryz.func49 Z Z 8 Z [.cell 2 27] Z [(0, .p (.place (Aq a) 0))] Z Z fun A hA => ?_
 unfold B0 at h
 refine rs AA <| rl Z <| rs AA <| rn 4 Z <| bq h fun d b c => sx Z (AM (Re _ _ b) (.inr Z) Z Z Z <| rl Z <| AF ?_)
 have hr := Option.some.inj c; subst hr
 exact er Z Le.rfl
noncomputable def Er (g : Ay) (e : (Int × (List AI))) (c : Ab) (b : (List Int)) (a : Int × (List AI)) : Option ((Int × (List AI)) ⊕ ((Int × (List AI)) ⊕ (List AI))) :=
 bif decide (a.1 < (b.length : Int)) then (((AY b a.1).bind fun d => (Bd g (⟨c.elem, d⟩ : AI)).bind fun h => bif h.2 then (Bu a.2 [(⟨c.elem, d⟩ : AI)]).bind fun i => some i else some a.2 : Option ((List AI)))).bind fun (f : (List AI)) => some (.inl (AO (a.1 + 1), f)) else some (.inr (.inl (AO (e.1 + 1), a.2)))
noncomputable def Gm (c : Ay) (d : Ai) (b : Int × (List AI)) : Option ((Int × (List AI)) ⊕ (List AI)) :=
 bif decide (b.1 < (d.steps.length : Int)) then (AY d.steps b.1).bind fun a => (((BS c a.elem).bind fun e => bif (e == 2) then some [AO (3 - (if a.out > a.in_ then a.out else a.in_))] else bif (e == 3) then bif decide (1 < a.in_) then some [0, 1] else some [2, 3] else some ([] : List Int) : Option ((List Int)))).bind fun (f : (List Int)) => AQ (Er c b a f) (0, b.2) else some (.inr b.2)
noncomputable def HB (a : Ay) (b : Ai) : Option (List AI) :=
 AQ (Gm a b) (0, ([] : List AI))
theorem Ua (e : Ay) (b : Ai) (r : (List AI)) (h : HB e b = some r) : Ax Tryz.prog 115 [.place (Aq e) 0, .agg (BK b)] (· = .slice 2 (r.map AT)) := by
 refine fn AA Tryz.func115 Z Z 67 Z [.tmp 4] Z [(0, .p (.place (Aq e) 0)), (1, .p (.agg (BK b)))] Z Z fun A hA => ?_
 unfold HB at h
 refine rs AA <| rl Z <| rs AA <| rl Z <| AB <| rs AA <| rn 2 Z <| sx Z (Ad Z Z <| rl Z <| AH ?_)
 apply lp (a := r) (fun c : (Int × (List AI)) => ⟨67, [(0, lq (Aq e)), (5, .lsl 0 2 0 c.2.length), (16, ls 3 Aw b.steps), (17, li (b.steps.length : Int)), (18, li c.1)], [(0, .row 40 2 (c.2.map AT))], 1⟩) h
 . exact A7.trans (Ci 5 40 2 Z) (wf hA [(0, 1)] Z Z Z)
 intro c o k
 unfold Gm at k
 refine rs AA <| rl Z <| AB <| cd Z k (fun v => ?_) (fun aq => ?_)
 .refine AE <| AC <| AB <| AH <| rs AA <| bq v fun i q w => sx Z (Af q Z Z Z <| rl Z <| rs AA <| rl Z <| jb (fun d : (List Int) => ⟨67, [(0, lq (Aq e)), (5, .lsl 0 2 0 c.2.length), (7, .lpb 1 0), (8, .lsl 2 1 0 d.length), (16, ls 3 Aw b.steps), (17, li (b.steps.length : Int)), (18, li c.1)], [(0, .row 40 2 (c.2.map AT)), (1, bx (Aw i)), (2, .row 3 1 (d.map AZ))], 3⟩) w (fun d x => ?_) (fun d af => ?_))
  .refine rs AA <| rn 3 Z <| bq x fun ay s y => sx Z (AM (Bs _ _ _ s) (.inl Z) Z Z Z <| rl Z <| AH <| rs AA <| rl Z <| cd Z y (fun z => ?_) (fun aa => ?_))
   .exact rs AA <| rl Z <| rg AA <| rl Z <| Ag <| AL z (wf hA (gi 3 []) Z Z Z)
   refine rs AA <| rl Z <| cd Z aa (fun ab => ?_) (fun ae => ?_)
   .refine rs AA <| rl Z <| rs AA <| rl Z <| cd Z ab (fun ac => ?_) (fun ad => ?_)
    .exact rg AA <| rl Z <| Ag <| AL ac (wf hA [(0, 0), (1, 1), (2, 3)] Z Z Z)
    exact AE <| Ag <| AL ad (wf hA (gi 3 []) Z Z Z)
   exact AE <| Ag <| AL ae (A7.trans (Ci 8 3 1 Z) (wf hA (gi 3 []) Z Z Z))
  refine rs AA <| rl Z <| AH ?_
  apply lp (a := o) (fun f : (Int × (List AI)) => ⟨67, [(0, lq (Aq e)), (5, .lsl 0 2 0 f.2.length), (7, .lpb 1 0), (16, ls 3 Aw b.steps), (17, li (b.steps.length : Int)), (18, li c.1), (43, .lsl 2 1 0 d.length), (44, li (d.length : Int)), (45, li f.1)], [(0, .row 40 2 (f.2.map AT)), (1, bx (Aw i)), (2, .row 3 1 (d.map AZ))], 3⟩) af
  . exact wf hA (gi 3 []) Z Z Z
  intro f ax n
  unfold Er at n
  refine rs AA <| rl Z <| AB <| cd Z n (fun ag => ?_) (fun ao => ?_)
  .refine AE <| AC <| jb (fun g : (List AI) => ⟨67, [(0, lq (Aq e)), (5, .lsl 0 2 0 g.length), (7, .lpb 1 0), (16, ls 3 Aw b.steps), (17, li (b.steps.length : Int)), (18, li c.1), (43, .lsl 2 1 0 d.length), (44, li (d.length : Int)), (45, li f.1)], [(0, .row 40 2 (g.map AT)), (1, bx (Aw i)), (2, .row 3 1 (d.map AZ))], 3⟩) ag (fun g ah => ?_) (fun g an => ?_)
   .refine AH <| rs AA <| bq ah fun au j ai => sx Z (B2 j Z Z Z Z <| sx Z (C7 j Z Z Z <| rl Z <| rs AA <| rl Z <| rs AA <| rn 2 Z <| bq ai fun az t aj => sx Z (AM (CG _ _ _ t) (.inl Z) Z Z Z <| rl Z <| rs AA <| rl Z <| cd Z aj (fun ak => ?_) (fun am => ?_))))
    .exact rg AA <| rn 3 Z <| bq ak fun a0 u al => sx Z (BY (enc := AT) (l := f.2) (m := [(⟨i.elem, au⟩ : AI)]) u (fun _ => ⟨Z, Z⟩) Z Z Z Z Z Z <| rl Z <| Ag <| AL al (wf hA [(0, 6), (1, 1), (2, 2)] Z Z Z))
    exact AE <| Ag <| AL am (wf hA (gi 3 []) Z Z Z)
   exact rg AA <| rl Z <| Ar an (wf hA (gi 3 []) Z Z Z)
  exact AV <| AX <| BI ao fun av ap => Ap <| Ag <| AC <| rg AA <| rl Z <| Ar ap (wf hA [(0, 0)] Z Z Z)
 refine AV <| AX <| BI aq fun aw ar => Ap <| AC <| rs AA <| rl Z <| AF ?_
 cases ar
 exact er (Ip Z (.one (.own (enc := AT) c.2 Z Z))) Le.rfl
noncomputable def JA (a : Ab) (b : Int) : Option Bool :=
 some (a.elem == b)
theorem Ub (a : Ab) (b : Int) (r : Bool) (h : JA a b = some r) : Ax Tryz.prog 151 [.agg (Aw a), .place (AZ b) 0] (· = .bool r) := by
 refine fn AA Tryz.func151 Z Z 8 Z [.tmp 3] Z [(0, .p (.agg (Aw a))), (1, .p (.place (AZ b) 0))] Z Z fun A hA => ?_
 unfold JA at h
 refine rs AA <| rl Z <| rs AA <| rl Z <| AF ?_
 cases h
 exact er Z Le.rfl
noncomputable def GL (b : Ai) (c : Int) (a : Int) : Option (Int ⊕ Int) :=
 bif decide (a < (b.steps.length : Int)) then (AY b.steps a).bind fun d => (JA d c).bind fun e => bif e then some (.inr a) else some (.inl (AO (a + 1))) else some (.inr (-1))
noncomputable def JB (c : Ai) (d : Int) : Option Bool :=
 ((((AQ (GL c d) 0 : Option (Int))).bind fun (b : Int) => some (decide (0 <= b)) : Option (Bool))).bind fun (a : Bool) => some a
theorem XL (b : Ai) (d : Int) (r : Bool) (h : JB b d = some r) : Ax Tryz.prog 117 [.agg (BK b), .int .i64 d] (· = .bool r) := by
 refine fn AA Tryz.func117 Z Z 9 Z [.tmp 4] Z [(0, .p (.agg (BK b))), (1, .p (.int .i64 d))] Z Z fun A hA => ?_
 unfold JB at h
 refine rs AA <| rl Z <| rs AA <| rn 3 Z <| sx Z (CT AA (fun e : Bool => lb e) (fun e : Bool => [(0, bx (BK b)), (1, .box [li d])]) 2 h Tryz.func150 9 [.tmp 4] [(0, ls 3 Aw b.steps), (1, .fn 151 [.lpb 1 0])] Z Z Z Z Z Z Z Z (fun A hA e k => ?_) (fun e x => ?_))
 .refine rs AA <| rl Z <| rs AA <| rn 2 Z <| sx Z (CT AA (fun c : Int => li c) (fun c : Int => [(0, bx (BK b)), (1, .box [li d])]) 2 k Tryz.func167 19 [.tmp 4] [(0, ls 3 Aw b.steps), (1, .fn 151 [.lpb 1 0])] Z Z Z Z Z Z Z Z (fun A hA c l => ?_) (fun c w => ?_))
  .refine rs AA <| rl Z <| AB <| rs AA <| rn 1 Z <| sx Z (Ad Z Z <| rl Z <| AH ?_)
   apply lp (a := c) (fun f : Int => ⟨19, [(0, ls 3 Aw b.steps), (1, .fn 151 [.lpb 1 0]), (7, li (b.steps.length : Int)), (8, li f)], [(0, bx (BK b)), (1, .box [li d])], 2⟩) l
   . exact wj hA [(0, 0), (1, 1)] Z Z Z Z
   intro f aa g
   unfold GL at g
   refine rs AA <| rl Z <| AB <| cd Z g (fun m => ?_) (fun u => ?_)
   .refine AE <| AC <| AB <| AH <| rs AA <| rl Z <| rs AA <| rn 3 Z <| bq m fun ab i n => sx Z (Af i Z Z Z <| rn 1 Z <| bq n fun ac j o => sx Z (AM (Ub _ _ _ j) (.inl Z) Z Z (Dc.eq (.cons (.one (.p _)) (.cons (.box Z (.cons (.p _) .nil)) .nil))) <| rl Z <| cd Z o (fun q => ?_) (fun t => ?_)))
    .refine rs AA <| rl Z <| AF <| AN <| AG <| A2 q fun y s => AN <| AG ?_
     have hr := Option.some.inj s; subst hr
     exact CW (nt := 19) (sl := [(4, li f)]) (wj hA [(0, 0), (1, 1)] Z Z Z Z) Z
    exact AE <| Ag <| AC <| rg AA <| rl Z <| Ar t (wj hA [(0, 0), (1, 1)] Z Z Z Z)
   refine AV <| AX <| BI u fun z v => Ap <| AC <| rs AA <| rl Z <| AF ?_
   cases v
   exact CW (nt := 19) (sl := [(4, li (-1))]) (wj hA [(0, 0), (1, 1)] Z Z Z Z) Z
  refine rl Z <| AF ?_
  cases w
  exact CW (nt := 9) (sl := [(4, lb (decide (0 <= c)))]) (wj hA [(0, 0), (1, 1)] Z Z Z Z) Z
 refine rl Z <| AF ?_
 have hr := Option.some.inj x; subst hr
 exact er Z Le.rfl
noncomputable def Cn (b : (List Int)) (c : Int) (a : Int) : Option (Int ⊕ Int) :=
 bif decide (a < (b.length : Int)) then (AY b a).bind fun d => bif (c == d) then some (.inr a) else some (.inl (AO (a + 1))) else some (.inr (-1))
noncomputable def Es (a : (List Int)) (b : Int) : Option Int :=
 AQ (Cn a b) 0
theorem PO (b : (List Int)) (c : Int) (r : Int) (h : Es b c = some r) : Ax Tryz.prog 73 [.slice 1 (b.map AZ), .int .i64 c] (· = .int .i64 r) := by
 refine fn AA Tryz.func73 Z Z 19 Z [.tmp 4] Z [(0, .p (.slice 1 (b.map AZ))), (1, .p (.int .i64 c))] Z Z fun A hA => ?_
 unfold Es at h
 refine rs AA <| rl Z <| AB <| rs AA <| rn 1 Z <| sx Z (Ad Z Z <| rl Z <| AH ?_)
 apply lp (a := r) (fun e : Int => ⟨19, [(0, ls 1 AZ b), (1, li c), (7, li (b.length : Int)), (8, li e)], [], 0⟩) h
 . exact wf hA [] Z Z Z
 intro e s d
 unfold Cn at d
 refine rs AA <| rl Z <| AB <| cd Z d (fun n => ?_) (fun l => ?_)
 .refine AE <| AC <| AB <| AH <| rs AA <| rl Z <| rs AA <| rn 3 Z <| bq n fun t f g => sx Z (Af f Z Z Z <| rl Z <| cd Z g (fun i => ?_) (fun k => ?_))
  .refine rs AA <| rl Z <| AF <| AN <| AG <| A2 i fun o j => AN <| AG ?_
   have hr := Option.some.inj j; subst hr
   exact er Z Le.rfl
  exact AE <| Ag <| AC <| rg AA <| rl Z <| Ar k (wf hA [] Z Z Z)
 refine AV <| AX <| BI l fun q m => Ap <| AC <| rs AA <| rl Z <| AF ?_
 cases m
 exact er Z Le.rfl
noncomputable def BZ (a : (List Int)) (b : Int) : Option Bool :=
 (Es a b).bind fun c => some (decide (0 <= c))
theorem Co (a : (List Int)) (b : Int) (r : Bool) (h : BZ a b = some r) : Ax Tryz.prog 46 [.slice 1 (a.map AZ), .int .i64 b] (· = .bool r) := by
 refine fn AA Tryz.func46 Z Z 9 Z [.tmp 4] Z [(0, .p (.slice 1 (a.map AZ))), (1, .p (.int .i64 b))] Z Z fun A hA => ?_
 unfold BZ at h
 refine rs AA <| rl Z <| rs AA <| rn 2 Z <| bq h fun e c d => sx Z (AM (PO _ _ _ c) (.inl Z) Z Z Z <| rl Z <| AF ?_)
 cases d
 exact er Z Le.rfl
noncomputable def CH (b : (List Ao)) (c : Ao) (a : Int) : Option (Int ⊕ Int) :=
 bif decide (a < (b.length : Int)) then (AY b a).bind fun d => bif (c == d) then some (.inr a) else some (.inl (AO (a + 1))) else some (.inr (-1))
noncomputable def DO (a : (List Ao)) (b : Ao) : Option Int :=
 AQ (CH a b) 0
theorem Ma (c : (List Ao)) (b : Ao) (r : Int) (h : DO c b = some r) : Ax Tryz.prog 152 [.slice 2 (c.map A1), .agg (A1 b)] (· = .int .i64 r) := by
 refine fn AA Tryz.func152 Z Z 19 Z [.tmp 4] Z [(0, .p (.slice 2 (c.map A1))), (1, .p (.agg (A1 b)))] Z Z fun A hA => ?_
 unfold DO at h
 refine rs AA <| rl Z <| AB <| rs AA <| rn 1 Z <| sx Z (Ad Z Z <| rl Z <| AH ?_)
 apply lp (a := r) (fun e : Int => ⟨19, [(0, ls 2 A1 c), (3, .lpb 0 0), (7, li (c.length : Int)), (8, li e)], [(0, .box [li b.elem, li b.pos])], 1⟩) h
 . exact wf hA [(0, 0)] Z Z Z
 intro e t d
 unfold CH at d
 refine rs AA <| rl Z <| AB <| cd Z d (fun n => ?_) (fun l => ?_)
 .refine AE <| AC <| AB <| AH <| rs AA <| rl Z <| AB ?_
  refine Bz AA mixed [0, 1, 2, 3, 4, 5] 6 (by kernel_rfl) Z Z Z ?_
  refine Au 3 Z <| bq n fun o f g => As Z (Aj Z (Af f Z Z Z <| Au 1 Z <| As Z (PA (ZV b o) Z Z Z Z Z <| BJ Z <| AC <| cd Z g (fun i => ?_) (fun k => ?_))))
  .refine rs AA <| rl Z <| AF <| AN <| AG <| A2 i fun q j => AN <| AG ?_
   have hr := Option.some.inj j; subst hr
   exact er Z Le.rfl
  exact AE <| Ag <| AC <| rg AA <| rl Z <| Ar k (wf hA [(0, 0)] Z Z Z)
 refine AV <| AX <| BI l fun s m => Ap <| AC <| rs AA <| rl Z <| AF ?_
 cases m
 exact er Z Le.rfl
noncomputable def Br (a : (List Ao)) (b : Ao) : Option Bool :=
 (DO a b).bind fun c => some (decide (0 <= c))
theorem Du (a : (List Ao)) (b : Ao) (r : Bool) (h : Br a b = some r) : Ax Tryz.prog 119 [.slice 2 (a.map A1), .agg (A1 b)] (· = .bool r) := by
 refine fn AA Tryz.func119 Z Z 9 Z [.tmp 4] Z [(0, .p (.slice 2 (a.map A1))), (1, .p (.agg (A1 b)))] Z Z fun A hA => ?_
 unfold Br at h
 refine rs AA <| rl Z <| rs AA <| rn 2 Z <| bq h fun e c d => sx Z (AM (Ma _ _ _ c) (.inl Z) Z Z Z <| rl Z <| AF ?_)
 cases d
 exact er Z Le.rfl
noncomputable def Dv (e : Int) (c : (List Bi)) (a : Int) : Option (Int ⊕ (Int × Bool)) :=
 bif decide (a < (c.length : Int)) then (AY c a).bind fun b => ((bif (b.pos == 0) then some true else some (b.pos == e) : Option (Bool))).bind fun (d : Bool) => bif d then some (.inr (b.out, true)) else some (.inl (AO (a + 1))) else some (.inr (0, false))
noncomputable def Dr (a : Ay) (b : Int) (c : Int) (d : Int) : Option (Int × Bool) :=
 (EB a b c).bind fun e => AQ (Dv d e) 0
theorem QD (f : Ay) (g : Int) (i : Int) (b : Int) (r : (Int × Bool)) (h : Dr f g i b = some r) : Ax Tryz.prog 153 [.place (Aq f) 0, .int .i64 g, .int .i64 i, .int .i64 b] (· = .tup [.int .i64 r.1, .bool r.2]) := by
 refine fn AA Tryz.func153 Z Z 33 Z [.tmp 8, .tmp 9] Z [(0, .p (.place (Aq f) 0)), (1, .p (.int .i64 g)), (2, .p (.int .i64 i)), (3, .p (.int .i64 b))] Z Z fun A hA => ?_
 unfold Dr at h
 refine rs AA <| rl Z <| AB <| rs AA <| rn 3 Z <| bq h fun c l n => sx Z (AM (NF _ _ _ _ l) (.inr Z) Z Z Z <| sx Z (Ad Z Z <| rl Z <| AH ?_))
 apply lp (a := r) (fun d : Int => ⟨33, [(3, li b), (15, ls 2 Dm c), (16, li (c.length : Int)), (17, li d)], [], 0⟩) n
 . exact wf hA [] Z Z Z
 intro d ad j
 unfold Dv at j
 refine rs AA <| rl Z <| AB <| cd Z j (fun o => ?_) (fun z => ?_)
 .refine AE <| AC <| AB <| AH <| rs AA <| bq o fun k m q => sx Z (Af m Z Z Z <| rl Z <| jb (fun e : Bool => ⟨33, [(3, li b), (11, .lpb 0 0), (15, ls 2 Dm c), (16, li (c.length : Int)), (17, li d), (29, lb e)], [(0, .box [li k.out, li k.pos])], 1⟩) q (fun e s => ?_) (fun e v => ?_))
  .refine rg AA <| rn 4 Z <| gs 24 s Z Z Z (fun t => ?_) (fun u => ?_)
   .exact rl Z <| AL t (wf hA [(0, 0)] Z Z Z)
   exact rl Z <| AL u (wf hA [(0, 0)] Z Z Z)
  refine cd Z v (fun w => ?_) (fun y => ?_)
  .refine rs AA <| rl Z <| AF <| AN <| AG <| A2 w fun ab x => AN <| AG ?_
   cases x
   exact er Z Le.rfl
  exact AE <| Ag <| AC <| rg AA <| rl Z <| Ar y (wf hA [] Z Z Z)
 refine AV <| AX <| BI z fun ac aa => Ap <| AC <| rs AA <| rl Z <| AF ?_
 cases aa
 exact er Z Le.rfl
noncomputable def HZ (b : Ay) (c : Int) (d : Int) (e : Int) : Option (Int × Bool) :=
 (Dr b c d e).bind fun a => some (a.1, a.2)
theorem SN (a : Ay) (b : Int) (c : Int) (d : Int) (r : (Int × Bool)) (h : HZ a b c d = some r) : Ax Tryz.prog 120 [.place (Aq a) 0, .int .i64 b, .int .i64 c, .int .i64 d] (· = .tup [.int .i64 r.1, .bool r.2]) := by
 refine fn AA Tryz.func120 Z Z 17 Z [.tmp 8, .tmp 9] Z [(0, .p (.place (Aq a) 0)), (1, .p (.int .i64 b)), (2, .p (.int .i64 c)), (3, .p (.int .i64 d))] Z Z fun A hA => ?_
 unfold HZ at h
 refine rs AA <| rl Z <| rs AA <| rn 4 Z <| bq h fun g e f => sx Z (AM (QD _ _ _ _ _ e) (.inl Z) Z Z Z <| rl Z <| AF ?_)
 cases f
 exact er Z Le.rfl
noncomputable def C4 (d : Ay) (e : Ai) (r : (List Ab)) (l : (List Ao)) (am : AK) (a : Bool × (List (AI × Bool)) × (List Ao) × (List Int) × (List Int) × (List AI)) : Option ((Bool × (List (AI × Bool)) × (List Ao) × (List Int) × (List Int) × (List AI)) ⊕ Ai) :=
 bif decide (0 < (a.2.2.2.2.2.length : Int)) then (AY a.2.2.2.2.2 (AO ((a.2.2.2.2.2.length : Int) - 1))).bind fun b => (JL a.2.2.2.2.2 0 (AO ((a.2.2.2.2.2.length : Int) - 1))).bind fun c => (((JB (⟨e.frm, e.to, e.fin, r, l, a.2.2.1, a.2.2.2.1, a.2.2.2.2.1, a.1⟩ : Ai) b.elem).bind fun an => bif an then some true else some ((Ak a.2.1 b).getD false) : Option (Bool))).bind fun (y : Bool) => bif y then some (.inl (a.1, a.2.1, a.2.2.1, a.2.2.2.1, a.2.2.2.2.1, c)) else (CX d b).bind fun m => ((bif decide (0 <= m) then some (!am.hard) else some false : Option (Bool))).bind fun (z : Bool) => bif z then (((BZ a.2.2.2.2.1 m).bind fun ao => bif (!ao) then (Bu a.2.2.2.2.1 [m]).bind fun ap => some ap else some a.2.2.2.2.1 : Option ((List Int)))).bind fun (aa : (List Int)) => some (.inl (a.1, A0 b true a.2.1, a.2.2.1, a.2.2.2.1, aa, c)) else (BS d b.elem).bind fun s => bif (s == 4) then some (.inl (true, A0 b true a.2.1, a.2.2.1, a.2.2.2.1, a.2.2.2.2.1, c)) else bif (s == 2) then bif (b.fin == 0) then (((((BZ a.2.2.2.1 b.elem).bind fun aq => bif aq then some (true, a.1, a.2.2.2.1) else bif decide (12 <= (a.2.2.2.1.length : Int)) then some (false, true, a.2.2.2.1) else (Bu a.2.2.2.1 [b.elem]).bind fun ar => some (true, a.1, ar) : Option (Bool × Bool × (List Int)))).bind fun (h : Bool × Bool × (List Int)) => bif h.1 then (((Bd d (⟨b.elem, 2⟩ : AI)).bind fun t => bif t.2 then (Bu c [t.1]).bind fun au => some au else some c : Option ((List AI)))).bind fun (n : (List AI)) => (((Bd d (⟨b.elem, 1⟩ : AI)).bind fun u => bif u.2 then (Bu n [u.1]).bind fun av => some av else some n : Option ((List AI)))).bind fun (ab : (List AI)) => some (h.2.1, h.2.2, ab) else some (h.2.1, h.2.2, c) : Option (Bool × (List Int) × (List AI)))).bind fun (k : Bool × (List Int) × (List AI)) => some (.inl (k.1, A0 b true a.2.1, a.2.2.1, k.2.1, a.2.2.2.2.1, k.2.2)) else (((Br l (⟨b.elem, b.fin⟩ : Ao)).bind fun ac => bif ac then some true else (Br a.2.2.1 (⟨b.elem, b.fin⟩ : Ao)).bind fun ad => some ad : Option (Bool))).bind fun (v : Bool) => bif v then (((((BZ a.2.2.2.1 b.elem).bind fun ae => bif ae then some (true, a.1, a.2.2.2.1) else bif decide (12 <= (a.2.2.2.1.length : Int)) then some (false, true, a.2.2.2.1) else (Bu a.2.2.2.1 [b.elem]).bind fun af => some (true, a.1, af) : Option (Bool × Bool × (List Int)))).bind fun (f : Bool × Bool × (List Int)) => bif f.1 then (((Bd d (⟨b.elem, 0⟩ : AI)).bind fun o => bif o.2 then (Bu c [o.1]).bind fun ag => some ag else some c : Option ((List AI)))).bind fun (w : (List AI)) => some (f.2.1, f.2.2, w) else some (f.2.1, f.2.2, c) : Option (Bool × (List Int) × (List AI)))).bind fun (i : Bool × (List Int) × (List AI)) => some (.inl (i.1, A0 b true a.2.1, a.2.2.1, i.2.1, a.2.2.2.2.1, i.2.2)) else (Br a.2.2.1 (⟨b.elem, AO (3 - b.fin)⟩ : Ao)).bind fun ah => bif (!ah) then (Bu a.2.2.1 [(⟨b.elem, AO (3 - b.fin)⟩ : Ao)]).bind fun ai => some (.inl (a.1, A0 b true a.2.1, ai, a.2.2.2.1, a.2.2.2.2.1, c)) else some (.inl (a.1, A0 b true a.2.1, a.2.2.1, a.2.2.2.1, a.2.2.2.2.1, c)) else (HZ d b.elem b.fin 0).bind fun p => ((bif p.2 then (((BZ a.2.2.2.1 b.elem).bind fun aj => bif aj then some (true, a.1, a.2.2.2.1) else bif decide (12 <= (a.2.2.2.1.length : Int)) then some (false, true, a.2.2.2.1) else (Bu a.2.2.2.1 [b.elem]).bind fun ak => some (true, a.1, ak) : Option (Bool × Bool × (List Int)))).bind fun (j : Bool × Bool × (List Int)) => some (j.1, j.2.1, j.2.2) else some (false, a.1, a.2.2.2.1) : Option (Bool × Bool × (List Int)))).bind fun (g : Bool × Bool × (List Int)) => bif g.1 then (((Bd d (⟨b.elem, p.1⟩ : AI)).bind fun q => bif q.2 then (Bu c [q.1]).bind fun al => some al else some c : Option ((List AI)))).bind fun (x : (List AI)) => some (.inl (g.2.1, A0 b true a.2.1, a.2.2.1, g.2.2, a.2.2.2.2.1, x)) else some (.inl (g.2.1, A0 b true a.2.1, a.2.2.1, g.2.2, a.2.2.2.2.1, c)) else some (.inr (⟨e.frm, e.to, e.fin, r, l, a.2.2.1, a.2.2.2.1, a.2.2.2.2.1, a.1⟩ : Ai))
noncomputable def Ef (b : Ay) (c : Ai) (i : (List Ab)) (j : (List Ao)) (d : AK) (e : (List AI)) (a : Int × (List AI)) : Option ((Int × (List AI)) ⊕ Ai) :=
 bif decide (0 <= a.1) then (AY e a.1).bind fun f => (Bd b f).bind fun g => (Bu a.2 [g.1]).bind fun h => some (.inl (AO (a.1 - 1), h)) else (AQ (C4 b c i j d) (false, [], ([] : List Ao), ([] : List Int), ([] : List Int), a.2)).map .inr
noncomputable def Et (b : Ay) (a : Ai) : Option Ai :=
 (BU a.steps).bind fun d => (DN a.needs).bind fun e => (B0 b).bind fun f => (HB b (⟨a.frm, a.to, a.fin, d, e, [], [], [], false⟩ : Ai)).bind fun c => AQ (Ef b a d e f c) (AO ((c.length : Int) - 1), ([] : List AI))
theorem XM (e : Ay) (c : Ai) (r : Ai) (h : Et e c = some r) : Ax Tryz.prog 82 [.place (Aq e) 0, .agg (BK c)] (· = .agg (BK r)) := by
 refine fn AA Tryz.func82 Z Z 187 Z [.cell 4 72] Z [(0, .p (.place (Aq e) 0)), (1, .p (.agg (BK c)))] Z Z fun A hA => ?_
 unfold Et at h
 refine rs AA <| rl Z <| sc <| AB ?_
 refine Bz AA mixed [0, 1, 2, 3, 4, 5, 6, 7, 8, 9] 10 (by kernel_rfl) Z Z Z ?_
 refine Au 2 Z <| bq h fun g a7 de => As Z (A6 (MY _ _ a7) (.inr Z) Z Z Z <| Au 2 Z <| bq de fun i a8 df => As Z (A6 (MZ _ _ a8) (.inr Z) Z Z Z <| BJ Z <| AC <| rs AA <| rl Z <| rs AA <| rn 1 Z <| bq df fun o a2 c6 => sx Z (AM (HN _ _ a2) (.inr Z) Z Z Z <| rl Z <| rs AA <| rl Z <| rs AA <| rl Z <| rs AA <| rn 2 Z <| bq c6 fun e4 a3 c7 => sx Z (AM (Ax.le (Ua _ _ _ a3) (.cons Le.rfl (.cons (Le.agg' (.cons Le.rfl (.cons Le.rfl (.cons Le.rfl (.cons Le.rfl (.cons Le.rfl (.cons (Le.nil _) (.cons (Le.nil _) (.cons (Le.nil _) (.cons Le.rfl .nil)))))))))) .nil))) (.inr Z) Z Z Z <| rl Z <| AB <| rs AA <| rn 1 Z <| sx Z (Ad Z Z <| rl Z <| AH ?_)))))
 apply lp (a := r) (fun v : (Int × (List AI)) => ⟨187, [(2, .lpb 0 0), (3, .lpb 1 0), (4, .lpb 2 0), (5, lb o.hard), (6, .lmap 3), (7, .lpb 4 0), (8, ls 2 AT e4), (9, li v.1)], [(0, .box [lq (Aq e)]), (1, .box [li c.frm, li c.to, li c.fin, ls 3 Aw g, ls 2 A1 i, .p (.nils), .p (.nils), .p (.nils), lb false]), (2, .box [li 0, li 0, li 0, .p (.nils), .p (.nils), .p (.nils), .p (.nils), .p (.nils), lb false]), (3, .map (An (fun x => .agg (AT x)) .bool [])), (4, .box [.lsl 5 2 0 v.2.length]), (5, .row 40 2 (v.2.map AT))], 6⟩) c7
 . exact A7.trans (CE 14 0 40 2 Z Z Z Z) (wf hA (gi 3 [(3, 13), (4, 14), (5, 15)]) Z Z Z)
 intro v e9 ai
 unfold Ef at ai
 refine AB <| rs AA <| rl Z <| cd Z ai (fun c8 => ?_) (fun dc => ?_)
 .refine AE <| AC <| AB <| AH <| AB ?_
  refine Bz AA mixed [0, 1, 2, 3, 4, 5, 6, 7, 8, 9, 10, 11] 12 (by kernel_rfl) Z Z Z ?_
  exact Au 3 Z <| bq c8 fun fl a4 c9 => As Z (Aj Z (Af a4 Z Z Z <| Au 1 Z <| bq c9 fun e5 a5 da => As Z (A6 (CG _ _ _ a5) (.inl Z) Z Z Z <| BJ Z <| AC <| rg AA <| rn 3 Z <| bq da fun fm a6 db => sx Z (BY (enc := AT) (l := v.2) (m := [e5.1]) a6 (fun _ => ⟨Z, Z⟩) Z Z Z Z Z Z <| rl Z <| Ag <| AC <| rg AA <| rl Z <| Ar db (wf hA (gi 5 [(5, 19)]) Z Z Z)))))
 refine AV <| AX <| CP dc fun am dd => Ap <| AC <| rs AA <| rl Z <| AB <| Jx <| AC <| AB <| AH ?_
 apply lp (a := am) (fun b : (Bool × (List (AI × Bool)) × (List Ao) × (List Int) × (List Int) × (List AI)) => ⟨187, [(2, .lpb 0 0), (3, .lpb 1 0), (4, .lpb 2 0), (5, lb o.hard), (6, .lmap 3), (7, .lpb 4 0), (12, .fn 116 [.lpb 0 0, .lpb 4 0])], [(0, .box [lq (Aq e)]), (1, .box [li c.frm, li c.to, li c.fin, ls 3 Aw g, ls 2 A1 i, .lsl 5 2 0 b.2.2.1.length, .lsl 6 1 0 b.2.2.2.1.length, .lsl 7 1 0 b.2.2.2.2.1.length, lb b.1]), (2, .box [li 0, li 0, li 0, .p (.nils), .p (.nils), .p (.nils), .p (.nils), .p (.nils), lb false]), (3, .map (An (fun x => .agg (AT x)) .bool b.2.1)), (4, .box [.lsl 8 2 0 b.2.2.2.2.2.length]), (5, .row 185 2 (b.2.2.1.map A1)), (6, .row 3 1 (b.2.2.2.1.map AZ)), (7, .row 3 1 (b.2.2.2.2.1.map AZ)), (8, .row 40 2 (b.2.2.2.2.2.map AT))], 9⟩) dd
 . exact A7.trans (CE 1 5 185 2 Z Z Z Z) (A7.trans (CE 1 6 3 1 Z Z Z Z) (A7.trans (CE 1 7 3 1 Z Z Z Z) (wf hA (gi 5 [(5, 6), (6, 7), (7, 8), (8, 5)]) Z Z Z)))
 intro b fa aj
 unfold C4 at aj
 refine AB <| rs AA <| rl Z <| cd Z aj (fun dg => ?_) (fun c4 => ?_)
 .refine AE <| AC <| AH <| rs AA <| rn 4 Z <| bq dg fun d ah dh => sx Z (B2 ah Z Z Z Z <| sx Z (C7 ah Z Z Z <| rl Z <| rs AA <| rn 4 Z <| bq dh fun f ad di => sx Z (RX (l := b.2.2.2.2.2) ad Z Z Z Z <| rl Z <| AB <| jb (fun af : Bool => ⟨187, [(2, .lpb 0 0), (3, .lpb 1 0), (4, .lpb 2 0), (5, lb o.hard), (6, .lmap 3), (7, .lpb 4 0), (12, .fn 116 [.lpb 0 0, .lpb 4 0]), (13, .lpb 5 0), (81, lb af)], [(0, .box [lq (Aq e)]), (1, .box [li c.frm, li c.to, li c.fin, ls 3 Aw g, ls 2 A1 i, .lsl 6 2 0 b.2.2.1.length, .lsl 7 1 0 b.2.2.2.1.length, .lsl 8 1 0 b.2.2.2.2.1.length, lb b.1]), (2, .box [li 0, li 0, li 0, .p (.nils), .p (.nils), .p (.nils), .p (.nils), .p (.nils), lb false]), (3, .map (An (fun x => .agg (AT x)) .bool b.2.1)), (4, .box [.lsl 9 2 0 f.length]), (5, .box [li d.elem, li d.fin]), (6, .row 185 2 (b.2.2.1.map A1)), (7, .row 3 1 (b.2.2.2.1.map AZ)), (8, .row 3 1 (b.2.2.2.2.1.map AZ)), (9, .row 40 2 (f.map AT))], 10⟩) di (fun af dj => ?_) (fun af dn => ?_))))
  .refine rg AA <| rn 3 Z <| bq dj fun fo a9 dk => sx Z (AM (XL _ _ _ a9) (.inl Z) Z Z (Dc.eq (.cons (.agg (.cons (.p _) (.cons (.p _) (.cons (.p _) (.cons (.p _) (.cons (.p _) (.cons (.own (enc := A1) b.2.2.1 Z Z) (.cons (.own (enc := AZ) b.2.2.2.1 Z Z) (.cons (.own (enc := AZ) b.2.2.2.2.1 Z Z) (.cons (.p _) .nil)))))))))) (.cons (.one (.p _)) .nil))) <| rn 1 Z <| gs 77 dk Z Z Z (fun dl => ?_) (fun dm => ?_))
   .exact rl Z <| AL dl (A7.trans (JV 8 ad Z Z) (wf hA (gi 5 [(5, 9), (6, 5), (7, 6), (8, 7), (9, 8)]) Z Z Z))
   exact rn 2 Z <| sx Z (Ko (et := 4) (ke := (fun x => .agg (AT x))) (ve := .bool) (mp := b.2.1) (y := d) false CJ Z Z Z Z <| rl Z <| AL dm (A7.trans (JV 8 ad Z Z) (wf hA (gi 5 [(5, 9), (6, 5), (7, 6), (8, 7), (9, 8)]) Z Z Z)))
  refine cd Z dn (fun dp => ?_) (fun dq => ?_)
  .exact AV <| AX <| Ap <| Ar dp (wf hA (gi 5 [(5, 6), (6, 7), (7, 8), (8, 9)]) Z Z Z)
  refine AE <| AC <| rs AA <| rn 2 Z <| sx Z (Gi (et := 4) (ke := (fun x => .agg (AT x))) (ve := .bool) (mp := b.2.1) (y := d) (z := true) CJ Z Z Z Z Z Z <| rl Z <| AB <| rs AA <| rn 2 Z <| bq dq fun al ba dr => sx Z (AM (Gk _ _ _ ba) (.inl Z) Z Z Z <| rl Z <| jb (fun ag : Bool => ⟨187, [(2, .lpb 0 0), (3, .lpb 1 0), (4, .lpb 2 0), (5, lb o.hard), (6, .lmap 3), (7, .lpb 4 0), (12, .fn 116 [.lpb 0 0, .lpb 4 0]), (13, .lpb 5 0), (14, li al), (92, lb ag)], [(0, .box [lq (Aq e)]), (1, .box [li c.frm, li c.to, li c.fin, ls 3 Aw g, ls 2 A1 i, .lsl 6 2 0 b.2.2.1.length, .lsl 7 1 0 b.2.2.2.1.length, .lsl 8 1 0 b.2.2.2.2.1.length, lb b.1]), (2, .box [li 0, li 0, li 0, .p (.nils), .p (.nils), .p (.nils), .p (.nils), .p (.nils), lb false]), (3, .map (An (fun x => .agg (AT x)) .bool (A0 d true b.2.1))), (4, .box [.lsl 9 2 0 f.length]), (5, .box [li d.elem, li d.fin]), (6, .row 185 2 (b.2.2.1.map A1)), (7, .row 3 1 (b.2.2.2.1.map AZ)), (8, .row 3 1 (b.2.2.2.2.1.map AZ)), (9, .row 40 2 (f.map AT))], 10⟩) dr (fun ag ds => ?_) (fun ag dv => ?_)))
  .refine rg AA <| rn 3 Z <| gs 89 ds Z Z Z (fun dt => ?_) (fun du => ?_)
   .exact rl Z <| AL dt (wf hA (gi 10 []) Z Z Z)
   exact rl Z <| AL du (wf hA (gi 10 []) Z Z Z)
  refine cd Z dv (fun dw => ?_) (fun d3 => ?_)
  .refine jb (fun ac : (List Int) => ⟨187, [(2, .lpb 0 0), (3, .lpb 1 0), (4, .lpb 2 0), (5, lb o.hard), (6, .lmap 3), (7, .lpb 4 0), (12, .fn 116 [.lpb 0 0, .lpb 4 0])], [(0, .box [lq (Aq e)]), (1, .box [li c.frm, li c.to, li c.fin, ls 3 Aw g, ls 2 A1 i, .lsl 5 2 0 b.2.2.1.length, .lsl 6 1 0 b.2.2.2.1.length, .lsl 7 1 0 ac.length, lb b.1]), (2, .box [li 0, li 0, li 0, .p (.nils), .p (.nils), .p (.nils), .p (.nils), .p (.nils), lb false]), (3, .map (An (fun x => .agg (AT x)) .bool (A0 d true b.2.1))), (4, .box [.lsl 8 2 0 f.length]), (5, .row 185 2 (b.2.2.1.map A1)), (6, .row 3 1 (b.2.2.2.1.map AZ)), (7, .row 3 1 (ac.map AZ)), (8, .row 40 2 (f.map AT))], 9⟩) dw (fun ac dx => ?_) (fun ac d2 => ?_)
   .refine rs AA <| rn 3 Z <| bq dx fun fp bb dy => sx Z (AM (Co _ _ _ bb) (.inl Z) Z Z (Dc.eq (.cons (.one (.own (enc := AZ) b.2.2.2.2.1 Z Z)) (.cons (.one (.p _)) .nil))) <| rl Z <| cd Z dy (fun dz => ?_) (fun d1 => ?_))
    .exact rg AA <| rn 4 Z <| bq dz fun fq bc d0 => sx Z (BY (enc := AZ) (l := b.2.2.2.2.1) (m := [al]) bc (fun _ => ⟨Z, Z⟩) Z Z Z Z Z Z <| rl Z <| AL d0 (wf hA (gi 5 [(5, 6), (6, 7), (7, 11), (8, 9)]) Z Z Z))
    exact AE <| AL d1 (wf hA (gi 5 [(5, 6), (6, 7), (7, 8), (8, 9)]) Z Z Z)
   exact AV <| AX <| Ap <| Ar d2 (wf hA (gi 9 []) Z Z Z)
  refine AE <| AC <| rs AA <| rn 3 Z <| bq d3 fun fr be d4 => sx Z (AM (Bs _ _ _ be) (.inl Z) Z Z Z <| rl Z <| AH <| rs AA <| rl Z <| cd Z d4 (fun d5 => ?_) (fun d6 => ?_))
  .exact rg AA <| rl Z <| Ag <| Ag <| Ar d5 (wf hA (gi 5 [(5, 6), (6, 7), (7, 8), (8, 9)]) Z Z Z)
  refine rs AA <| rl Z <| cd Z d6 (fun d7 => ?_) (fun ci => ?_)
  .refine AB <| rs AA <| rl Z <| cd Z d7 (fun d8 => ?_) (fun e1 => ?_)
   .refine jb (fun t : (Bool × (List Int) × (List AI)) => ⟨187, [(2, .lpb 0 0), (3, .lpb 1 0), (4, .lpb 2 0), (5, lb o.hard), (6, .lmap 3), (7, .lpb 4 0), (12, .fn 116 [.lpb 0 0, .lpb 4 0])], [(0, .box [lq (Aq e)]), (1, .box [li c.frm, li c.to, li c.fin, ls 3 Aw g, ls 2 A1 i, .lsl 5 2 0 b.2.2.1.length, .lsl 6 1 0 t.2.1.length, .lsl 7 1 0 b.2.2.2.2.1.length, lb t.1]), (2, .box [li 0, li 0, li 0, .p (.nils), .p (.nils), .p (.nils), .p (.nils), .p (.nils), lb false]), (3, .map (An (fun x => .agg (AT x)) .bool (A0 d true b.2.1))), (4, .box [.lsl 8 2 0 t.2.2.length]), (5, .row 185 2 (b.2.2.1.map A1)), (6, .row 3 1 (t.2.1.map AZ)), (7, .row 3 1 (b.2.2.2.2.1.map AZ)), (8, .row 40 2 (t.2.2.map AT))], 9⟩) d8 (fun t d9 => ?_) (fun t e0 => ?_)
    .refine rs AA <| rn 2 Z <| sx Z (CT AA (fun j : (Bool × Bool × (List Int)) => lb j.1) (fun j : (Bool × Bool × (List Int)) => [(0, .box [lq (Aq e)]), (1, .box [li c.frm, li c.to, li c.fin, ls 3 Aw g, ls 2 A1 i, .lsl 6 2 0 b.2.2.1.length, .lsl 10 1 0 j.2.2.length, .lsl 8 1 0 b.2.2.2.2.1.length, lb j.2.1]), (2, .box [li 0, li 0, li 0, .p (.nils), .p (.nils), .p (.nils), .p (.nils), .p (.nils), lb false]), (3, .map (An (fun x => .agg (AT x)) .bool (A0 d true b.2.1))), (4, .box [.lsl 9 2 0 f.length]), (5, .box [li d.elem, li d.fin]), (6, .row 185 2 (b.2.2.1.map A1)), (8, .row 3 1 (b.2.2.2.2.1.map AZ)), (9, .row 40 2 (f.map AT)), (10, .row 3 1 (j.2.2.map AZ))]) 11 d9 Tryz.func118 30 [.tmp 4] [(0, .lpb 1 0), (1, li d.elem)] Z Z Z Z Z Z Z Z (fun A hA j ea => ?_) (fun j eh => ?_))
     .refine rs AA <| rl Z <| AB <| rs AA <| rn 5 Z <| bq ea fun fs bf eb => sx Z (AM (Co _ _ _ bf) (.inl Z) Z Z (Dc.eq (.cons (.one (.own (enc := AZ) b.2.2.2.1 Z Z)) (.cons (.one (.p _)) .nil))) <| rl Z <| cd Z eb (fun ec => ?_) (fun ed => ?_))
      .refine rs AA <| rl Z <| AF <| AG ?_
       cases ec
       exact CW (nt := 30) (sl := [(4, lb true)]) (wj hA (gi 7 [(8, 8), (9, 9), (10, 7), (7, 7)]) Z Z Z Z) Z
      refine AE <| AC <| AB <| rs AA <| rl Z <| cd Z ed (fun ee => ?_) (fun ef => ?_)
      .refine rs AA <| rl Z <| rs AA <| rl Z <| AF <| AG ?_
       cases ee
       exact CW (nt := 30) (sl := [(4, lb false)]) (wj hA (gi 7 [(8, 8), (9, 9), (10, 7), (7, 7)]) Z Z Z Z) Z
      refine AE <| AC <| rs AA <| rn 7 Z <| bq ef fun ft bg eg => sx Z (BY (enc := AZ) (l := b.2.2.2.1) (m := [d.elem]) bg (fun _ => ⟨Z, Z⟩) Z Z Z Z Z Z <| rl Z <| rs AA <| rl Z <| AF ?_)
      cases eg
      exact CW (nt := 30) (sl := [(4, lb true)]) (wj hA (gi 7 [(8, 8), (9, 9), (10, 11), (7, 7)]) Z Z Z Z) Z
     refine rl Z <| cd Z eh (fun ei => ?_) (fun ez => ?_)
     .refine rs AA <| rn 3 Z <| sx Z (CT AA (fun u : (List AI) => .tup []) (fun u : (List AI) => [(0, .box [lq (Aq e)]), (1, .box [li c.frm, li c.to, li c.fin, ls 3 Aw g, ls 2 A1 i, .lsl 6 2 0 b.2.2.1.length, .lsl 10 1 0 j.2.2.length, .lsl 8 1 0 b.2.2.2.2.1.length, lb j.2.1]), (2, .box [li 0, li 0, li 0, .p (.nils), .p (.nils), .p (.nils), .p (.nils), .p (.nils), lb false]), (3, .map (An (fun x => .agg (AT x)) .bool (A0 d true b.2.1))), (4, .box [.lsl 11 2 0 u.length]), (5, .box [li d.elem, li d.fin]), (6, .row 185 2 (b.2.2.1.map A1)), (8, .row 3 1 (b.2.2.2.2.1.map AZ)), (10, .row 3 1 (j.2.2.map AZ)), (11, .row 40 2 (u.map AT))]) 12 ei Tryz.func116 21 [] [(0, li d.elem), (1, li 2), (2, .lpb 0 0), (3, .lpb 4 0)] Z Z Z Z Z Z Z Z (fun A hA u ej => ?_) (fun u ep => ?_))
      .refine rs AA <| rn 4 Z <| bq ej fun e6 bh ek => sx Z (AM (CG _ _ _ bh) (.inl Z) Z Z Z <| rl Z <| rs AA <| rl Z <| cd Z ek (fun el => ?_) (fun eo => ?_))
       .refine rg AA <| rn 3 Z <| bq el fun fu bi em => sx Z (BY (enc := AT) (l := f) (m := [e6.1]) bi (fun _ => ⟨Z, Z⟩) Z Z Z Z Z Z <| rl Z ?_)
        have hr := Option.some.inj em; subst hr
        exact Ly (nt := 21) (sl := []) (wj hA (gi 9 [(10, 10), (11, 13), (9, 9)]) Z Z Z Z) Z
       refine AE ?_
       have hr := Option.some.inj eo; subst hr
       exact Ly (nt := 21) (sl := []) (wj hA (gi 9 [(10, 10), (11, 9), (9, 9)]) Z Z Z Z) Z
      refine rl Z <| rg AA <| rn 3 Z <| sx Z (CT AA (fun ab : (List AI) => .tup []) (fun ab : (List AI) => [(0, .box [lq (Aq e)]), (1, .box [li c.frm, li c.to, li c.fin, ls 3 Aw g, ls 2 A1 i, .lsl 6 2 0 b.2.2.1.length, .lsl 10 1 0 j.2.2.length, .lsl 8 1 0 b.2.2.2.2.1.length, lb j.2.1]), (2, .box [li 0, li 0, li 0, .p (.nils), .p (.nils), .p (.nils), .p (.nils), .p (.nils), lb false]), (3, .map (An (fun x => .agg (AT x)) .bool (A0 d true b.2.1))), (4, .box [.lsl 12 2 0 ab.length]), (5, .box [li d.elem, li d.fin]), (6, .row 185 2 (b.2.2.1.map A1)), (8, .row 3 1 (b.2.2.2.2.1.map AZ)), (10, .row 3 1 (j.2.2.map AZ)), (12, .row 40 2 (ab.map AT))]) 13 ep Tryz.func116 21 [] [(0, li d.elem), (1, li 1), (2, .lpb 0 0), (3, .lpb 4 0)] Z Z Z Z Z Z Z Z (fun A hA ab es => ?_) (fun ab ey => ?_))
      .refine rs AA <| rn 4 Z <| bq es fun e7 bj eu => sx Z (AM (CG _ _ _ bj) (.inl Z) Z Z Z <| rl Z <| rs AA <| rl Z <| cd Z eu (fun ev => ?_) (fun ex => ?_))
       .refine rg AA <| rn 3 Z <| bq ev fun fv bk ew => sx Z (BY (enc := AT) (l := u) (m := [e7.1]) bk (fun _ => ⟨Z, Z⟩) Z Z Z Z Z Z <| rl Z ?_)
        have hr := Option.some.inj ew; subst hr
        exact Ly (nt := 21) (sl := []) (wj hA (gi 11 [(12, 14), (11, 11)]) Z Z Z Z) Z
       refine AE ?_
       have hr := Option.some.inj ex; subst hr
       exact Ly (nt := 21) (sl := []) (wj hA (gi 11 [(12, 11), (11, 11)]) Z Z Z Z) Z
      exact rl Z <| AL ey (wf hA (gi 5 [(5, 6), (6, 10), (7, 8), (8, 12)]) Z Z Z)
     exact AE <| AL ez (wf hA (gi 5 [(5, 6), (6, 10), (7, 8), (8, 9)]) Z Z Z)
    exact AV <| AX <| Lt Z <| Ap <| Ar e0 (wf hA (gi 9 []) Z Z Z)
   refine AE <| AC <| rs AA <| rl Z <| AB <| jb (fun ae : Bool => ⟨187, [(2, .lpb 0 0), (3, .lpb 1 0), (4, .lpb 2 0), (5, lb o.hard), (6, .lmap 3), (7, .lpb 4 0), (12, .fn 116 [.lpb 0 0, .lpb 4 0]), (13, .lpb 5 0), (161, lb ae)], [(0, .box [lq (Aq e)]), (1, .box [li c.frm, li c.to, li c.fin, ls 3 Aw g, ls 2 A1 i, .lsl 6 2 0 b.2.2.1.length, .lsl 7 1 0 b.2.2.2.1.length, .lsl 8 1 0 b.2.2.2.2.1.length, lb b.1]), (2, .box [li 0, li 0, li 0, .p (.nils), .p (.nils), .p (.nils), .p (.nils), .p (.nils), lb false]), (3, .map (An (fun x => .agg (AT x)) .bool (A0 d true b.2.1))), (4, .box [.lsl 9 2 0 f.length]), (5, .box [li d.elem, li d.fin]), (6, .row 185 2 (b.2.2.1.map A1)), (7, .row 3 1 (b.2.2.2.1.map AZ)), (8, .row 3 1 (b.2.2.2.2.1.map AZ)), (9, .row 40 2 (f.map AT))], 10⟩) e1 (fun ae bl => ?_) (fun ae br => ?_)
   .refine rg AA <| rn 3 Z <| bq bl fun fb an bm => sx Z (AM (Du _ _ _ an) (.inl Z) Z Z Z <| rn 1 Z <| gs 156 bm Z Z Z (fun bn => ?_) (fun bo => ?_))
    .exact rl Z <| AL bn (wf hA (gi 10 []) Z Z Z)
    exact rn 3 Z <| bq bo fun fc ao bp => sx Z (AM (Du _ _ _ ao) (.inl Z) Z Z (Dc.eq (.cons (.one (.own (enc := A1) b.2.2.1 Z Z)) (.cons (.one (.p _)) .nil))) <| rl Z <| AL bp (wf hA (gi 10 []) Z Z Z))
   refine cd Z br (fun bs => ?_) (fun cc => ?_)
   .refine jb (fun q : (Bool × (List Int) × (List AI)) => ⟨187, [(2, .lpb 0 0), (3, .lpb 1 0), (4, .lpb 2 0), (5, lb o.hard), (6, .lmap 3), (7, .lpb 4 0), (12, .fn 116 [.lpb 0 0, .lpb 4 0])], [(0, .box [lq (Aq e)]), (1, .box [li c.frm, li c.to, li c.fin, ls 3 Aw g, ls 2 A1 i, .lsl 5 2 0 b.2.2.1.length, .lsl 6 1 0 q.2.1.length, .lsl 7 1 0 b.2.2.2.2.1.length, lb q.1]), (2, .box [li 0, li 0, li 0, .p (.nils), .p (.nils), .p (.nils), .p (.nils), .p (.nils), lb false]), (3, .map (An (fun x => .agg (AT x)) .bool (A0 d true b.2.1))), (4, .box [.lsl 8 2 0 q.2.2.length]), (5, .row 185 2 (b.2.2.1.map A1)), (6, .row 3 1 (q.2.1.map AZ)), (7, .row 3 1 (b.2.2.2.2.1.map AZ)), (8, .row 40 2 (q.2.2.map AT))], 9⟩) bs (fun q bt => ?_) (fun q cb => ?_)
    .refine rs AA <| rn 2 Z <| sx Z (CT AA (fun k : (Bool × Bool × (List Int)) => lb k.1) (fun k : (Bool × Bool × (List Int)) => [(0, .box [lq (Aq e)]), (1, .box [li c.frm, li c.to, li c.fin, ls 3 Aw g, ls 2 A1 i, .lsl 6 2 0 b.2.2.1.length, .lsl 10 1 0 k.2.2.length, .lsl 8 1 0 b.2.2.2.2.1.length, lb k.2.1]), (2, .box [li 0, li 0, li 0, .p (.nils), .p (.nils), .p (.nils), .p (.nils), .p (.nils), lb false]), (3, .map (An (fun x => .agg (AT x)) .bool (A0 d true b.2.1))), (4, .box [.lsl 9 2 0 f.length]), (5, .box [li d.elem, li d.fin]), (6, .row 185 2 (b.2.2.1.map A1)), (8, .row 3 1 (b.2.2.2.2.1.map AZ)), (9, .row 40 2 (f.map AT)), (10, .row 3 1 (k.2.2.map AZ))]) 11 bt Tryz.func118 30 [.tmp 4] [(0, .lpb 1 0), (1, li d.elem)] Z Z Z Z Z Z Z Z (fun A hA k bu => ?_) (fun k b2 => ?_))
     .refine rs AA <| rl Z <| AB <| rs AA <| rn 5 Z <| bq bu fun fd ap bv => sx Z (AM (Co _ _ _ ap) (.inl Z) Z Z (Dc.eq (.cons (.one (.own (enc := AZ) b.2.2.2.1 Z Z)) (.cons (.one (.p _)) .nil))) <| rl Z <| cd Z bv (fun bw => ?_) (fun bx => ?_))
      .refine rs AA <| rl Z <| AF <| AG ?_
       cases bw
       exact CW (nt := 30) (sl := [(4, lb true)]) (wj hA (gi 7 [(8, 8), (9, 9), (10, 7), (7, 7)]) Z Z Z Z) Z
      refine AE <| AC <| AB <| rs AA <| rl Z <| cd Z bx (fun bz => ?_) (fun b0 => ?_)
      .refine rs AA <| rl Z <| rs AA <| rl Z <| AF <| AG ?_
       cases bz
       exact CW (nt := 30) (sl := [(4, lb false)]) (wj hA (gi 7 [(8, 8), (9, 9), (10, 7), (7, 7)]) Z Z Z Z) Z
      refine AE <| AC <| rs AA <| rn 7 Z <| bq b0 fun fe aq b1 => sx Z (BY (enc := AZ) (l := b.2.2.2.1) (m := [d.elem]) aq (fun _ => ⟨Z, Z⟩) Z Z Z Z Z Z <| rl Z <| rs AA <| rl Z <| AF ?_)
      cases b1
      exact CW (nt := 30) (sl := [(4, lb true)]) (wj hA (gi 7 [(8, 8), (9, 9), (10, 11), (7, 7)]) Z Z Z Z) Z
     refine rl Z <| cd Z b2 (fun b3 => ?_) (fun ca => ?_)
     .refine rg AA <| rn 3 Z <| sx Z (CT AA (fun w : (List AI) => .tup []) (fun w : (List AI) => [(0, .box [lq (Aq e)]), (1, .box [li c.frm, li c.to, li c.fin, ls 3 Aw g, ls 2 A1 i, .lsl 6 2 0 b.2.2.1.length, .lsl 10 1 0 k.2.2.length, .lsl 8 1 0 b.2.2.2.2.1.length, lb k.2.1]), (2, .box [li 0, li 0, li 0, .p (.nils), .p (.nils), .p (.nils), .p (.nils), .p (.nils), lb false]), (3, .map (An (fun x => .agg (AT x)) .bool (A0 d true b.2.1))), (4, .box [.lsl 11 2 0 w.length]), (5, .box [li d.elem, li d.fin]), (6, .row 185 2 (b.2.2.1.map A1)), (8, .row 3 1 (b.2.2.2.2.1.map AZ)), (10, .row 3 1 (k.2.2.map AZ)), (11, .row 40 2 (w.map AT))]) 12 b3 Tryz.func116 21 [] [(0, li d.elem), (1, li 0), (2, .lpb 0 0), (3, .lpb 4 0)] Z Z Z Z Z Z Z Z (fun A hA w b4 => ?_) (fun w b9 => ?_))
      .refine rs AA <| rn 4 Z <| bq b4 fun e2 ar b5 => sx Z (AM (CG _ _ _ ar) (.inl Z) Z Z Z <| rl Z <| rs AA <| rl Z <| cd Z b5 (fun b6 => ?_) (fun b8 => ?_))
       .refine rg AA <| rn 3 Z <| bq b6 fun ff au b7 => sx Z (BY (enc := AT) (l := f) (m := [e2.1]) au (fun _ => ⟨Z, Z⟩) Z Z Z Z Z Z <| rl Z ?_)
        have hr := Option.some.inj b7; subst hr
        exact Ly (nt := 21) (sl := []) (wj hA (gi 9 [(10, 10), (11, 13), (9, 9)]) Z Z Z Z) Z
       refine AE ?_
       have hr := Option.some.inj b8; subst hr
       exact Ly (nt := 21) (sl := []) (wj hA (gi 9 [(10, 10), (11, 9), (9, 9)]) Z Z Z Z) Z
      exact rl Z <| AL b9 (wf hA (gi 5 [(5, 6), (6, 10), (7, 8), (8, 11)]) Z Z Z)
     exact AE <| AL ca (wf hA (gi 5 [(5, 6), (6, 10), (7, 8), (8, 9)]) Z Z Z)
    exact AV <| AX <| Lt Z <| Ap <| Ar cb (wf hA (gi 9 []) Z Z Z)
   refine AE <| AC <| rs AA <| rl Z <| rs AA <| rn 3 Z <| bq cc fun fg av ce => sx Z (AM (Du _ _ _ av) (.inl Z) Z Z (Dc.eq (.cons (.one (.own (enc := A1) b.2.2.1 Z Z)) (.cons (.one (.p _)) .nil))) <| rl Z <| cd Z ce (fun cf => ?_) (fun ch => ?_))
   .exact rg AA <| rn 4 Z <| bq cf fun fh aw cg => sx Z (BY (enc := A1) (l := b.2.2.1) (m := [(⟨d.elem, AO (3 - d.fin)⟩ : Ao)]) aw (fun _ => ⟨Z, Z⟩) Z Z Z Z Z Z <| rl Z <| Ag <| Ag <| Ar cg (wf hA (gi 5 [(5, 12), (6, 7), (7, 8), (8, 9)]) Z Z Z))
   exact AE <| Ag <| Ag <| Ar ch (wf hA (gi 5 [(5, 6), (6, 7), (7, 8), (8, 9)]) Z Z Z)
  refine rs AA <| rn 5 Z <| bq ci fun ak ax cj => sx Z (AM (SN _ _ _ _ _ ax) (.inl Z) Z Z Z <| rl Z <| jb (fun n : (Bool × Bool × (List Int)) => ⟨187, [(2, .lpb 0 0), (3, .lpb 1 0), (4, .lpb 2 0), (5, lb o.hard), (6, .lmap 3), (7, .lpb 4 0), (12, .fn 116 [.lpb 0 0, .lpb 4 0]), (13, .lpb 5 0), (17, li ak.1), (122, lb n.1)], [(0, .box [lq (Aq e)]), (1, .box [li c.frm, li c.to, li c.fin, ls 3 Aw g, ls 2 A1 i, .lsl 6 2 0 b.2.2.1.length, .lsl 7 1 0 n.2.2.length, .lsl 8 1 0 b.2.2.2.2.1.length, lb n.2.1]), (2, .box [li 0, li 0, li 0, .p (.nils), .p (.nils), .p (.nils), .p (.nils), .p (.nils), lb false]), (3, .map (An (fun x => .agg (AT x)) .bool (A0 d true b.2.1))), (4, .box [.lsl 9 2 0 f.length]), (5, .box [li d.elem, li d.fin]), (6, .row 185 2 (b.2.2.1.map A1)), (7, .row 3 1 (n.2.2.map AZ)), (8, .row 3 1 (b.2.2.2.2.1.map AZ)), (9, .row 40 2 (f.map AT))], 10⟩) cj (fun n ck => ?_) (fun n cv => ?_))
  .refine rg AA <| rn 2 Z <| gs 118 ck Z Z Z (fun cl => ?_) (fun cu => ?_)
   .refine rn 2 Z <| sx Z (CT AA (fun s : (Bool × Bool × (List Int)) => lb s.1) (fun s : (Bool × Bool × (List Int)) => [(0, .box [lq (Aq e)]), (1, .box [li c.frm, li c.to, li c.fin, ls 3 Aw g, ls 2 A1 i, .lsl 6 2 0 b.2.2.1.length, .lsl 10 1 0 s.2.2.length, .lsl 8 1 0 b.2.2.2.2.1.length, lb s.2.1]), (2, .box [li 0, li 0, li 0, .p (.nils), .p (.nils), .p (.nils), .p (.nils), .p (.nils), lb false]), (3, .map (An (fun x => .agg (AT x)) .bool (A0 d true b.2.1))), (4, .box [.lsl 9 2 0 f.length]), (5, .box [li d.elem, li d.fin]), (6, .row 185 2 (b.2.2.1.map A1)), (8, .row 3 1 (b.2.2.2.2.1.map AZ)), (9, .row 40 2 (f.map AT)), (10, .row 3 1 (s.2.2.map AZ))]) 11 cl Tryz.func118 30 [.tmp 4] [(0, .lpb 1 0), (1, li d.elem)] Z Z Z Z Z Z Z Z (fun A hA s cm => ?_) (fun s ct => ?_))
    .refine rs AA <| rl Z <| AB <| rs AA <| rn 5 Z <| bq cm fun fi ay cn => sx Z (AM (Co _ _ _ ay) (.inl Z) Z Z (Dc.eq (.cons (.one (.own (enc := AZ) b.2.2.2.1 Z Z)) (.cons (.one (.p _)) .nil))) <| rl Z <| cd Z cn (fun co => ?_) (fun cp => ?_))
     .refine rs AA <| rl Z <| AF <| AG ?_
      cases co
      exact CW (nt := 30) (sl := [(4, lb true)]) (wj hA (gi 7 [(8, 8), (9, 9), (10, 7), (7, 7)]) Z Z Z Z) Z
     refine AE <| AC <| AB <| rs AA <| rl Z <| cd Z cp (fun cq => ?_) (fun cr => ?_)
     .refine rs AA <| rl Z <| rs AA <| rl Z <| AF <| AG ?_
      cases cq
      exact CW (nt := 30) (sl := [(4, lb false)]) (wj hA (gi 7 [(8, 8), (9, 9), (10, 7), (7, 7)]) Z Z Z Z) Z
     refine AE <| AC <| rs AA <| rn 7 Z <| bq cr fun fj az cs => sx Z (BY (enc := AZ) (l := b.2.2.2.1) (m := [d.elem]) az (fun _ => ⟨Z, Z⟩) Z Z Z Z Z Z <| rl Z <| rs AA <| rl Z <| AF ?_)
     cases cs
     exact CW (nt := 30) (sl := [(4, lb true)]) (wj hA (gi 7 [(8, 8), (9, 9), (10, 11), (7, 7)]) Z Z Z Z) Z
    exact rl Z <| AL ct (wf hA (gi 7 [(7, 10), (8, 8), (9, 9)]) Z Z Z)
   exact rl Z <| AL cu (wf hA (gi 10 []) Z Z Z)
  refine cd Z cv (fun cw => ?_) (fun c3 => ?_)
  .refine rg AA <| rn 4 Z <| sx Z (CT AA (fun aa : (List AI) => .tup []) (fun aa : (List AI) => [(0, .box [lq (Aq e)]), (1, .box [li c.frm, li c.to, li c.fin, ls 3 Aw g, ls 2 A1 i, .lsl 6 2 0 b.2.2.1.length, .lsl 7 1 0 n.2.2.length, .lsl 8 1 0 b.2.2.2.2.1.length, lb n.2.1]), (2, .box [li 0, li 0, li 0, .p (.nils), .p (.nils), .p (.nils), .p (.nils), .p (.nils), lb false]), (3, .map (An (fun x => .agg (AT x)) .bool (A0 d true b.2.1))), (4, .box [.lsl 10 2 0 aa.length]), (5, .box [li d.elem, li d.fin]), (6, .row 185 2 (b.2.2.1.map A1)), (7, .row 3 1 (n.2.2.map AZ)), (8, .row 3 1 (b.2.2.2.2.1.map AZ)), (10, .row 40 2 (aa.map AT))]) 11 cw Tryz.func116 21 [] [(0, li d.elem), (1, li ak.1), (2, .lpb 0 0), (3, .lpb 4 0)] Z Z Z Z Z Z Z Z (fun A hA aa cx => ?_) (fun aa c2 => ?_))
   .refine rs AA <| rn 4 Z <| bq cx fun e3 a0 cy => sx Z (AM (CG _ _ _ a0) (.inl Z) Z Z Z <| rl Z <| rs AA <| rl Z <| cd Z cy (fun cz => ?_) (fun c1 => ?_))
    .refine rg AA <| rn 3 Z <| bq cz fun fk a1 c0 => sx Z (BY (enc := AT) (l := f) (m := [e3.1]) a1 (fun _ => ⟨Z, Z⟩) Z Z Z Z Z Z <| rl Z ?_)
     have hr := Option.some.inj c0; subst hr
     exact Ly (nt := 21) (sl := []) (wj hA (gi 9 [(10, 12), (9, 9)]) Z Z Z Z) Z
    refine AE ?_
    have hr := Option.some.inj c1; subst hr
    exact Ly (nt := 21) (sl := []) (wj hA (gi 9 [(10, 9), (9, 9)]) Z Z Z Z) Z
   exact rl Z <| Ag <| Ag <| Ar c2 (wf hA (gi 5 [(5, 6), (6, 7), (7, 8), (8, 10)]) Z Z Z)
  exact AE <| Ag <| Ag <| Ar c3 (wf hA (gi 5 [(5, 6), (6, 7), (7, 8), (8, 9)]) Z Z Z)
 refine AV <| AX <| BI c4 fun e8 c5 => Ap <| AC <| rs AA <| rl Z <| AF <| Iq ?_
 cases c5
 exact er (Ip Z (.agg (.cons (.p _) (.cons (.p _) (.cons (.p _) (.cons (.p _) (.cons (.p _) (.cons (.own (enc := A1) b.2.2.1 Z Z) (.cons (.own (enc := AZ) b.2.2.2.1 Z Z) (.cons (.own (enc := AZ) b.2.2.2.2.1 Z Z) (.cons (.p _) .nil))))))))))) Le.rfl
end Go.E
/- Plain functions, and walks in step with them. Written by a program (gen.py). No condition. -/
set_option maxRecDepth 100000
set_option maxHeartbeats 1000000
namespace Go.E
open Go Go.RowKit Go.Proofs
noncomputable def EK (b : Ay) (f : ((List Ai) × Int)) (a : Int × (List Ai)) : Option ((Int × (List Ai)) ⊕ (DJ × Int)) :=
 bif decide (a.1 < (f.1.length : Int)) then (AY a.2 a.1).bind fun c => (Et b c).bind fun d => (AY a.2 a.1).bind fun g => some (.inl (AO (a.1 + 1), A5 a.2 a.1 d)) else ((B0 b).bind fun e => some ((⟨e, a.2⟩ : DJ), 0)).map .inr
noncomputable def GM (d : AK) : Option (DJ × Int) :=
 (Cl d).bind fun a => Io a.1 (bif (a.2 != 0) then some ((⟨(⟨[], [], [], [], 0, 0, 0, 0, false⟩ : AK), []⟩ : DJ), a.2) else none) fun c => bif (a.2 != 0) then some ((⟨(⟨[], [], [], [], 0, 0, 0, 0, false⟩ : AK), []⟩ : DJ), a.2) else (I9 c).bind fun b => bif (b.2 != 0) then some ((⟨(⟨[], [], [], [], 0, 0, 0, 0, false⟩ : AK), []⟩ : DJ), b.2) else AQ (EK c b) (0, b.1)
theorem TT (d : AK) (r : (DJ × Int)) (h : GM d = some r) : Ax Tryz.prog 52 [.agg (AU d)] (· = .tup [.agg (DU r.1), .int .i64 r.2]) := by
 refine fn AA Tryz.func52 Z Z 45 Z [.cell 2 35, .tmp 3] Z [(0, .p (.agg (AU d)))] Z Z fun A hA => ?_
 unfold GM at h
 refine rs AA <| rl Z <| rs AA <| rn 1 Z <| bq h fun af l b => sx Z (AM (PK _ _ l) (.inr Z) Z Z Z ?_)
 revert b; rcases aj : af.1 with _ | ag <;> intro b
 .replace b := UG b
  refine rl Z <| AB <| rs AA <| rl Z <| cd Z b (fun ac => ?_) (fun m => ?_)
  .refine rs AA <| rl Z <| AF <| AG ?_
   cases ac
   exact er Z (Le.tup' (.cons (Le.agg' (.cons (Le.nil _) (.cons (Le.nil _) (.cons (Le.nil _) (.cons (Le.nil _) (.cons Le.rfl (.cons Le.rfl (.cons Le.rfl (.cons Le.rfl (.cons Le.rfl (.cons (Le.nil _) .nil))))))))))) (.cons Le.rfl .nil)))
  refine AE <| AC <| rs AA <| rn 1 Z ?_
  cases m
 replace b := UH b
 refine rl Z <| AB <| rs AA <| rl Z <| cd Z b (fun v => ?_) (fun x => ?_)
 .refine rs AA <| rl Z <| AF <| AG ?_
  cases v
  exact er Z (Le.tup' (.cons (Le.agg' (.cons (Le.nil _) (.cons (Le.nil _) (.cons (Le.nil _) (.cons (Le.nil _) (.cons Le.rfl (.cons Le.rfl (.cons Le.rfl (.cons Le.rfl (.cons Le.rfl (.cons (Le.nil _) .nil))))))))))) (.cons Le.rfl .nil)))
 refine AE <| AC <| rs AA <| rn 1 Z <| bq x fun ae k y => sx Z (WL (c' := 3) (XK _ _ k) [] Z trivial Z Z Z Z Z Z Z <| rl Z <| AB <| rs AA <| rl Z <| cd Z y (fun aa => ?_) (fun ab => ?_))
 .refine rs AA <| rl Z <| AF <| AG ?_
  cases aa
  exact er Z (Le.tup' (.cons (Le.agg' (.cons (Le.nil _) (.cons (Le.nil _) (.cons (Le.nil _) (.cons (Le.nil _) (.cons Le.rfl (.cons Le.rfl (.cons Le.rfl (.cons Le.rfl (.cons Le.rfl (.cons (Le.nil _) .nil))))))))))) (.cons Le.rfl .nil)))
 refine AE <| AC <| AB <| rs AA <| rl Z <| AH ?_
 apply lp (a := r) (fun c : (Int × (List Ai)) => ⟨45, [(2, .lpb 0 0), (4, lq (Aq ag)), (6, .lsl 1 9 0 c.2.length), (27, li (ae.1.length : Int)), (28, li c.1)], [(0, .box [.p (.nils), .p (.nils), .p (.nils), .p (.nils), li 0, li 0, li 0, li 0, lb false, .p (.nils)]), (1, .row 72 9 (c.2.map BK))], 2⟩) ab
 . exact wf hA [(0, 1), (1, 2)] Z Z Z
 intro c ai g
 unfold EK at g
 refine rs AA <| rl Z <| AB <| cd Z g (fun n => ?_) (fun t => ?_)
 .exact AE <| AC <| AB <| AH <| rs AA <| rl Z <| rg AA <| rn 5 Z <| bq n fun ak e o => sx Z (B2 e Z Z Z Z <| sx Z (C7 e Z Z Z <| bq o fun ad i q => sx Z (AM (XM _ _ _ i) (.inr Z) Z Z Z <| bq q fun al f s => sx Z (B2 f Z Z Z Z <| sx Z (Lw (z := ad) f Z Z Z Z Z Z Z Z <| rl Z <| Ag <| AC <| rg AA <| rl Z <| Ar s (wk [(0, 0), (1, 1)] (free hA _) Z Z Z (.cons Z (.cons Z (.cons (by simp only [BF]; rfl) (.cons Z (.cons Z .nil))))) (.cons Z Z (.cons Z Z .nil))))))))
 refine AV <| AX <| CP t fun ah u => Ap <| AC <| rs AA <| rn 1 Z <| bq u fun am j w => sx Z (AM (HN _ _ j) (.inr Z) Z Z Z <| rl Z <| AF ?_)
 cases w
 exact er (UL Z (.cons (.agg (.cons (.p _) (.cons (.p _) (.cons (.p _) (.cons (.p _) (.cons (.p _) (.cons (.p _) (.cons (.p _) (.cons (.p _) (.cons (.p _) (.cons (.own (enc := BK) c.2 Z Z) .nil))))))))))) (.cons (.one (.p _)) .nil))) Le.rfl
noncomputable def GX (a : AK) : Option (DJ × Bool) :=
 (G6 a).bind fun c => bif (!c) then some ((⟨(⟨[], [], [], [], 0, 0, 0, 0, false⟩ : AK), []⟩ : DJ), false) else (GM a).bind fun b => some (b.1, (b.2 == 0))
theorem QK (a : AK) (r : (DJ × Bool)) (h : GX a = some r) : Ax Tryz.prog 24 [.agg (AU a)] (· = .tup [.agg (DU r.1), .bool r.2]) := by
 refine fn AA Tryz.func24 Z Z 18 Z [.cell 2 35, .tmp 3] Z [(0, .p (.agg (AU a)))] Z Z fun A hA => ?_
 unfold GX at h
 refine rs AA <| rl Z <| AB <| rs AA <| rn 1 Z <| bq h fun j c d => sx Z (AM (PM _ _ c) (.inl Z) Z Z Z <| rl Z <| cd Z d (fun e => ?_) (fun f => ?_))
 .refine rs AA <| rl Z <| AF <| AG ?_
  cases e
  exact er Z (Le.tup' (.cons (Le.agg' (.cons (Le.nil _) (.cons (Le.nil _) (.cons (Le.nil _) (.cons (Le.nil _) (.cons Le.rfl (.cons Le.rfl (.cons Le.rfl (.cons Le.rfl (.cons Le.rfl (.cons (Le.nil _) .nil))))))))))) (.cons Le.rfl .nil)))
 refine AE <| AC <| rs AA <| rn 1 Z <| bq f fun i b g => sx Z (AM (TT _ _ b) (.inr Z) Z Z Z <| rl Z <| rs AA <| rl Z <| AF ?_)
 cases g
 exact er Z Le.rfl
noncomputable def IZ (b : AK) : Option (Option Ay) :=
 (G6 b).bind fun c => bif (!c) then some none else (Cl b).bind fun a => Io a.1 (bif (a.2 != 0) then some none else some none) fun d => bif (a.2 != 0) then some none else some (some d)
theorem Su (b : AK) (r : (Option Ay)) (h : IZ b = some r) : Ax Tryz.prog 33 [.agg (AU b)] (· = XG Aq r) := by
 refine fn AA Tryz.func33 Z Z 16 Z [.tmp 2] Z [(0, .p (.agg (AU b)))] Z Z fun A hA => ?_
 unfold IZ at h
 refine rs AA <| rl Z <| AB <| rs AA <| rn 1 Z <| bq h fun o d e => sx Z (AM (PM _ _ d) (.inl Z) Z Z Z <| rl Z <| cd Z e (fun f => ?_) (fun g => ?_))
 .refine rs AA <| rl Z <| AF <| AG ?_
  cases f
  exact er Z Le.rfl
 refine AE <| AC <| rs AA <| rn 1 Z <| bq g fun m c a => sx Z (AM (PK _ _ c) (.inr Z) Z Z Z ?_)
 revert a; rcases n : m.1 with _ | q <;> intro a
 .replace a := UG a
  refine rl Z <| AB <| rs AA <| rl Z <| cd Z a (fun i => ?_) (fun j => ?_)
  .refine rs AA <| rl Z <| AF <| AG ?_
   cases i
   exact er Z Le.rfl
  refine AE <| AC <| rs AA <| rl Z <| AF ?_
  cases j
  exact er Z Le.rfl
 replace a := UH a
 refine rl Z <| AB <| rs AA <| rl Z <| cd Z a (fun k => ?_) (fun l => ?_)
 .refine rs AA <| rl Z <| AF <| AG ?_
  cases k
  exact er Z Le.rfl
 refine AE <| AC <| rs AA <| rl Z <| AF ?_
 cases l
 exact er Z Le.rfl
noncomputable def G4 : Option Al :=
 some (⟨0, ([(⟨(⟨#[120]⟩ : ByteArray), 5, 10, 10, 5⟩ : BM)] : List BM), ([(⟨(⟨#[116]⟩ : ByteArray), 0, 0, 0, ([(⟨false, 0, 1, 1⟩ : Cr), (⟨false, 0, 3, 4⟩ : Cr), (⟨true, 0, 2, 0⟩ : Cr)] : List Cr)⟩ : DT)] : List DT)⟩ : Al)
theorem KH (r : Al) (h : G4 = some r) : Ax Tryz.prog 34 [] (· = .agg (Ac r)) := by
 refine fn AA Tryz.func34 Z Z 10 Z [.cell 0 31] Z [] Z Z fun A hA => ?_
 unfold G4 at h
 refine rs AA <| rl Z <| rs AA <| rn 1 Z <| sx Z (W8 (sz := 5) (l := List.map BN ([(⟨(⟨#[120]⟩ : ByteArray), 5, 10, 10, 5⟩ : BM)] : List BM)) Z <| rn 3 Z <| sx Z (W8 (sz := 4) (l := List.map EV ([(⟨false, 0, 1, 1⟩ : Cr), (⟨false, 0, 3, 4⟩ : Cr), (⟨true, 0, 2, 0⟩ : Cr)] : List Cr)) Z <| rn 1 Z <| sx Z (W8 (sz := 5) (l := List.map B3 ([(⟨(⟨#[116]⟩ : ByteArray), 0, 0, 0, ([(⟨false, 0, 1, 1⟩ : Cr), (⟨false, 0, 3, 4⟩ : Cr), (⟨true, 0, 2, 0⟩ : Cr)] : List Cr)⟩ : DT)] : List DT)) Z <| rl Z <| AF ?_)))
 cases h
 exact er Z Le.rfl
noncomputable def Fu (b : Al) (a : Int) (c : Int) : Option ((List Cr) × Bool) :=
 ((bif decide (a < 0) then some true else bif decide ((b.runs.length : Int) <= a) then some true else bif decide (c < 0) then some true else (AY b.runs a).bind fun e => some (decide ((e.legs.length : Int) < c)) : Option (Bool))).bind fun (d : Bool) => bif d then some ([], false) else (AY b.runs a).bind fun f => some (f.legs, true)
theorem N6 (a : Al) (b : Int) (d : Int) (r : ((List Cr) × Bool)) (h : Fu a b d = some r) : Ax Tryz.prog 39 [.agg (Ac a), .int .i64 b, .int .i64 d] (· = .tup [.slice 4 (r.1.map EV), .bool r.2]) := by
 refine fn AA Tryz.func39 Z Z 38 Z [.tmp 6, .tmp 7] Z [(0, .p (.agg (Ac a))), (1, .p (.int .i64 b)), (2, .p (.int .i64 d))] Z Z fun A hA => ?_
 unfold Fu at h
 refine rs AA <| rl Z <| AB <| jb (fun c : Bool => ⟨38, [(1, li b), (3, .lpb 0 0), (31, lb c)], [(0, bx (Ac a))], 1⟩) h (fun c g => ?_) (fun c q => ?_)
 .refine rg AA <| rn 3 Z <| gs 10 g Z Z Z (fun i => ?_) (fun j => ?_)
  .exact rl Z <| AL i (wf hA [(0, 0)] Z Z Z)
  refine rn 3 Z <| sx Z (Ad Z Z <| rn 3 Z <| gs 17 j Z Z Z (fun k => ?_) (fun l => ?_))
  .exact rl Z <| AL k (wf hA [(0, 0)] Z Z Z)
  refine rn 4 Z <| gs 21 l Z Z Z (fun m => ?_) (fun n => ?_)
  .exact rl Z <| AL m (wf hA [(0, 0)] Z Z Z)
  exact rn 4 Z <| bq n fun v e o => sx Z (Af e Z Z Z <| rn 2 Z <| sx Z (Ad Z Z <| rl Z <| AL o (wf hA [(0, 0)] Z Z Z)))
 refine cd Z q (fun s => ?_) (fun t => ?_)
 .refine rs AA <| rl Z <| AF <| AG ?_
  cases s
  exact er Z (Le.tup' (.cons (Le.nil _) (.cons Le.rfl .nil)))
 refine AE <| AC <| rs AA <| rn 3 Z <| bq t fun w f u => sx Z (Af f Z Z Z <| rl Z <| AF ?_)
 cases u
 exact er Z Le.rfl
noncomputable def IL (b : Ay) (c : Int) : Option (Int × Bool) :=
 (Cb b c).bind fun a => some (a.1.elem, a.2)
theorem TU (a : Ay) (b : Int) (r : (Int × Bool)) (h : IL a b = some r) : Ax Tryz.prog 70 [.place (Aq a) 0, .int .i64 b] (· = .tup [.int .i64 r.1, .bool r.2]) := by
 refine fn AA Tryz.func70 Z Z 17 Z [.tmp 4, .tmp 5] Z [(0, .p (.place (Aq a) 0)), (1, .p (.int .i64 b))] Z Z fun A hA => ?_
 unfold IL at h
 refine rs AA <| rl Z <| rs AA <| rn 2 Z <| bq h fun e c d => sx Z (AM (G3 _ _ _ c) (.inl Z) Z Z Z <| rl Z <| rs AA <| rl Z <| AF ?_)
 cases d
 exact er Z Le.rfl
noncomputable def GZ (b : Ay) (c : Int) : Option Int :=
 (IL b c).bind fun a => bif (!a.2) then some (-1) else some a.1
theorem QL (a : Ay) (b : Int) (r : Int) (h : GZ a b = some r) : Ax Tryz.prog 40 [.place (Aq a) 0, .int .i64 b] (· = .int .i64 r) := by
 refine fn AA Tryz.func40 Z Z 16 Z [.tmp 4] Z [(0, .p (.place (Aq a) 0)), (1, .p (.int .i64 b))] Z Z fun A hA => ?_
 unfold GZ at h
 refine rs AA <| rl Z <| rs AA <| rn 2 Z <| bq h fun g c d => sx Z (AM (TU _ _ _ c) (.inl Z) Z Z Z <| rl Z <| AB <| rs AA <| rl Z <| cd Z d (fun e => ?_) (fun f => ?_))
 .refine rs AA <| rl Z <| AF <| AG ?_
  cases e
  exact er Z Le.rfl
 refine AE <| AC <| rs AA <| rl Z <| AF ?_
 cases f
 exact er Z Le.rfl
noncomputable def Ca (c : Ay) (d : Al) (e : Int) (b : Int) : Option Int :=
 (Fu d e b).bind fun f => bif (!f.2) then some (-1) else bif (b == 0) then (AY d.runs e).bind fun g => (GZ c g.frm).bind fun h => some h else (AY f.1 (AO (b - 1))).bind fun a => bif (a.fin == 1) then (GZ c a.to).bind fun i => some i else bif (a.fin == 3) then some a.to else some (-1)
theorem FK (a : Ay) (b : Al) (c : Int) (d : Int) (r : Int) (h : Ca a b c d = some r) : Ax Tryz.prog 13 [.place (Aq a) 0, .agg (Ac b), .int .i64 c, .int .i64 d] (· = .int .i64 r) := by
 refine fn AA Tryz.func13 Z Z 48 Z [.tmp 8] Z [(0, .p (.place (Aq a) 0)), (1, .p (.agg (Ac b))), (2, .p (.int .i64 c)), (3, .p (.int .i64 d))] Z Z fun A hA => ?_
 unfold Ca at h
 refine rs AA <| rl Z <| rs AA <| rn 3 Z <| bq h fun ab g o => sx Z (AM (N6 _ _ _ _ g) (.inr Z) Z Z Z <| rl Z <| AB <| rs AA <| rl Z <| cd Z o (fun x => ?_) (fun y => ?_))
 .refine rs AA <| rl Z <| AF <| AG ?_
  cases x
  exact er Z Le.rfl
 refine AE <| AC <| AB <| rs AA <| rl Z <| cd Z y (fun k => ?_) (fun n => ?_)
 .refine rs AA <| rn 4 Z <| bq k fun z e l => sx Z (Af e Z Z Z <| rn 2 Z <| bq l fun aa f m => sx Z (AM (QL _ _ _ f) (.inl Z) Z Z Z <| rl Z <| AF <| AG ?_))
  have hr := Option.some.inj m; subst hr
  exact er Z Le.rfl
 refine AE <| AC <| AB <| rs AA <| rn 3 Z <| bq n fun ac i q => sx Z (Af i Z Z Z <| rl Z <| rs AA <| rl Z <| AH <| rs AA <| rl Z <| cd Z q (fun s => ?_) (fun u => ?_))
 .refine rs AA <| rn 3 Z <| bq s fun ad j t => sx Z (AM (QL _ _ _ j) (.inl Z) Z Z Z <| rl Z <| AF <| AN <| AG ?_)
  have hr := Option.some.inj t; subst hr
  exact er Z Le.rfl
 refine rs AA <| rl Z <| cd Z u (fun v => ?_) (fun w => ?_)
 .refine rs AA <| rl Z <| AF <| AN <| AG ?_
  cases v
  exact er Z Le.rfl
 refine AE <| Ag <| AC <| rs AA <| rl Z <| AF ?_
 cases w
 exact er Z Le.rfl
noncomputable def GV (b : Ay) (a : Int) : Option Int :=
 (BS b a).bind fun c => bif (c == 4) then some (-1) else some a
theorem QI (a : Ay) (b : Int) (r : Int) (h : GV a b = some r) : Ax Tryz.prog 48 [.place (Aq a) 0, .int .i64 b] (· = .int .i64 r) := by
 refine fn AA Tryz.func48 Z Z 10 Z [.tmp 4] Z [(0, .p (.place (Aq a) 0)), (1, .p (.int .i64 b))] Z Z fun A hA => ?_
 unfold GV at h
 refine rs AA <| rl Z <| AB <| rs AA <| rn 2 Z <| bq h fun g c d => sx Z (AM (Bs _ _ _ c) (.inl Z) Z Z Z <| rl Z <| cd Z d (fun e => ?_) (fun f => ?_))
 .refine rs AA <| rl Z <| AF <| AG ?_
  cases e
  exact er Z Le.rfl
 refine AE <| AC <| rs AA <| rl Z <| AF ?_
 have hr := Option.some.inj f; subst hr
 exact er Z Le.rfl
noncomputable def DC (a : Ay) (b : Int) : Option (Int × Int) :=
 bif (Ak a.line b).isSome then (AY ([((Ak a.line b).getD (⟨0, 0⟩ : Bk)).a0, ((Ak a.line b).getD (⟨0, 0⟩ : Bk)).a1] : List Int) 0).bind fun c => (AY ([((Ak a.line b).getD (⟨0, 0⟩ : Bk)).a0, ((Ak a.line b).getD (⟨0, 0⟩ : Bk)).a1] : List Int) 1).bind fun d => some (c, d) else some ((-1), (-1))
theorem M1 (a : Ay) (b : Int) (r : (Int × Int)) (h : DC a b = some r) : Ax Tryz.prog 77 [.place (Aq a) 0, .int .i64 b] (· = .tup [.int .i64 r.1, .int .i64 r.2]) := by
 refine fn AA Tryz.func77 Z Z 22 Z [.tmp 4, .tmp 5] Z [(0, .p (.place (Aq a) 0)), (1, .p (.int .i64 b))] Z Z fun A hA => ?_
 unfold DC at h
 refine rs AA <| rl Z <| AB <| rs AA <| rn 5 Z <| sx Z (Jk (et := 161) (ke := (.int .i64)) (ve := (fun x => .agg (E4 x))) (mp := a.line) (y := b) (⟨0, 0⟩ : Bk) GF Z Z Z Z <| rl Z <| rs AA <| rl Z <| cd Z h (fun e => ?_) (fun j => ?_))
 .refine AB ?_
  refine Bz AA mixed [0, 1, 2, 3, 4, 5] 6 (by kernel_rfl) Z Z Z ?_
  refine bq e fun k c f => As Z (Aj Z (W5 (l := ([((Ak a.line b).getD (⟨0, 0⟩ : Bk)).a0, ((Ak a.line b).getD (⟨0, 0⟩ : Bk)).a1] : List Int)) c Z Z Z Z <| As Z (Gy Z (W7 (g := fun y => .p (.int .i64 y)) c Z Z Z Z <| bq f fun m d i => As Z (Aj Z (W5 (l := ([((Ak a.line b).getD (⟨0, 0⟩ : Bk)).a0, ((Ak a.line b).getD (⟨0, 0⟩ : Bk)).a1] : List Int)) d Z Z Z Z <| As Z (Gy Z (W7 (g := fun y => .p (.int .i64 y)) d Z Z Z Z <| BJ Z <| AC <| AF <| AG ?_))))))))
  cases i
  exact er Z Le.rfl
 refine AE <| AC <| rs AA <| rl Z <| AF ?_
 cases j
 exact er Z Le.rfl
noncomputable def H8 (b : Ay) (c : Al) (d : Int) (e : Int) : Option (AI × Bool) :=
 bif (e == 0) then (AY c.runs d).bind fun l => (Cb b l.frm).bind fun f => some (f.1, f.2) else (AY c.runs d).bind fun m => (AY m.legs (AO (e - 1))).bind fun a => bif (a.fin == 1) then (Cb b a.to).bind fun g => some (g.1, g.2) else bif (a.fin == 3) then (Bd b (⟨a.to, 0⟩ : AI)).bind fun h => (Bd b (⟨a.to, 1⟩ : AI)).bind fun i => ((bif (!h.2) then some i.2 else some false : Option (Bool))).bind fun (j : Bool) => bif j then some ((⟨a.to, 0⟩ : AI), true) else ((bif h.2 then some (!i.2) else some false : Option (Bool))).bind fun (k : Bool) => some ((⟨a.to, 1⟩ : AI), k) else some ((⟨0, 0⟩ : AI), false)
theorem Vn (c : Ay) (d : Al) (e : Int) (f : Int) (r : (AI × Bool)) (h : H8 c d e f = some r) : Ax Tryz.prog 42 [.place (Aq c) 0, .agg (Ac d), .int .i64 e, .int .i64 f] (· = .tup [.agg (AT r.1), .bool r.2]) := by
 refine fn AA Tryz.func42 Z Z 82 Z [.cell 8 40, .tmp 9] Z [(0, .p (.place (Aq c) 0)), (1, .p (.agg (Ac d))), (2, .p (.int .i64 e)), (3, .p (.int .i64 f))] Z Z fun A hA => ?_
 unfold H8 at h
 refine rs AA <| rl Z <| AB <| rs AA <| rl Z <| cd Z h (fun w => ?_) (fun af => ?_)
 .refine rs AA <| rn 4 Z <| bq w fun aq i ad => sx Z (Af i Z Z Z <| rn 2 Z <| bq ad fun ar j ae => sx Z (AM (G3 _ _ _ j) (.inl Z) Z Z Z <| rl Z <| AF <| AG ?_))
  cases ae
  exact er Z Le.rfl
 refine AE <| AC <| AB <| rs AA <| rn 3 Z <| bq af fun au k ag => sx Z (Af k Z Z Z <| rn 4 Z <| bq ag fun g l ah => sx Z (Af l Z Z Z <| rl Z <| rs AA <| rl Z <| AH <| rs AA <| rl Z <| cd Z ah (fun ai => ?_) (fun ak => ?_)))
 .refine rs AA <| rn 3 Z <| bq ai fun av m aj => sx Z (AM (G3 _ _ _ m) (.inl Z) Z Z Z <| rl Z <| AF <| AN <| AG ?_)
  cases aj
  exact er Z Le.rfl
 refine rs AA <| rl Z <| cd Z ak (fun al => ?_) (fun ac => ?_)
 .refine rs AA <| rn 4 Z <| bq al fun ao n am => sx Z (AM (CG _ _ _ n) (.inl Z) Z Z Z <| rl Z <| rs AA <| rn 4 Z <| bq am fun ap o an => sx Z (AM (CG _ _ _ o) (.inl Z) Z Z Z <| rl Z <| AB <| jb (fun a : Bool => ⟨82, [(8, .lpb 0 0), (10, .lpb 1 0), (12, lb ao.2), (14, lb ap.2), (69, lb a)], [(0, .box [li 0, li 0]), (1, bx (EV g))], 2⟩) an (fun a q => ?_) (fun a u => ?_)))
  .refine rg AA <| rn 3 Z <| gs 67 q Z Z Z (fun s => ?_) (fun t => ?_)
   .exact rl Z <| AL s (wf hA [(0, 1), (1, 2)] Z Z Z)
   exact rl Z <| AL t (wf hA [(0, 1), (1, 2)] Z Z Z)
  refine cd Z u (fun v => ?_) (fun x => ?_)
  .refine rs AA <| rl Z <| AF <| AG <| AN <| AG ?_
   cases v
   exact er Z Le.rfl
  refine AE <| AC <| jb (fun b : Bool => ⟨82, [(8, .lpb 0 0), (9, lb b)], [(0, .box [li g.to, li 1])], 1⟩) x (fun b y => ?_) (fun b ab => ?_)
  .refine rg AA <| rn 5 Z <| gs 77 y Z Z Z (fun z => ?_) (fun aa => ?_)
   .exact rl Z <| AL z (wf hA [(0, 0)] Z Z Z)
   exact rl Z <| AL aa (wf hA [(0, 0)] Z Z Z)
  refine AF <| AN <| AG ?_
  cases ab
  exact er Z Le.rfl
 refine AE <| Ag <| AC <| rs AA <| rl Z <| AF ?_
 cases ac
 exact er Z Le.rfl
noncomputable def HP (d : Ay) (e : Al) (f : Int) (a : Int) : Option Int :=
 (Fu e f a).bind fun c => ((bif (!c.2) then some true else some (a == (c.1.length : Int)) : Option (Bool))).bind fun (g : Bool) => bif g then some (-1) else (H8 d e f a).bind fun b => ((bif (!b.2) then some true else (AY c.1 a).bind fun j => bif j.turn then (BS d b.1.elem).bind fun k => some (k != 1) else some false : Option (Bool))).bind fun (h : Bool) => bif h then some (-1) else (((AY c.1 a).bind fun l => bif l.turn then some (AO (1 - b.1.fin)) else some b.1.fin : Option (Int))).bind fun (i : Int) => (CX d (⟨b.1.elem, i⟩ : AI)).bind fun m => some m
theorem Rb (a : Ay) (c : Al) (d : Int) (b : Int) (r : Int) (h : HP a c d b = some r) : Ax Tryz.prog 15 [.place (Aq a) 0, .agg (Ac c), .int .i64 d, .int .i64 b] (· = .int .i64 r) := by
 refine fn AA Tryz.func15 Z Z 63 Z [.tmp 8] Z [(0, .p (.place (Aq a) 0)), (1, .p (.agg (Ac c))), (2, .p (.int .i64 d)), (3, .p (.int .i64 b))] Z Z fun A hA => ?_
 unfold HP at h
 refine rs AA <| rl Z <| rs AA <| rn 3 Z <| bq h fun j l z => sx Z (AM (N6 _ _ _ _ l) (.inr Z) Z Z Z <| rl Z <| AB <| jb (fun e : Bool => ⟨63, [(0, lq (Aq a)), (2, li d), (3, li b), (5, .lpb 0 0), (9, ls 4 EV j.1), (26, lb e)], [(0, bx (Ac c))], 1⟩) z (fun e s => ?_) (fun e v => ?_))
 .refine rg AA <| rn 3 Z <| gs 21 s Z Z Z (fun t => ?_) (fun u => ?_)
  .exact rl Z <| AL t (wf hA [(0, 0)] Z Z Z)
  exact rn 2 Z <| sx Z (Ad Z Z <| rl Z <| AL u (wf hA [(0, 0)] Z Z Z))
 refine cd Z v (fun w => ?_) (fun x => ?_)
 .refine rs AA <| rl Z <| AF <| AG ?_
  cases w
  exact er Z Le.rfl
 refine AE <| AC <| rs AA <| rn 4 Z <| bq x fun i k y => sx Z (AM (Vn _ _ _ _ _ k) (.inl Z) Z Z Z <| rl Z <| AB <| jb (fun f : Bool => ⟨63, [(0, lq (Aq a)), (3, li b), (9, ls 4 EV j.1), (11, .lpb 0 0), (50, lb f)], [(0, .box [li i.1.elem, li i.1.fin])], 1⟩) y (fun f aa => ?_) (fun f ah => ?_))
 .refine rg AA <| rn 3 Z <| gs 37 aa Z Z Z (fun ab => ?_) (fun ac => ?_)
  .exact rl Z <| AL ab (wf hA [(0, 1)] Z Z Z)
  refine rn 2 Z <| bq ac fun aq m ad => sx Z (Af m Z Z Z <| rn 3 Z <| gs 43 ad Z Z Z (fun ae => ?_) (fun ag => ?_))
  .exact rn 3 Z <| bq ae fun ar n af => sx Z (AM (Bs _ _ _ n) (.inl Z) Z Z Z <| rl Z <| AL af (wf hA [(0, 1)] Z Z Z))
  exact rl Z <| AL ag (wf hA [(0, 1)] Z Z Z)
 refine cd Z ah (fun ai => ?_) (fun aj => ?_)
 .refine rs AA <| rl Z <| AF <| AG ?_
  cases ai
  exact er Z Le.rfl
 refine AE <| AC <| jb (fun g : Int => ⟨63, [(0, lq (Aq a)), (11, .lpb 0 0)], [(0, .box [li i.1.elem, li g])], 1⟩) aj (fun g ak => ?_) (fun g ao => ?_)
 .refine rs AA <| rn 2 Z <| bq ak fun au o al => sx Z (Af o Z Z Z <| rl Z <| cd Z al (fun am => ?_) (fun an => ?_))
  .exact rg AA <| rl Z <| AL am (wf hA [(0, 0)] Z Z Z)
  exact AE <| AL an (wf hA [(0, 0)] Z Z Z)
 refine rs AA <| rn 2 Z <| bq ao fun av q ap => sx Z (AM (Gk _ _ _ q) (.inl Z) Z Z Z <| rl Z <| AF ?_)
 have hr := Option.some.inj ap; subst hr
 exact er Z Le.rfl
noncomputable def JC (a : Ai) (b : Cr) : Option Bool :=
 ((bif (a.fin != b.fin) then some true else some ((a.steps.length : Int) == 0) : Option (Bool))).bind fun (c : Bool) => bif c then some false else bif (b.fin == 1) then some (a.to == b.to) else (AY a.steps (AO ((a.steps.length : Int) - 1))).bind fun d => some (d.elem == b.to)
theorem XN (a : Ai) (b : Cr) (r : Bool) (h : JC a b = some r) : Ax Tryz.prog 45 [.agg (BK a), .agg (EV b)] (· = .bool r) := by
 refine fn AA Tryz.func45 Z Z 36 Z [.tmp 4] Z [(0, .p (.agg (BK a))), (1, .p (.agg (EV b)))] Z Z fun A hA => ?_
 unfold JC at h
 refine rs AA <| rl Z <| AB <| jb (fun c : Bool => ⟨36, [(2, .lpb 0 0), (3, .lpb 1 0), (15, lb c)], [(0, bx (BK a)), (1, bx (EV b))], 2⟩) h (fun c e => ?_) (fun c i => ?_)
 .refine rg AA <| rn 6 Z <| gs 10 e Z Z Z (fun f => ?_) (fun g => ?_)
  .exact rl Z <| AL f (wf hA [(0, 0), (1, 1)] Z Z Z)
  exact rn 2 Z <| sx Z (Ad Z Z <| rl Z <| AL g (wf hA [(0, 0), (1, 1)] Z Z Z))
 refine cd Z i (fun j => ?_) (fun k => ?_)
 .refine rs AA <| rl Z <| AF <| AG ?_
  cases j
  exact er Z Le.rfl
 refine AE <| AC <| AB <| rs AA <| rl Z <| cd Z k (fun l => ?_) (fun m => ?_)
 .refine rs AA <| rl Z <| AF <| AG ?_
  cases l
  exact er Z Le.rfl
 refine AE <| AC <| AB ?_
 refine Bz AA mixed [0, 1, 2, 3, 4, 5, 6, 7, 8, 9, 10, 11, 12] 13 (by kernel_rfl) Z Z Z ?_
 refine Au 4 Z <| As Z (F9 Z Z <| Au 1 Z <| bq m fun o d n => As Z (Aj Z (Af d Z Z Z <| BJ Z <| AC <| AF ?_)))
 cases n
 exact er Z Le.rfl
noncomputable def DD (a : Ay) (b : Int) : Option Int :=
 (EA a b).bind fun c => some c.length
theorem LX (a : Ay) (b : Int) (r : Int) (h : DD a b = some r) : Ax Tryz.prog 74 [.place (Aq a) 0, .int .i64 b] (· = .int .i64 r) := by
 refine fn AA Tryz.func74 Z Z 9 Z [.tmp 4] Z [(0, .p (.place (Aq a) 0)), (1, .p (.int .i64 b))] Z Z fun A hA => ?_
 unfold DD at h
 refine rs AA <| rl Z <| rs AA <| rn 2 Z <| bq h fun e c d => sx Z (AM (NE _ _ _ c) (.inl Z) Z Z Z <| rl Z <| AF ?_)
 cases d
 exact er Z Le.rfl
noncomputable def HD (a : Ay) (d : BM) (b : Int) : Option Bool :=
 (BS a b).bind fun c => bif (c == 4) then some true else bif (c == 1) then (DD a b).bind fun e => (B0 a).bind fun f => some (decide (AO (d.len + f.margin) <= e)) else some false
theorem Uc (a : Ay) (b : BM) (c : Int) (r : Bool) (h : HD a b c = some r) : Ax Tryz.prog 47 [.place (Aq a) 0, .agg (BN b), .int .i64 c] (· = .bool r) := by
 refine fn AA Tryz.func47 Z Z 24 Z [.tmp 6] Z [(0, .p (.place (Aq a) 0)), (1, .p (.agg (BN b))), (2, .p (.int .i64 c))] Z Z fun A hA => ?_
 unfold HD at h
 refine rs AA <| rl Z <| AB <| rs AA <| rn 2 Z <| bq h fun o d g => sx Z (AM (Bs _ _ _ d) (.inl Z) Z Z Z <| rl Z <| AH <| rs AA <| rl Z <| cd Z g (fun i => ?_) (fun j => ?_))
 .refine rs AA <| rl Z <| AF <| AN <| AG ?_
  cases i
  exact er Z Le.rfl
 refine rs AA <| rl Z <| cd Z j (fun k => ?_) (fun n => ?_)
 .refine AB ?_
  refine Bz AA mixed [0, 1, 2, 3, 4, 5, 6, 7, 8, 9, 10] 11 (by kernel_rfl) Z Z Z ?_
  refine Au 2 Z <| bq k fun q e l => As Z (A6 (LX _ _ _ e) (.inl Z) Z Z Z <| Au 3 Z <| bq l fun s f m => As Z (A6 (HN _ _ f) (.inr Z) Z Z Z <| BJ Z <| AC <| AF <| AN <| AG ?_))
  cases m
  exact er Z Le.rfl
 refine AE <| Ag <| AC <| rs AA <| rl Z <| AF ?_
 cases n
 exact er Z Le.rfl
noncomputable def Ha (f : Ay) (c : (List Ai)) (g : Al) (h : Int) (i : Int) (j : Int) (l : Int) (k : BM) (a : Int × (List Int)) : Option ((Int × (List Int)) ⊕ (List Int)) :=
 bif decide (a.1 < (c.length : Int)) then (((AY c a.1).bind fun b => ((bif (b.frm == j) then (AY g.runs h).bind fun m => (AY m.legs i).bind fun n => (JC b n).bind fun o => bif o then bif (!b.bare) then (BZ b.zone l).bind fun p => bif (!p) then (AY b.steps (AO ((b.steps.length : Int) - 1))).bind fun q => (HD f k q.elem).bind fun r => some r else some false else some false else some false else some false : Option (Bool))).bind fun (e : Bool) => bif e then (Bu a.2 [a.1]).bind fun s => some s else some a.2 : Option ((List Int)))).bind fun (d : (List Int)) => some (.inl (AO (a.1 + 1), d)) else some (.inr a.2)
noncomputable def E1 (c : Ay) (g : (List Ai)) (a : Al) (b : Int) (d : Int) : Option (List Int) :=
 (HP c a b d).bind fun e => (Ca c a b d).bind fun l => ((bif decide (e < 0) then some true else (AY a.runs b).bind fun h => bif decide (h.stock < 0) then some true else (AY a.runs b).bind fun i => some (decide ((a.stock.length : Int) <= i.stock)) : Option (Bool))).bind fun (f : Bool) => bif f then some [] else (AY a.runs b).bind fun j => (AY a.stock j.stock).bind fun k => AQ (Ha c g a b d e l k) (0, ([] : List Int))
theorem MP (d : Ay) (c : (List Ai)) (e : Al) (f : Int) (g : Int) (r : (List Int)) (h : E1 d c e f g = some r) : Ax Tryz.prog 18 [.place (Aq d) 0, .slice 9 (c.map BK), .agg (Ac e), .int .i64 f, .int .i64 g] (· = .slice 1 (r.map AZ)) := by
 refine fn AA Tryz.func18 Z Z 116 Z [.tmp 10] Z [(0, .p (.place (Aq d) 0)), (1, .p (.slice 9 (c.map BK))), (2, .p (.agg (Ac e))), (3, .p (.int .i64 f)), (4, .p (.int .i64 g))] Z Z fun A hA => ?_
 unfold E1 at h
 refine rs AA <| rl Z <| AB ?_
 refine Bz AA mixed [0, 1, 2, 3, 4, 5, 6, 7, 8, 9, 10, 11] 12 (by kernel_rfl) Z Z Z ?_
 refine Au 4 Z <| bq h fun j v av => As Z (A6 (Rb _ _ _ _ _ v) (.inl Z) Z Z Z <| Au 4 Z <| bq av fun k y aw => As Z (A6 (FK _ _ _ _ _ y) (.inl Z) Z Z Z <| BJ Z <| AC <| AB <| jb (fun n : Bool => ⟨116, [(0, lq (Aq d)), (1, ls 9 BK c), (3, li f), (4, li g), (7, .lpb 0 0), (11, li j), (12, li k), (49, lb n)], [(0, bx (Ac e))], 1⟩) aw (fun n ah => ?_) (fun n ao => ?_)))
 .refine Bz AA mixed [0, 1, 2, 3, 4, 5, 6, 7, 8, 9, 10, 11, 12, 13, 14, 15, 16, 17, 18, 19, 20, 21, 22] 23 (by kernel_rfl) Z Z Z ?_
  refine Au 3 Z <| ES 29 ah Z Z Z (fun ai => ?_) (fun aj => ?_)
  .exact BJ Z <| AL ai (wf hA [(0, 0)] Z Z Z)
  refine Au 3 Z <| bq aj fun bp t ak => As Z (Aj Z (Af t Z Z Z <| Au 5 Z <| ES 38 ak Z Z Z (fun al => ?_) (fun am => ?_)))
  .exact BJ Z <| AL al (wf hA [(0, 0)] Z Z Z)
  exact Au 3 Z <| bq am fun br u an => As Z (Aj Z (Af u Z Z Z <| Au 4 Z <| As Z (F9 Z Z <| BJ Z <| AL an (wf hA [(0, 0)] Z Z Z))))
 refine cd Z ao (fun ap => ?_) (fun aq => ?_)
 .refine rs AA <| rl Z <| AF <| AG ?_
  cases ap
  exact er Z (Le.nil _)
 refine AE <| AC <| AB ?_
 refine Bz AA mixed [0, 1, 2, 3, 4, 5, 6, 7, 8, 9, 10, 11] 12 (by kernel_rfl) Z Z Z ?_
 refine Au 5 Z <| bq aq fun bs w ar => As Z (Aj Z (Af w Z Z Z <| Au 2 Z <| bq ar fun q x au => As Z (Aj Z (Af x Z Z Z <| BJ Z <| AC <| rs AA <| rl Z <| AB <| rs AA <| rn 1 Z <| sx Z (Ad Z Z <| rl Z <| AH ?_)))))
 apply lp (a := r) (fun b : (Int × (List Int)) => ⟨116, [(0, lq (Aq d)), (3, li f), (4, li g), (7, .lpb 0 0), (11, li j), (12, li k), (13, .lpb 1 0), (14, .lsl 2 1 0 b.2.length), (60, ls 9 BK c), (61, li (c.length : Int)), (62, li b.1)], [(0, bx (Ac e)), (1, bx (BN q)), (2, .row 3 1 (b.2.map AZ))], 3⟩) au
 . exact A7.trans (Ci 14 3 1 Z) (wf hA [(0, 0), (1, 11), (2, 13)] Z Z Z)
 intro b bo s
 unfold Ha at s
 refine rs AA <| rl Z <| AB <| cd Z s (fun ax => ?_) (fun bl => ?_)
 .refine AE <| AC <| jb (fun i : (List Int) => ⟨116, [(0, lq (Aq d)), (3, li f), (4, li g), (7, .lpb 0 0), (11, li j), (12, li k), (13, .lpb 1 0), (14, .lsl 2 1 0 i.length), (60, ls 9 BK c), (61, li (c.length : Int)), (62, li b.1)], [(0, bx (Ac e)), (1, bx (BN q)), (2, .row 3 1 (i.map AZ))], 3⟩) ax (fun i ay => ?_) (fun i bk => ?_)
  .refine AH <| rs AA <| rn 1 Z <| bq ay fun bt z az => sx Z (Af z Z Z Z <| rl Z <| jb (fun o : Bool => ⟨116, [(0, lq (Aq d)), (3, li f), (4, li g), (7, .lpb 0 0), (11, li j), (12, li k), (13, .lpb 1 0), (14, .lsl 2 1 0 b.2.length), (15, li b.1), (60, ls 9 BK c), (61, li (c.length : Int)), (62, li b.1), (109, lb o)], [(0, bx (Ac e)), (1, bx (BN q)), (2, .row 3 1 (b.2.map AZ))], 3⟩) az (fun o a0 => ?_) (fun o bg => ?_))
   .refine Bz AA mixed [0, 1, 2, 3, 4, 5, 6, 7, 8, 9, 10, 11, 12, 13, 14, 15, 16, 17, 18, 19, 20, 21, 22, 23, 24, 25, 26, 27, 28, 29, 30, 31, 32, 33, 34, 35, 36, 37, 38, 39, 40, 41, 42] 43 (by kernel_rfl) Z Z Z ?_
    refine Au 5 Z <| ES 71 a0 Z Z Z (fun a1 => ?_) (fun bf => ?_)
    .refine Au 4 Z <| bq a1 fun bu aa a2 => As Z (Aj Z (Af aa Z Z Z <| Au 3 Z <| bq a2 fun bv ab a3 => As Z (Aj Z (Af ab Z Z Z <| Au 1 Z <| bq a3 fun bw ac a4 => As Z (A6 (XN _ _ _ ac) (.inl Z) Z Z Z <| Au 2 Z <| ES 84 a4 Z Z Z (fun a5 => ?_) (fun be => ?_))))))
     .refine Au 5 Z <| ES 89 a5 Z Z Z (fun a6 => ?_) (fun bc => ?_)
      .refine Au 3 Z <| bq a6 fun bz ad a7 => As Z (A6 (Co _ _ _ ad) (.inl Z) Z Z Z <| Au 3 Z <| ES 96 a7 Z Z Z (fun a8 => ?_) (fun bb => ?_))
       .exact Au 6 Z <| As Z (F9 Z Z <| Au 1 Z <| bq a8 fun b0 ae a9 => As Z (Aj Z (Af ae Z Z Z <| Au 2 Z <| bq a9 fun b1 af ba => As Z (A6 (Uc _ _ _ _ af) (.inl Z) Z Z Z <| BJ Z <| AL ba (wf hA (gi 3 []) Z Z Z)))))
       exact BJ Z <| AL bb (wf hA (gi 3 []) Z Z Z)
      exact BJ Z <| AL bc (wf hA (gi 3 []) Z Z Z)
     exact BJ Z <| AL be (wf hA (gi 3 []) Z Z Z)
    exact BJ Z <| AL bf (wf hA (gi 3 []) Z Z Z)
   refine cd Z bg (fun bh => ?_) (fun bj => ?_)
   .exact rg AA <| rn 3 Z <| bq bh fun b2 ag bi => sx Z (BY (enc := AZ) (l := b.2) (m := [b.1]) ag (fun _ => ⟨Z, Z⟩) Z Z Z Z Z Z <| rl Z <| Ag <| AL bi (wf hA [(0, 0), (1, 1), (2, 4)] Z Z Z))
   exact AE <| Ag <| AL bj (wf hA (gi 3 []) Z Z Z)
  exact rg AA <| rl Z <| Ar bk (wf hA (gi 3 []) Z Z Z)
 refine AV <| AX <| BI bl fun bn bm => Ap <| AC <| rs AA <| rl Z <| AF ?_
 cases bm
 exact er (Ip Z (.one (.own (enc := AZ) b.2 Z Z))) Le.rfl
end Go.E
/- Plain functions, and walks in step with them. Written by a program (gen.py). No condition. -/
set_option maxRecDepth 100000
set_option maxHeartbeats 1000000
namespace Go.E
open Go Go.RowKit Go.Proofs
noncomputable def Hj (a : (List (Int × Bool))) : Option (List Int) := M0 a
theorem PH (a : (List (Int × Bool))) (r : (List Int)) (h : Hj a = some r) : Gu Tryz.prog 79 [.map (An (.int .i64) .bool a)] 3 1 (r.map AZ) := YK YL rfl a r h
noncomputable def FJ (a : Int) (b : (Option Ay)) : Option Bool :=
 Io b (none) fun d => (BS d a).bind fun c => some (c == 4)
theorem PI (b : Int) (a : (Option Ay)) (r : Bool) (h : FJ b a = some r) : Ax Tryz.prog 80 [.int .i64 b, .place ((AA8 Aq) a) 0] (· = .bool r) := by
 refine fn AA Tryz.func80 Z Z 8 Z [.tmp 3] Z [(0, .p (.int .i64 b)), (1, .p (.place ((AA8 Aq) a) 0))] Z Z fun A hA => ?_
 unfold FJ at h
 refine rs AA <| rl Z <| rs AA <| rn 2 Z ?_
 revert h; rcases e : a with _ | g <;> intro h
 .replace h := UG h
  cases h
 replace h := UH h
 refine bq h fun f c d => sx Z (AM (Bs _ _ _ c) (.inl Z) Z Z Z <| rl Z <| AF ?_)
 cases d
 exact er Z Le.rfl
noncomputable def Dh (b : CQ) (a : Int × (List (Int × Bool))) : Option ((Int × (List (Int × Bool))) ⊕ (List (Int × Bool))) :=
 bif decide (a.1 < (b.elems.length : Int)) then (AY b.elems a.1).bind fun c => some (.inl (AO (a.1 + 1), A0 c true a.2)) else some (.inr a.2)
noncomputable def Di (b : CQ) (a : Int × (List (Int × Bool))) : Option ((Int × (List (Int × Bool))) ⊕ (List (Int × Bool))) :=
 bif decide (a.1 < (b.elems.length : Int)) then (AY b.elems a.1).bind fun c => some (.inl (AO (a.1 + 1), A0 c true a.2)) else some (.inr a.2)
noncomputable def Ea (i : Ay) (d : (List CQ)) (f : (Int × (List (Int × Bool)))) (e : Ai) (a : Int × (List (Int × Bool))) : Option ((Int × (List (Int × Bool))) ⊕ ((Int × (List (Int × Bool))) ⊕ (List Int))) :=
 bif decide (a.1 < (e.zone.length : Int)) then (AY e.zone a.1).bind fun b => (((DC i b).bind fun c => ((bif decide (0 <= c.1) then some (decide (c.1 < (d.length : Int))) else some false : Option (Bool))).bind fun (h : Bool) => bif h then (AY d c.1).bind fun j => AQ (Di j) (0, A0 b true a.2) else some (A0 b true a.2) : Option ((List (Int × Bool))))).bind fun (g : (List (Int × Bool))) => some (.inl (AO (a.1 + 1), g)) else some (.inr (.inl (AO (f.1 + 1), a.2)))
noncomputable def Eb (e : Ay) (b : (List CQ)) (j : (List Ai)) (g : (Int × (List (Int × Bool)))) (k : Int) (f : Ai) (a : Int × (List (Int × Bool))) : Option ((Int × (List (Int × Bool))) ⊕ ((Int × (List (Int × Bool))) ⊕ (List Int))) :=
 bif decide (a.1 < (f.steps.length : Int)) then (AY f.steps a.1).bind fun c => (((DC e c.elem).bind fun d => ((bif decide (0 <= d.1) then some (decide (d.1 < (b.length : Int))) else some false : Option (Bool))).bind fun (i : Bool) => bif i then (AY b d.1).bind fun l => AQ (Dh l) (0, A0 c.elem true a.2) else some (A0 c.elem true a.2) : Option ((List (Int × Bool))))).bind fun (h : (List (Int × Bool))) => some (.inl (AO (a.1 + 1), h)) else ((AY j k).bind fun m => AQ (Ea e b g m) (0, a.2)).map .inr
noncomputable def GD (c : Ay) (b : (List Int)) (a : Int) : Option (Int ⊕ Int) :=
 bif decide (a < (b.length : Int)) then (AY b a).bind fun d => (FJ d (some c)).bind fun e => bif e then some (.inr a) else some (.inl (AO (a + 1))) else some (.inr (-1))
noncomputable def Dj (d : Ay) (a : Int × Int × (List Int)) : Option ((Int × Int × (List Int)) ⊕ (List Int)) :=
 bif decide (a.2.1 < (a.2.2.length : Int)) then (((AY a.2.2 a.2.1).bind fun c => (FJ c (some d)).bind fun e => bif (!e) then (AY a.2.2 a.1).bind fun i => some (AO (a.1 + 1), A5 a.2.2 a.1 c) else some (a.1, a.2.2) : Option (Int × (List Int)))).bind fun (b : Int × (List Int)) => some (.inl (b.1, AO (a.2.1 + 1), b.2)) else ((JL a.2.2 a.1 (a.2.2.length : Int)).bind fun f => (Qi 0 a.2.2 f).bind fun g => (JL g 0 a.1).bind fun h => some h).map .inr
noncomputable def GE (b : Ay) (i : (List CQ)) (e : (List Ai)) (j : Al) (k : Int) (l : Int) (f : (List Int)) (a : Int × (List (Int × Bool))) : Option ((Int × (List (Int × Bool))) ⊕ (List Int)) :=
 bif decide (a.1 < (f.length : Int)) then (AY f a.1).bind fun g => (AY e g).bind fun m => AQ (Eb b i e a g m) (0, a.2) else ((Ca b j k l).bind fun n => (Hj (EU n a.2)).bind fun d => ((((AQ (GD b d) 0 : Option (Int))).bind fun (c : Int) => bif (c == (-1)) then some d else AQ (Dj b) (c, AO (c + 1), d) : Option ((List Int)))).bind fun (h : (List Int)) => some h).map .inr
noncomputable def Iv (a : Ay) (f : (List CQ)) (b : (List Ai)) (c : Al) (d : Int) (e : Int) : Option (List Int) :=
 (E1 a b c d e).bind fun g => AQ (GE a f b c d e g) (0, [])
theorem XC (b : Ay) (c : (List CQ)) (j : (List Ai)) (d : Al) (k : Int) (m : Int) (r : (List Int)) (h : Iv b c j d k m = some r) : Ax Tryz.prog 50 [.place (Aq b) 0, .slice 2 (c.map Bg), .slice 9 (j.map BK), .agg (Ac d), .int .i64 k, .int .i64 m] (· = .slice 1 (r.map AZ)) := by
 refine fn AA Tryz.func50 Z Z 74 Z [.tmp 12] Z [(0, .p (.place (Aq b) 0)), (1, .p (.slice 2 (c.map Bg))), (2, .p (.slice 9 (j.map BK))), (3, .p (.agg (Ac d))), (4, .p (.int .i64 k)), (5, .p (.int .i64 m))] Z Z fun A hA => ?_
 unfold Iv at h
 refine rs AA <| rl Z <| rs AA <| rl Z <| rs AA <| rl Z <| AB <| rs AA <| rn 5 Z <| bq h fun n a1 bi => sx Z (AM (MP _ _ _ _ _ _ a1) (.inr Z) Z Z Z <| sx Z (Ad Z Z <| rl Z <| AH ?_))
 apply lp (a := r) (fun e : (Int × (List (Int × Bool))) => ⟨74, [(2, ls 9 BK j), (4, li k), (5, li m), (6, .lpb 0 0), (9, .lpb 1 0), (13, .lpb 2 0), (14, .fn 76 [.lpb 2 0, .lpb 0 0, .lpb 3 0]), (28, ls 1 AZ n), (29, li (n.length : Int)), (30, li e.1)], [(0, .box [lq (Aq b)]), (1, bx (Ac d)), (2, .box [.lmap 4]), (3, .box [ls 2 Bg c]), (4, .map (An (.int .i64) .bool e.2))], 5⟩) bi
 . exact wf hA [(0, 0), (1, 2), (2, 4), (3, 1), (4, 3)] Z Z Z
 intro e a0 am
 unfold GE at am
 refine rs AA <| rl Z <| AB <| cd Z am (fun bj => ?_) (fun cr => ?_)
 .refine AE <| AC <| AB <| AH <| rs AA <| bq bj fun dm a2 bk => sx Z (Af a2 Z Z Z <| rl Z <| AB <| rs AA <| rn 2 Z <| bq bk fun av a3 bl => sx Z (Af a3 Z Z Z <| rn 2 Z <| sx Z (Ad Z Z <| rl Z <| AH ?_)))
  apply lp (a := a0) (fun s : (Int × (List (Int × Bool))) => ⟨74, [(2, ls 9 BK j), (4, li k), (5, li m), (6, .lpb 0 0), (9, .lpb 1 0), (13, .lpb 2 0), (14, .fn 76 [.lpb 2 0, .lpb 0 0, .lpb 3 0]), (16, li dm), (28, ls 1 AZ n), (29, li (n.length : Int)), (30, li e.1), (38, ls 3 Aw av.steps), (39, li (av.steps.length : Int)), (40, li s.1)], [(0, .box [lq (Aq b)]), (1, bx (Ac d)), (2, .box [.lmap 4]), (3, .box [ls 2 Bg c]), (4, .map (An (.int .i64) .bool s.2))], 5⟩) bl
  . exact wf hA (gi 5 []) Z Z Z
  intro s d2 an
  unfold Eb at an
  refine rs AA <| rl Z <| AB <| cd Z an (fun bm => ?_) (fun b5 => ?_)
  .refine AE <| AC <| AB <| AH <| rs AA <| bq bm fun o a4 bn => sx Z (Af a4 Z Z Z <| rl Z <| rg AA <| rn 3 Z <| sx Z (CT AA (fun u : (List (Int × Bool)) => .tup []) (fun u : (List (Int × Bool)) => [(0, .box [lq (Aq b)]), (1, bx (Ac d)), (2, .box [.lmap 4]), (3, .box [ls 2 Bg c]), (4, .map (An (.int .i64) .bool u)), (5, bx (Aw o))]) 6 bn Tryz.func76 38 [] [(0, li o.elem), (1, .lpb 2 0), (2, .lpb 0 0), (3, .lpb 3 0)] Z Z Z Z Z Z Z Z (fun A hA u bo => ?_) (fun u b4 => ?_)))
   .refine rs AA <| rn 2 Z <| sx Z (Gi (et := 4) (ke := (.int .i64)) (ve := .bool) (mp := s.2) (y := o.elem) (z := true) GF Z Z Z Z Z Z <| rl Z <| rs AA <| rn 2 Z <| bq bo fun dn a5 bp => sx Z (AM (M1 _ _ _ a5) (.inl Z) Z Z Z <| rl Z <| jb (fun ad : Bool => ⟨38, [(1, .lpb 2 0), (3, .lpb 3 0), (5, li dn.1), (24, lb ad)], [(0, .box [lq (Aq b)]), (1, bx (Ac d)), (2, .box [.lmap 4]), (3, .box [ls 2 Bg c]), (4, .map (An (.int .i64) .bool (A0 o.elem true s.2))), (5, bx (Aw o))], 6⟩) bp (fun ad br => ?_) (fun ad bu => ?_)))
    .refine rg AA <| rn 3 Z <| gs 19 br Z Z Z (fun bs => ?_) (fun bt => ?_)
     .exact rn 2 Z <| sx Z (Ad Z Z <| rl Z <| AL bs (wj hA (gi 6 []) Z Z Z Z))
     exact rl Z <| AL bt (wj hA (gi 6 []) Z Z Z Z)
    refine cd Z bu (fun bv => ?_) (fun b3 => ?_)
    .refine rs AA <| rn 2 Z <| bq bv fun aw a6 bw => sx Z (Af a6 Z Z Z <| rn 2 Z <| sx Z (Ad Z Z <| rl Z <| AH ?_))
     apply lp (a := u) (fun aa : (Int × (List (Int × Bool))) => ⟨38, [(1, .lpb 2 0), (29, ls 1 AZ aw.elems), (30, li (aw.elems.length : Int)), (31, li aa.1)], [(0, .box [lq (Aq b)]), (1, bx (Ac d)), (2, .box [.lmap 4]), (3, .box [ls 2 Bg c]), (4, .map (An (.int .i64) .bool aa.2)), (5, bx (Aw o))], 6⟩) bw
     . exact wj hA (gi 6 []) Z Z Z Z
     intro aa d3 ao
     unfold Dh at ao
     refine rs AA <| rl Z <| AB <| cd Z ao (fun bz => ?_) (fun b1 => ?_)
     .exact AE <| AC <| AB <| AH <| rs AA <| bq bz fun dp a7 b0 => sx Z (Af a7 Z Z Z <| rl Z <| rg AA <| rn 2 Z <| sx Z (Gi (et := 4) (ke := (.int .i64)) (ve := .bool) (mp := aa.2) (y := dp) (z := true) GF Z Z Z Z Z Z <| rl Z <| Ag <| AC <| rg AA <| rl Z <| Ar b0 (wj hA (gi 6 []) Z Z Z Z)))
     refine AV <| AX <| BI b1 fun dv b2 => Ap ?_
     cases b2
     exact Ly (nt := 38) (sl := []) (wj hA (gi 6 []) Z Z Z Z) Z
    refine AE ?_
    cases b3
    exact Ly (nt := 38) (sl := []) (wj hA (gi 6 []) Z Z Z Z) Z
   exact rl Z <| Ag <| AC <| rg AA <| rl Z <| Ar b4 (wf hA (gi 5 []) Z Z Z)
  refine AV <| AX <| CP b5 fun az b6 => Ap <| AC <| rs AA <| rn 2 Z <| bq b6 fun ax a8 b7 => sx Z (Af a8 Z Z Z <| rn 2 Z <| sx Z (Ad Z Z <| rl Z <| AH ?_))
  apply lp (a := az) (fun t : (Int × (List (Int × Bool))) => ⟨74, [(2, ls 9 BK j), (4, li k), (5, li m), (6, .lpb 0 0), (9, .lpb 1 0), (13, .lpb 2 0), (14, .fn 76 [.lpb 2 0, .lpb 0 0, .lpb 3 0]), (28, ls 1 AZ n), (29, li (n.length : Int)), (30, li e.1), (53, ls 1 AZ ax.zone), (54, li (ax.zone.length : Int)), (55, li t.1)], [(0, .box [lq (Aq b)]), (1, bx (Ac d)), (2, .box [.lmap 4]), (3, .box [ls 2 Bg c]), (4, .map (An (.int .i64) .bool t.2))], 5⟩) b7
  . exact wf hA (gi 5 []) Z Z Z
  intro t d4 ap
  unfold Ea at ap
  refine rs AA <| rl Z <| AB <| cd Z ap (fun b8 => ?_) (fun cp => ?_)
  .refine AE <| AC <| AB <| AH <| rs AA <| bq b8 fun af a9 b9 => sx Z (Af a9 Z Z Z <| rl Z <| rg AA <| rn 2 Z <| sx Z (CT AA (fun v : (List (Int × Bool)) => .tup []) (fun v : (List (Int × Bool)) => [(0, .box [lq (Aq b)]), (1, bx (Ac d)), (2, .box [.lmap 4]), (3, .box [ls 2 Bg c]), (4, .map (An (.int .i64) .bool v))]) 5 b9 Tryz.func76 38 [] [(0, li af), (1, .lpb 2 0), (2, .lpb 0 0), (3, .lpb 3 0)] Z Z Z Z Z Z Z Z (fun A hA v ca => ?_) (fun v co => ?_)))
   .refine rs AA <| rn 2 Z <| sx Z (Gi (et := 4) (ke := (.int .i64)) (ve := .bool) (mp := t.2) (y := af) (z := true) GF Z Z Z Z Z Z <| rl Z <| rs AA <| rn 2 Z <| bq ca fun dq ba cb => sx Z (AM (M1 _ _ _ ba) (.inl Z) Z Z Z <| rl Z <| jb (fun ae : Bool => ⟨38, [(1, .lpb 2 0), (3, .lpb 3 0), (5, li dq.1), (24, lb ae)], [(0, .box [lq (Aq b)]), (1, bx (Ac d)), (2, .box [.lmap 4]), (3, .box [ls 2 Bg c]), (4, .map (An (.int .i64) .bool (A0 af true t.2)))], 5⟩) cb (fun ae cc => ?_) (fun ae cg => ?_)))
    .refine rg AA <| rn 3 Z <| gs 19 cc Z Z Z (fun ce => ?_) (fun cf => ?_)
     .exact rn 2 Z <| sx Z (Ad Z Z <| rl Z <| AL ce (wj hA (gi 5 []) Z Z Z Z))
     exact rl Z <| AL cf (wj hA (gi 5 []) Z Z Z Z)
    refine cd Z cg (fun ch => ?_) (fun cn => ?_)
    .refine rs AA <| rn 2 Z <| bq ch fun ay bb ci => sx Z (Af bb Z Z Z <| rn 2 Z <| sx Z (Ad Z Z <| rl Z <| AH ?_))
     apply lp (a := v) (fun ab : (Int × (List (Int × Bool))) => ⟨38, [(1, .lpb 2 0), (29, ls 1 AZ ay.elems), (30, li (ay.elems.length : Int)), (31, li ab.1)], [(0, .box [lq (Aq b)]), (1, bx (Ac d)), (2, .box [.lmap 4]), (3, .box [ls 2 Bg c]), (4, .map (An (.int .i64) .bool ab.2))], 5⟩) ci
     . exact wj hA (gi 5 []) Z Z Z Z
     intro ab d5 aq
     unfold Di at aq
     refine rs AA <| rl Z <| AB <| cd Z aq (fun cj => ?_) (fun cl => ?_)
     .exact AE <| AC <| AB <| AH <| rs AA <| bq cj fun dr bc ck => sx Z (Af bc Z Z Z <| rl Z <| rg AA <| rn 2 Z <| sx Z (Gi (et := 4) (ke := (.int .i64)) (ve := .bool) (mp := ab.2) (y := dr) (z := true) GF Z Z Z Z Z Z <| rl Z <| Ag <| AC <| rg AA <| rl Z <| Ar ck (wj hA (gi 5 []) Z Z Z Z)))
     refine AV <| AX <| BI cl fun dw cm => Ap ?_
     cases cm
     exact Ly (nt := 38) (sl := []) (wj hA (gi 5 []) Z Z Z Z) Z
    refine AE ?_
    cases cn
    exact Ly (nt := 38) (sl := []) (wj hA (gi 5 []) Z Z Z Z) Z
   exact rl Z <| Ag <| AC <| rg AA <| rl Z <| Ar co (wf hA (gi 5 []) Z Z Z)
  exact AV <| AX <| BI cp fun dx cq => Ap <| Ag <| AC <| rg AA <| rl Z <| Ar cq (wf hA (gi 5 []) Z Z Z)
 refine AV <| AX <| CP cr fun dy cs => Ap <| AC <| AB ?_
 refine ACQ false AA mixed [0, 1, 2, 3, 4, 5] 7 Z Z (by kernel_rfl) (by kernel_rfl) Z Z ?_
 refine Au 5 Z <| bq cs fun q be ct => As Z (A6 (FK _ _ _ _ _ be) (.inl Z) Z Z Z <| BJ Z <| (ABq (et := 4) (ke := (.int .i64)) (ve := .bool) (mp := e.2) (y := q) GF Z Z Z Z Z Z Z Z <| AC <| rs AA <| rn 1 Z <| bq ct fun i bf cu => sx Z (N5 (PH _ _ bf) (fun _ => Z) Z Z (Dc.eq (.cons (.one (.mapd Z)) .nil)) <| rn 1 Z <| sx Z (CT AA (fun g : (List Int) => .lsl 12 1 0 g.length) (fun g : (List Int) => [(0, .box [lq (Aq b)]), (1, bx (Ac d)), (2, .box [.lmap 4]), (3, .box [ls 2 Bg c]), (4, .mapd (An (.int .i64) .bool (EU q e.2))), (12, .row 3 1 (g.map AZ))]) 13 cu Tryz.func78 42 [.tmp 4] [(0, .lsl 12 1 0 i.length), (1, .fn 80 [.lpb 0 0])] Z Z Z Z Z Z Z Z (fun A hA g cv => ?_) (fun g dl => ?_)))))
 .refine rs AA <| rl Z <| rs AA <| rn 2 Z <| sx Z (CT AA (fun w : Int => li w) (fun w : Int => [(0, .box [lq (Aq b)]), (1, bx (Ac d)), (2, .box [.lmap 4]), (3, .box [ls 2 Bg c]), (4, .mapd (An (.int .i64) .bool (EU q e.2))), (12, .row 3 1 (i.map AZ))]) 13 cv Tryz.func108 19 [.tmp 4] [(0, .lsl 12 1 0 i.length), (1, .fn 80 [.lpb 0 0])] Z Z Z Z Z Z Z Z (fun A hA w cw => ?_) (fun w c5 => ?_))
  .refine rs AA <| rl Z <| AB <| rs AA <| rl Z <| AH ?_
   apply lp (a := w) (fun ac : Int => ⟨19, [(0, .lsl 12 1 0 i.length), (1, .fn 80 [.lpb 0 0]), (7, li (i.length : Int)), (8, li ac)], [(0, .box [lq (Aq b)]), (1, bx (Ac d)), (2, .box [.lmap 4]), (3, .box [ls 2 Bg c]), (4, .mapd (An (.int .i64) .bool (EU q e.2))), (12, .row 3 1 (i.map AZ))], 13⟩) cw
   . exact wj hA (gi 13 []) Z Z Z Z
   intro ac d6 ar
   unfold GD at ar
   refine rs AA <| rl Z <| AB <| cd Z ar (fun cx => ?_) (fun c3 => ?_)
   .refine AE <| AC <| AB <| AH <| rs AA <| rl Z <| rs AA <| rn 3 Z <| bq cx fun d8 ag cy => sx Z (B2 ag Z Z Z Z <| sx Z (C7 ag Z Z Z <| bq cy fun d9 bg cz => sx Z (AM (PI _ _ _ bg) (.inl Z) Z Z (Dc.eq (.cons (.one (.p _)) (.cons (.box Z (.cons (.p _) .nil)) .nil))) <| rl Z <| cd Z cz (fun c0 => ?_) (fun c2 => ?_))))
    .refine rs AA <| rl Z <| AF <| AN <| AG <| A2 c0 fun dz c1 => AN <| AG ?_
     have hr := Option.some.inj c1; subst hr
     exact CW (nt := 19) (sl := [(4, li ac)]) (wj hA (gi 13 []) Z Z Z Z) Z
    exact AE <| Ag <| AC <| rg AA <| rl Z <| Ar c2 (wj hA (gi 13 []) Z Z Z Z)
   refine AV <| AX <| BI c3 fun d0 c4 => Ap <| AC <| rs AA <| rl Z <| AF ?_
   cases c4
   exact CW (nt := 19) (sl := [(4, li (-1))]) (wj hA (gi 13 []) Z Z Z Z) Z
  refine rl Z <| AB <| rs AA <| rl Z <| cd Z c5 (fun c6 => ?_) (fun c7 => ?_)
  .refine rs AA <| rl Z <| AF <| AG ?_
   have hr := Option.some.inj c6; subst hr
   exact CW (nt := 42) (sl := [(4, .lsl 12 1 0 i.length)]) (wj hA (gi 13 []) Z Z Z Z) Z
  refine AE <| AC <| AB <| rs AA <| rl Z <| AH ?_
  apply lp (a := g) (fun f : (Int × Int × (List Int)) => ⟨42, [(0, .lsl 12 1 0 f.2.2.length), (1, .fn 80 [.lpb 0 0]), (5, li f.1), (6, li f.2.1)], [(0, .box [lq (Aq b)]), (1, bx (Ac d)), (2, .box [.lmap 4]), (3, .box [ls 2 Bg c]), (4, .mapd (An (.int .i64) .bool (EU q e.2))), (12, .row 3 1 (f.2.2.map AZ))], 13⟩) c7
  . exact wj hA (gi 13 []) Z Z Z Z
  intro f d7 au
  unfold Dj at au
  refine AB <| rs AA <| rl Z <| cd Z au (fun c8 => ?_) (fun dg => ?_)
  .refine AE <| AC <| jb (fun x : (Int × (List Int)) => ⟨42, [(0, .lsl 12 1 0 x.2.length), (1, .fn 80 [.lpb 0 0]), (5, li x.1), (6, li f.2.1)], [(0, .box [lq (Aq b)]), (1, bx (Ac d)), (2, .box [.lmap 4]), (3, .box [ls 2 Bg c]), (4, .mapd (An (.int .i64) .bool (EU q e.2))), (12, .row 3 1 (x.2.map AZ))], 13⟩) c8 (fun x c9 => ?_) (fun x df => ?_)
   .refine AH <| rs AA <| rn 2 Z <| bq c9 fun ds ah da => sx Z (B2 ah Z Z Z Z <| sx Z (C7 ah Z Z Z <| rl Z <| rs AA <| rn 2 Z <| bq da fun ea bh db => sx Z (AM (PI _ _ _ bh) (.inl Z) Z Z (Dc.eq (.cons (.one (.p _)) (.cons (.box Z (.cons (.p _) .nil)) .nil))) <| rl Z <| cd Z db (fun dc => ?_) (fun de => ?_))))
    .exact rs AA <| rn 3 Z <| bq dc fun eb ai dd => sx Z (B2 ai Z Z Z Z <| sx Z (Lw (z := ds) ai Z Z Z Z Z Z Z Z <| rl Z <| rg AA <| rl Z <| Ag <| AL dd (wk (gi 13 []) (KW hA _ Z) Z Z Z (.cons (by simp only [BF]; rfl) (.cons Z (.cons Z (.cons Z .nil)))) (.cons Z Z (.cons Z Z (.cons Z Z (.cons Z Z (.cons Z Z (.cons Z Z .nil)))))))))
    exact AE <| Ag <| AL de (wj hA (gi 13 []) Z Z Z Z)
   exact rg AA <| rl Z <| Ar df (wj hA (gi 13 []) Z Z Z Z)
  refine AV <| AX <| CP dg fun d1 dh => Ap <| AC <| rs AA <| rn 2 Z <| bq dh fun ec aj di => sx Z (Zy (l := f.2.2) aj Z Z Z Z Z <| bq di fun dt ak dj => sx Z (ABu (enc := AZ) (l := f.2.2) (z := 0) aj Z ak Z Z Z Z Z Z Z <| rl Z <| rs AA <| rn 2 Z <| bq dj fun du al dk => sx Z (RX (l := dt) al Z (by first | rfl | exact ZS ak) Z Z <| rl Z <| AF ?_)))
  have hr := Option.some.inj dk; subst hr
  exact CW (nt := 42) (sl := [(4, .lsl 12 1 0 du.length)]) (A7.trans (JV 12 al Z Z) (wj hA (gi 13 []) Z Z Z Z)) Z
 refine rl Z <| AF ?_
 have hr := Option.some.inj dl; subst hr
 exact er (Ip Z (.one (.own (enc := AZ) g Z Z))) Le.rfl
noncomputable def D6 (b : Ay) (f : (List Ai)) (c : Al) (d : Int) (k : ((List Cr) × Bool)) (e : (List Int)) (l : AK) (a : Int × (List LN)) : Option ((Int × (List LN)) ⊕ Fs) :=
 bif decide (a.1 < (k.1.length : Int)) then (Iv b l.lines f c d a.1).bind fun g => (Ca b c d (AO (a.1 + 1))).bind fun h => (GV b h).bind fun i => (Bu a.2 [(⟨g, i⟩ : LN)]).bind fun j => some (.inl (AO (a.1 + 1), j)) else some (.inr (⟨e, a.2⟩ : Fs))
noncomputable def E2 (a : Ay) (h : (List Ai)) (b : Al) (c : Int) (d : Int) : Option Fs :=
 (Fu b c d).bind fun f => bif (!f.2) then some (⟨[], []⟩ : Fs) else (((Ca a b c d).bind fun i => (GV a i).bind fun e => bif decide (0 <= e) then some [e] else some ([] : List Int) : Option ((List Int)))).bind fun (g : (List Int)) => (B0 a).bind fun j => AQ (D6 a h b c f g j) (d, ([] : List LN))
theorem MQ (d : Ay) (e : (List Ai)) (f : Al) (g : Int) (i : Int) (r : Fs) (h : E2 d e f g i = some r) : Ax Tryz.prog 21 [.place (Aq d) 0, .slice 9 (e.map BK), .agg (Ac f), .int .i64 g, .int .i64 i] (· = .agg (PJ r)) := by
 refine fn AA Tryz.func21 Z Z 71 Z [.cell 10 56] Z [(0, .p (.place (Aq d) 0)), (1, .p (.slice 9 (e.map BK))), (2, .p (.agg (Ac f))), (3, .p (.int .i64 g)), (4, .p (.int .i64 i))] Z Z fun A hA => ?_
 unfold E2 at h
 refine rs AA <| rl Z <| rs AA <| rl Z <| rs AA <| rn 3 Z <| bq h fun k v al => sx Z (AM (N6 _ _ _ _ v) (.inr Z) Z Z Z <| rl Z <| AB <| rs AA <| rl Z <| cd Z al (fun am => ?_) (fun an => ?_))
 .refine rs AA <| rl Z <| AF <| AG ?_
  cases am
  exact er Z (Le.agg' (.cons (Le.nil _) (.cons (Le.nil _) .nil)))
 refine AE <| AC <| jb (fun b : (List Int) => ⟨71, [(0, lq (Aq d)), (1, ls 9 BK e), (3, li g), (4, li i), (7, .lpb 0 0), (10, .lpb 1 0), (11, .lpb 2 0), (12, ls 4 EV k.1)], [(0, bx (Ac f)), (1, .box [.p (.nils), .p (.nils)]), (2, .box [.lsl 3 1 0 b.length, .p (.nils)]), (3, .row 3 1 (b.map AZ))], 4⟩) an (fun b aa => ?_) (fun b aj => ?_)
 .refine rs AA <| rn 5 Z <| bq aa fun ax t af => sx Z (AM (FK _ _ _ _ _ t) (.inl Z) Z Z Z <| bq af fun ay u ag => sx Z (AM (QI _ _ _ u) (.inl Z) Z Z Z <| rl Z <| rs AA <| rl Z <| cd Z ag (fun ah => ?_) (fun ai => ?_)))
  .exact rg AA <| rl Z <| AL ah (wf hA (gi 4 []) Z Z Z)
  exact AE <| AL ai (A7.trans (CE 2 0 3 1 Z Z Z Z) (wf hA (gi 4 []) Z Z Z))
 refine rs AA <| rn 1 Z <| bq aj fun aq w ak => sx Z (AM (HN _ _ w) (.inr Z) Z Z Z <| rl Z <| AB <| rs AA <| rl Z <| AH ?_)
 apply lp (a := r) (fun c : (Int × (List LN)) => ⟨71, [(0, lq (Aq d)), (1, ls 9 BK e), (3, li g), (7, .lpb 0 0), (10, .lpb 1 0), (11, .lpb 2 0), (12, ls 4 EV k.1), (15, ls 2 Bg aq.lines), (16, li c.1)], [(0, bx (Ac f)), (1, .box [.p (.nils), .p (.nils)]), (2, .box [.lsl 3 1 0 b.length, .lsl 4 2 0 c.2.length]), (3, .row 3 1 (b.map AZ)), (4, .row 88 2 (c.2.map FA))], 5⟩) ak
 . exact A7.trans (CE 2 1 88 2 Z Z Z Z) (wf hA (gi 5 []) Z Z Z)
 intro c au j
 unfold D6 at j
 refine AB <| rs AA <| rn 2 Z <| sx Z (Ad Z Z <| rl Z <| cd Z j (fun x => ?_) (fun ad => ?_))
 .refine AE <| AC <| AB <| AH ?_
  refine Bz AA mixed [0, 1, 2, 3, 4, 5, 6, 7, 8, 9, 10, 11, 12, 13, 14, 15, 16, 17, 18, 19, 20, 21] 22 (by kernel_rfl) Z Z Z ?_
  exact Au 8 Z <| bq x fun ao n y => As Z (A6 (XC _ _ _ _ _ _ _ n) (.inr Z) Z Z Z <| Au 6 Z <| bq y fun av o z => As Z (A6 (FK _ _ _ _ _ o) (.inl Z) Z Z Z <| bq z fun ap q ab => As Z (A6 (QI _ _ _ q) (.inl Z) Z Z Z <| Au 2 Z <| bq ab fun aw s ac => As Z (JS Z (BY (enc := FA) (l := c.2) (m := [(⟨ao, ap⟩ : LN)]) s (fun _ => ⟨Z, Z⟩) Z Z Z Z Z Z <| BJ Z <| Ag <| AC <| rg AA <| rl Z <| Ar ac (wf hA (gi 4 [(4, 24)]) Z Z Z))))))
 refine AV <| AX <| BI ad fun ar ae => Ap <| AC <| rs AA <| rl Z <| AF ?_
 cases ae
 exact er (Ip Z (.agg (.cons (.own (enc := AZ) b Z Z) (.cons (.own (enc := FA) c.2 Z Z) .nil)))) Le.rfl
noncomputable def Ka (a : Bv) : Option Bool :=
 some a.auto
theorem TN (a : Bv) (r : Bool) (h : Ka a = some r) : Ax Tryz.prog 54 [.agg (BT a)] (· = .bool r) := by
 refine fn AA Tryz.func54 Z Z 5 Z [.tmp 2] Z [(0, .p (.agg (BT a)))] Z Z fun A hA => ?_
 unfold Ka at h
 refine rs AA <| rl Z <| rs AA <| rl Z <| AF ?_
 cases h
 exact er Z Le.rfl
noncomputable def Hk (a : DT) : Option Bool :=
 some (decide (12 < (a.legs.length : Int)))
theorem P8 (a : DT) (r : Bool) (h : Hk a = some r) : Ax Tryz.prog 85 [.agg (B3 a)] (· = .bool r) := by
 refine fn AA Tryz.func85 Z Z 7 Z [.tmp 2] Z [(0, .p (.agg (B3 a)))] Z Z fun A hA => ?_
 unfold Hk at h
 refine rs AA <| rl Z <| rs AA <| rn 2 Z <| sx Z (Ad Z Z <| rl Z <| AF ?_)
 cases h
 exact er Z Le.rfl
noncomputable def GW (a : Int) (c : Int) : Option Bool :=
 ((bif decide (1 <= a) then some (decide (a <= c)) else some false : Option (Bool))).bind fun (b : Bool) => some b
theorem Jm (b : Int) (c : Int) (r : Bool) (h : GW b c = some r) : Ax Tryz.prog 168 [.int .i64 b, .int .i64 c] (· = .bool r) := by
 refine fn AA Tryz.func168 Z Z 12 Z [.tmp 4] Z [(0, .p (.int .i64 b)), (1, .p (.int .i64 c))] Z Z fun A hA => ?_
 unfold GW at h
 refine rs AA <| rl Z <| jb (fun a : Bool => ⟨12, [(4, lb a)], [], 0⟩) h (fun a d => ?_) (fun a g => ?_)
 .refine rg AA <| rn 3 Z <| gs 7 d Z Z Z (fun e => ?_) (fun f => ?_)
  .exact rl Z <| AL e (wf hA [] Z Z Z)
  exact rl Z <| AL f (wf hA [] Z Z Z)
 refine AF ?_
 have hr := Option.some.inj g; subst hr
 exact er Z Le.rfl
noncomputable def MR (a : BM) : Option Bool :=
 (((CF a.name).bind fun c => bif c then (GW a.len 4000).bind fun d => bif d then (GW a.top 60).bind fun e => bif e then (GW a.acc 10).bind fun f => bif f then (GW a.brake 10).bind fun g => some g else some false else some false else some false else some false : Option (Bool))).bind fun (b : Bool) => some b
theorem VZ (b : BM) (r : Bool) (h : MR b = some r) : Ax Tryz.prog 154 [.agg (BN b)] (· = .bool r) := by
 refine fn AA Tryz.func154 Z Z 26 Z [.tmp 2] Z [(0, .p (.agg (BN b)))] Z Z fun A hA => ?_
 unfold MR at h
 refine rs AA <| rl Z <| jb (fun a : Bool => ⟨26, [(2, lb a)], [], 0⟩) h (fun a i => ?_) (fun a y => ?_)
 .refine rg AA <| rn 2 Z <| bq i fun z c j => sx Z (AM (Hy _ _ c) (.inl Z) Z Z Z <| rn 1 Z <| gs 6 j Z Z Z (fun k => ?_) (fun x => ?_))
  .refine rn 2 Z <| bq k fun aa d l => sx Z (AM (Jm _ _ _ d) (.inl Z) Z Z Z <| rn 2 Z <| gs 11 l Z Z Z (fun m => ?_) (fun w => ?_))
   .refine rn 2 Z <| bq m fun ab e n => sx Z (AM (Jm _ _ _ e) (.inl Z) Z Z Z <| rn 2 Z <| gs 16 n Z Z Z (fun o => ?_) (fun v => ?_))
    .refine rn 2 Z <| bq o fun ac f q => sx Z (AM (Jm _ _ _ f) (.inl Z) Z Z Z <| rn 2 Z <| gs 21 q Z Z Z (fun s => ?_) (fun u => ?_))
     .exact rn 2 Z <| bq s fun ad g t => sx Z (AM (Jm _ _ _ g) (.inl Z) Z Z Z <| rl Z <| AL t (wf hA [] Z Z Z))
     exact rl Z <| AL u (wf hA [] Z Z Z)
    exact rl Z <| AL v (wf hA [] Z Z Z)
   exact rl Z <| AL w (wf hA [] Z Z Z)
  exact rl Z <| AL x (wf hA [] Z Z Z)
 refine AF ?_
 have hr := Option.some.inj y; subst hr
 exact er Z Le.rfl
noncomputable def LO (c : (Int × Int)) (d : BM) (b : (List BM)) (a : Int) : Option (Int ⊕ (Int ⊕ ((Int × Int) ⊕ Int))) :=
 bif decide (a < (b.length : Int)) then (AY b a).bind fun e => bif (e.name.toList == d.name.toList) then some (.inr (.inl 4)) else some (.inl (AO (a + 1))) else some (.inr (.inl c.1))
noncomputable def LQ (b : (List BM)) (a : Int × Int) : Option ((Int × Int) ⊕ Int) :=
 bif decide (a.2 < (b.length : Int)) then ET (((AY b a.2).bind fun c => (MR c).bind fun e => bif (!e) then some (.inr (.inr 1)) else (Hv b 0 a.2).bind fun f => AQ (LO a c f) 0 : Option (Int ⊕ ((Int × Int) ⊕ Int)))) fun (d : Int) => some (.inl (d, AO (a.2 + 1))) else some (.inr a.1)
noncomputable def Kb (a : (List BM)) : Option Int :=
 bif decide (4 < (a.length : Int)) then some 3 else AQ (LQ a) (0, 0)
theorem TO (b : (List BM)) (r : Int) (h : Kb b = some r) : Ax Tryz.prog 122 [.slice 5 (b.map BN)] (· = .int .i64 r) := by
 refine fn AA Tryz.func122 Z Z 37 Z [.tmp 2] Z [(0, .p (.slice 5 (b.map BN)))] Z Z fun A hA => ?_
 unfold Kb at h
 refine rs AA <| rl Z <| sc <| AB <| rs AA <| rn 1 Z <| sx Z (Ad Z Z <| rl Z <| cd Z h (fun q => ?_) (fun s => ?_))
 .refine rs AA <| rl Z <| AF <| AG <| Iq ?_
  cases q
  exact er Z Le.rfl
 refine AE <| AC <| rs AA <| rl Z <| AB <| Jx <| AC <| AB <| rs AA <| rn 1 Z <| sx Z (Ad Z Z <| rl Z <| AH ?_)
 apply lp (a := r) (fun c : (Int × Int) => ⟨37, [(0, ls 5 BN b), (3, li c.1), (11, ls 5 BN b), (12, li (b.length : Int)), (13, li c.2)], [], 0⟩) s
 . exact wf hA [] Z Z Z
 intro c j d
 unfold LQ at d
 refine rs AA <| rl Z <| AB <| cd Z d (fun t => ?_) (fun ak => ?_)
 .refine AE <| AC ?_
  apply jn (a := j) (fun g : Int => ⟨37, [(0, ls 5 BN b), (3, li g), (11, ls 5 BN b), (12, li (b.length : Int)), (13, li c.2)], [], 0⟩) t
  .intro k u
   refine AH <| rs AA <| rn 1 Z <| bq u fun am l v => sx Z (Af l Z Z Z <| rl Z <| AB <| rs AA <| rn 1 Z <| bq v fun av m w => sx Z (AM (VZ _ _ m) (.inl Z) Z Z Z <| rl Z <| cd Z w (fun x => ?_) (fun aa => ?_)))
   .refine rs AA <| rl Z <| AF <| AG <| AN <| A2 x fun an y => A2 y fun ao z => AN <| AG <| Iq ?_
    cases z
    exact er Z Le.rfl
   refine AE <| AC <| rs AA <| rn 2 Z <| bq aa fun i n ab => sx Z (RL n Z Z Z Z <| sx Z (Ad Z Z <| rl Z <| AH ?_))
   apply lp (a := k) (fun f : Int => ⟨37, [(0, ls 5 BN b), (3, li c.1), (5, .lpb 0 0), (11, ls 5 BN b), (12, li (b.length : Int)), (13, li c.2), (23, ls 5 BN i), (24, li (i.length : Int)), (25, li f)], [(0, bx (BN am))], 1⟩) ab
   . exact wf hA [(0, 0)] Z Z Z
   intro f au e
   unfold LO at e
   refine rs AA <| rl Z <| AB <| cd Z e (fun ac => ?_) (fun ah => ?_)
   .refine AE <| AC <| AB <| AH <| rs AA <| bq ac fun aw o ad => sx Z (Af o Z Z Z <| rl Z <| rs AA <| rl Z <| cd Z ad (fun ae => ?_) (fun ag => ?_))
    .exact rs AA <| rl Z <| AV <| Lt Z <| AX <| BI ae fun ap af => Lt Z <| Ap <| Ar af (wf hA [] Z Z Z)
    exact AE <| Ag <| AC <| rg AA <| rl Z <| Ar ag (wf hA [(0, 0)] Z Z Z)
   exact AV <| AX <| BI ah fun aq ai => Ap <| Ag <| Ar ai (wf hA [] Z Z Z)
  intro g aj
  exact rg AA <| rl Z <| Ar aj (wf hA [] Z Z Z)
 refine AV <| AX <| BI ak fun ar al => Ap <| AC <| rs AA <| rl Z <| AF <| Iq ?_
 cases al
 exact er Z Le.rfl
end Go.E
/- Plain functions, and walks in step with them. Written by a program (gen.py). No condition. -/
set_option maxRecDepth 100000
set_option maxHeartbeats 1000000
namespace Go.E
open Go Go.RowKit Go.Proofs
noncomputable def Iw (a : BM) (b : AK) : Option Bool :=
 ((bif decide (b.top < a.top) then some true else some (decide (a.brake < b.brake)) : Option (Bool))).bind fun (c : Bool) => some c
theorem RY (b : BM) (c : AK) (r : Bool) (h : Iw b c = some r) : Ax Tryz.prog 124 [.agg (BN b), .place (AU c) 0] (· = .bool r) := by
 refine fn AA Tryz.func124 Z Z 16 Z [.tmp 3] Z [(0, .p (.agg (BN b))), (1, .p (.place (AU c) 0))] Z Z fun A hA => ?_
 unfold Iw at h
 refine rs AA <| rl Z <| jb (fun a : Bool => ⟨16, [(3, lb a)], [], 0⟩) h (fun a d => ?_) (fun a g => ?_)
 .refine rg AA <| rn 6 Z <| gs 9 d Z Z Z (fun e => ?_) (fun f => ?_)
  .exact rl Z <| AL e (wf hA [] Z Z Z)
  exact rl Z <| AL f (wf hA [] Z Z Z)
 refine AF ?_
 have hr := Option.some.inj g; subst hr
 exact er Z Le.rfl
noncomputable def LR (c : AK) (b : (List BM)) (a : Int) : Option (Int ⊕ Int) :=
 bif decide (a < (b.length : Int)) then (AY b a).bind fun d => (Iw d c).bind fun e => bif e then some (.inr a) else some (.inl (AO (a + 1))) else some (.inr (-1))
noncomputable def Kc (e : AK) (a : (List BM)) : Option Int :=
 (Kb a).bind fun b => bif (b != 0) then some b else ((((AQ (LR e a) 0 : Option (Int))).bind fun (d : Int) => some (decide (0 <= d)) : Option (Bool))).bind fun (c : Bool) => bif c then some 9 else some 0
theorem TP (d : AK) (b : (List BM)) (r : Int) (h : Kc d b = some r) : Ax Tryz.prog 86 [.agg (AU d), .slice 5 (b.map BN)] (· = .int .i64 r) := by
 refine fn AA Tryz.func86 Z Z 14 Z [.tmp 4] Z [(0, .p (.agg (AU d))), (1, .p (.slice 5 (b.map BN)))] Z Z fun A hA => ?_
 unfold Kc at h
 refine rs AA <| rl Z <| AB <| rs AA <| rn 1 Z <| bq h fun aj k l => sx Z (AM (TO _ _ k) (.inl Z) Z Z Z <| rl Z <| rs AA <| rl Z <| cd Z l (fun m => ?_) (fun n => ?_))
 .refine rs AA <| rl Z <| AF <| AG ?_
  have hr := Option.some.inj m; subst hr
  exact er Z Le.rfl
 refine AE <| AC <| AB <| rs AA <| rn 2 Z <| sx Z (CT AA (fun e : Bool => lb e) (fun e : Bool => [(0, bx (AU d))]) 1 n Tryz.func123 9 [.tmp 4] [(0, ls 5 BN b), (1, .fn 124 [.lpb 0 0])] Z Z Z Z Z Z Z Z (fun A hA e o => ?_) (fun e ab => ?_))
 .refine rs AA <| rl Z <| rs AA <| rn 2 Z <| sx Z (CT AA (fun c : Int => li c) (fun c : Int => [(0, bx (AU d))]) 1 o Tryz.func155 19 [.tmp 4] [(0, ls 5 BN b), (1, .fn 124 [.lpb 0 0])] Z Z Z Z Z Z Z Z (fun A hA c q => ?_) (fun c aa => ?_))
  .refine rs AA <| rl Z <| AB <| rs AA <| rn 1 Z <| sx Z (Ad Z Z <| rl Z <| AH ?_)
   apply lp (a := c) (fun f : Int => ⟨19, [(0, ls 5 BN b), (1, .fn 124 [.lpb 0 0]), (7, li (b.length : Int)), (8, li f)], [(0, bx (AU d))], 1⟩) q
   . exact wj hA [(0, 0)] Z Z Z Z
   intro f ag g
   unfold LR at g
   refine rs AA <| rl Z <| AB <| cd Z g (fun s => ?_) (fun y => ?_)
   .refine AE <| AC <| AB <| AH <| rs AA <| rl Z <| rs AA <| rn 3 Z <| bq s fun ah i t => sx Z (Af i Z Z Z <| rn 1 Z <| bq t fun ai j u => sx Z (AM (RY _ _ _ j) (.inl Z) Z Z (Dc.eq (.cons (.one (.p _)) (.cons (.box Z (.cons (.p _) (.cons (.p _) (.cons (.p _) (.cons (.p _) (.cons (.p _) (.cons (.p _) (.cons (.p _) (.cons (.p _) (.cons (.p _) .nil)))))))))) .nil))) <| rl Z <| cd Z u (fun v => ?_) (fun x => ?_)))
    .refine rs AA <| rl Z <| AF <| AN <| AG <| A2 v fun ae w => AN <| AG ?_
     have hr := Option.some.inj w; subst hr
     exact CW (nt := 19) (sl := [(4, li f)]) (wj hA [(0, 0)] Z Z Z Z) Z
    exact AE <| Ag <| AC <| rg AA <| rl Z <| Ar x (wj hA [(0, 0)] Z Z Z Z)
   refine AV <| AX <| BI y fun af z => Ap <| AC <| rs AA <| rl Z <| AF ?_
   cases z
   exact CW (nt := 19) (sl := [(4, li (-1))]) (wj hA [(0, 0)] Z Z Z Z) Z
  refine rl Z <| AF ?_
  cases aa
  exact CW (nt := 9) (sl := [(4, lb (decide (0 <= c)))]) (wj hA [(0, 0)] Z Z Z Z) Z
 refine rl Z <| cd Z ab (fun ac => ?_) (fun ad => ?_)
 .refine rs AA <| rl Z <| AF <| AG ?_
  cases ac
  exact er Z Le.rfl
 refine AE <| AC <| rs AA <| rl Z <| AF ?_
 cases ad
 exact er Z Le.rfl
noncomputable def Cx (a : Int) (c : Int) : Option Bool :=
 ((bif decide (0 <= a) then some (decide (a <= c)) else some false : Option (Bool))).bind fun (b : Bool) => some b
theorem EH (b : Int) (c : Int) (r : Bool) (h : Cx b c = some r) : Ax Tryz.prog 87 [.int .i64 b, .int .i64 c] (· = .bool r) := by
 refine fn AA Tryz.func87 Z Z 12 Z [.tmp 4] Z [(0, .p (.int .i64 b)), (1, .p (.int .i64 c))] Z Z fun A hA => ?_
 unfold Cx at h
 refine rs AA <| rl Z <| jb (fun a : Bool => ⟨12, [(4, lb a)], [], 0⟩) h (fun a d => ?_) (fun a g => ?_)
 .refine rg AA <| rn 3 Z <| gs 7 d Z Z Z (fun e => ?_) (fun f => ?_)
  .exact rl Z <| AL e (wf hA [] Z Z Z)
  exact rl Z <| AL f (wf hA [] Z Z Z)
 refine AF ?_
 have hr := Option.some.inj g; subst hr
 exact er Z Le.rfl
noncomputable def HO (a : AK) (b : Int) : Option Int :=
 (Cx b (AO ((a.elems.length : Int) - 1))).bind fun d => bif (!d) then some 0 else (AY a.elems b).bind fun c => some c.kind
theorem M2 (a : AK) (b : Int) (r : Int) (h : HO a b = some r) : Ax Tryz.prog 157 [.agg (AU a), .int .i64 b] (· = .int .i64 r) := by
 refine fn AA Tryz.func157 Z Z 18 Z [.tmp 4] Z [(0, .p (.agg (AU a))), (1, .p (.int .i64 b))] Z Z fun A hA => ?_
 unfold HO at h
 refine rs AA <| rl Z <| AB <| rs AA <| rn 3 Z <| sx Z (Ad Z Z <| rn 1 Z <| bq h fun k d e => sx Z (AM (EH _ _ _ d) (.inl Z) Z Z Z <| rl Z <| cd Z e (fun f => ?_) (fun g => ?_)))
 .refine rs AA <| rl Z <| AF <| AG ?_
  cases f
  exact er Z Le.rfl
 refine AE <| AC <| rs AA <| rn 3 Z <| bq g fun j c i => sx Z (Af c Z Z Z <| rl Z <| AF ?_)
 cases i
 exact er Z Le.rfl
noncomputable def Ix (b : AK) (a : Cr) : Option Bool :=
 bif (a.fin == 1) then (Cx a.to (AO ((b.signals.length : Int) - 1))).bind fun c => some c else bif (a.fin == 2) then (HO b a.to).bind fun d => some (d == 4) else bif (a.fin == 3) then (HO b a.to).bind fun e => some (e == 1) else some false
theorem RZ (a : AK) (b : Cr) (r : Bool) (h : Ix a b = some r) : Ax Tryz.prog 126 [.agg (AU a), .agg (EV b)] (· = .bool r) := by
 refine fn AA Tryz.func126 Z Z 30 Z [.tmp 4] Z [(0, .p (.agg (AU a))), (1, .p (.agg (EV b)))] Z Z fun A hA => ?_
 unfold Ix at h
 refine rs AA <| rl Z <| AB <| rs AA <| rl Z <| AH <| rs AA <| rl Z <| cd Z h (fun f => ?_) (fun i => ?_)
 .refine rs AA <| rn 4 Z <| sx Z (Ad Z Z <| rn 1 Z <| bq f fun q c g => sx Z (AM (EH _ _ _ c) (.inl Z) Z Z Z <| rl Z <| AF <| AN <| AG ?_))
  have hr := Option.some.inj g; subst hr
  exact er Z Le.rfl
 refine rs AA <| rl Z <| cd Z i (fun j => ?_) (fun l => ?_)
 .refine rs AA <| rn 3 Z <| bq j fun s d k => sx Z (AM (M2 _ _ _ d) (.inl Z) Z Z Z <| rl Z <| AF <| AN <| AG ?_)
  cases k
  exact er Z Le.rfl
 refine rs AA <| rl Z <| cd Z l (fun m => ?_) (fun o => ?_)
 .refine rs AA <| rn 3 Z <| bq m fun t e n => sx Z (AM (M2 _ _ _ e) (.inl Z) Z Z Z <| rl Z <| AF <| AN <| AG ?_)
  cases n
  exact er Z Le.rfl
 refine AE <| Ag <| AC <| rs AA <| rl Z <| AF ?_
 cases o
 exact er Z Le.rfl
noncomputable def LS (e : AK) (c : DT) (a : Int × Int) : Option ((Int × Int) ⊕ Bool) :=
 bif decide (a.2 < (c.legs.length : Int)) then (AY c.legs a.2).bind fun b => (((Cx b.at_ 2000).bind fun f => bif (!f) then some true else bif decide (b.at_ < a.1) then some true else (Ix e b).bind fun g => some (!g) : Option (Bool))).bind fun (d : Bool) => bif d then some (.inr false) else some (.inl (b.at_, AO (a.2 + 1))) else some (.inr true)
noncomputable def Kd (b : AK) (d : Al) (a : DT) : Option Bool :=
 (((CF a.name).bind fun e => bif (!e) then some true else (Cx a.stock (AO ((d.stock.length : Int) - 1))).bind fun f => bif (!f) then some true else (Cx a.frm (AO ((b.signals.length : Int) - 1))).bind fun g => bif (!g) then some true else (Cx a.left 4000).bind fun h => some (!h) : Option (Bool))).bind fun (c : Bool) => bif c then some false else AQ (LS b a) (0, 0)
theorem TQ (c : AK) (g : Al) (b : DT) (r : Bool) (h : Kd c g b = some r) : Ax Tryz.prog 89 [.agg (AU c), .agg (Ac g), .agg (B3 b)] (· = .bool r) := by
 refine fn AA Tryz.func89 Z Z 66 Z [.tmp 6] Z [(0, .p (.agg (AU c))), (1, .p (.agg (Ac g))), (2, .p (.agg (B3 b)))] Z Z fun A hA => ?_
 unfold Kd at h
 refine rs AA <| rl Z <| AB <| jb (fun e : Bool => ⟨66, [(3, .lpb 0 0), (5, .lpb 1 0), (39, lb e)], [(0, bx (AU c)), (1, bx (B3 b))], 2⟩) h (fun e s => ?_) (fun e af => ?_)
 .refine rg AA <| rn 2 Z <| bq s fun a1 j t => sx Z (AM (Hy _ _ j) (.inl Z) Z Z Z <| rn 2 Z <| gs 14 t Z Z Z (fun u => ?_) (fun v => ?_))
  .exact rl Z <| AL u (wf hA [(0, 0), (1, 2)] Z Z Z)
  refine rn 4 Z <| sx Z (Ad Z Z <| rn 1 Z <| bq v fun a2 k w => sx Z (AM (EH _ _ _ k) (.inl Z) Z Z Z <| rn 3 Z <| gs 24 w Z Z Z (fun y => ?_) (fun z => ?_)))
  .exact rl Z <| AL y (wf hA [(0, 0), (1, 2)] Z Z Z)
  refine rn 4 Z <| sx Z (Ad Z Z <| rn 1 Z <| bq z fun a3 l aa => sx Z (AM (EH _ _ _ l) (.inl Z) Z Z Z <| rn 3 Z <| gs 34 aa Z Z Z (fun ab => ?_) (fun ad => ?_)))
  .exact rl Z <| AL ab (wf hA [(0, 0), (1, 2)] Z Z Z)
  exact rn 2 Z <| bq ad fun a4 n ae => sx Z (AM (EH _ _ _ n) (.inl Z) Z Z Z <| rl Z <| AL ae (wf hA [(0, 0), (1, 2)] Z Z Z))
 refine cd Z af (fun ao => ?_) (fun aw => ?_)
 .refine rs AA <| rl Z <| AF <| AG ?_
  cases ao
  exact er Z Le.rfl
 refine AE <| AC <| rs AA <| rl Z <| AB <| rs AA <| rn 2 Z <| sx Z (Ad Z Z <| rl Z <| AH ?_)
 apply lp (a := r) (fun d : (Int × Int) => ⟨66, [(3, .lpb 0 0), (7, li d.1), (41, ls 4 EV b.legs), (42, li (b.legs.length : Int)), (43, li d.2)], [(0, bx (AU c))], 1⟩) aw
 . exact wf hA [(0, 0)] Z Z Z
 intro d a0 i
 unfold LS at i
 refine rs AA <| rl Z <| AB <| cd Z i (fun x => ?_) (fun au => ?_)
 .refine AE <| AC <| AB <| AH <| rs AA <| bq x fun ax m ac => sx Z (Af m Z Z Z <| rl Z <| AB <| jb (fun f : Bool => ⟨66, [(3, .lpb 0 0), (9, .lpb 1 0), (41, ls 4 EV b.legs), (42, li (b.legs.length : Int)), (43, li d.2), (62, lb f)], [(0, bx (AU c)), (1, bx (EV ax))], 2⟩) ac (fun f ag => ?_) (fun f an => ?_))
  .refine rg AA <| rn 2 Z <| bq ag fun a5 o ah => sx Z (AM (EH _ _ _ o) (.inl Z) Z Z Z <| rn 2 Z <| gs 51 ah Z Z Z (fun ai => ?_) (fun aj => ?_))
   .exact rl Z <| AL ai (wf hA [(0, 0), (1, 1)] Z Z Z)
   refine rn 6 Z <| gs 57 aj Z Z Z (fun ak => ?_) (fun al => ?_)
   .exact rl Z <| AL ak (wf hA [(0, 0), (1, 1)] Z Z Z)
   exact rn 2 Z <| bq al fun a6 q am => sx Z (AM (RZ _ _ _ q) (.inl Z) Z Z Z <| rl Z <| AL am (wf hA [(0, 0), (1, 1)] Z Z Z))
  refine cd Z an (fun ap => ?_) (fun ar => ?_)
  .refine rs AA <| rl Z <| AF <| AG <| AN <| AG <| A2 ap fun ay aq => AN <| AG ?_
   cases aq
   exact er Z Le.rfl
  exact AE <| AC <| rg AA <| rl Z <| Ag <| AC <| rg AA <| rl Z <| Ar ar (wf hA [(0, 0)] Z Z Z)
 refine AV <| AX <| BI au fun az av => Ap <| AC <| rs AA <| rl Z <| AF ?_
 cases av
 exact er Z Le.rfl
noncomputable def Hl (a : DT) (b : AK) (c : Al) : Option Bool :=
 (Kd b c a).bind fun d => some (!d)
theorem P9 (a : DT) (b : AK) (c : Al) (r : Bool) (h : Hl a b c = some r) : Ax Tryz.prog 88 [.agg (B3 a), .place (AU b) 0, .place (Ac c) 0] (· = .bool r) := by
 refine fn AA Tryz.func88 Z Z 10 Z [.tmp 4] Z [(0, .p (.agg (B3 a))), (1, .p (.place (AU b) 0)), (2, .p (.place (Ac c) 0))] Z Z fun A hA => ?_
 unfold Hl at h
 refine rs AA <| rl Z <| rs AA <| rn 3 Z <| bq h fun f d e => sx Z (AM (TQ _ _ _ _ d) (.inl Z) Z Z Z <| rl Z <| AF ?_)
 cases e
 exact er Z Le.rfl
noncomputable def Hm (a : DT) (b : DT) : Option Bool :=
 some (a.name.toList == b.name.toList)
theorem QA (a : DT) (b : DT) (r : Bool) (h : Hm a b = some r) : Ax Tryz.prog 90 [.agg (B3 a), .place (B3 b) 0] (· = .bool r) := by
 refine fn AA Tryz.func90 Z Z 9 Z [.tmp 3] Z [(0, .p (.agg (B3 a))), (1, .p (.place (B3 b) 0))] Z Z fun A hA => ?_
 unfold Hm at h
 refine rs AA <| rl Z <| rs AA <| rl Z <| AF ?_
 cases h
 exact er Z Le.rfl
noncomputable def KD (b : Al) (a : Int) : Option (Int ⊕ Int) :=
 bif decide (a < (b.runs.length : Int)) then (AY b.runs a).bind fun c => (Hk c).bind fun d => bif d then some (.inr a) else some (.inl (AO (a + 1))) else some (.inr (-1))
noncomputable def KE (c : AK) (b : Al) (a : Int) : Option (Int ⊕ Int) :=
 bif decide (a < (b.runs.length : Int)) then (AY b.runs a).bind fun d => (Hl d c b).bind fun e => bif e then some (.inr a) else some (.inl (AO (a + 1))) else some (.inr (-1))
noncomputable def KF (c : DT) (b : (List DT)) (a : Int) : Option (Int ⊕ Int) :=
 bif decide (a < (b.length : Int)) then (AY b a).bind fun d => (Hm d c).bind fun e => bif e then some (.inr a) else some (.inl (AO (a + 1))) else some (.inr (-1))
noncomputable def KG (b : Al) (a : Int) : Option (Int ⊕ Int) :=
 bif decide (a < (b.runs.length : Int)) then (AY b.runs a).bind fun e => (Hv b.runs 0 a).bind fun f => ((((AQ (KF e f) 0 : Option (Int))).bind fun (d : Int) => some (decide (0 <= d)) : Option (Bool))).bind fun (c : Bool) => bif c then some (.inr 4) else some (.inl (AO (a + 1))) else some (.inr 0)
noncomputable def Iy (b : AK) (a : Al) : Option Int :=
 ((bif decide (8 < (a.runs.length : Int)) then some true else ((((AQ (KD a) 0 : Option (Int))).bind fun (g : Int) => some (decide (0 <= g)) : Option (Bool))).bind fun (f : Bool) => some f : Option (Bool))).bind fun (e : Bool) => bif e then some 3 else (Kc b a.stock).bind fun c => bif (c != 0) then some c else (((Cx a.begin 86399).bind fun j => bif (!j) then some true else ((((AQ (KE b a) 0 : Option (Int))).bind fun (d : Int) => some (decide (0 <= d)) : Option (Bool))).bind fun (i : Bool) => some i : Option (Bool))).bind fun (h : Bool) => bif h then some 1 else AQ (KG a) 0
theorem Ra (c : AK) (b : Al) (r : Int) (h : Iy c b = some r) : Ax Tryz.prog 55 [.agg (AU c), .agg (Ac b)] (· = .int .i64 r) := by
 refine fn AA Tryz.func55 Z Z 49 Z [.tmp 4] Z [(0, .p (.agg (AU c))), (1, .p (.agg (Ac b)))] Z Z fun A hA => ?_
 unfold Iy at h
 refine rs AA <| rl Z <| AB <| jb (fun o : Bool => ⟨49, [(2, .lpb 0 0), (3, .lpb 1 0), (16, lb o)], [(0, bx (AU c)), (1, bx (Ac b))], 2⟩) h (fun o az => ?_) (fun o b1 => ?_)
 .refine rg AA <| rn 2 Z <| sx Z (Ad Z Z <| rn 2 Z <| gs 12 az Z Z Z (fun a0 => ?_) (fun a1 => ?_))
  .exact rl Z <| AL a0 (wf hA [(0, 0), (1, 1)] Z Z Z)
  refine rn 2 Z <| sx Z (CT AA (fun i : Bool => lb i) (fun i : Bool => [(0, bx (AU c)), (1, bx (Ac b))]) 2 a1 Tryz.func84 9 [.tmp 4] [(0, ls 5 B3 b.runs), (1, .fn 85 [])] Z Z Z Z Z Z Z Z (fun A hA i bm => ?_) (fun i b0 => ?_))
  .refine rs AA <| rl Z <| rs AA <| rn 2 Z <| sx Z (CT AA (fun f : Int => li f) (fun f : Int => [(0, bx (AU c)), (1, bx (Ac b))]) 2 bm Tryz.func121 19 [.tmp 4] [(0, ls 5 B3 b.runs), (1, .fn 85 [])] Z Z Z Z Z Z Z Z (fun A hA f bn => ?_) (fun f bz => ?_))
   .refine rs AA <| rl Z <| AB <| rs AA <| rn 1 Z <| sx Z (Ad Z Z <| rl Z <| AH ?_)
    apply lp (a := f) (fun n : Int => ⟨19, [(0, ls 5 B3 b.runs), (1, .fn 85 []), (7, li (b.runs.length : Int)), (8, li n)], [(0, bx (AU c)), (1, bx (Ac b))], 2⟩) bn
    . exact wj hA [(0, 0), (1, 1)] Z Z Z Z
    intro n co w
    unfold KD at w
    refine rs AA <| rl Z <| AB <| cd Z w (fun bo => ?_) (fun bv => ?_)
    .refine AE <| AC <| AB <| AH <| rs AA <| rl Z <| rs AA <| rn 3 Z <| bq bo fun ct ae bp => sx Z (Af ae Z Z Z <| rn 1 Z <| bq bp fun cu af br => sx Z (AM (P8 _ _ af) (.inl Z) Z Z Z <| rl Z <| cd Z br (fun bs => ?_) (fun bu => ?_)))
     .refine rs AA <| rl Z <| AF <| AN <| AG <| A2 bs fun cj bt => AN <| AG ?_
      have hr := Option.some.inj bt; subst hr
      exact CW (nt := 19) (sl := [(4, li n)]) (wj hA [(0, 0), (1, 1)] Z Z Z Z) Z
     exact AE <| Ag <| AC <| rg AA <| rl Z <| Ar bu (wj hA [(0, 0), (1, 1)] Z Z Z Z)
    refine AV <| AX <| BI bv fun ck bw => Ap <| AC <| rs AA <| rl Z <| AF ?_
    cases bw
    exact CW (nt := 19) (sl := [(4, li (-1))]) (wj hA [(0, 0), (1, 1)] Z Z Z Z) Z
   refine rl Z <| AF ?_
   cases bz
   exact CW (nt := 9) (sl := [(4, lb (decide (0 <= f)))]) (wj hA [(0, 0), (1, 1)] Z Z Z Z) Z
  exact rl Z <| AL b0 (wf hA [(0, 0), (1, 1)] Z Z Z)
 refine cd Z b1 (fun b2 => ?_) (fun b3 => ?_)
 .refine rs AA <| rl Z <| AF <| AG ?_
  cases b2
  exact er Z Le.rfl
 refine AE <| AC <| AB <| rs AA <| rn 3 Z <| bq b3 fun cv ag b4 => sx Z (AM (TP _ _ _ ag) (.inl Z) Z Z Z <| rl Z <| rs AA <| rl Z <| cd Z b4 (fun b5 => ?_) (fun b6 => ?_))
 .refine rs AA <| rl Z <| AF <| AG ?_
  have hr := Option.some.inj b5; subst hr
  exact er Z Le.rfl
 refine AE <| AC <| AB <| jb (fun q : Bool => ⟨49, [(3, .lpb 0 0), (33, lb q)], [(0, bx (Ac b))], 1⟩) b6 (fun q b7 => ?_) (fun q av => ?_)
 .refine rg AA <| rn 2 Z <| bq b7 fun cw ah b8 => sx Z (AM (EH _ _ _ ah) (.inl Z) Z Z Z <| rn 2 Z <| gs 28 b8 Z Z Z (fun b9 => ?_) (fun ca => ?_))
  .exact rl Z <| AL b9 (wf hA [(0, 1)] Z Z Z)
  refine rn 3 Z <| sx Z (CT AA (fun j : Bool => lb j) (fun j : Bool => [(0, bx (AU c)), (1, bx (Ac b))]) 2 ca Tryz.func84 9 [.tmp 4] [(0, ls 5 B3 b.runs), (1, .fn 88 [.lpb 0 0, .lpb 1 0])] Z Z Z Z Z Z Z Z (fun A hA j cb => ?_) (fun j au => ?_))
  .refine rs AA <| rl Z <| rs AA <| rn 2 Z <| sx Z (CT AA (fun d : Int => li d) (fun d : Int => [(0, bx (AU c)), (1, bx (Ac b))]) 2 cb Tryz.func121 19 [.tmp 4] [(0, ls 5 B3 b.runs), (1, .fn 88 [.lpb 0 0, .lpb 1 0])] Z Z Z Z Z Z Z Z (fun A hA d ai => ?_) (fun d ar => ?_))
   .refine rs AA <| rl Z <| AB <| rs AA <| rn 1 Z <| sx Z (Ad Z Z <| rl Z <| AH ?_)
    apply lp (a := d) (fun l : Int => ⟨19, [(0, ls 5 B3 b.runs), (1, .fn 88 [.lpb 0 0, .lpb 1 0]), (7, li (b.runs.length : Int)), (8, li l)], [(0, bx (AU c)), (1, bx (Ac b))], 2⟩) ai
    . exact wj hA [(0, 0), (1, 1)] Z Z Z Z
    intro l cl t
    unfold KE at t
    refine rs AA <| rl Z <| AB <| cd Z t (fun aj => ?_) (fun ap => ?_)
    .refine AE <| AC <| AB <| AH <| rs AA <| rl Z <| rs AA <| rn 3 Z <| bq aj fun cp y ak => sx Z (Af y Z Z Z <| rn 1 Z <| bq ak fun cq z al => sx Z (AM (P9 _ _ _ _ z) (.inl Z) Z Z (Dc.eq (.cons (.one (.p _)) (.cons (.box Z (.cons (.p _) (.cons (.p _) (.cons (.p _) (.cons (.p _) (.cons (.p _) (.cons (.p _) (.cons (.p _) (.cons (.p _) (.cons (.p _) .nil)))))))))) (.cons (.box Z (.cons (.p _) (.cons (.p _) (.cons (.p _) .nil)))) .nil)))) <| rl Z <| cd Z al (fun am => ?_) (fun ao => ?_)))
     .refine rs AA <| rl Z <| AF <| AN <| AG <| A2 am fun cc an => AN <| AG ?_
      have hr := Option.some.inj an; subst hr
      exact CW (nt := 19) (sl := [(4, li l)]) (wj hA [(0, 0), (1, 1)] Z Z Z Z) Z
     exact AE <| Ag <| AC <| rg AA <| rl Z <| Ar ao (wj hA [(0, 0), (1, 1)] Z Z Z Z)
    refine AV <| AX <| BI ap fun ce aq => Ap <| AC <| rs AA <| rl Z <| AF ?_
    cases aq
    exact CW (nt := 19) (sl := [(4, li (-1))]) (wj hA [(0, 0), (1, 1)] Z Z Z Z) Z
   refine rl Z <| AF ?_
   cases ar
   exact CW (nt := 9) (sl := [(4, lb (decide (0 <= d)))]) (wj hA [(0, 0), (1, 1)] Z Z Z Z) Z
  exact rl Z <| AL au (wf hA [(0, 1)] Z Z Z)
 refine cd Z av (fun aw => ?_) (fun ax => ?_)
 .refine rs AA <| rl Z <| AF <| AG ?_
  cases aw
  exact er Z Le.rfl
 refine AE <| AC <| AB <| rs AA <| rn 2 Z <| sx Z (Ad Z Z <| rl Z <| AH ?_)
 apply lp (a := r) (fun x : Int => ⟨49, [(3, .lpb 0 0), (35, ls 5 B3 b.runs), (36, li (b.runs.length : Int)), (37, li x)], [(0, bx (Ac b))], 1⟩) ax
 . exact wf hA [(0, 0)] Z Z Z
 intro x cm u
 unfold KG at u
 refine rs AA <| rl Z <| AB <| cd Z u (fun ay => ?_) (fun bk => ?_)
 .refine AE <| AC <| AB <| AH <| rs AA <| rn 1 Z <| bq ay fun s aa a2 => sx Z (Af aa Z Z Z <| rl Z <| rs AA <| rn 3 Z <| bq a2 fun k ab a3 => sx Z (RL ab Z Z Z Z <| rn 1 Z <| sx Z (CT AA (fun g : Bool => lb g) (fun g : Bool => [(0, bx (Ac b)), (1, bx (B3 s))]) 2 a3 Tryz.func84 9 [.tmp 4] [(0, ls 5 B3 k), (1, .fn 90 [.lpb 1 0])] Z Z Z Z Z Z Z Z (fun A hA g a4 => ?_) (fun g bg => ?_))))
  .refine rs AA <| rl Z <| rs AA <| rn 2 Z <| sx Z (CT AA (fun e : Int => li e) (fun e : Int => [(0, bx (Ac b)), (1, bx (B3 s))]) 2 a4 Tryz.func121 19 [.tmp 4] [(0, ls 5 B3 k), (1, .fn 90 [.lpb 1 0])] Z Z Z Z Z Z Z Z (fun A hA e a5 => ?_) (fun e bf => ?_))
   .refine rs AA <| rl Z <| AB <| rs AA <| rn 1 Z <| sx Z (Ad Z Z <| rl Z <| AH ?_)
    apply lp (a := e) (fun m : Int => ⟨19, [(0, ls 5 B3 k), (1, .fn 90 [.lpb 1 0]), (7, li (k.length : Int)), (8, li m)], [(0, bx (Ac b)), (1, bx (B3 s))], 2⟩) a5
    . exact wj hA [(0, 0), (1, 1)] Z Z Z Z
    intro m cn v
    unfold KF at v
    refine rs AA <| rl Z <| AB <| cd Z v (fun a6 => ?_) (fun bc => ?_)
    .refine AE <| AC <| AB <| AH <| rs AA <| rl Z <| rs AA <| rn 3 Z <| bq a6 fun cr ac a7 => sx Z (Af ac Z Z Z <| rn 1 Z <| bq a7 fun cs ad a8 => sx Z (AM (QA _ _ _ ad) (.inl Z) Z Z (Dc.eq (.cons (.one (.p _)) (.cons (.box Z (.cons (.p _) (.cons (.p _) (.cons (.p _) (.cons (.p _) (.cons (.p _) .nil)))))) .nil))) <| rl Z <| cd Z a8 (fun a9 => ?_) (fun bb => ?_)))
     .refine rs AA <| rl Z <| AF <| AN <| AG <| A2 a9 fun cf ba => AN <| AG ?_
      have hr := Option.some.inj ba; subst hr
      exact CW (nt := 19) (sl := [(4, li m)]) (wj hA [(0, 0), (1, 1)] Z Z Z Z) Z
     exact AE <| Ag <| AC <| rg AA <| rl Z <| Ar bb (wj hA [(0, 0), (1, 1)] Z Z Z Z)
    refine AV <| AX <| BI bc fun cg be => Ap <| AC <| rs AA <| rl Z <| AF ?_
    cases be
    exact CW (nt := 19) (sl := [(4, li (-1))]) (wj hA [(0, 0), (1, 1)] Z Z Z Z) Z
   refine rl Z <| AF ?_
   cases bf
   exact CW (nt := 9) (sl := [(4, lb (decide (0 <= e)))]) (wj hA [(0, 0), (1, 1)] Z Z Z Z) Z
  refine rl Z <| cd Z bg (fun bh => ?_) (fun bj => ?_)
  .refine rs AA <| rl Z <| AF <| AN <| AG <| A2 bh fun ch bi => AN <| AG ?_
   cases bi
   exact er Z Le.rfl
  exact AE <| Ag <| AC <| rg AA <| rl Z <| Ar bj (wf hA [(0, 0)] Z Z Z)
 refine AV <| AX <| BI bk fun ci bl => Ap <| AC <| rs AA <| rl Z <| AF ?_
 cases bl
 exact er Z Le.rfl
noncomputable def MS (c : Ay) (d : Al) (b : Int) : Option (N7 × Bool) :=
 ((bif decide (b < 0) then some true else some (decide ((d.runs.length : Int) <= b)) : Option (Bool))).bind fun (f : Bool) => bif f then some ((⟨ByteArray.empty, 0, (⟨0, 0⟩ : AI), 0⟩ : N7), false) else (AY d.runs b).bind fun a => (Cb c a.frm).bind fun e => (((BS c e.1.elem).bind fun h => bif (h == 4) then some 0 else some a.left : Option (Int))).bind fun (g : Int) => some ((⟨a.name, a.stock, e.1, g⟩ : N7), true)
theorem Va (a : Ay) (b : Al) (c : Int) (r : (N7 × Bool)) (h : MS a b c = some r) : Ax Tryz.prog 11 [.place (Aq a) 0, .agg (Ac b), .int .i64 c] (· = .tup [.agg (M3 r.1), .bool r.2]) := by
 refine fn AA Tryz.func11 Z Z 49 Z [.cell 6 42, .tmp 7] Z [(0, .p (.place (Aq a) 0)), (1, .p (.agg (Ac b))), (2, .p (.int .i64 c))] Z Z fun A hA => ?_
 unfold MS at h
 refine rs AA <| rl Z <| AB <| jb (fun d : Bool => ⟨49, [(0, lq (Aq a)), (2, li c), (4, .lpb 0 0), (6, .lpb 1 0), (20, lb d)], [(0, bx (Ac b)), (1, .box [.p (.str ByteArray.empty), li 0, li 0, li 0, li 0])], 2⟩) h (fun d l => ?_) (fun d o => ?_)
 .refine rg AA <| rn 3 Z <| gs 14 l Z Z Z (fun m => ?_) (fun n => ?_)
  .exact rl Z <| AL m (wf hA [(0, 0), (1, 1)] Z Z Z)
  exact rn 3 Z <| sx Z (Ad Z Z <| rl Z <| AL n (wf hA [(0, 0), (1, 1)] Z Z Z))
 refine cd Z o (fun q => ?_) (fun s => ?_)
 .refine rs AA <| rl Z <| AF <| AG ?_
  cases q
  exact er Z Le.rfl
 refine AE <| AC <| rs AA <| rn 3 Z <| bq s fun f i t => sx Z (Af i Z Z Z <| rl Z <| rs AA <| rn 3 Z <| bq t fun g j u => sx Z (AM (G3 _ _ _ j) (.inl Z) Z Z Z <| rl Z <| rs AA <| rl Z <| jb (fun e : Int => ⟨49, [(6, .lpb 0 0), (11, .lpb 1 0)], [(0, .box [.p (.str ByteArray.empty), li 0, li 0, li 0, li 0]), (1, .box [.p (.str f.name), li f.stock, li g.1.elem, li g.1.fin, li e])], 2⟩) u (fun e v => ?_) (fun e z => ?_)))
 .refine rs AA <| rn 3 Z <| bq v fun aa k w => sx Z (AM (Bs _ _ _ k) (.inl Z) Z Z Z <| rl Z <| cd Z w (fun x => ?_) (fun y => ?_))
  .exact rg AA <| rl Z <| AL x (wf hA [(0, 1), (1, 4)] Z Z Z)
  exact AE <| AL y (wf hA [(0, 1), (1, 4)] Z Z Z)
 refine rs AA <| rl Z <| AF ?_
 cases z
 exact er Z Le.rfl
end Go.E
/- Plain functions, and walks in step with them. Written by a program (gen.py). No condition. -/
set_option maxRecDepth 100000
set_option maxHeartbeats 1000000
namespace Go.E
open Go Go.RowKit Go.Proofs
noncomputable def Jn (c : Ay) (a : AI) : Option Bool :=
 ((bif decide (0 <= a.fin) then (BS c a.elem).bind fun d => (E3 d).bind fun e => some (decide (a.fin < e)) else some false : Option (Bool))).bind fun (b : Bool) => some b
theorem QJ (b : Ay) (c : AI) (r : Bool) (h : Jn b c = some r) : Ax Tryz.prog 136 [.place (Aq b) 0, .agg (AT c)] (· = .bool r) := by
 refine fn AA Tryz.func136 Z Z 18 Z [.tmp 4] Z [(0, .p (.place (Aq b) 0)), (1, .p (.agg (AT c)))] Z Z fun A hA => ?_
 unfold Jn at h
 refine rs AA <| rl Z <| jb (fun a : Bool => ⟨18, [(4, lb a)], [], 0⟩) h (fun a k => ?_) (fun a j => ?_)
 .refine Bz AA mixed [0, 1, 2, 3, 4, 5, 6, 7, 8, 9, 10, 11, 12, 13] 14 (by kernel_rfl) Z Z Z ?_
  refine Au 4 Z <| ES 8 k Z Z Z (fun l => ?_) (fun i => ?_)
  .exact Au 5 Z <| bq l fun m d f => As Z (A6 (Bs _ _ _ d) (.inl Z) Z Z Z <| bq f fun n e g => As Z (A6 (Jo _ _ e) (.inl Z) Z Z Z <| BJ Z <| AL g (wf hA [] Z Z Z)))
  exact BJ Z <| AL i (wf hA [] Z Z Z)
 refine AF ?_
 have hr := Option.some.inj j; subst hr
 exact er Z Le.rfl
noncomputable def LU (c : Ay) (d : Int) (a : N7) : Option (LW × Int) :=
 (BS c a.at_.elem).bind fun b => (DD c a.at_.elem).bind fun e => ((bif decide (d < 1) then some true else bif decide (4000 < d) then some true else bif (b != 4) then bif (b != 1) then some true else (Jn c a.at_).bind fun j => some (!j) else (Jn c a.at_).bind fun k => some (!k) : Option (Bool))).bind fun (i : Bool) => bif i then some ((⟨0, [], 0, 0, 0⟩ : LW), 1) else (CX c a.at_).bind fun l => bif decide (l < 0) then some ((⟨0, [], 0, 0, 0⟩ : LW), 7) else ((bif (b == 4) then bif (a.left != 0) then some true else bif (b == 1) then bif decide (a.left < 0) then some true else some (decide (e < a.left)) else some false else bif (b == 1) then bif decide (a.left < 0) then some true else some (decide (e < a.left)) else some false : Option (Bool))).bind fun (f : Bool) => bif f then some ((⟨0, [], 0, 0, 0⟩ : LW), 1) else ((bif (b == 1) then some (decide (e < AO (a.left + d))) else some false : Option (Bool))).bind fun (g : Bool) => bif g then some ((⟨0, [], 0, 0, 0⟩ : LW), 9) else ((bif (b == 4) then some 1 else some 2 : Option (Int))).bind fun (h : Int) => some ((⟨h, [a.at_], a.left, 0, 0⟩ : LW), 0)
theorem UU (c : Ay) (b : Int) (a : N7) (r : (LW × Int)) (h : LU c b a = some r) : Ax Tryz.prog 92 [.place (Aq c) 0, .int .i64 b, .agg (M3 a)] (· = .tup [.agg (XD r.1), .int .i64 r.2]) := by
 refine fn AA Tryz.func92 Z Z 97 Z [.cell 6 117, .tmp 7] Z [(0, .p (.place (Aq c) 0)), (1, .p (.int .i64 b)), (2, .p (.agg (M3 a)))] Z Z fun A hA => ?_
 unfold LU at h
 refine rs AA <| rl Z <| AB ?_
 refine Bz AA mixed [0, 1, 2, 3, 4, 5, 6, 7, 8, 9, 10, 11] 12 (by kernel_rfl) Z Z Z ?_
 refine Au 4 Z <| bq h fun i n a5 => As Z (A6 (Bs _ _ _ n) (.inl Z) Z Z Z <| Au 4 Z <| bq a5 fun j o a6 => As Z (A6 (LX _ _ _ o) (.inl Z) Z Z Z <| BJ Z <| AC <| AB <| AH <| jb (fun g : Bool => ⟨97, [(0, lq (Aq c)), (1, li b), (5, .lpb 0 0), (6, .lpb 1 0), (8, li i), (9, li j), (21, lb g)], [(0, bx (M3 a)), (1, .box [li 0, .p (.nils), li 0, li 0, li 0])], 2⟩) a6 (fun g a7 => ?_) (fun g x => ?_)))
 .refine rg AA <| rn 3 Z <| gs 24 a7 Z Z Z (fun a8 => ?_) (fun a9 => ?_)
  .exact rl Z <| AL a8 (wf hA [(0, 0), (1, 1)] Z Z Z)
  refine rn 4 Z <| gs 28 a9 Z Z Z (fun ba => ?_) (fun bb => ?_)
  .exact rl Z <| AL ba (wf hA [(0, 0), (1, 1)] Z Z Z)
  refine rn 3 Z <| gs 31 bb Z Z Z (fun q => ?_) (fun v => ?_)
  .refine rn 5 Z <| gs 36 q Z Z Z (fun s => ?_) (fun t => ?_)
   .exact rl Z <| AL s (wf hA [(0, 0), (1, 1)] Z Z Z)
   exact rn 3 Z <| bq t fun bc k u => sx Z (AM (QJ _ _ _ k) (.inl Z) Z Z Z <| rl Z <| AL u (wf hA [(0, 0), (1, 1)] Z Z Z))
  exact rn 8 Z <| bq v fun be l w => sx Z (AM (QJ _ _ _ l) (.inl Z) Z Z Z <| rl Z <| AL w (wf hA [(0, 0), (1, 1)] Z Z Z))
 refine cd Z x (fun y => ?_) (fun z => ?_)
 .refine rs AA <| rl Z <| AF <| AN <| AG ?_
  cases y
  exact er Z (Le.tup' (.cons (Le.agg' (.cons Le.rfl (.cons (Le.nil _) (.cons Le.rfl (.cons Le.rfl (.cons Le.rfl .nil)))))) (.cons Le.rfl .nil)))
 refine rs AA <| rn 3 Z <| bq z fun bf m aa => sx Z (AM (Gk _ _ _ m) (.inl Z) Z Z Z <| rl Z <| cd Z aa (fun ab => ?_) (fun ac => ?_))
 .refine rs AA <| rl Z <| AF <| AN <| AG ?_
  cases ab
  exact er Z (Le.tup' (.cons (Le.agg' (.cons Le.rfl (.cons (Le.nil _) (.cons Le.rfl (.cons Le.rfl (.cons Le.rfl .nil)))))) (.cons Le.rfl .nil)))
 refine jb (fun d : Bool => ⟨97, [(1, li b), (5, .lpb 0 0), (6, .lpb 1 0), (8, li i), (9, li j), (51, lb d)], [(0, bx (M3 a)), (1, .box [li 0, .p (.nils), li 0, li 0, li 0])], 2⟩) ac (fun d ad => ?_) (fun d aq => ?_)
 .refine rg AA <| rn 3 Z <| gs 54 ad Z Z Z (fun ae => ?_) (fun al => ?_)
  .refine rn 5 Z <| gs 59 ae Z Z Z (fun af => ?_) (fun ag => ?_)
   .exact rl Z <| AL af (wf hA [(0, 0), (1, 1)] Z Z Z)
   refine rn 3 Z <| gs 62 ag Z Z Z (fun ah => ?_) (fun ak => ?_)
   .refine rn 4 Z <| gs 66 ah Z Z Z (fun ai => ?_) (fun aj => ?_)
    .exact rl Z <| AL ai (wf hA [(0, 0), (1, 1)] Z Z Z)
    exact rl Z <| AL aj (wf hA [(0, 0), (1, 1)] Z Z Z)
   exact rl Z <| AL ak (wf hA [(0, 0), (1, 1)] Z Z Z)
  refine rn 8 Z <| gs 62 al Z Z Z (fun am => ?_) (fun ap => ?_)
  .refine rn 4 Z <| gs 66 am Z Z Z (fun an => ?_) (fun ao => ?_)
   .exact rl Z <| AL an (wf hA [(0, 0), (1, 1)] Z Z Z)
   exact rl Z <| AL ao (wf hA [(0, 0), (1, 1)] Z Z Z)
  exact rl Z <| AL ap (wf hA [(0, 0), (1, 1)] Z Z Z)
 refine cd Z aq (fun ar => ?_) (fun au => ?_)
 .refine rs AA <| rl Z <| AF <| AN <| AG ?_
  cases ar
  exact er Z (Le.tup' (.cons (Le.agg' (.cons Le.rfl (.cons (Le.nil _) (.cons Le.rfl (.cons Le.rfl (.cons Le.rfl .nil)))))) (.cons Le.rfl .nil)))
 refine jb (fun e : Bool => ⟨97, [(5, .lpb 0 0), (6, .lpb 1 0), (8, li i), (75, lb e)], [(0, bx (M3 a)), (1, .box [li 0, .p (.nils), li 0, li 0, li 0])], 2⟩) au (fun e av => ?_) (fun e ay => ?_)
 .refine rg AA <| rn 3 Z <| gs 78 av Z Z Z (fun aw => ?_) (fun ax => ?_)
  .exact rl Z <| AL aw (wf hA [(0, 0), (1, 1)] Z Z Z)
  exact rl Z <| AL ax (wf hA [(0, 0), (1, 1)] Z Z Z)
 refine cd Z ay (fun az => ?_) (fun a0 => ?_)
 .refine rs AA <| rl Z <| AF <| AN <| AG ?_
  cases az
  exact er Z (Le.tup' (.cons (Le.agg' (.cons Le.rfl (.cons (Le.nil _) (.cons Le.rfl (.cons Le.rfl (.cons Le.rfl .nil)))))) (.cons Le.rfl .nil)))
 refine AE <| Ag <| AC <| rs AA <| rl Z <| jb (fun f : Int => ⟨97, [(6, .lpb 0 0), (10, .lpb 1 0)], [(0, .box [li 0, .p (.nils), li 0, li 0, li 0]), (1, .box [li f, .lsl 2 2 0 [a.at_].length, li a.left, li 0, li 0]), (2, .row 40 2 ([a.at_].map AT))], 3⟩) a0 (fun f a1 => ?_) (fun f a4 => ?_)
 .refine rs AA <| rl Z <| cd Z a1 (fun a2 => ?_) (fun a3 => ?_)
  .exact rg AA <| rl Z <| AL a2 (wf hA [(0, 1), (1, 3), (2, 2)] Z Z Z)
  exact AE <| AL a3 (wf hA [(0, 1), (1, 3), (2, 2)] Z Z Z)
 refine rs AA <| rl Z <| AF ?_
 cases a4
 exact er (UL Z (.cons (.agg (.cons (.p _) (.cons (.own (enc := AT) ([a.at_] : List AI) Z Z) (.cons (.p _) (.cons (.p _) (.cons (.p _) .nil)))))) (.cons (.one (.p _)) .nil))) Le.rfl
noncomputable def M4 (e : Ay) (b : LW) (a : Int × (List Int)) : Option ((Int × (List Int)) ⊕ (List Int)) :=
 bif decide (a.1 < (b.trail.length : Int)) then (((AY b.trail a.1).bind fun c => (BS e c.elem).bind fun f => bif (f != 4) then (Bu a.2 [c.elem]).bind fun g => some g else some a.2 : Option ((List Int)))).bind fun (d : (List Int)) => some (.inl (AO (a.1 + 1), d)) else ((P0 a.2).bind fun h => (Tk h).bind fun i => some i).map .inr
noncomputable def MT (a : Ay) (b : LW) : Option (List Int) :=
 AQ (M4 a b) (0, ([] : List Int))
theorem Vb (d : Ay) (c : LW) (r : (List Int)) (h : MT d c = some r) : Ax Tryz.prog 93 [.place (Aq d) 0, .agg (XD c)] (· = .slice 1 (r.map AZ)) := by
 refine fn AA Tryz.func93 Z Z 30 Z [.tmp 4] Z [(0, .p (.place (Aq d) 0)), (1, .p (.agg (XD c)))] Z Z fun A hA => ?_
 unfold MT at h
 refine rs AA <| rl Z <| rs AA <| rl Z <| AB <| rs AA <| rn 2 Z <| sx Z (Ad Z Z <| rl Z <| AH ?_)
 apply lp (a := r) (fun b : (Int × (List Int)) => ⟨30, [(0, lq (Aq d)), (5, .lsl 0 1 0 b.2.length), (9, ls 2 AT c.trail), (10, li (c.trail.length : Int)), (11, li b.1)], [(0, .row 3 1 (b.2.map AZ))], 1⟩) h
 . exact A7.trans (Ci 5 3 1 Z) (wf hA [(0, 1)] Z Z Z)
 intro b ai i
 unfold M4 at i
 refine rs AA <| rl Z <| AB <| cd Z i (fun q => ?_) (fun aa => ?_)
 .refine AE <| AC <| jb (fun f : (List Int) => ⟨30, [(0, lq (Aq d)), (5, .lsl 0 1 0 f.length), (9, ls 2 AT c.trail), (10, li (c.trail.length : Int)), (11, li b.1)], [(0, .row 3 1 (f.map AZ))], 1⟩) q (fun f s => ?_) (fun f z => ?_)
  .refine AH <| rs AA <| bq s fun ae j u => sx Z (Af j Z Z Z <| rl Z <| rs AA <| rn 3 Z <| bq u fun aj k v => sx Z (AM (Bs _ _ _ k) (.inl Z) Z Z Z <| rl Z <| cd Z v (fun w => ?_) (fun y => ?_)))
   .exact rg AA <| rn 4 Z <| bq w fun ak n x => sx Z (BY (enc := AZ) (l := b.2) (m := [ae.elem]) n (fun _ => ⟨Z, Z⟩) Z Z Z Z Z Z <| rl Z <| Ag <| AL x (wf hA [(0, 3)] Z Z Z))
   exact AE <| Ag <| AL y (wf hA [(0, 0)] Z Z Z)
  exact rg AA <| rl Z <| Ar z (wf hA [(0, 0)] Z Z Z)
 refine AV <| AX <| CP aa fun ah ab => Ap <| AC <| rs AA <| rn 1 Z <| bq ab fun af g ac => sx Z (AA9 (t := 50) (e := 3) (enc := AZ) (l := b.2) AA YL Z Z g Z Z Z Z Z Z <| rl Z <| rs AA <| rn 1 Z <| bq ac fun ag o ad => sx Z (ABA (t := 50) (e := 3) (enc := AZ) (l := af) AA ABB Z Z o Z (by first | rfl | exact YM g) Z Z Z Z <| rl Z <| AF ?_))
 have hr := Option.some.inj ad; subst hr
 exact er (Ip Z (.one (.own (enc := AZ) ag Z Z))) Le.rfl
noncomputable def L1 (d : (Int × Int × (List (Int × Bool)))) (b : (List Int)) (a : Int × Int × (List (Int × Bool))) : Option ((Int × Int × (List (Int × Bool))) ⊕ ((Int × Int × (List (Int × Bool))) ⊕ Int)) :=
 bif decide (a.2.1 < (b.length : Int)) then (AY b a.2.1).bind fun c => ((bif ((Ak a.2.2 c).getD false) then some 18 else some a.1 : Option (Int))).bind fun (e : Int) => some (.inl (e, AO (a.2.1 + 1), A0 c true a.2.2)) else some (.inr (.inl (a.1, AO (d.2.1 + 1), a.2.2)))
noncomputable def L2 (c : Ay) (b : Al) (a : Int × Int × (List (Int × Bool))) : Option ((Int × Int × (List (Int × Bool))) ⊕ Int) :=
 bif decide (a.2.1 < (b.runs.length : Int)) then (AY b.runs a.2.1).bind fun e => (MS c b a.2.1).bind fun f => (AY b.stock e.stock).bind fun g => (LU c g.len f.1).bind fun d => bif (d.2 != 0) then some (.inr d.2) else (MT c d.1).bind fun h => AQ (L1 a h) (a.1, 0, a.2.2) else some (.inr a.1)
noncomputable def LY (a : Ay) (b : Al) : Option Int :=
 AQ (L2 a b) (0, 0, [])
theorem UV (e : Ay) (b : Al) (r : Int) (h : LY e b = some r) : Ax Tryz.prog 57 [.place (Aq e) 0, .agg (Ac b)] (· = .int .i64 r) := by
 refine fn AA Tryz.func57 Z Z 63 Z [.tmp 4] Z [(0, .p (.place (Aq e) 0)), (1, .p (.agg (Ac b)))] Z Z fun A hA => ?_
 unfold LY at h
 refine rs AA <| rl Z <| rs AA <| rl Z <| AB <| rs AA <| rn 2 Z <| sx Z (Ad Z Z <| rl Z <| AH ?_)
 apply lp (a := r) (fun d : (Int × Int × (List (Int × Bool))) => ⟨63, [(0, lq (Aq e)), (3, .lpb 0 0), (5, li d.1), (6, .lmap 1), (17, ls 5 B3 b.runs), (18, li (b.runs.length : Int)), (19, li d.2.1)], [(0, bx (Ac b)), (1, .map (An (.int .i64) .bool d.2.2))], 2⟩) h
 . exact wf hA [(0, 0), (1, 1)] Z Z Z
 intro d l j
 unfold L2 at j
 refine rs AA <| rl Z <| AB <| cd Z j (fun u => ?_) (fun an => ?_)
 .refine AE <| AC <| AB <| AH <| rs AA <| rn 1 Z <| bq u fun av m v => sx Z (Af m Z Z Z <| rl Z <| rs AA <| rn 3 Z <| bq v fun aw n w => sx Z (AM (Va _ _ _ _ n) (.inl Z) Z Z Z <| rl Z <| AB ?_))
  refine Bz AA mixed [0, 1, 2, 3, 4, 5, 6, 7, 8, 9, 10, 11, 12, 13, 14, 15] 16 (by kernel_rfl) Z Z Z ?_
  refine Au 5 Z <| bq w fun ax o x => As Z (Aj Z (Af o Z Z Z <| Au 3 Z <| bq x fun ay q aa => As Z (A6 (UU _ _ _ _ q) (.inr Z) Z Z Z <| BJ Z <| AC <| AB <| rs AA <| rl Z <| cd Z aa (fun ab => ?_) (fun ad => ?_))))
  .refine rs AA <| rl Z <| AF <| AG <| AN <| AG <| A2 ab fun ap ac => AN <| AG ?_
   cases ac
   exact er Z Le.rfl
  refine AE <| AC <| rs AA <| rn 2 Z <| bq ad fun f s ae => sx Z (AM (Vb _ _ _ s) (.inr Z) Z Z Z <| sx Z (Ad Z Z <| rl Z <| AH ?_))
  apply lp (a := l) (fun c : (Int × Int × (List (Int × Bool))) => ⟨63, [(0, lq (Aq e)), (3, .lpb 0 0), (5, li c.1), (6, .lmap 1), (17, ls 5 B3 b.runs), (18, li (b.runs.length : Int)), (19, li d.2.1), (49, ls 1 AZ f), (50, li (f.length : Int)), (51, li c.2.1)], [(0, bx (Ac b)), (1, .map (An (.int .i64) .bool c.2.2))], 2⟩) ae
  . exact wf hA [(0, 0), (1, 1)] Z Z Z
  intro c au k
  unfold L1 at k
  refine rs AA <| rl Z <| AB <| cd Z k (fun af => ?_) (fun al => ?_)
  .refine AE <| AC <| AB <| AH <| rs AA <| bq af fun i t ag => sx Z (Af t Z Z Z <| rl Z <| jb (fun g : Int => ⟨63, [(0, lq (Aq e)), (3, .lpb 0 0), (5, li g), (6, .lmap 1), (14, li i), (17, ls 5 B3 b.runs), (18, li (b.runs.length : Int)), (19, li d.2.1), (49, ls 1 AZ f), (50, li (f.length : Int)), (51, li c.2.1)], [(0, bx (Ac b)), (1, .map (An (.int .i64) .bool c.2.2))], 2⟩) ag (fun g ah => ?_) (fun g ak => ?_))
   .refine rs AA <| rn 2 Z <| sx Z (Ko (et := 4) (ke := (.int .i64)) (ve := .bool) (mp := c.2.2) (y := i) false GF Z Z Z Z <| rl Z <| cd Z ah (fun ai => ?_) (fun aj => ?_))
    .exact rg AA <| rl Z <| AL ai (wf hA [(0, 0), (1, 1)] Z Z Z)
    exact AE <| AL aj (wf hA [(0, 0), (1, 1)] Z Z Z)
   exact rg AA <| rn 2 Z <| sx Z (Gi (et := 4) (ke := (.int .i64)) (ve := .bool) (mp := c.2.2) (y := i) (z := true) GF Z Z Z Z Z Z <| rl Z <| Ag <| AC <| rg AA <| rl Z <| Ar ak (wf hA [(0, 0), (1, 1)] Z Z Z))
  exact AV <| AX <| BI al fun aq am => Ap <| Ag <| AC <| rg AA <| rl Z <| Ar am (wf hA [(0, 0), (1, 1)] Z Z Z)
 refine AV <| AX <| BI an fun ar ao => Ap <| AC <| rs AA <| rl Z <| AF ?_
 cases ao
 exact er Z Le.rfl
noncomputable def M5 (b : DJ) (a : Int) : Option (Int ⊕ Int) :=
 bif decide (a < (b.plan.signals.length : Int)) then (AY b.plan.signals a).bind fun c => (Ka c).bind fun d => bif d then some (.inr a) else some (.inl (AO (a + 1))) else some (.inr (-1))
noncomputable def M6 (c : DJ) (d : Al) (g : Ay) (b : Int) (e : DT) (a : Int) : Option (Int ⊕ (Int ⊕ Int)) :=
 bif decide (a < (e.legs.length : Int)) then (E1 g c.roads d b a).bind fun f => bif ((f.length : Int) == 0) then some (.inr (.inr 10)) else some (.inl (AO (a + 1))) else some (.inr (.inl (AO (b + 1))))
noncomputable def M7 (e : DJ) (c : Al) (g : Ay) (b : Int) : Option (Int ⊕ Int) :=
 bif decide (b < (c.runs.length : Int)) then (AY c.runs b).bind fun a => ((bif ((a.legs.length : Int) == 0) then some true else (AY a.legs (AO ((a.legs.length : Int) - 1))).bind fun f => some (f.fin != 2) : Option (Bool))).bind fun (d : Bool) => bif d then some (.inr 10) else AQ (M6 e c g b a) 0 else some (.inr 0)
noncomputable def MU (b : DJ) (c : Al) : Option Int :=
 ((((AQ (M5 b) 0 : Option (Int))).bind fun (h : Int) => some (decide (0 <= h)) : Option (Bool))).bind fun (g : Bool) => bif g then some 7 else (Iy b.plan c).bind fun d => bif (d != 0) then some d else (Cl b.plan).bind fun a => Io a.1 (bif (a.2 != 0) then some a.2 else none) fun f => bif (a.2 != 0) then some a.2 else (LY f c).bind fun e => bif (e != 0) then some e else AQ (M7 b c f) 0
theorem Vc (c : DJ) (b : Al) (r : Int) (h : MU c b = some r) : Ax Tryz.prog 25 [.agg (DU c), .agg (Ac b)] (· = .int .i64 r) := by
 refine fn AA Tryz.func25 Z Z 78 Z [.tmp 4] Z [(0, .p (.agg (DU c))), (1, .p (.agg (Ac b)))] Z Z fun A hA => ?_
 unfold MU at h
 refine rs AA <| rl Z <| AB <| rs AA <| rn 3 Z <| sx Z (CT AA (fun g : Bool => lb g) (fun g : Bool => [(0, bx (DU c)), (1, bx (Ac b))]) 2 h Tryz.func53 9 [.tmp 4] [(0, ls 4 BT c.plan.signals), (1, .fn 54 [])] Z Z Z Z Z Z Z Z (fun A hA g ab => ?_) (fun g am => ?_))
 .refine rs AA <| rl Z <| rs AA <| rn 2 Z <| sx Z (CT AA (fun f : Int => li f) (fun f : Int => [(0, bx (DU c)), (1, bx (Ac b))]) 2 ab Tryz.func83 19 [.tmp 4] [(0, ls 4 BT c.plan.signals), (1, .fn 54 [])] Z Z Z Z Z Z Z Z (fun A hA f ac => ?_) (fun f al => ?_))
  .refine rs AA <| rl Z <| AB <| rs AA <| rn 1 Z <| sx Z (Ad Z Z <| rl Z <| AH ?_)
   apply lp (a := f) (fun i : Int => ⟨19, [(0, ls 4 BT c.plan.signals), (1, .fn 54 []), (7, li (c.plan.signals.length : Int)), (8, li i)], [(0, bx (DU c)), (1, bx (Ac b))], 2⟩) ac
   . exact wj hA [(0, 0), (1, 1)] Z Z Z Z
   intro i bv l
   unfold M5 at l
   refine rs AA <| rl Z <| AB <| cd Z l (fun ad => ?_) (fun aj => ?_)
   .refine AE <| AC <| AB <| AH <| rs AA <| rl Z <| rs AA <| rn 3 Z <| bq ad fun b0 t ae => sx Z (Af t Z Z Z <| rn 1 Z <| bq ae fun b1 u af => sx Z (AM (TN _ _ u) (.inl Z) Z Z Z <| rl Z <| cd Z af (fun ag => ?_) (fun ai => ?_)))
    .refine rs AA <| rl Z <| AF <| AN <| AG <| A2 ag fun bn ah => AN <| AG ?_
     have hr := Option.some.inj ah; subst hr
     exact CW (nt := 19) (sl := [(4, li i)]) (wj hA [(0, 0), (1, 1)] Z Z Z Z) Z
    exact AE <| Ag <| AC <| rg AA <| rl Z <| Ar ai (wj hA [(0, 0), (1, 1)] Z Z Z Z)
   refine AV <| AX <| BI aj fun bo ak => Ap <| AC <| rs AA <| rl Z <| AF ?_
   cases ak
   exact CW (nt := 19) (sl := [(4, li (-1))]) (wj hA [(0, 0), (1, 1)] Z Z Z Z) Z
  refine rl Z <| AF ?_
  cases al
  exact CW (nt := 9) (sl := [(4, lb (decide (0 <= f)))]) (wj hA [(0, 0), (1, 1)] Z Z Z Z) Z
 refine rl Z <| cd Z am (fun an => ?_) (fun ao => ?_)
 .refine rs AA <| rl Z <| AF <| AG ?_
  cases an
  exact er Z Le.rfl
 refine AE <| AC <| AB <| rs AA <| rn 3 Z <| bq ao fun b2 v ap => sx Z (AM (Ra _ _ _ v) (.inl Z) Z Z Z <| rl Z <| rs AA <| rl Z <| cd Z ap (fun aq => ?_) (fun ar => ?_))
 .refine rs AA <| rl Z <| AF <| AG ?_
  have hr := Option.some.inj aq; subst hr
  exact er Z Le.rfl
 refine AE <| AC <| rs AA <| rn 2 Z <| bq ar fun bm w d => sx Z (AM (PK _ _ w) (.inr Z) Z Z Z ?_)
 revert d; rcases bz : bm.1 with _ | k <;> intro d
 .replace d := UG d
  refine rl Z <| AB <| rs AA <| rl Z <| cd Z d (fun au => ?_) (fun av => ?_)
  .refine rs AA <| rl Z <| AF <| AG ?_
   cases au
   exact er Z Le.rfl
  refine AE <| AC <| AB <| rs AA <| rn 2 Z ?_
  cases av
 replace d := UH d
 refine rl Z <| AB <| rs AA <| rl Z <| cd Z d (fun aw => ?_) (fun ax => ?_)
 .refine rs AA <| rl Z <| AF <| AG ?_
  cases aw
  exact er Z Le.rfl
 refine AE <| AC <| AB <| rs AA <| rn 2 Z <| bq ax fun b3 x ay => sx Z (AM (UV _ _ _ x) (.inl Z) Z Z Z <| rl Z <| rs AA <| rl Z <| cd Z ay (fun az => ?_) (fun a0 => ?_))
 .refine rs AA <| rl Z <| AF <| AG ?_
  have hr := Option.some.inj az; subst hr
  exact er Z Le.rfl
 refine AE <| AC <| AB <| rs AA <| rn 2 Z <| sx Z (Ad Z Z <| rl Z <| AH ?_)
 apply lp (a := r) (fun e : Int => ⟨78, [(2, .lpb 0 0), (3, .lpb 1 0), (6, lq (Aq k)), (38, ls 5 B3 b.runs), (39, li (b.runs.length : Int)), (40, li e)], [(0, bx (DU c)), (1, bx (Ac b))], 2⟩) a0
 . exact wf hA [(0, 0), (1, 1)] Z Z Z
 intro e s m
 unfold M7 at m
 refine rs AA <| rl Z <| AB <| cd Z m (fun a1 => ?_) (fun bk => ?_)
 .refine AE <| AC <| AB <| AH <| rs AA <| rn 1 Z <| bq a1 fun q y a2 => sx Z (Af y Z Z Z <| rl Z <| AB <| jb (fun j : Bool => ⟨78, [(2, .lpb 0 0), (3, .lpb 1 0), (6, lq (Aq k)), (8, li e), (9, .lpb 2 0), (38, ls 5 B3 b.runs), (39, li (b.runs.length : Int)), (40, li e), (60, lb j)], [(0, bx (DU c)), (1, bx (Ac b)), (2, bx (B3 q))], 3⟩) a2 (fun j a3 => ?_) (fun j a7 => ?_))
  .refine rg AA <| rn 2 Z <| sx Z (Ad Z Z <| rn 2 Z <| gs 49 a3 Z Z Z (fun a4 => ?_) (fun a5 => ?_))
   .exact rl Z <| AL a4 (wf hA (gi 3 []) Z Z Z)
   exact rn 4 Z <| sx Z (Ad Z Z <| rn 1 Z <| bq a5 fun b4 z a6 => sx Z (Af z Z Z Z <| rl Z <| AL a6 (wf hA (gi 3 []) Z Z Z)))
  refine cd Z a7 (fun a8 => ?_) (fun ba => ?_)
  .refine rs AA <| rl Z <| AF <| AG <| AN <| AG <| A2 a8 fun bp a9 => AN <| AG ?_
   cases a9
   exact er Z Le.rfl
  refine AE <| AC <| rs AA <| rn 2 Z <| sx Z (Ad Z Z <| rl Z <| AH ?_)
  apply lp (a := s) (fun o : Int => ⟨78, [(2, .lpb 0 0), (3, .lpb 1 0), (6, lq (Aq k)), (8, li e), (38, ls 5 B3 b.runs), (39, li (b.runs.length : Int)), (40, li e), (63, li (q.legs.length : Int)), (64, li o)], [(0, bx (DU c)), (1, bx (Ac b))], 2⟩) ba
  . exact wf hA [(0, 0), (1, 1)] Z Z Z
  intro o bw n
  unfold M6 at n
  refine rs AA <| rl Z <| AB <| cd Z n (fun bb => ?_) (fun bi => ?_)
  .refine AE <| AC <| AB <| AH <| rs AA <| rl Z <| rs AA <| rn 6 Z <| bq bb fun b5 aa bc => sx Z (AM (MP _ _ _ _ _ _ aa) (.inr Z) Z Z Z <| sx Z (Ad Z Z <| rl Z <| cd Z bc (fun be => ?_) (fun bh => ?_)))
   .refine rs AA <| rl Z <| AF <| AN <| AG <| A2 be fun br bf => AN <| AN <| AG <| A2 bf fun bs bg => AN <| AG ?_
    cases bg
    exact er Z Le.rfl
   exact AE <| Ag <| AC <| rg AA <| rl Z <| Ar bh (wf hA [(0, 0), (1, 1)] Z Z Z)
  exact AV <| AX <| BI bi fun bt bj => Ap <| Ag <| AC <| rg AA <| rl Z <| Ar bj (wf hA [(0, 0), (1, 1)] Z Z Z)
 refine AV <| AX <| BI bk fun bu bl => Ap <| AC <| rs AA <| rl Z <| AF ?_
 cases bl
 exact er Z Le.rfl
noncomputable def EI (b : (List Int)) (c : (List Int)) (a : Int) : Option (Int ⊕ Bool) :=
 bif decide (a < (b.length : Int)) then (AY b a).bind fun d => (AY c a).bind fun e => bif (d != e) then some (.inr false) else some (.inl (AO (a + 1))) else some (.inr true)
noncomputable def Dk (a : (List Int)) (b : (List Int)) : Option Bool :=
 bif ((a.length : Int) != (b.length : Int)) then some false else AQ (EI a b) 0
theorem Ke (b : (List Int)) (c : (List Int)) (r : Bool) (h : Dk b c = some r) : Ax Tryz.prog 17 [.slice 1 (b.map AZ), .slice 1 (c.map AZ)] (· = .bool r) := by
 refine fn AA Tryz.func17 Z Z 26 Z [.tmp 4] Z [(0, .p (.slice 1 (b.map AZ))), (1, .p (.slice 1 (c.map AZ)))] Z Z fun A hA => ?_
 unfold Dk at h
 refine rs AA <| rl Z <| AB <| rs AA <| rn 1 Z <| sx Z (Ad Z Z <| rn 1 Z <| sx Z (Ad Z Z <| rl Z <| cd Z h (fun s => ?_) (fun t => ?_)))
 .refine rs AA <| rl Z <| AF <| AG ?_
  cases s
  exact er Z Le.rfl
 refine AE <| AC <| AB <| rs AA <| rl Z <| AH ?_
 apply lp (a := r) (fun e : Int => ⟨26, [(0, ls 1 AZ b), (1, ls 1 AZ c), (5, li e)], [], 0⟩) t
 . exact wf hA [] Z Z Z
 intro e w d
 unfold EI at d
 refine AB <| rs AA <| rn 2 Z <| sx Z (Ad Z Z <| rl Z <| cd Z d (fun i => ?_) (fun o => ?_))
 .refine AE <| AC <| AB <| AH <| AB ?_
  refine Bz AA mixed [0, 1, 2, 3, 4, 5, 6, 7, 8] 9 (by kernel_rfl) Z Z Z ?_
  refine Au 2 Z <| bq i fun x f j => As Z (Aj Z (Af f Z Z Z <| Au 3 Z <| bq j fun y g k => As Z (Aj Z (Af g Z Z Z <| BJ Z <| AC <| cd Z k (fun l => ?_) (fun n => ?_)))))
  .refine rs AA <| rl Z <| AF <| AN <| AG <| A2 l fun u m => AN <| AG ?_
   cases m
   exact er Z Le.rfl
  exact AE <| Ag <| AC <| rg AA <| rl Z <| Ar n (wf hA [] Z Z Z)
 refine AV <| AX <| BI o fun v q => Ap <| AC <| rs AA <| rl Z <| AF ?_
 cases q
 exact er Z Le.rfl
noncomputable def Jp : Option Bool :=
 (N3).bind fun d => (GX d).bind fun a => (IZ d).bind fun l => Io l (((bif (!a.2) then some () else some () : Option (Unit))).bind fun (s : Unit) => some false) fun b => ((bif (!a.2) then some true else some false : Option (Bool))).bind fun (e : Bool) => bif e then some false else (G4).bind fun m => (E2 b a.1.roads m 0 1).bind fun c => (((G4).bind fun n => (MU a.1 n).bind fun o => bif (o == 0) then (G4).bind fun p => (Ca b p 0 2).bind fun q => bif (q == 4) then (G4).bind fun r => (HP b r 0 2).bind fun g => bif (g == 4) then (G4).bind fun h => (E1 b a.1.roads h 0 1).bind fun i => bif ((i.length : Int) == 1) then (Dk c.at_ ([1] : (List Int))).bind fun j => bif j then bif ((c.legs.length : Int) == 2) then (AY c.legs 0).bind fun k => some (k.fin == 4) else some false else some false else some false else some false else some false else some false : Option (Bool))).bind fun (f : Bool) => some f
theorem Vd (r : Bool) (h : Jp = some r) : Ax Tryz.prog 9 [] (· = .bool r) := by
 refine fn AA Tryz.func9 Z Z 70 Z [.tmp 0] Z [] Z Z fun A hA => ?_
 unfold Jp at h
 refine rs AA <| rl Z <| rs AA <| bq h fun bk m au => sx Z (AM (XA _ m) (.inr Z) Z Z Z <| rl Z <| rs AA <| rn 1 Z <| bq au fun e q a3 => sx Z (AM (QK _ _ q) (.inr Z) Z Z Z <| rl Z <| rs AA <| rn 1 Z <| bq a3 fun bb l a => sx Z (AM (Su _ _ l) (.inr Z) Z Z Z ?_)))
 revert a; rcases be : bb with _ | bc <;> intro a
 .replace a := UG a
  refine rl Z <| AB <| jb (fun d : Unit => ⟨70, [(2, .lpb 0 0), (4, .p (.nilp)), (19, lb true)], [(0, bx (DU e.1))], 1⟩) a (fun d ao => ?_) (fun d ar => ?_)
  .refine rg AA <| rn 3 Z <| gs 16 ao Z Z Z (fun ap => ?_) (fun aq => ?_)
   .exact rl Z <| AL ap (wf hA [(0, 1)] Z Z Z)
   exact rl Z <| AL aq (wf hA [(0, 1)] Z Z Z)
  refine RH Z <| rs AA <| rl Z <| AF <| AG ?_
  cases ar
  exact er Z Le.rfl
 replace a := UH a
 refine rl Z <| AB <| jb (fun b : Bool => ⟨70, [(2, .lpb 0 0), (4, lq (Aq bc)), (19, lb b)], [(0, bx (DU e.1))], 1⟩) a (fun b av => ?_) (fun b ay => ?_)
 .refine rg AA <| rn 3 Z <| gs 16 av Z Z Z (fun aw => ?_) (fun ax => ?_)
  .exact rl Z <| AL aw (wf hA [(0, 1)] Z Z Z)
  exact rl Z <| AL ax (wf hA [(0, 1)] Z Z Z)
 refine cd Z ay (fun az => ?_) (fun a0 => ?_)
 .refine rs AA <| rl Z <| AF <| AG ?_
  cases az
  exact er Z Le.rfl
 refine AE <| AC <| AB ?_
 refine Bz AA mixed [0, 1, 2, 3, 4, 5, 6] 7 (by kernel_rfl) Z Z Z ?_
 refine Au 3 Z <| bq a0 fun bl n a1 => As Z (A6 (KH _ n) (.inr Z) Z Z Z <| bq a1 fun bm o a2 => As Z (A6 (MQ _ _ _ _ _ _ o) (.inr Z) Z Z Z <| BJ Z <| AC <| jb (fun c : Bool => ⟨70, [(0, lb c)], [], 0⟩) a2 (fun c a4 => ?_) (fun c an => ?_)))
 .refine Bz AA mixed [0, 1, 2, 3, 4, 5, 6, 7, 8, 9, 10, 11, 12, 13, 14, 15, 16, 17, 18, 19, 20, 21, 22, 23, 24, 25, 26, 27, 28, 29, 30, 31, 32, 33, 34, 35, 36, 37, 38, 39, 40, 41, 42, 43, 44, 45] 46 (by kernel_rfl) Z Z Z ?_
  refine Au 1 Z <| bq a4 fun bn s a5 => As Z (A6 (KH _ s) (.inr Z) Z Z Z <| bq a5 fun bo t a6 => As Z (A6 (Vc _ _ _ t) (.inl Z) Z Z Z <| Au 2 Z <| ES 29 a6 Z Z Z (fun a7 => ?_) (fun am => ?_)))
  .refine Au 1 Z <| bq a7 fun bp u a8 => As Z (A6 (KH _ u) (.inr Z) Z Z Z <| bq a8 fun br v a9 => As Z (A6 (FK _ _ _ _ _ v) (.inl Z) Z Z Z <| Au 3 Z <| ES 35 a9 Z Z Z (fun ba => ?_) (fun al => ?_)))
   .refine Au 1 Z <| bq ba fun bs w x => As Z (A6 (KH _ w) (.inr Z) Z Z Z <| bq x fun bf f y => As Z (A6 (Rb _ _ _ _ _ f) (.inl Z) Z Z Z <| Au 3 Z <| ES 41 y Z Z Z (fun z => ?_) (fun ak => ?_)))
    .refine Au 3 Z <| bq z fun bg g aa => As Z (A6 (KH _ g) (.inr Z) Z Z Z <| bq aa fun bh i ab => As Z (A6 (MP _ _ _ _ _ _ i) (.inr Z) Z Z Z <| As Z (F9 Z Z <| Au 3 Z <| ES 50 ab Z Z Z (fun ac => ?_) (fun aj => ?_))))
     .refine Au 3 Z <| bq ac fun bi j ad => As Z (A6 (Ke _ _ _ j) (.inl Z) Z Z (Dc.eq (.cons (.one (.p _)) (.cons (.one (.own (enc := AZ) ([1] : List Int) Z Z)) .nil))) <| Au 2 Z <| ES 56 ad Z Z Z (fun ae => ?_) (fun ai => ?_))
      .refine Au 2 Z <| As Z (F9 Z Z <| Au 3 Z <| ES 62 ae Z Z Z (fun af => ?_) (fun ah => ?_))
       .exact Au 2 Z <| bq af fun bj k ag => As Z (Aj Z (Af k Z Z Z <| BJ Z <| AL ag (wf hA [] Z Z Z)))
       exact BJ Z <| AL ah (wf hA [] Z Z Z)
      exact BJ Z <| AL ai (wf hA [] Z Z Z)
     exact BJ Z <| AL aj (wf hA [] Z Z Z)
    exact BJ Z <| AL ak (wf hA [] Z Z Z)
   exact BJ Z <| AL al (wf hA [] Z Z Z)
  exact BJ Z <| AL am (wf hA [] Z Z Z)
 refine AF ?_
 have hr := Option.some.inj an; subst hr
 exact er Z Le.rfl
end Go.E
/- Plain functions, and walks in step with them. Written by a program (gen.py). No condition. -/
set_option maxRecDepth 100000
set_option maxHeartbeats 1000000
namespace Go.E
open Go Go.RowKit Go.Proofs
noncomputable def G5 (b : Al) (a : Int) : Option (Int ⊕ Bool) :=
 bif decide (a < (b.stock.length : Int)) then (AY b.stock a).bind fun c => bif decide (100 < (c.name.size : Int)) then some (.inr false) else some (.inl (AO (a + 1))) else some (.inr true)
noncomputable def Iz (b : Al) (a : Int) : Option (Int ⊕ Bool) :=
 bif decide (a < (b.runs.length : Int)) then (AY b.runs a).bind fun c => ((bif decide (20 < (c.legs.length : Int)) then some true else some (decide (100 < (c.name.size : Int))) : Option (Bool))).bind fun (d : Bool) => bif d then some (.inr false) else some (.inl (AO (a + 1))) else (AQ (G5 b) 0).map .inr
noncomputable def KJ (a : Al) : Option Bool :=
 ((bif decide (10 < (a.stock.length : Int)) then some true else some (decide (12 < (a.runs.length : Int))) : Option (Bool))).bind fun (b : Bool) => bif b then some false else AQ (Iz a) 0
theorem YN (b : Al) (r : Bool) (h : KJ b = some r) : Ax Tryz.prog 23 [.agg (Ac b)] (· = .bool r) := by
 refine fn AA Tryz.func23 Z Z 47 Z [.tmp 2] Z [(0, .p (.agg (Ac b)))] Z Z fun A hA => ?_
 unfold KJ at h
 refine rs AA <| rl Z <| AB <| jb (fun d : Bool => ⟨47, [(1, .lpb 0 0), (16, lb d)], [(0, bx (Ac b))], 1⟩) h (fun d m => ?_) (fun d q => ?_)
 .refine rg AA <| rn 2 Z <| sx Z (Ad Z Z <| rn 2 Z <| gs 11 m Z Z Z (fun n => ?_) (fun o => ?_))
  .exact rl Z <| AL n (wf hA [(0, 0)] Z Z Z)
  exact rn 2 Z <| sx Z (Ad Z Z <| rl Z <| AL o (wf hA [(0, 0)] Z Z Z))
 refine cd Z q (fun s => ?_) (fun t => ?_)
 .refine rs AA <| rl Z <| AF <| AG ?_
  cases s
  exact er Z Le.rfl
 refine AE <| AC <| AB <| rs AA <| rn 2 Z <| sx Z (Ad Z Z <| rl Z <| AH ?_)
 apply lp (a := r) (fun c : Int => ⟨47, [(1, .lpb 0 0), (18, ls 5 B3 b.runs), (19, li (b.runs.length : Int)), (20, li c)], [(0, bx (Ac b))], 1⟩) t
 . exact wf hA [(0, 0)] Z Z Z
 intro c ap f
 unfold Iz at f
 refine rs AA <| rl Z <| AB <| cd Z f (fun u => ?_) (fun ad => ?_)
 .refine AE <| AC <| AB <| AH <| rs AA <| bq u fun ar k v => sx Z (Af k Z Z Z <| rl Z <| jb (fun e : Bool => ⟨47, [(1, .lpb 0 0), (18, ls 5 B3 b.runs), (19, li (b.runs.length : Int)), (20, li c), (33, lb e)], [(0, bx (Ac b))], 1⟩) v (fun e w => ?_) (fun e z => ?_))
  .refine rg AA <| rn 2 Z <| sx Z (Ad Z Z <| rn 2 Z <| gs 28 w Z Z Z (fun x => ?_) (fun y => ?_))
   .exact rl Z <| AL x (wf hA [(0, 0)] Z Z Z)
   exact rl Z <| AL y (wf hA [(0, 0)] Z Z Z)
  refine cd Z z (fun aa => ?_) (fun ac => ?_)
  .refine rs AA <| rl Z <| AF <| AN <| AG <| A2 aa fun am ab => AN <| AG ?_
   cases ab
   exact er Z Le.rfl
  exact AE <| Ag <| AC <| rg AA <| rl Z <| Ar ac (wf hA [(0, 0)] Z Z Z)
 refine AV <| AX <| CP ad fun j ae => Ap <| AC <| AB <| rs AA <| rn 2 Z <| sx Z (Ad Z Z <| rl Z <| AH ?_)
 apply lp (a := j) (fun i : Int => ⟨47, [(36, ls 5 BN b.stock), (37, li (b.stock.length : Int)), (38, li i)], [], 0⟩) ae
 . exact wf hA [] Z Z Z
 intro i aq g
 unfold G5 at g
 refine rs AA <| rl Z <| AB <| cd Z g (fun af => ?_) (fun ak => ?_)
 .refine AE <| AC <| AB <| AH <| rs AA <| bq af fun au l ag => sx Z (Af l Z Z Z <| rl Z <| rs AA <| rl Z <| cd Z ag (fun ah => ?_) (fun aj => ?_))
  .refine rs AA <| rl Z <| AF <| AN <| AG <| A2 ah fun an ai => AN <| AG ?_
   cases ai
   exact er Z Le.rfl
  exact AE <| Ag <| AC <| rg AA <| rl Z <| Ar aj (wf hA [] Z Z Z)
 refine AV <| AX <| BI ak fun ao al => Ap <| AC <| rs AA <| rl Z <| AF ?_
 cases al
 exact er Z Le.rfl
noncomputable def DW (a : Int) (c : Int) (d : Int) : Option Bool :=
 ((bif decide (c <= a) then some (decide (a <= d)) else some false : Option (Bool))).bind fun (b : Bool) => some b
theorem I0 (b : Int) (c : Int) (d : Int) (r : Bool) (h : DW b c d = some r) : Ax Tryz.prog 62 [.int .i64 b, .int .i64 c, .int .i64 d] (· = .bool r) := by
 refine fn AA Tryz.func62 Z Z 15 Z [.tmp 6] Z [(0, .p (.int .i64 b)), (1, .p (.int .i64 c)), (2, .p (.int .i64 d))] Z Z fun A hA => ?_
 unfold DW at h
 refine rs AA <| rl Z <| jb (fun a : Bool => ⟨15, [(6, lb a)], [], 0⟩) h (fun a e => ?_) (fun a i => ?_)
 .refine rg AA <| rn 4 Z <| gs 10 e Z Z Z (fun f => ?_) (fun g => ?_)
  .exact rl Z <| AL f (wf hA [] Z Z Z)
  exact rl Z <| AL g (wf hA [] Z Z Z)
 refine AF ?_
 have hr := Option.some.inj i; subst hr
 exact er Z Le.rfl
noncomputable def KK (a : BM) : Option Bool :=
 (((Ck a.name).bind fun c => bif c then (DW a.len 1 4000).bind fun d => bif d then (DW a.top 1 60).bind fun e => bif e then (DW a.acc 1 10).bind fun f => bif f then (DW a.brake 1 10).bind fun g => some g else some false else some false else some false else some false : Option (Bool))).bind fun (b : Bool) => some b
theorem YO (b : BM) (r : Bool) (h : KK b = some r) : Ax Tryz.prog 31 [.agg (BN b)] (· = .bool r) := by
 refine fn AA Tryz.func31 Z Z 26 Z [.tmp 2] Z [(0, .p (.agg (BN b)))] Z Z fun A hA => ?_
 unfold KK at h
 refine rs AA <| rl Z <| jb (fun a : Bool => ⟨26, [(2, lb a)], [], 0⟩) h (fun a i => ?_) (fun a y => ?_)
 .refine rg AA <| rn 2 Z <| bq i fun z c j => sx Z (AM (KB _ _ c) (.inl Z) Z Z Z <| rn 1 Z <| gs 6 j Z Z Z (fun k => ?_) (fun x => ?_))
  .refine rn 2 Z <| bq k fun aa d l => sx Z (AM (I0 _ _ _ _ d) (.inl Z) Z Z Z <| rn 2 Z <| gs 11 l Z Z Z (fun m => ?_) (fun w => ?_))
   .refine rn 2 Z <| bq m fun ab e n => sx Z (AM (I0 _ _ _ _ e) (.inl Z) Z Z Z <| rn 2 Z <| gs 16 n Z Z Z (fun o => ?_) (fun v => ?_))
    .refine rn 2 Z <| bq o fun ac f q => sx Z (AM (I0 _ _ _ _ f) (.inl Z) Z Z Z <| rn 2 Z <| gs 21 q Z Z Z (fun s => ?_) (fun u => ?_))
     .exact rn 2 Z <| bq s fun ad g t => sx Z (AM (I0 _ _ _ _ g) (.inl Z) Z Z Z <| rl Z <| AL t (wf hA [] Z Z Z))
     exact rl Z <| AL u (wf hA [] Z Z Z)
    exact rl Z <| AL v (wf hA [] Z Z Z)
   exact rl Z <| AL w (wf hA [] Z Z Z)
  exact rl Z <| AL x (wf hA [] Z Z Z)
 refine AF ?_
 have hr := Option.some.inj y; subst hr
 exact er Z Le.rfl
noncomputable def IH (b : (List BM)) (c : ByteArray) (a : Int) : Option (Int ⊕ Int) :=
 bif decide (a < (b.length : Int)) then (AY b a).bind fun d => bif (d.name.toList == c.toList) then some (.inr a) else some (.inl (AO (a + 1))) else some (.inr (-1))
noncomputable def I1 (a : (List BM)) (b : ByteArray) : Option Int :=
 AQ (IH a b) 0
theorem XE (b : (List BM)) (c : ByteArray) (r : Int) (h : I1 b c = some r) : Ax Tryz.prog 143 [.slice 5 (b.map BN), .str c] (· = .int .i64 r) := by
 refine fn AA Tryz.func143 Z Z 20 Z [.tmp 4] Z [(0, .p (.slice 5 (b.map BN))), (1, .p (.str c))] Z Z fun A hA => ?_
 unfold I1 at h
 refine rs AA <| rl Z <| AB <| rs AA <| rn 1 Z <| sx Z (Ad Z Z <| rl Z <| AH ?_)
 apply lp (a := r) (fun e : Int => ⟨20, [(1, .p (.str c)), (7, ls 5 BN b), (8, li (b.length : Int)), (9, li e)], [], 0⟩) h
 . exact wf hA [] Z Z Z
 intro e s d
 unfold IH at d
 refine rs AA <| rl Z <| AB <| cd Z d (fun n => ?_) (fun l => ?_)
 .refine AE <| AC <| AB <| AH <| rs AA <| rn 1 Z <| bq n fun t f g => sx Z (Af f Z Z Z <| rl Z <| rs AA <| rl Z <| cd Z g (fun i => ?_) (fun k => ?_))
  .refine rs AA <| rl Z <| AF <| AN <| AG <| A2 i fun o j => AN <| AG ?_
   have hr := Option.some.inj j; subst hr
   exact er Z Le.rfl
  exact AE <| Ag <| AC <| rg AA <| rl Z <| Ar k (wf hA [] Z Z Z)
 refine AV <| AX <| BI l fun q m => Ap <| AC <| rs AA <| rl Z <| AF ?_
 cases m
 exact er Z Le.rfl
noncomputable def D7 (b : (List BM)) (a : Int) : Option (Int ⊕ Int) :=
 bif decide (a < (b.length : Int)) then (AY b a).bind fun c => (I1 b c.name).bind fun d => bif (d != a) then some (.inr 4) else some (.inl (AO (a + 1))) else some (.inr 0)
noncomputable def HQ (b : (List BM)) (a : Int) : Option (Int ⊕ Int) :=
 bif decide (a < (b.length : Int)) then (AY b a).bind fun c => (KK c).bind fun d => bif (!d) then some (.inr 1) else some (.inl (AO (a + 1))) else (AQ (D7 b) 0).map .inr
noncomputable def Hz (a : (List BM)) : Option Int :=
 bif decide (4 < (a.length : Int)) then some 3 else AQ (HQ a) 0
theorem Ve (b : (List BM)) (r : Int) (h : Hz b = some r) : Ax Tryz.prog 102 [.slice 5 (b.map BN)] (· = .int .i64 r) := by
 refine fn AA Tryz.func102 Z Z 34 Z [.tmp 2] Z [(0, .p (.slice 5 (b.map BN)))] Z Z fun A hA => ?_
 unfold Hz at h
 refine rs AA <| rl Z <| AB <| rs AA <| rn 1 Z <| sx Z (Ad Z Z <| rl Z <| cd Z h (fun x => ?_) (fun af => ?_))
 .refine rs AA <| rl Z <| AF <| AG ?_
  cases x
  exact er Z Le.rfl
 refine AE <| AC <| AB <| rs AA <| rn 1 Z <| sx Z (Ad Z Z <| rl Z <| AH ?_)
 apply lp (a := r) (fun f : Int => ⟨34, [(0, ls 5 BN b), (10, ls 5 BN b), (11, li (b.length : Int)), (12, li f)], [], 0⟩) af
 . exact wf hA [] Z Z Z
 intro f aj c
 unfold HQ at c
 refine rs AA <| rl Z <| AB <| cd Z c (fun m => ?_) (fun u => ?_)
 .refine AE <| AC <| AB <| AH <| rs AA <| bq m fun al i n => sx Z (Af i Z Z Z <| rl Z <| rs AA <| rn 1 Z <| bq n fun am j o => sx Z (AM (YO _ _ j) (.inl Z) Z Z Z <| rl Z <| cd Z o (fun q => ?_) (fun t => ?_)))
  .refine rs AA <| rl Z <| AF <| AN <| AG <| A2 q fun ag s => AN <| AG ?_
   cases s
   exact er Z Le.rfl
  exact AE <| Ag <| AC <| rg AA <| rl Z <| Ar t (wf hA [] Z Z Z)
 refine AV <| AX <| CP u fun g v => Ap <| AC <| AB <| rs AA <| rn 1 Z <| sx Z (Ad Z Z <| rl Z <| AH ?_)
 apply lp (a := g) (fun e : Int => ⟨34, [(0, ls 5 BN b), (20, ls 5 BN b), (21, li (b.length : Int)), (22, li e)], [], 0⟩) v
 . exact wf hA [] Z Z Z
 intro e ak d
 unfold D7 at d
 refine rs AA <| rl Z <| AB <| cd Z d (fun w => ?_) (fun ad => ?_)
 .refine AE <| AC <| AB <| AH <| rs AA <| rn 1 Z <| bq w fun an k y => sx Z (Af k Z Z Z <| rl Z <| rs AA <| rn 3 Z <| bq y fun ao l z => sx Z (AM (XE _ _ _ l) (.inl Z) Z Z Z <| rl Z <| cd Z z (fun aa => ?_) (fun ac => ?_)))
  .refine rs AA <| rl Z <| AF <| AN <| AG <| A2 aa fun ah ab => AN <| AG ?_
   cases ab
   exact er Z Le.rfl
  exact AE <| Ag <| AC <| rg AA <| rl Z <| Ar ac (wf hA [] Z Z Z)
 refine AV <| AX <| BI ad fun ai ae => Ap <| AC <| rs AA <| rl Z <| AF ?_
 cases ae
 exact er Z Le.rfl
noncomputable def HR (b : AK) (c : (List BM)) (a : Int) : Option (Int ⊕ Int) :=
 bif decide (a < (c.length : Int)) then (AY c a).bind fun d => ((bif decide (b.top < d.top) then some true else some (decide (d.brake < b.brake)) : Option (Bool))).bind fun (e : Bool) => bif e then some (.inr 9) else some (.inl (AO (a + 1))) else some (.inr 0)
noncomputable def H0 (c : AK) (a : (List BM)) : Option Int :=
 (Hz a).bind fun b => bif (b != 0) then some b else AQ (HR c a) 0
theorem Vf (c : AK) (b : (List BM)) (r : Int) (h : H0 c b = some r) : Ax Tryz.prog 66 [.agg (AU c), .slice 5 (b.map BN)] (· = .int .i64 r) := by
 refine fn AA Tryz.func66 Z Z 32 Z [.tmp 4] Z [(0, .p (.agg (AU c))), (1, .p (.slice 5 (b.map BN)))] Z Z fun A hA => ?_
 unfold H0 at h
 refine rs AA <| rl Z <| AB <| rs AA <| rn 1 Z <| bq h fun ad i j => sx Z (AM (Ve _ _ i) (.inl Z) Z Z Z <| rl Z <| rs AA <| rl Z <| cd Z j (fun k => ?_) (fun l => ?_))
 .refine rs AA <| rl Z <| AF <| AG ?_
  have hr := Option.some.inj k; subst hr
  exact er Z Le.rfl
 refine AE <| AC <| AB <| rs AA <| rn 1 Z <| sx Z (Ad Z Z <| rl Z <| AH ?_)
 apply lp (a := r) (fun d : Int => ⟨32, [(2, .lpb 0 0), (13, ls 5 BN b), (14, li (b.length : Int)), (15, li d)], [(0, bx (AU c))], 1⟩) l
 . exact wf hA [(0, 0)] Z Z Z
 intro d ab f
 unfold HR at f
 refine rs AA <| rl Z <| AB <| cd Z f (fun m => ?_) (fun x => ?_)
 .refine AE <| AC <| AB <| AH <| rs AA <| bq m fun ac g n => sx Z (Af g Z Z Z <| rl Z <| jb (fun e : Bool => ⟨32, [(2, .lpb 0 0), (13, ls 5 BN b), (14, li (b.length : Int)), (15, li d), (30, lb e)], [(0, bx (AU c))], 1⟩) n (fun e o => ?_) (fun e t => ?_))
  .refine rg AA <| rn 6 Z <| gs 24 o Z Z Z (fun q => ?_) (fun s => ?_)
   .exact rl Z <| AL q (wf hA [(0, 0)] Z Z Z)
   exact rl Z <| AL s (wf hA [(0, 0)] Z Z Z)
  refine cd Z t (fun u => ?_) (fun w => ?_)
  .refine rs AA <| rl Z <| AF <| AN <| AG <| A2 u fun z v => AN <| AG ?_
   cases v
   exact er Z Le.rfl
  exact AE <| Ag <| AC <| rg AA <| rl Z <| Ar w (wf hA [(0, 0)] Z Z Z)
 refine AV <| AX <| BI x fun aa y => Ap <| AC <| rs AA <| rl Z <| AF ?_
 cases y
 exact er Z Le.rfl
noncomputable def Cc (a : Int) (c : Int) (d : Int) : Option Bool :=
 ((bif decide (c <= a) then some (decide (a <= d)) else some false : Option (Bool))).bind fun (b : Bool) => some b
theorem FL (b : Int) (c : Int) (d : Int) (r : Bool) (h : Cc b c d = some r) : Ax Tryz.prog 67 [.int .i64 b, .int .i64 c, .int .i64 d] (· = .bool r) := by
 refine fn AA Tryz.func67 Z Z 15 Z [.tmp 6] Z [(0, .p (.int .i64 b)), (1, .p (.int .i64 c)), (2, .p (.int .i64 d))] Z Z fun A hA => ?_
 unfold Cc at h
 refine rs AA <| rl Z <| jb (fun a : Bool => ⟨15, [(6, lb a)], [], 0⟩) h (fun a e => ?_) (fun a i => ?_)
 .refine rg AA <| rn 4 Z <| gs 10 e Z Z Z (fun f => ?_) (fun g => ?_)
  .exact rl Z <| AL f (wf hA [] Z Z Z)
  exact rl Z <| AL g (wf hA [] Z Z Z)
 refine AF ?_
 have hr := Option.some.inj i; subst hr
 exact er Z Le.rfl
noncomputable def Fc (a : AK) (b : Int) : Option Int :=
 (Dz a b).bind fun c => some c
theorem PL (a : AK) (b : Int) (r : Int) (h : Fc a b = some r) : Ax Tryz.prog 30 [.agg (AU a), .int .i64 b] (· = .int .i64 r) := by
 refine fn AA Tryz.func30 Z Z 8 Z [.tmp 4] Z [(0, .p (.agg (AU a))), (1, .p (.int .i64 b))] Z Z fun A hA => ?_
 unfold Fc at h
 refine rs AA <| rl Z <| rs AA <| rn 2 Z <| bq h fun e c d => sx Z (AM (Ia _ _ _ c) (.inl Z) Z Z Z <| rl Z <| AF ?_)
 have hr := Option.some.inj d; subst hr
 exact er Z Le.rfl
noncomputable def GG (c : AK) (d : (List Cr)) (b : Int × Int) : Option ((Int × Int) ⊕ Bool) :=
 bif decide (b.2 < (d.length : Int)) then ET (((AY d b.2).bind fun a => (Cc a.at_ b.1 2000).bind fun f => bif (!f) then some (.inr (.inr false)) else bif (a.fin == 1) then (Cc a.to 0 (AO ((c.signals.length : Int) - 1))).bind fun g => bif (!g) then some (.inr (.inr false)) else some (.inl a.at_) else bif (a.fin == 2) then (Fc c a.to).bind fun h => bif (h != 4) then some (.inr (.inr false)) else some (.inl a.at_) else bif (a.fin == 3) then (Fc c a.to).bind fun i => bif (i != 1) then some (.inr (.inr false)) else some (.inl a.at_) else some (.inr (.inr false)) : Option (Int ⊕ ((Int × Int) ⊕ Bool)))) fun (e : Int) => some (.inl (e, AO (b.2 + 1))) else some (.inr true)
noncomputable def I2 (a : AK) (b : (List Cr)) : Option Bool :=
 AQ (GG a b) (0, 0)
theorem XF (c : AK) (b : (List Cr)) (r : Bool) (h : I2 c b = some r) : Ax Tryz.prog 68 [.agg (AU c), .slice 4 (b.map EV)] (· = .bool r) := by
 refine fn AA Tryz.func68 Z Z 48 Z [.tmp 4] Z [(0, .p (.agg (AU c))), (1, .p (.slice 4 (b.map EV)))] Z Z fun A hA => ?_
 unfold I2 at h
 refine rs AA <| rl Z <| rs AA <| rl Z <| AB <| rs AA <| rn 1 Z <| sx Z (Ad Z Z <| rl Z <| AH ?_)
 apply lp (a := r) (fun d : (Int × Int) => ⟨48, [(2, .lpb 0 0), (5, li d.1), (8, ls 4 EV b), (9, li (b.length : Int)), (10, li d.2)], [(0, bx (AU c))], 1⟩) h
 . exact wf hA [(0, 0)] Z Z Z
 intro d g e
 unfold GG at e
 refine rs AA <| rl Z <| AB <| cd Z e (fun n => ?_) (fun ax => ?_)
 .refine AE <| AC ?_
  apply jn (a := g) (fun f : Int => ⟨48, [(2, .lpb 0 0), (5, li f), (8, ls 4 EV b), (9, li (b.length : Int)), (10, li d.2)], [(0, bx (AU c))], 1⟩) n
  .intro ba o
   refine AH <| rs AA <| bq o fun bb i q => sx Z (Af i Z Z Z <| rl Z <| AB <| rs AA <| rn 3 Z <| bq q fun bc j s => sx Z (AM (FL _ _ _ _ j) (.inl Z) Z Z Z <| rl Z <| cd Z s (fun t => ?_) (fun w => ?_)))
   .refine rs AA <| rl Z <| AF <| AG <| AN <| A2 t fun az u => A2 u fun a0 v => AN <| AG ?_
    cases v
    exact er Z Le.rfl
   refine AE <| AC <| rs AA <| rl Z <| rs AA <| rl Z <| AH <| rs AA <| rl Z <| cd Z w (fun x => ?_) (fun ad => ?_)
   .refine rs AA <| rn 4 Z <| sx Z (Ad Z Z <| rn 1 Z <| bq x fun be k y => sx Z (AM (FL _ _ _ _ k) (.inl Z) Z Z Z <| rl Z <| cd Z y (fun z => ?_) (fun ac => ?_)))
    .refine rs AA <| rl Z <| AF <| AN <| AN <| A2 z fun a1 aa => A2 aa fun a2 ab => AN <| AG ?_
     cases ab
     exact er Z Le.rfl
    exact AE <| Ag <| Ag <| Ar ac (wf hA [(0, 0)] Z Z Z)
   refine rs AA <| rl Z <| cd Z ad (fun ae => ?_) (fun ak => ?_)
   .refine rs AA <| rn 3 Z <| bq ae fun bf l af => sx Z (AM (PL _ _ _ l) (.inl Z) Z Z Z <| rl Z <| cd Z af (fun ag => ?_) (fun aj => ?_))
    .refine rs AA <| rl Z <| AF <| AN <| AN <| A2 ag fun a3 ah => A2 ah fun a4 ai => AN <| AG ?_
     cases ai
     exact er Z Le.rfl
    exact AE <| Ag <| Ag <| Ar aj (wf hA [(0, 0)] Z Z Z)
   refine rs AA <| rl Z <| cd Z ak (fun al => ?_) (fun ar => ?_)
   .refine rs AA <| rn 3 Z <| bq al fun bg m am => sx Z (AM (PL _ _ _ m) (.inl Z) Z Z Z <| rl Z <| cd Z am (fun an => ?_) (fun aq => ?_))
    .refine rs AA <| rl Z <| AF <| AN <| AN <| A2 an fun a5 ao => A2 ao fun a6 ap => AN <| AG ?_
     cases ap
     exact er Z Le.rfl
    exact AE <| Ag <| Ag <| Ar aq (wf hA [(0, 0)] Z Z Z)
   refine rs AA <| rl Z <| AF <| AN <| AN <| A2 ar fun a7 au => A2 au fun a8 av => AN <| AG ?_
   cases av
   exact er Z Le.rfl
  intro f aw
  exact rg AA <| rl Z <| Ar aw (wf hA [(0, 0)] Z Z Z)
 refine AV <| AX <| BI ax fun a9 ay => Ap <| AC <| rs AA <| rl Z <| AF ?_
 cases ay
 exact er Z Le.rfl
noncomputable def HS (c : Int) (d : DT) (b : (List DT)) (a : Int) : Option (Int ⊕ (Int ⊕ Int)) :=
 bif decide (a < (b.length : Int)) then (AY b a).bind fun e => bif (d.name.toList == e.name.toList) then some (.inr (.inr 4)) else some (.inl (AO (a + 1))) else some (.inr (.inl (AO (c + 1))))
noncomputable def D8 (b : Al) (a : Int) : Option (Int ⊕ Int) :=
 bif decide (a < (b.runs.length : Int)) then (AY b.runs a).bind fun c => (Hv b.runs 0 a).bind fun d => AQ (HS a c d) 0 else some (.inr 0)
noncomputable def HT (d : AK) (b : Al) (c : Int) : Option (Int ⊕ Int) :=
 bif decide (c < (b.runs.length : Int)) then (AY b.runs c).bind fun a => (((Ck a.name).bind fun f => bif (!f) then some true else (Cc a.stock 0 (AO ((b.stock.length : Int) - 1))).bind fun g => bif (!g) then some true else (Cc a.frm 0 (AO ((d.signals.length : Int) - 1))).bind fun h => bif (!h) then some true else (Cc a.left 0 4000).bind fun i => bif (!i) then some true else (I2 d a.legs).bind fun j => some (!j) : Option (Bool))).bind fun (e : Bool) => bif e then some (.inr 1) else some (.inl (AO (c + 1))) else (AQ (D8 b) 0).map .inr
noncomputable def HU (c : AK) (a : Al) (b : Int) : Option (Int ⊕ Int) :=
 bif decide (b < (a.runs.length : Int)) then (AY a.runs b).bind fun e => bif decide (12 < (e.legs.length : Int)) then some (.inr 3) else some (.inl (AO (b + 1))) else ((H0 c a.stock).bind fun d => bif (d != 0) then some d else (Cc a.begin 0 86399).bind fun f => bif (!f) then some 1 else AQ (HT c a) 0).map .inr
noncomputable def H2 (b : AK) (a : Al) : Option Int :=
 bif decide (8 < (a.runs.length : Int)) then some 3 else AQ (HU b a) 0
theorem Vg (c : AK) (b : Al) (r : Int) (h : H2 c b = some r) : Ax Tryz.prog 36 [.agg (AU c), .agg (Ac b)] (· = .int .i64 r) := by
 refine fn AA Tryz.func36 Z Z 110 Z [.tmp 4] Z [(0, .p (.agg (AU c))), (1, .p (.agg (Ac b)))] Z Z fun A hA => ?_
 unfold H2 at h
 refine rs AA <| rl Z <| AB <| rs AA <| rn 2 Z <| sx Z (Ad Z Z <| rl Z <| cd Z h (fun a6 => ?_) (fun a7 => ?_))
 .refine rs AA <| rl Z <| AF <| AG ?_
  cases a6
  exact er Z Le.rfl
 refine AE <| AC <| AB <| rs AA <| rn 2 Z <| sx Z (Ad Z Z <| rl Z <| AH ?_)
 apply lp (a := r) (fun m : Int => ⟨110, [(2, .lpb 0 0), (3, .lpb 1 0), (19, ls 5 B3 b.runs), (20, li (b.runs.length : Int)), (21, li m)], [(0, bx (AU c)), (1, bx (Ac b))], 2⟩) a7
 . exact wf hA [(0, 0), (1, 1)] Z Z Z
 intro m b8 k
 unfold HU at k
 refine rs AA <| rl Z <| AB <| cd Z k (fun bw => ?_) (fun aj => ?_)
 .refine AE <| AC <| AB <| AH <| rs AA <| bq bw fun b9 t af => sx Z (Af t Z Z Z <| rl Z <| rs AA <| rn 2 Z <| sx Z (Ad Z Z <| rl Z <| cd Z af (fun ag => ?_) (fun ai => ?_)))
  .refine rs AA <| rl Z <| AF <| AN <| AG <| A2 ag fun b0 ah => AN <| AG ?_
   cases ah
   exact er Z Le.rfl
  exact AE <| Ag <| AC <| rg AA <| rl Z <| Ar ai (wf hA [(0, 0), (1, 1)] Z Z Z)
 refine AV <| AX <| CP aj fun o ak => Ap <| AC <| AB <| rs AA <| rn 3 Z <| bq ak fun ca u al => sx Z (AM (Vf _ _ _ u) (.inl Z) Z Z Z <| rl Z <| rs AA <| rl Z <| cd Z al (fun am => ?_) (fun an => ?_))
 .refine rs AA <| rl Z <| AF <| AG ?_
  have hr := Option.some.inj am; subst hr
  exact er Z Le.rfl
 refine AE <| AC <| AB <| rs AA <| rn 2 Z <| bq an fun cb v ao => sx Z (AM (FL _ _ _ _ v) (.inl Z) Z Z Z <| rl Z <| cd Z ao (fun ap => ?_) (fun ar => ?_))
 .refine rs AA <| rl Z <| AF <| AG ?_
  cases ap
  exact er Z Le.rfl
 refine AE <| AC <| AB <| rs AA <| rn 2 Z <| sx Z (Ad Z Z <| rl Z <| AH ?_)
 apply lp (a := o) (fun e : Int => ⟨110, [(2, .lpb 0 0), (3, .lpb 1 0), (42, ls 5 B3 b.runs), (43, li (b.runs.length : Int)), (44, li e)], [(0, bx (AU c)), (1, bx (Ac b))], 2⟩) ar
 . exact wf hA [(0, 0), (1, 1)] Z Z Z
 intro e b7 j
 unfold HT at j
 refine rs AA <| rl Z <| AB <| cd Z j (fun a8 => ?_) (fun bu => ?_)
 .refine AE <| AC <| AB <| AH <| rs AA <| bq a8 fun ce z a9 => sx Z (Af z Z Z Z <| rl Z <| jb (fun f : Bool => ⟨110, [(2, .lpb 0 0), (3, .lpb 1 0), (42, ls 5 B3 b.runs), (43, li (b.runs.length : Int)), (44, li e), (84, lb f)], [(0, bx (AU c)), (1, bx (Ac b))], 2⟩) a9 (fun f ba => ?_) (fun f bp => ?_))
  .refine rg AA <| rn 2 Z <| bq ba fun cf aa bb => sx Z (AM (KB _ _ aa) (.inl Z) Z Z Z <| rn 2 Z <| gs 52 bb Z Z Z (fun bc => ?_) (fun be => ?_))
   .exact rl Z <| AL bc (wf hA [(0, 0), (1, 1)] Z Z Z)
   refine rn 4 Z <| sx Z (Ad Z Z <| rn 1 Z <| bq be fun cg ab bf => sx Z (AM (FL _ _ _ _ ab) (.inl Z) Z Z Z <| rn 3 Z <| gs 62 bf Z Z Z (fun bg => ?_) (fun bh => ?_)))
   .exact rl Z <| AL bg (wf hA [(0, 0), (1, 1)] Z Z Z)
   refine rn 4 Z <| sx Z (Ad Z Z <| rn 1 Z <| bq bh fun ch ac bi => sx Z (AM (FL _ _ _ _ ac) (.inl Z) Z Z Z <| rn 3 Z <| gs 72 bi Z Z Z (fun bj => ?_) (fun bk => ?_)))
   .exact rl Z <| AL bj (wf hA [(0, 0), (1, 1)] Z Z Z)
   refine rn 2 Z <| bq bk fun ci ad bl => sx Z (AM (FL _ _ _ _ ad) (.inl Z) Z Z Z <| rn 3 Z <| gs 78 bl Z Z Z (fun bm => ?_) (fun bn => ?_))
   .exact rl Z <| AL bm (wf hA [(0, 0), (1, 1)] Z Z Z)
   exact rn 3 Z <| bq bn fun cj ae bo => sx Z (AM (XF _ _ _ ae) (.inl Z) Z Z Z <| rl Z <| AL bo (wf hA [(0, 0), (1, 1)] Z Z Z))
  refine cd Z bp (fun br => ?_) (fun bt => ?_)
  .refine rs AA <| rl Z <| AF <| AN <| AG <| A2 br fun b5 bs => AN <| AG ?_
   cases bs
   exact er Z Le.rfl
  exact AE <| Ag <| AC <| rg AA <| rl Z <| Ar bt (wf hA [(0, 0), (1, 1)] Z Z Z)
 refine AV <| AX <| CP bu fun q bv => Ap <| AC <| AB <| rs AA <| rn 2 Z <| sx Z (Ad Z Z <| rl Z <| AH ?_)
 apply lp (a := q) (fun d : Int => ⟨110, [(3, .lpb 0 0), (87, ls 5 B3 b.runs), (88, li (b.runs.length : Int)), (89, li d)], [(0, bx (Ac b))], 1⟩) bv
 . exact wf hA [(0, 1)] Z Z Z
 intro d s g
 unfold D8 at g
 refine rs AA <| rl Z <| AB <| cd Z g (fun aq => ?_) (fun a4 => ?_)
 .refine AE <| AC <| AB <| AH <| rs AA <| rn 1 Z <| bq aq fun bz w au => sx Z (Af w Z Z Z <| rl Z <| rs AA <| rn 3 Z <| bq au fun n x av => sx Z (RL x Z Z Z Z <| sx Z (Ad Z Z <| rl Z <| AH ?_)))
  apply lp (a := s) (fun l : Int => ⟨110, [(3, .lpb 0 0), (11, .lpb 1 0), (87, ls 5 B3 b.runs), (88, li (b.runs.length : Int)), (89, li d), (97, ls 5 B3 n), (98, li (n.length : Int)), (99, li l)], [(0, bx (Ac b)), (1, bx (B3 bz))], 2⟩) av
  . exact wf hA [(0, 0), (1, 1)] Z Z Z
  intro l b6 i
  unfold HS at i
  refine rs AA <| rl Z <| AB <| cd Z i (fun aw => ?_) (fun a2 => ?_)
  .refine AE <| AC <| AB <| AH <| rs AA <| bq aw fun cc y ax => sx Z (Af y Z Z Z <| rl Z <| rs AA <| rl Z <| cd Z ax (fun ay => ?_) (fun a1 => ?_))
   .refine rs AA <| rl Z <| AF <| AN <| AG <| A2 ay fun b1 az => AN <| AN <| AG <| A2 az fun b2 a0 => AN <| AG ?_
    cases a0
    exact er Z Le.rfl
   exact AE <| Ag <| AC <| rg AA <| rl Z <| Ar a1 (wf hA [(0, 0), (1, 1)] Z Z Z)
  exact AV <| AX <| BI a2 fun b3 a3 => Ap <| Ag <| AC <| rg AA <| rl Z <| Ar a3 (wf hA [(0, 0)] Z Z Z)
 refine AV <| AX <| BI a4 fun b4 a5 => Ap <| AC <| rs AA <| rl Z <| AF ?_
 cases a5
 exact er Z Le.rfl
end Go.E
/- Plain functions, and walks in step with them. Written by a program (gen.py). No condition. -/
set_option maxRecDepth 100000
set_option maxHeartbeats 1000000
namespace Go.E
open Go Go.RowKit Go.Proofs
noncomputable def H3 (a : AK) (c : Al) : Option (DJ × (Option Ay) × Bool) :=
 (((KJ c).bind fun f => bif (!f) then some true else (G6 a).bind fun g => bif (!g) then some true else (H2 a c).bind fun h => some (h != 0) : Option (Bool))).bind fun (d : Bool) => bif d then some ((⟨(⟨[], [], [], [], 0, 0, 0, 0, false⟩ : AK), []⟩ : DJ), none, false) else (GX a).bind fun b => (IZ a).bind fun i => Io i (((bif b.2 then some () else some () : Option (Unit))).bind fun (k : Unit) => some (b.1, none, false)) fun j => ((bif b.2 then some true else some false : Option (Bool))).bind fun (e : Bool) => some (b.1, some j, e)
theorem Vh (b : AK) (e : Al) (r : (DJ × (Option Ay) × Bool)) (h : H3 b e = some r) : Ax Tryz.prog 10 [.agg (AU b), .agg (Ac e)] (· = .tup [.agg (DU r.1), XG Aq r.2.1, .bool r.2.2]) := by
 refine fn AA Tryz.func10 Z Z 39 Z [.cell 4 35, .tmp 5, .tmp 6] Z [(0, .p (.agg (AU b))), (1, .p (.agg (Ac e)))] Z Z fun A hA => ?_
 unfold H3 at h
 refine rs AA <| rl Z <| AB <| jb (fun c : Bool => ⟨39, [(2, .lpb 0 0), (4, .lpb 1 0), (23, lb c)], [(0, bx (AU b)), (1, .box [.p (.nils), .p (.nils), .p (.nils), .p (.nils), li 0, li 0, li 0, li 0, lb false, .p (.nils)])], 2⟩) h (fun c n => ?_) (fun c x => ?_)
 .refine rg AA <| rn 1 Z <| bq n fun am i o => sx Z (AM (YN _ _ i) (.inl Z) Z Z Z <| rn 2 Z <| gs 13 o Z Z Z (fun q => ?_) (fun s => ?_))
  .exact rl Z <| AL q (wf hA [(0, 0), (1, 2)] Z Z Z)
  refine rn 1 Z <| bq s fun an j t => sx Z (AM (PM _ _ j) (.inl Z) Z Z Z <| rn 3 Z <| gs 18 t Z Z Z (fun u => ?_) (fun v => ?_))
  .exact rl Z <| AL u (wf hA [(0, 0), (1, 2)] Z Z Z)
  exact rn 2 Z <| bq v fun ao k w => sx Z (AM (Vg _ _ _ k) (.inl Z) Z Z Z <| rl Z <| AL w (wf hA [(0, 0), (1, 2)] Z Z Z))
 refine cd Z x (fun y => ?_) (fun z => ?_)
 .refine rs AA <| rl Z <| AF <| AG ?_
  cases y
  exact er Z (Le.tup' (.cons (Le.agg' (.cons (Le.nil _) (.cons (Le.nil _) (.cons (Le.nil _) (.cons (Le.nil _) (.cons Le.rfl (.cons Le.rfl (.cons Le.rfl (.cons Le.rfl (.cons Le.rfl (.cons (Le.nil _) .nil))))))))))) (.cons Le.rfl (.cons Le.rfl .nil))))
 refine AE <| AC <| rs AA <| rn 1 Z <| bq z fun g l aa => sx Z (AM (QK _ _ l) (.inr Z) Z Z Z <| rl Z <| rs AA <| rn 1 Z <| bq aa fun aj m a => sx Z (AM (Su _ _ m) (.inr Z) Z Z Z ?_))
 revert a; rcases al : aj with _ | ak <;> intro a
 .replace a := UG a
  refine rl Z <| jb (fun f : Unit => ⟨39, [(4, .lpb 0 0), (5, .p (.nilp)), (6, lb false)], [(0, bx (DU g.1))], 1⟩) a (fun f ab => ?_) (fun f ae => ?_)
  .refine rg AA <| rn 4 Z <| gs 35 ab Z Z Z (fun ac => ?_) (fun ad => ?_)
   .exact rl Z <| AL ac (wf hA [(0, 1)] Z Z Z)
   exact rl Z <| AL ad (wf hA [(0, 1)] Z Z Z)
  refine AF ?_
  cases ae
  exact er Z Le.rfl
 replace a := UH a
 refine rl Z <| jb (fun d : Bool => ⟨39, [(4, .lpb 0 0), (5, lq (Aq ak)), (6, lb d)], [(0, bx (DU g.1))], 1⟩) a (fun d af => ?_) (fun d ai => ?_)
 .refine rg AA <| rn 4 Z <| gs 35 af Z Z Z (fun ag => ?_) (fun ah => ?_)
  .exact rl Z <| AL ag (wf hA [(0, 1)] Z Z Z)
  exact rl Z <| AL ah (wf hA [(0, 1)] Z Z Z)
 refine AF ?_
 cases ai
 exact er Z Le.rfl
noncomputable def SK (b : AK) (a : Int) : Option (AI × Bool) :=
 ((bif decide (a < 0) then some true else some (decide ((b.signals.length : Int) <= a)) : Option (Bool))).bind fun (c : Bool) => bif c then some ((⟨0, 0⟩ : AI), false) else (AY b.signals a).bind fun d => some (d.at_, true)
end Go.E
/- Plain functions, and walks in step with them. Written by a program (gen.py). No condition. -/
set_option maxRecDepth 100000
set_option maxHeartbeats 1000000
namespace Go.E
open Go Go.RowKit Go.Proofs
noncomputable def Ei (b : Fs) (c : Fs) (a : Int) : Option (Int ⊕ Bool) :=
 bif decide (a < (b.legs.length : Int)) then (((AY b.legs a).bind fun e => (AY c.legs a).bind fun f => bif (e.fin != f.fin) then some true else (AY b.legs a).bind fun g => (AY c.legs a).bind fun h => (Dk g.free h.free).bind fun i => some (!i) : Option (Bool))).bind fun (d : Bool) => bif d then some (.inr false) else some (.inl (AO (a + 1))) else some (.inr true)
noncomputable def Ej (a : Fs) (b : Fs) : Option Bool :=
 (((Dk a.at_ b.at_).bind fun d => bif (!d) then some true else some ((a.legs.length : Int) != (b.legs.length : Int)) : Option (Bool))).bind fun (c : Bool) => bif c then some false else AQ (Ei a b) 0
theorem Rc (b : Fs) (c : Fs) (r : Bool) (h : Ej b c = some r) : Ax Tryz.prog 20 [.agg (PJ b), .agg (PJ c)] (· = .bool r) := by
 refine fn AA Tryz.func20 Z Z 57 Z [.tmp 4] Z [(0, .p (.agg (PJ b))), (1, .p (.agg (PJ c)))] Z Z fun A hA => ?_
 unfold Ej at h
 refine rs AA <| rl Z <| AB <| jb (fun e : Bool => ⟨57, [(2, .lpb 0 0), (3, .lpb 1 0), (20, lb e)], [(0, .box [ls 1 AZ b.at_, ls 2 FA b.legs]), (1, .box [ls 1 AZ c.at_, ls 2 FA c.legs])], 2⟩) h (fun e o => ?_) (fun e u => ?_)
 .refine rg AA <| rn 4 Z <| bq o fun ap i q => sx Z (AM (Ke _ _ _ i) (.inl Z) Z Z Z <| rn 2 Z <| gs 12 q Z Z Z (fun s => ?_) (fun t => ?_))
  .exact rl Z <| AL s (wf hA [(0, 0), (1, 1)] Z Z Z)
  exact rn 2 Z <| sx Z (Ad Z Z <| rn 2 Z <| sx Z (Ad Z Z <| rl Z <| AL t (wf hA [(0, 0), (1, 1)] Z Z Z)))
 refine cd Z u (fun v => ?_) (fun w => ?_)
 .refine rs AA <| rl Z <| AF <| AG ?_
  cases v
  exact er Z Le.rfl
 refine AE <| AC <| AB <| rs AA <| rn 2 Z <| sx Z (Ad Z Z <| rl Z <| AH ?_)
 apply lp (a := r) (fun d : Int => ⟨57, [(2, .lpb 0 0), (3, .lpb 1 0), (23, li (b.legs.length : Int)), (24, li d)], [(0, .box [ls 1 AZ b.at_, ls 2 FA b.legs]), (1, .box [ls 1 AZ c.at_, ls 2 FA c.legs])], 2⟩) w
 . exact wf hA [(0, 0), (1, 1)] Z Z Z
 intro d ao g
 unfold Ei at g
 refine rs AA <| rl Z <| AB <| cd Z g (fun x => ?_) (fun ak => ?_)
 .refine AE <| AC <| AB <| AH <| rs AA <| rl Z <| jb (fun f : Bool => ⟨57, [(2, .lpb 0 0), (3, .lpb 1 0), (23, li (b.legs.length : Int)), (24, li d), (55, lb f)], [(0, .box [ls 1 AZ b.at_, ls 2 FA b.legs]), (1, .box [ls 1 AZ c.at_, ls 2 FA c.legs])], 2⟩) x (fun f y => ?_) (fun f ag => ?_)
  .refine Bz AA mixed [0, 1, 2, 3, 4, 5, 6, 7, 8, 9, 10, 11, 12, 13, 14, 15, 16, 17, 18, 19, 20, 21, 22, 23, 24, 25, 26, 27, 28] 29 (by kernel_rfl) Z Z Z ?_
   refine Au 3 Z <| bq y fun aq j z => As Z (Aj Z (Af j Z Z Z <| Au 5 Z <| bq z fun ar k aa => As Z (Aj Z (Af k Z Z Z <| Au 4 Z <| ES 40 aa Z Z Z (fun ab => ?_) (fun ac => ?_)))))
   .exact BJ Z <| AL ab (wf hA [(0, 0), (1, 1)] Z Z Z)
   exact Au 3 Z <| bq ac fun au l ad => As Z (Aj Z (Af l Z Z Z <| Au 5 Z <| bq ad fun av m ae => As Z (Aj Z (Af m Z Z Z <| Au 2 Z <| bq ae fun aw n af => As Z (A6 (Ke _ _ _ n) (.inl Z) Z Z Z <| BJ Z <| AL af (wf hA [(0, 0), (1, 1)] Z Z Z))))))
  refine cd Z ag (fun ah => ?_) (fun aj => ?_)
  .refine rs AA <| rl Z <| AF <| AN <| AG <| A2 ah fun am ai => AN <| AG ?_
   cases ai
   exact er Z Le.rfl
  exact AE <| Ag <| AC <| rg AA <| rl Z <| Ar aj (wf hA [(0, 0), (1, 1)] Z Z Z)
 refine AV <| AX <| BI ak fun an al => Ap <| AC <| rs AA <| rl Z <| AF ?_
 cases al
 exact er Z Le.rfl
end Go.E
/- Plain functions, and walks in step with them. Written by a program (gen.py). No condition. -/
set_option maxRecDepth 100000
set_option maxHeartbeats 1000000
namespace Go.E
open Go Go.RowKit Go.Proofs
end Go.E
