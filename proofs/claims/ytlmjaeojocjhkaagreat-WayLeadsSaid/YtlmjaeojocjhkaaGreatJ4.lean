/- Plain functions, and walks in step with them. Written by a program (gen.py). No condition. -/
import Derived.Test.YtlmjaeojocjhkaaGreatJ3
set_option linter.unusedVariables false
set_option linter.unusedSimpArgs false
set_option maxRecDepth 100000
set_option maxHeartbeats 1000000
namespace Go.E
open Go Go.RowKit Go.Proofs
noncomputable def Ml (b : Int) (a : Int × Int) : Option ((Int × Int) ⊕ Int) :=
 bif decide (0 < a.1) then some (.inl (AO (a.1 - b), AO (a.2 + a.1))) else some (.inr a.2)
noncomputable def JV (b : Int) (a : Int) : Option Int :=
 ((bif decide (b < 0) then some true else bif decide (60 < b) then some true else bif decide (a < 1) then some true else some (decide (10 < a)) : Option (Bool))).bind fun (c : Bool) => bif c then some 0 else AT (Ml a) (AO (b - a), 0)
theorem VK (c : Int) (b : Int) (r : Int) (h : JV c b = some r) : Ax Tryz.prog 161 [.int .i64 c, .int .i64 b] (· = .int .i64 r) := by
 refine fn AA Tryz.func161 Z Z 32 Z [.tmp 4] Z [(0, .p (.int .i64 c)), (1, .p (.int .i64 b))] Z Z fun A hA => ?_
 unfold JV at h
 refine rs AA <| rl Z <| AB <| jb (fun e : Bool => ⟨32, [(0, li c), (1, li b), (19, lb e)], [], 0⟩) h (fun e g => ?_) (fun e o => ?_)
 .refine rg AA <| rn 3 Z <| gs 8 g Z Z Z (fun i => ?_) (fun j => ?_)
  .exact rl Z <| AL i (wf hA [] Z Z Z)
  refine rn 4 Z <| gs 12 j Z Z Z (fun k => ?_) (fun l => ?_)
  .exact rl Z <| AL k (wf hA [] Z Z Z)
  refine rn 4 Z <| gs 16 l Z Z Z (fun m => ?_) (fun n => ?_)
  .exact rl Z <| AL m (wf hA [] Z Z Z)
  exact rl Z <| AL n (wf hA [] Z Z Z)
 refine cd Z o (fun q => ?_) (fun s => ?_)
 .refine rs AA <| rl Z <| AF <| AG ?_
  cases q
  exact er Z Le.rfl
 refine AE <| AC <| rs AA <| rl Z <| AB <| rs AA <| rl Z <| AH ?_
 apply lp (a := r) (fun d : (Int × Int) => ⟨32, [(0, li d.1), (1, li b), (5, li d.2)], [], 0⟩) s
 . exact wf hA [] Z Z Z
 intro d x f
 unfold Ml at f
 refine AB <| rs AA <| rl Z <| cd Z f (fun t => ?_) (fun u => ?_)
 .exact AE <| AC <| AB <| AH <| rg AA <| rl Z <| Af <| AC <| rg AA <| rl Z <| Ar t (wf hA [] Z Z Z)
 refine AV <| AW <| BI u fun w v => Ap <| AC <| rs AA <| rl Z <| AF ?_
 cases v
 exact er Z Le.rfl
noncomputable def D1 (b : AK) (a : Int) : Option (Int ⊕ Bool) :=
 bif decide (a < (b.elems.length : Int)) then (AX b.elems a).bind fun c => ((bif (c.kind != 4) then some (decide (c.length < b.top)) else some false : Option (Bool))).bind fun (d : Bool) => bif d then some (.inr false) else some (.inl (AO (a + 1))) else some (.inr true)
noncomputable def FB (a : AK) (b : Int) : Option (Int ⊕ Bool) :=
 bif decide (b < (a.signals.length : Int)) then (AX a.signals b).bind fun e => (AX a.elems e.at_.elem).bind fun c => ((bif (c.kind == 1) then some (decide (c.length < a.margin)) else some false : Option (Bool))).bind fun (d : Bool) => bif d then some (.inr false) else some (.inl (AO (b + 1))) else (AT (D1 a) 0).map .inr
noncomputable def Hj (a : AK) : Option Bool :=
 (JV a.top a.brake).bind fun b => bif decide (a.margin < AO (a.top + b)) then some false else AT (FB a) 0
theorem VL (b : AK) (r : Bool) (h : Hj b = some r) : Ax Tryz.prog 135 [.agg (AS b)] (· = .bool r) := by
 refine fn AA Tryz.func135 Z Z 62 Z [.tmp 2] Z [(0, .p (.agg (AS b)))] Z Z fun A hA => ?_
 unfold Hj at h
 refine rs AA <| rl Z <| AB <| AB ?_
 refine Bu AA mixed [0, 1, 2, 3, 4, 5, 6, 7, 8, 9, 10] 11 (by kernel_rfl) Z Z Z ?_
 refine As 8 Z <| bq h fun a0 n o => Au Z (A4 (VK _ _ _ n) (.inl Z) Z Z Z <| BG Z <| AC <| cd Z o (fun q => ?_) (fun s => ?_))
 .refine rs AA <| rl Z <| AF <| AG ?_
  cases q
  exact er Z Le.rfl
 refine AE <| AC <| AB <| rs AA <| rn 2 Z <| sx Z (Ab Z Z <| rl Z <| AH ?_)
 apply lp (a := r) (fun c : Int => ⟨62, [(1, .lpb 0 0), (20, ls 4 BT b.signals), (21, li (b.signals.length : Int)), (22, li c)], [(0, bx (AS b))], 1⟩) s
 . exact wf hA [(0, 0)] Z Z Z
 intro c av g
 unfold FB at g
 refine rs AA <| rl Z <| AB <| cd Z g (fun t => ?_) (fun ad => ?_)
 .refine AE <| AC <| AB <| AH <| rs AA <| bq t fun ax k u => sx Z (Ac k Z Z Z <| rl Z <| rs AA <| rn 5 Z <| bq u fun ay l v => sx Z (Ac l Z Z Z <| rl Z <| jb (fun e : Bool => ⟨62, [(1, .lpb 0 0), (20, ls 4 BT b.signals), (21, li (b.signals.length : Int)), (22, li c), (42, lb e)], [(0, bx (AS b))], 1⟩) v (fun e w => ?_) (fun e z => ?_)))
  .refine rg AA <| rn 4 Z <| gs 36 w Z Z Z (fun x => ?_) (fun y => ?_)
   .exact rl Z <| AL x (wf hA [(0, 0)] Z Z Z)
   exact rl Z <| AL y (wf hA [(0, 0)] Z Z Z)
  refine cd Z z (fun aa => ?_) (fun ac => ?_)
  .refine rs AA <| rl Z <| AF <| AN <| AG <| A1 aa fun aq ab => AN <| AG ?_
   cases ab
   exact er Z Le.rfl
  exact AE <| Af <| AC <| rg AA <| rl Z <| Ar ac (wf hA [(0, 0)] Z Z Z)
 refine AV <| AW <| CO ad fun j ae => Ap <| AC <| AB <| rs AA <| rn 2 Z <| sx Z (Ab Z Z <| rl Z <| AH ?_)
 apply lp (a := j) (fun d : Int => ⟨62, [(1, .lpb 0 0), (45, ls 3 B9 b.elems), (46, li (b.elems.length : Int)), (47, li d)], [(0, bx (AS b))], 1⟩) ae
 . exact wf hA [(0, 0)] Z Z Z
 intro d aw i
 unfold D1 at i
 refine rs AA <| rl Z <| AB <| cd Z i (fun af => ?_) (fun ao => ?_)
 .refine AE <| AC <| AB <| AH <| rs AA <| bq af fun az m ag => sx Z (Ac m Z Z Z <| rl Z <| jb (fun f : Bool => ⟨62, [(1, .lpb 0 0), (45, ls 3 B9 b.elems), (46, li (b.elems.length : Int)), (47, li d), (60, lb f)], [(0, bx (AS b))], 1⟩) ag (fun f ah => ?_) (fun f ak => ?_))
  .refine rg AA <| rn 4 Z <| gs 54 ah Z Z Z (fun ai => ?_) (fun aj => ?_)
   .exact rl Z <| AL ai (wf hA [(0, 0)] Z Z Z)
   exact rl Z <| AL aj (wf hA [(0, 0)] Z Z Z)
  refine cd Z ak (fun al => ?_) (fun an => ?_)
  .refine rs AA <| rl Z <| AF <| AN <| AG <| A1 al fun ar am => AN <| AG ?_
   cases am
   exact er Z Le.rfl
  exact AE <| Af <| AC <| rg AA <| rl Z <| Ar an (wf hA [(0, 0)] Z Z Z)
 refine AV <| AW <| BI ao fun au ap => Ap <| AC <| rs AA <| rl Z <| AF ?_
 cases ap
 exact er Z Le.rfl
noncomputable def Da (b : AK) (a : Int × (List (ByteArray × Bool))) : Option ((Int × (List (ByteArray × Bool))) ⊕ Bool) :=
 bif decide (a.1 < (b.elems.length : Int)) then (E7 a.1 b).bind fun c => bif ((Ah a.2 c).getD false) then some (.inr true) else (E7 a.1 b).bind fun d => some (.inl (AO (a.1 + 1), A2 d true a.2)) else some (.inr false)
noncomputable def Db (b : AK) (a : Int × (List (ByteArray × Bool))) : Option ((Int × (List (ByteArray × Bool))) ⊕ Bool) :=
 bif decide (a.1 < (b.signals.length : Int)) then (E8 a.1 b).bind fun c => bif ((Ah a.2 c).getD false) then some (.inr true) else (E8 a.1 b).bind fun d => some (.inl (AO (a.1 + 1), A2 d true a.2)) else some (.inr false)
noncomputable def Dc (b : AK) (a : Int × (List (ByteArray × Bool))) : Option ((Int × (List (ByteArray × Bool))) ⊕ Bool) :=
 bif decide (a.1 < (b.lines.length : Int)) then (E9 a.1 b).bind fun c => bif ((Ah a.2 c).getD false) then some (.inr true) else (E9 a.1 b).bind fun d => some (.inl (AO (a.1 + 1), A2 d true a.2)) else some (.inr false)
noncomputable def Gi (a : AK) : Option Int :=
 ((bif decide (40 < (a.elems.length : Int)) then some true else bif decide (24 < (a.signals.length : Int)) then some true else bif decide (4 < (a.lines.length : Int)) then some true else some (decide (80 < (a.joins.length : Int))) : Option (Bool))).bind fun (c : Bool) => bif c then some 3 else (E6 a).bind fun h => bif (!h) then some 1 else ((((AT (Da a) (0, []) : Option (Bool))).bind fun (e : Bool) => bif e then some true else ((AT (Db a) (0, []) : Option (Bool))).bind fun (f : Bool) => bif f then some true else ((AT (Dc a) (0, []) : Option (Bool))).bind fun (g : Bool) => some g : Option (Bool))).bind fun (d : Bool) => bif d then some 4 else (Fq a).bind fun b => bif (!b.2) then some 6 else (FA a b.1).bind fun i => bif (!i) then some 7 else (Gh a b.1).bind fun j => bif (!j) then some 8 else (Hj a).bind fun k => bif (!k) then some 9 else some 0
theorem UB (b : AK) (r : Int) (h : Gi b = some r) : Ax Tryz.prog 91 [.agg (AS b)] (· = .int .i64 r) := by
 refine fn AA Tryz.func91 Z Z 71 Z [.tmp 2] Z [(0, .p (.agg (AS b)))] Z Z fun A hA => ?_
 unfold Gi at h
 refine rs AA <| rl Z <| AB <| jb (fun j : Bool => ⟨71, [(1, .lpb 0 0), (26, lb j)], [(0, bx (AS b))], 1⟩) h (fun j ad => ?_) (fun j ak => ?_)
 .refine rg AA <| rn 2 Z <| sx Z (Ab Z Z <| rn 2 Z <| gs 9 ad Z Z Z (fun ae => ?_) (fun af => ?_))
  .exact rl Z <| AL ae (wf hA [(0, 0)] Z Z Z)
  refine rn 2 Z <| sx Z (Ab Z Z <| rn 3 Z <| gs 15 af Z Z Z (fun ag => ?_) (fun ah => ?_))
  .exact rl Z <| AL ag (wf hA [(0, 0)] Z Z Z)
  refine rn 2 Z <| sx Z (Ab Z Z <| rn 3 Z <| gs 21 ah Z Z Z (fun ai => ?_) (fun aj => ?_))
  .exact rl Z <| AL ai (wf hA [(0, 0)] Z Z Z)
  exact rn 2 Z <| sx Z (Ab Z Z <| rl Z <| AL aj (wf hA [(0, 0)] Z Z Z))
 refine cd Z ak (fun al => ?_) (fun am => ?_)
 .refine rs AA <| rl Z <| AF <| AG ?_
  cases al
  exact er Z Le.rfl
 refine AE <| AC <| AB <| rs AA <| rn 1 Z <| bq am fun cq s a2 => sx Z (AM (R3 _ _ s) (.inl Z) Z Z Z <| rl Z <| cd Z a2 (fun a4 => ?_) (fun a6 => ?_))
 .refine rs AA <| rl Z <| AF <| AG ?_
  cases a4
  exact er Z Le.rfl
 refine AE <| AC <| AB <| jb (fun k : Bool => ⟨71, [(1, .lpb 0 0), (48, lb k)], [(0, bx (AS b))], 1⟩) a6 (fun k an => ?_) (fun k bt => ?_)
 .refine rg AA <| rn 2 Z <| sx Z (Ab Z Z <| rn 1 Z <| sx Z (CR AA (fun f : Bool => lb f) (fun f : Bool => [(0, bx (AS b))]) 1 an Tryz.func128 22 [.tmp 4] [(0, li (b.elems.length : Int)), (1, .fn 129 [.lpb 0 0])] Z Z Z Z Z Z Z Z (fun A hA f ao => ?_) (fun f az => ?_)))
  .refine rs AA <| rl Z <| rs AA <| rl Z <| AB <| rs AA <| rl Z <| AH ?_
   apply lp (a := f) (fun c : (Int × (List (ByteArray × Bool))) => ⟨22, [(1, .fn 129 [.lpb 0 0]), (5, .lmap 1), (8, li (b.elems.length : Int)), (9, li c.1)], [(0, bx (AS b)), (1, .map (An .str .bool c.2))], 2⟩) ao
   . exact wj hA [(0, 0), (1, 1)] Z Z Z Z
   intro c cn l
   unfold Da at l
   refine rs AA <| rl Z <| AB <| cd Z l (fun ap => ?_) (fun ax => ?_)
   .refine AE <| AC <| AB <| AH <| rs AA <| rl Z <| AB <| rs AA <| rn 3 Z <| bq ap fun ca o aq => sx Z (AM (Mi _ _ _ o) (.inl Z) Z Z (Dg.eq (.cons (.one (.p _)) (.cons (.box Z (.cons (.p _) (.cons (.p _) (.cons (.p _) (.cons (.p _) (.cons (.p _) (.cons (.p _) (.cons (.p _) (.cons (.p _) (.cons (.p _) .nil)))))))))) .nil))) <| sx Z (KU (et := 4) (ke := .str) (ve := .bool) (mp := c.2) (y := ca) false Mm Z Z Z Z <| rl Z <| cd Z aq (fun ar => ?_) (fun av => ?_)))
    .refine rs AA <| rl Z <| AF <| AG <| AN <| AG <| A1 ar fun ch au => AN <| AG ?_
     cases au
     exact CU (nt := 22) (sl := [(4, lb true)]) (wj hA [(0, 0)] Z Z Z Z) Z
    exact AE <| AC <| rg AA <| rn 3 Z <| bq av fun cb q aw => sx Z (AM (Mi _ _ _ q) (.inl Z) Z Z (Dg.eq (.cons (.one (.p _)) (.cons (.box Z (.cons (.p _) (.cons (.p _) (.cons (.p _) (.cons (.p _) (.cons (.p _) (.cons (.p _) (.cons (.p _) (.cons (.p _) (.cons (.p _) .nil)))))))))) .nil))) <| sx Z (GE (et := 4) (ke := .str) (ve := .bool) (mp := c.2) (y := cb) (z := true) Mm Z Z Z Z Z Z <| rl Z <| Af <| AC <| rg AA <| rl Z <| Ar aw (wj hA [(0, 0), (1, 1)] Z Z Z Z)))
   refine AV <| AW <| BI ax fun ci ay => Ap <| AC <| rs AA <| rl Z <| AF ?_
   cases ay
   exact CU (nt := 22) (sl := [(4, lb false)]) (wj hA [(0, 0)] Z Z Z Z) Z
  refine rn 1 Z <| gs 35 az Z Z Z (fun a0 => ?_) (fun a1 => ?_)
  .exact rl Z <| AL a0 (wf hA [(0, 0)] Z Z Z)
  refine rn 2 Z <| sx Z (Ab Z Z <| rn 1 Z <| sx Z (CR AA (fun g : Bool => lb g) (fun g : Bool => [(0, bx (AS b))]) 1 a1 Tryz.func128 22 [.tmp 4] [(0, li (b.signals.length : Int)), (1, .fn 130 [.lpb 0 0])] Z Z Z Z Z Z Z Z (fun A hA g a3 => ?_) (fun g bf => ?_)))
  .refine rs AA <| rl Z <| rs AA <| rl Z <| AB <| rs AA <| rl Z <| AH ?_
   apply lp (a := g) (fun d : (Int × (List (ByteArray × Bool))) => ⟨22, [(1, .fn 130 [.lpb 0 0]), (5, .lmap 1), (8, li (b.signals.length : Int)), (9, li d.1)], [(0, bx (AS b)), (1, .map (An .str .bool d.2))], 2⟩) a3
   . exact wj hA [(0, 0), (1, 1)] Z Z Z Z
   intro d co m
   unfold Db at m
   refine rs AA <| rl Z <| AB <| cd Z m (fun a5 => ?_) (fun bc => ?_)
   .refine AE <| AC <| AB <| AH <| rs AA <| rl Z <| AB <| rs AA <| rn 3 Z <| bq a5 fun cc t a7 => sx Z (AM (Mj _ _ _ t) (.inl Z) Z Z (Dg.eq (.cons (.one (.p _)) (.cons (.box Z (.cons (.p _) (.cons (.p _) (.cons (.p _) (.cons (.p _) (.cons (.p _) (.cons (.p _) (.cons (.p _) (.cons (.p _) (.cons (.p _) .nil)))))))))) .nil))) <| sx Z (KU (et := 4) (ke := .str) (ve := .bool) (mp := d.2) (y := cc) false Mm Z Z Z Z <| rl Z <| cd Z a7 (fun a8 => ?_) (fun ba => ?_)))
    .refine rs AA <| rl Z <| AF <| AG <| AN <| AG <| A1 a8 fun cj a9 => AN <| AG ?_
     cases a9
     exact CU (nt := 22) (sl := [(4, lb true)]) (wj hA [(0, 0)] Z Z Z Z) Z
    exact AE <| AC <| rg AA <| rn 3 Z <| bq ba fun ce u bb => sx Z (AM (Mj _ _ _ u) (.inl Z) Z Z (Dg.eq (.cons (.one (.p _)) (.cons (.box Z (.cons (.p _) (.cons (.p _) (.cons (.p _) (.cons (.p _) (.cons (.p _) (.cons (.p _) (.cons (.p _) (.cons (.p _) (.cons (.p _) .nil)))))))))) .nil))) <| sx Z (GE (et := 4) (ke := .str) (ve := .bool) (mp := d.2) (y := ce) (z := true) Mm Z Z Z Z Z Z <| rl Z <| Af <| AC <| rg AA <| rl Z <| Ar bb (wj hA [(0, 0), (1, 1)] Z Z Z Z)))
   refine AV <| AW <| BI bc fun ck be => Ap <| AC <| rs AA <| rl Z <| AF ?_
   cases be
   exact CU (nt := 22) (sl := [(4, lb false)]) (wj hA [(0, 0)] Z Z Z Z) Z
  refine rn 2 Z <| gs 42 bf Z Z Z (fun bg => ?_) (fun bh => ?_)
  .exact rl Z <| AL bg (wf hA [(0, 0)] Z Z Z)
  refine rn 2 Z <| sx Z (Ab Z Z <| rn 1 Z <| sx Z (CR AA (fun i : Bool => lb i) (fun i : Bool => [(0, bx (AS b))]) 1 bh Tryz.func128 22 [.tmp 4] [(0, li (b.lines.length : Int)), (1, .fn 131 [.lpb 0 0])] Z Z Z Z Z Z Z Z (fun A hA i bi => ?_) (fun i bs => ?_)))
  .refine rs AA <| rl Z <| rs AA <| rl Z <| AB <| rs AA <| rl Z <| AH ?_
   apply lp (a := i) (fun e : (Int × (List (ByteArray × Bool))) => ⟨22, [(1, .fn 131 [.lpb 0 0]), (5, .lmap 1), (8, li (b.lines.length : Int)), (9, li e.1)], [(0, bx (AS b)), (1, .map (An .str .bool e.2))], 2⟩) bi
   . exact wj hA [(0, 0), (1, 1)] Z Z Z Z
   intro e cp n
   unfold Dc at n
   refine rs AA <| rl Z <| AB <| cd Z n (fun bj => ?_) (fun bp => ?_)
   .refine AE <| AC <| AB <| AH <| rs AA <| rl Z <| AB <| rs AA <| rn 3 Z <| bq bj fun cf v bk => sx Z (AM (Mk _ _ _ v) (.inl Z) Z Z (Dg.eq (.cons (.one (.p _)) (.cons (.box Z (.cons (.p _) (.cons (.p _) (.cons (.p _) (.cons (.p _) (.cons (.p _) (.cons (.p _) (.cons (.p _) (.cons (.p _) (.cons (.p _) .nil)))))))))) .nil))) <| sx Z (KU (et := 4) (ke := .str) (ve := .bool) (mp := e.2) (y := cf) false Mm Z Z Z Z <| rl Z <| cd Z bk (fun bl => ?_) (fun bn => ?_)))
    .refine rs AA <| rl Z <| AF <| AG <| AN <| AG <| A1 bl fun cl bm => AN <| AG ?_
     cases bm
     exact CU (nt := 22) (sl := [(4, lb true)]) (wj hA [(0, 0)] Z Z Z Z) Z
    exact AE <| AC <| rg AA <| rn 3 Z <| bq bn fun cg w bo => sx Z (AM (Mk _ _ _ w) (.inl Z) Z Z (Dg.eq (.cons (.one (.p _)) (.cons (.box Z (.cons (.p _) (.cons (.p _) (.cons (.p _) (.cons (.p _) (.cons (.p _) (.cons (.p _) (.cons (.p _) (.cons (.p _) (.cons (.p _) .nil)))))))))) .nil))) <| sx Z (GE (et := 4) (ke := .str) (ve := .bool) (mp := e.2) (y := cg) (z := true) Mm Z Z Z Z Z Z <| rl Z <| Af <| AC <| rg AA <| rl Z <| Ar bo (wj hA [(0, 0), (1, 1)] Z Z Z Z)))
   refine AV <| AW <| BI bp fun cm br => Ap <| AC <| rs AA <| rl Z <| AF ?_
   cases br
   exact CU (nt := 22) (sl := [(4, lb false)]) (wj hA [(0, 0)] Z Z Z Z) Z
  exact rl Z <| AL bs (wf hA [(0, 0)] Z Z Z)
 refine cd Z bt (fun bu => ?_) (fun bv => ?_)
 .refine rs AA <| rl Z <| AF <| AG ?_
  cases bu
  exact er Z Le.rfl
 refine AE <| AC <| rs AA <| rn 1 Z <| bq bv fun cr x bw => sx Z (AM (S4 _ _ x) (.inr Z) Z Z Z <| rl Z <| AB <| AH <| rs AA <| rl Z <| cd Z bw (fun bz => ?_) (fun b0 => ?_))
 .refine rs AA <| rl Z <| AF <| AN <| AG ?_
  cases bz
  exact er Z Le.rfl
 refine rs AA <| rn 2 Z <| bq b0 fun cs aa b1 => sx Z (AM (R4 _ _ _ aa) (.inl Z) Z Z Z <| rl Z <| cd Z b1 (fun b2 => ?_) (fun b3 => ?_))
 .refine rs AA <| rl Z <| AF <| AN <| AG ?_
  cases b2
  exact er Z Le.rfl
 refine rs AA <| rn 2 Z <| bq b3 fun ct ab b4 => sx Z (AM (UA _ _ _ ab) (.inl Z) Z Z Z <| rl Z <| cd Z b4 (fun b5 => ?_) (fun b6 => ?_))
 .refine rs AA <| rl Z <| AF <| AN <| AG ?_
  cases b5
  exact er Z Le.rfl
 refine rs AA <| rn 1 Z <| bq b6 fun cu ac b7 => sx Z (AM (VL _ _ ac) (.inl Z) Z Z Z <| rl Z <| cd Z b7 (fun b8 => ?_) (fun b9 => ?_))
 .refine rs AA <| rl Z <| AF <| AN <| AG ?_
  cases b8
  exact er Z Le.rfl
 refine AE <| Af <| AC <| rs AA <| rl Z <| AF ?_
 cases b9
 exact er Z Le.rfl
noncomputable def DJ (a : (List Ct)) : Option (List Ct) :=
 L0 a (some []) ((Bt ([] : List Ct) a).bind fun b => some b)
theorem L9 (a : (List Ct)) (r : (List Ct)) (h : DJ a = some r) : Ax Tryz.prog 103 [.slice 3 (a.map B9)] (· = .slice 3 (r.map B9)) := by
 refine fn AA Tryz.func103 Z Z 8 Z [.tmp 2] Z [(0, .p (.slice 3 (a.map B9)))] Z Z fun A hA => ?_
 unfold DJ at h
 refine rs AA <| rl Z <| AB <| rs AA <| rn 1 Z <| sx Z (Jo h Z Z Z (fun d => ?_) (fun e => ?_))
 .refine rl Z <| Qy Z <| rs AA <| rl Z <| AF <| AG ?_
  cases d
  exact er Z (Le.nil _)
 refine rl Z <| SM Z <| AE <| AC <| rs AA <| rn 2 Z <| bq e fun f b c => sx Z (BX (enc := B9) (l := ([] : List Ct)) (m := a) b (fun _ => ⟨Z, Z⟩) Z Z Z Z Z Z <| rl Z <| AF ?_)
 have hr := Option.some.inj c; subst hr
 exact er (IJ Z (.one (.own (enc := B9) f Z Z))) Le.rfl
noncomputable def DK (a : (List C3)) : Option (List C3) :=
 L0 a (some []) ((Bt ([] : List C3) a).bind fun b => some b)
theorem MA (a : (List C3)) (r : (List C3)) (h : DK a = some r) : Ax Tryz.prog 104 [.slice 4 (a.map Cs)] (· = .slice 4 (r.map Cs)) := by
 refine fn AA Tryz.func104 Z Z 8 Z [.tmp 2] Z [(0, .p (.slice 4 (a.map Cs)))] Z Z fun A hA => ?_
 unfold DK at h
 refine rs AA <| rl Z <| AB <| rs AA <| rn 1 Z <| sx Z (Jo h Z Z Z (fun d => ?_) (fun e => ?_))
 .refine rl Z <| Qy Z <| rs AA <| rl Z <| AF <| AG ?_
  cases d
  exact er Z (Le.nil _)
 refine rl Z <| SM Z <| AE <| AC <| rs AA <| rn 2 Z <| bq e fun f b c => sx Z (BX (enc := Cs) (l := ([] : List C3)) (m := a) b (fun _ => ⟨Z, Z⟩) Z Z Z Z Z Z <| rl Z <| AF ?_)
 have hr := Option.some.inj c; subst hr
 exact er (IJ Z (.one (.own (enc := Cs) f Z Z))) Le.rfl
noncomputable def Cw (a : (List Br)) : Option (List Br) :=
 L0 a (some []) ((Bt ([] : List Br) a).bind fun b => some b)
theorem LA (a : (List Br)) (r : (List Br)) (h : Cw a = some r) : Ax Tryz.prog 105 [.slice 4 (a.map BT)] (· = .slice 4 (r.map BT)) := by
 refine fn AA Tryz.func105 Z Z 8 Z [.tmp 2] Z [(0, .p (.slice 4 (a.map BT)))] Z Z fun A hA => ?_
 unfold Cw at h
 refine rs AA <| rl Z <| AB <| rs AA <| rn 1 Z <| sx Z (Jo h Z Z Z (fun d => ?_) (fun e => ?_))
 .refine rl Z <| Qy Z <| rs AA <| rl Z <| AF <| AG ?_
  cases d
  exact er Z (Le.nil _)
 refine rl Z <| SM Z <| AE <| AC <| rs AA <| rn 2 Z <| bq e fun f b c => sx Z (BX (enc := BT) (l := ([] : List Br)) (m := a) b (fun _ => ⟨Z, Z⟩) Z Z Z Z Z Z <| rl Z <| AF ?_)
 have hr := Option.some.inj c; subst hr
 exact er (IJ Z (.one (.own (enc := BT) f Z Z))) Le.rfl
noncomputable def DL (a : (List Cu)) : Option (List Cu) :=
 L0 a (some []) ((Bt ([] : List Cu) a).bind fun b => some b)
theorem LM (a : (List Cu)) (r : (List Cu)) (h : DL a = some r) : GQ Tryz.prog 106 [.slice 2 (a.map Bd)] 147 2 (r.map Bd) := by
 refine fnN (enc := Bd) (fun _ => ⟨Z, Z⟩) Tryz.func106 Z Z 8 Z 2 Z [(0, .p (.slice 2 (a.map Bd)))] Z Z fun A hA => ?_
 unfold DL at h
 refine rs AA <| rl Z <| AB <| rs AA <| rn 1 Z <| sx Z (Jo h Z Z Z (fun d => ?_) (fun e => ?_))
 .refine rl Z <| Qy Z <| rs AA <| rl Z <| AF <| AG ?_
  cases d
  exact AAY Z
 refine rl Z <| SM Z <| AE <| AC <| rs AA <| rn 2 Z <| bq e fun f b c => sx Z (BX (enc := Bd) (l := ([] : List Cu)) (m := a) b (fun _ => ⟨Z, Z⟩) Z Z Z Z Z Z <| rl Z <| AF ?_)
 have hr := Option.some.inj c; subst hr
 exact erN Z Z Z
noncomputable def EX (a : (List Int)) : Option (List Int) :=
 L0 a (some []) ((Bt ([] : List Int) a).bind fun b => some b)
theorem Oz (a : (List Int)) (r : (List Int)) (h : EX a = some r) : Ax Tryz.prog 107 [.slice 1 (a.map Ad)] (· = .slice 1 (r.map Ad)) := by
 refine fn AA Tryz.func107 Z Z 8 Z [.tmp 2] Z [(0, .p (.slice 1 (a.map Ad)))] Z Z fun A hA => ?_
 unfold EX at h
 refine rs AA <| rl Z <| AB <| rs AA <| rn 1 Z <| sx Z (Jo h Z Z Z (fun d => ?_) (fun e => ?_))
 .refine rl Z <| Qy Z <| rs AA <| rl Z <| AF <| AG ?_
  cases d
  exact er Z (Le.nil _)
 refine rl Z <| SM Z <| AE <| AC <| rs AA <| rn 2 Z <| bq e fun f b c => sx Z (BX (enc := Ad) (l := ([] : List Int)) (m := a) b (fun _ => ⟨Z, Z⟩) Z Z Z Z Z Z <| rl Z <| AF ?_)
 have hr := Option.some.inj c; subst hr
 exact er (IJ Z (.one (.own (enc := Ad) f Z Z))) Le.rfl
end Go.E
/- Plain functions, and walks in step with them. Written by a program (gen.py). No condition. -/
set_option maxRecDepth 100000
set_option maxHeartbeats 1000000
namespace Go.E
open Go Go.RowKit Go.Proofs
noncomputable def Fs (b : AK) (h : (List Ct)) (i : (List C3)) (c : (List Br)) (g : (List Cu)) (a : Int × (List Cu)) : Option ((Int × (List Cu)) ⊕ AK) :=
 bif decide (a.1 < (g.length : Int)) then (AX a.2 a.1).bind fun d => (EX d.elems).bind fun e => (AX a.2 a.1).bind fun f => some (.inl (AO (a.1 + 1), A6 a.2 a.1 (⟨f.name, e⟩ : Cu))) else some (.inr (⟨h, i, c, a.2, b.top, b.brake, b.margin, b.throw, b.hard⟩ : AK))
noncomputable def HD (a : AK) : Option AK :=
 (DJ a.elems).bind fun d => (DK a.joins).bind fun e => (Cw a.signals).bind fun c => (DL a.lines).bind fun b => AT (Fs a d e c b) (0, b)
theorem RL (b : AK) (r : AK) (h : HD b = some r) : Ax Tryz.prog 75 [.agg (AS b)] (· = .agg (AS r)) := by
 refine fn AA Tryz.func75 Z Z 40 Z [.cell 2 27] Z [(0, .p (.agg (AS b)))] Z Z fun A hA => ?_
 unfold HD at h
 refine rs AA <| rl Z <| AB ?_
 refine Bu AA mixed [0, 1, 2, 3, 4, 5, 6, 7, 8, 9, 10, 11, 12, 13, 14] 15 (by kernel_rfl) Z Z Z ?_
 refine As 2 Z <| bq h fun ad k x => Au Z (A4 (L9 _ _ k) (.inr Z) Z Z Z <| As 2 Z <| bq x fun ae l m => Au Z (A4 (MA _ _ l) (.inr Z) Z Z Z <| As 2 Z <| bq m fun y g t => Au Z (A4 (LA _ _ g) (.inr Z) Z Z Z <| BG Z <| AC <| rs AA <| rn 2 Z <| bq t fun ac j w => sx Z (Zv (LM _ _ j) Z Z Z Z <| rl Z <| AB <| rs AA <| rl Z <| AH ?_))))
 apply lp (a := r) (fun c : (Int × (List Cu)) => ⟨40, [(1, .lpb 0 0), (2, .lpb 1 0), (22, li (ac.length : Int)), (23, li c.1)], [(0, .box [ls 3 B9 ad, ls 4 Cs ae, ls 4 BT y, .lsl 2 2 0 c.2.length, li b.top, li b.brake, li b.margin, li b.throw, lb b.hard]), (1, .box [.p (.nils), .p (.nils), .p (.nils), .p (.nils), li 0, li 0, li 0, li 0, lb false]), (2, .row 147 2 (c.2.map Bd))], 3⟩) w
 . exact wf hA [(0, 0), (1, 1), (2, 17)] Z Z Z
 intro c ag f
 unfold Fs at f
 refine rs AA <| rl Z <| AB <| cd Z f (fun n => ?_) (fun u => ?_)
 .refine AE <| AC <| AB <| AH <| rs AA <| rl Z ?_
  refine Bu AA mixed [0, 1, 2, 3, 4, 5, 6, 7, 8, 9, 10, 11, 12] 13 (by kernel_rfl) Z Z Z ?_
  exact As 6 Z <| bq n fun ah d o => Au Z (Ai Z (By d Z Z Z Z <| As 1 Z <| Au Z (GV Z (C5 d Z Z Z <| bq o fun aa i q => Au Z (A4 (Oz _ _ i) (.inr Z) Z Z Z <| bq q fun ab e s => Au Z (Ai Z (By e Z Z Z Z <| As 1 Z <| Au Z (MU Z (LY (z := (⟨ab.name, aa⟩ : Cu)) e Z Z Z Z Z Z Z Z <| BG Z <| Af <| AC <| rg AA <| rl Z <| Ar s (wk (gi 3 []) (free hA _) Z Z Z (.cons Z (.cons Z (.cons Z (.cons Z .nil)))) (.cons Z (by simp only [BJ]; rfl) (.cons Z Z (.cons Z Z .nil)))))))))))))
 refine AV <| AW <| BI u fun af v => Ap <| AC <| rs AA <| rl Z <| AF ?_
 cases v
 exact er (IJ Z (.agg (.cons (.p _) (.cons (.p _) (.cons (.p _) (.cons (.own (enc := Bd) c.2 Z Z) (.cons (.p _) (.cons (.p _) (.cons (.p _) (.cons (.p _) (.cons (.p _) .nil))))))))))) Le.rfl
noncomputable def DT (e : (Int × (List (AI × AI)))) (c : (Int × (List (Int × Bi)) × (List (Int × Int)))) (d : Cu) (a : Int × Int × (List (Int × Bi)) × (List (Int × Int))) : Option ((Int × Int × (List (Int × Bi)) × (List (Int × Int))) ⊕ ((Int × (List (Int × Bi)) × (List (Int × Int))) ⊕ ((Option Ay) × Int))) :=
 bif decide (a.2.1 < (d.elems.length : Int)) then (AX d.elems a.2.1).bind fun b => some (.inl (((Ah e.2 (⟨b, AO (1 - a.1)⟩ : AI)).getD (⟨0, 0⟩ : AI)).fin, AO (a.2.1 + 1), A2 b (⟨c.1, a.2.1⟩ : Bi) a.2.2.1, A2 b a.1 a.2.2.2)) else some (.inr (.inl (AO (c.1 + 1), a.2.2.1, a.2.2.2)))
noncomputable def Ca (d : AK) (j : AK) (b : (Int × (List (AI × AI)))) (f : (Int × (List (AI × Int)))) (a : Int × (List (Int × Bi)) × (List (Int × Int))) : Option ((Int × (List (Int × Bi)) × (List (Int × Int))) ⊕ ((Option Ay) × Int)) :=
 bif decide (a.1 < (d.lines.length : Int)) then (AX d.lines a.1).bind fun c => ((bif decide (1 < (c.elems.length : Int)) then (AX c.elems 0).bind fun e => ((bif (Ah b.2 (⟨e, 0⟩ : AI)).isSome then (AX c.elems 1).bind fun i => some ((((Ah b.2 (⟨e, 0⟩ : AI)).getD (⟨0, 0⟩ : AI)).elem) == i) else some false : Option (Bool))).bind fun (h : Bool) => bif h then some 1 else some 0 else some 0 : Option (Int))).bind fun (g : Int) => AT (DT b a c) (g, 0, a.2.1, a.2.2) else some (.inr (some (⟨j, b.2, f.2, a.2.1, a.2.2⟩ : Ay), 0))
noncomputable def DU (b : AK) (d : AK) (c : (Int × (List (AI × AI)))) (a : Int × (List (AI × Int))) : Option ((Int × (List (AI × Int))) ⊕ ((Option Ay) × Int)) :=
 bif decide (a.1 < (b.signals.length : Int)) then (AX b.signals a.1).bind fun e => some (.inl (AO (a.1 + 1), A2 e.at_ a.1 a.2)) else (AT (Ca b d c a) (0, [], [])).map .inr
noncomputable def DW (e : AK) (f : AK) (c : Int × (List (AI × AI))) : Option ((Int × (List (AI × AI))) ⊕ ((Option Ay) × Int)) :=
 bif decide (c.1 < (e.joins.length : Int)) then (AX e.joins c.1).bind fun d => some (.inl (AO (c.1 + 1), A2 d.b d.a (A2 d.a d.b c.2))) else (AT (DU e f c) (0, [])).map .inr
noncomputable def Cj (a : AK) : Option ((Option Ay) × Int) :=
 (Gi a).bind fun b => bif (b != 0) then some (none, b) else (HD a).bind fun c => AT (DW a c) (0, [])
theorem Ow (d : AK) (r : ((Option Ay) × Int)) (h : Cj d = some r) : Ax Tryz.prog 56 [.agg (AS d)] (· = .tup [Wp Aq r.1, .int .i64 r.2]) := by
 refine fn AA Tryz.func56 Z Z 148 Z [.tmp 2, .tmp 3] Z [(0, .p (.agg (AS d)))] Z Z fun A hA => ?_
 unfold Cj at h
 refine rs AA <| rl Z <| AB <| rs AA <| rn 1 Z <| bq h fun br ah aj => sx Z (AM (UB _ _ ah) (.inl Z) Z Z Z <| rl Z <| rs AA <| rl Z <| cd Z aj (fun al => ?_) (fun ay => ?_))
 .refine rs AA <| rl Z <| AF <| AG ?_
  cases al
  exact er Z Le.rfl
 refine AE <| AC <| rs AA <| rn 1 Z <| bq ay fun c af a8 => sx Z (AM (RL _ _ af) (.inr Z) Z Z Z <| rl Z <| AB <| rs AA <| rn 2 Z <| sx Z (Ab Z Z <| rl Z <| AH ?_))
 apply lp (a := r) (fun f : (Int × (List (AI × AI))) => ⟨148, [(1, .lpb 0 0), (5, .lpb 1 0), (31, ls 4 Cs d.joins), (32, li (d.joins.length : Int)), (33, li f.1)], [(0, bx (AS d)), (1, .box [ls 3 B9 c.elems, ls 4 Cs c.joins, ls 4 BT c.signals, ls 2 Bd c.lines, li c.top, li c.brake, li c.margin, li c.throw, lb c.hard, .lmap 2, .lmap 3, .lmap 4, .lmap 5]), (2, .map (An (fun x => .agg (AU x)) (fun x => .agg (AU x)) f.2)), (3, .map (An (fun x => .agg (AU x)) (.int .i64) [])), (4, .map (An (.int .i64) (fun x => .agg (Em x)) [])), (5, .map (An (.int .i64) (.int .i64) []))], 6⟩) a8
 . exact wf hA [(0, 0), (1, 5), (2, 1), (3, 2), (4, 3), (5, 4)] Z Z Z
 intro f bo t
 unfold DW at t
 refine rs AA <| rl Z <| AB <| cd Z t (fun be => ?_) (fun bg => ?_)
 .refine AE <| AC <| AB <| AH <| rs AA <| bq be fun i ai bf => sx Z (Ac ai Z Z Z <| rl Z ?_)
  refine Bu AA mixed [0, 1, 2, 3, 4, 5, 6, 7, 8, 9, 10, 11, 12, 13, 14, 15, 16, 17, 18, 19, 20, 21] 22 (by kernel_rfl) Z Z Z ?_
  exact As 16 Z <| Au Z (Ai Z (Q5 (et := 40) (ke := (fun x => .agg (AU x))) (ve := (fun x => .agg (AU x))) (mp := f.2) (y := i.a) (⟨0, 0⟩ : AI) CF Z Z Z Z Z Z <| As 1 Z <| Au Z (Ai Z (Q6 (ke := (fun x => .agg (AU x))) (ve := (fun x => .agg (AU x))) (mp := f.2) (y := i.a) (z := (⟨0, 0⟩ : AI)) (w := i.b) Z Z Z Z Z <| Au Z (Ai Z (Q5 (et := 40) (ke := (fun x => .agg (AU x))) (ve := (fun x => .agg (AU x))) (mp := A2 i.a i.b f.2) (y := i.b) (⟨0, 0⟩ : AI) CF Z Z Z Z Z Z <| As 1 Z <| Au Z (Ai Z (Q6 (ke := (fun x => .agg (AU x))) (ve := (fun x => .agg (AU x))) (mp := A2 i.a i.b f.2) (y := i.b) (z := (⟨0, 0⟩ : AI)) (w := i.a) Z Z Z Z Z <| BG Z <| Af <| AC <| rg AA <| rl Z <| Ar bf (wf hA (gi 6 []) Z Z Z)))))))))
 refine AV <| AW <| CO bg fun v bh => Ap <| AC <| AB <| rs AA <| rn 2 Z <| sx Z (Ab Z Z <| rl Z <| AH ?_)
 apply lp (a := v) (fun j : (Int × (List (AI × Int))) => ⟨148, [(1, .lpb 0 0), (5, .lpb 1 0), (59, ls 4 BT d.signals), (60, li (d.signals.length : Int)), (61, li j.1)], [(0, bx (AS d)), (1, .box [ls 3 B9 c.elems, ls 4 Cs c.joins, ls 4 BT c.signals, ls 2 Bd c.lines, li c.top, li c.brake, li c.margin, li c.throw, lb c.hard, .lmap 2, .lmap 3, .lmap 4, .lmap 5]), (2, .map (An (fun x => .agg (AU x)) (fun x => .agg (AU x)) f.2)), (3, .map (An (fun x => .agg (AU x)) (.int .i64) j.2)), (4, .map (An (.int .i64) (fun x => .agg (Em x)) [])), (5, .map (An (.int .i64) (.int .i64) []))], 6⟩) bh
 . exact wf hA (gi 6 []) Z Z Z
 intro j bn s
 unfold DU at s
 refine rs AA <| rl Z <| AB <| cd Z s (fun a9 => ?_) (fun bb => ?_)
 .refine AE <| AC <| AB <| AH <| rs AA <| rn 1 Z <| bq a9 fun bj ag ba => sx Z (Ac ag Z Z Z <| rl Z ?_)
  refine Bu AA mixed [0, 1, 2, 3, 4, 5, 6, 7] 8 (by kernel_rfl) Z Z Z ?_
  exact As 7 Z <| Au Z (Ai Z (GE (et := 3) (ke := (fun x => .agg (AU x))) (ve := (.int .i64)) (mp := j.2) (y := bj.at_) (z := j.1) CF Z Z Z Z Z Z <| BG Z <| Af <| AC <| rg AA <| rl Z <| Ar ba (wf hA (gi 6 []) Z Z Z)))
 refine AV <| AW <| CO bb fun u bc => Ap <| AC <| AB <| rs AA <| rn 2 Z <| sx Z (Ab Z Z <| rl Z <| AH ?_)
 apply lp (a := u) (fun e : (Int × (List (Int × Bi)) × (List (Int × Int))) => ⟨148, [(5, .lpb 0 0), (75, ls 2 Bd d.lines), (76, li (d.lines.length : Int)), (77, li e.1)], [(0, .box [ls 3 B9 c.elems, ls 4 Cs c.joins, ls 4 BT c.signals, ls 2 Bd c.lines, li c.top, li c.brake, li c.margin, li c.throw, lb c.hard, .lmap 1, .lmap 2, .lmap 3, .lmap 4]), (1, .map (An (fun x => .agg (AU x)) (fun x => .agg (AU x)) f.2)), (2, .map (An (fun x => .agg (AU x)) (.int .i64) j.2)), (3, .map (An (.int .i64) (fun x => .agg (Em x)) e.2.1)), (4, .map (An (.int .i64) (.int .i64) e.2.2))], 5⟩) bc
 . exact wf hA [(0, 1), (1, 2), (2, 3), (3, 4), (4, 5)] Z Z Z
 intro e aa o
 unfold Ca at o
 refine rs AA <| rl Z <| AB <| cd Z o (fun ak => ?_) (fun a6 => ?_)
 .refine AE <| AC <| AB <| AH <| rs AA <| rn 1 Z <| bq ak fun k ab am => sx Z (Ac ab Z Z Z <| rl Z <| rs AA <| rl Z <| jb (fun m : Int => ⟨148, [(5, .lpb 0 0), (10, li e.1), (11, .lpb 1 0), (12, li m), (75, ls 2 Bd d.lines), (76, li (d.lines.length : Int)), (77, li e.1)], [(0, .box [ls 3 B9 c.elems, ls 4 Cs c.joins, ls 4 BT c.signals, ls 2 Bd c.lines, li c.top, li c.brake, li c.margin, li c.throw, lb c.hard, .lmap 2, .lmap 3, .lmap 4, .lmap 5]), (1, .box [.p (.str k.name), ls 1 Ad k.elems]), (2, .map (An (fun x => .agg (AU x)) (fun x => .agg (AU x)) f.2)), (3, .map (An (fun x => .agg (AU x)) (.int .i64) j.2)), (4, .map (An (.int .i64) (fun x => .agg (Em x)) e.2.1)), (5, .map (An (.int .i64) (.int .i64) e.2.2))], 6⟩) am (fun m an => ?_) (fun m a1 => ?_))
  .refine rs AA <| rn 2 Z <| sx Z (Ab Z Z <| rl Z <| cd Z an (fun ao => ?_) (fun a0 => ?_))
   .refine AB ?_
    refine Bu AA mixed [0, 1, 2, 3, 4, 5, 6, 7, 8, 9, 10, 11, 12, 13, 14, 15] 16 (by kernel_rfl) Z Z Z ?_
    refine As 6 Z <| bq ao fun bi ac ap => Au Z (Ai Z (Ac ac Z Z Z <| As 2 Z <| Au Z (Ai Z (JN (et := 40) (ke := (fun x => .agg (AU x))) (ve := (fun x => .agg (AU x))) (mp := f.2) (y := (⟨bi, 0⟩ : AI)) (⟨0, 0⟩ : AI) CF Z Z Z Z <| BG Z <| AC <| jb (fun n : Bool => ⟨148, [(5, .lpb 0 0), (10, li e.1), (11, .lpb 1 0), (12, li 0), (75, ls 2 Bd d.lines), (76, li (d.lines.length : Int)), (77, li e.1), (108, lb n)], [(0, .box [ls 3 B9 c.elems, ls 4 Cs c.joins, ls 4 BT c.signals, ls 2 Bd c.lines, li c.top, li c.brake, li c.margin, li c.throw, lb c.hard, .lmap 2, .lmap 3, .lmap 4, .lmap 5]), (1, .box [.p (.str k.name), ls 1 Ad k.elems]), (2, .map (An (fun x => .agg (AU x)) (fun x => .agg (AU x)) f.2)), (3, .map (An (fun x => .agg (AU x)) (.int .i64) j.2)), (4, .map (An (.int .i64) (fun x => .agg (Em x)) e.2.1)), (5, .map (An (.int .i64) (.int .i64) e.2.2))], 6⟩) ap (fun n aq => ?_) (fun n aw => ?_)))))
    .refine Bu AA mixed [0, 1, 2, 3, 4, 5, 6, 7, 8, 9] 10 (by kernel_rfl) Z Z Z ?_
     refine As 2 Z <| DZ 100 aq Z Z Z (fun ar => ?_) (fun av => ?_)
     .exact As 4 Z <| bq ar fun bp ad au => Au Z (Ai Z (Ac ad Z Z Z <| BG Z <| AL au (wf hA [(0, 0), (1, 5), (2, 1), (3, 2), (4, 3), (5, 4)] Z Z Z)))
     exact BG Z <| AL av (wf hA [(0, 0), (1, 5), (2, 1), (3, 2), (4, 3), (5, 4)] Z Z Z)
    refine cd Z aw (fun ax => ?_) (fun az => ?_)
    .exact rg AA <| rl Z <| AL ax (wf hA (gi 6 []) Z Z Z)
    exact AE <| AL az (wf hA (gi 6 []) Z Z Z)
   exact AE <| AL a0 (wf hA [(0, 0), (1, 5), (2, 1), (3, 2), (4, 3), (5, 4)] Z Z Z)
  refine rs AA <| rn 2 Z <| sx Z (Ab Z Z <| rl Z <| AH ?_)
  apply lp (a := aa) (fun g : (Int × Int × (List (Int × Bi)) × (List (Int × Int))) => ⟨148, [(5, .lpb 0 0), (10, li e.1), (12, li g.1), (75, ls 2 Bd d.lines), (76, li (d.lines.length : Int)), (77, li e.1), (110, ls 1 Ad k.elems), (111, li (k.elems.length : Int)), (112, li g.2.1)], [(0, .box [ls 3 B9 c.elems, ls 4 Cs c.joins, ls 4 BT c.signals, ls 2 Bd c.lines, li c.top, li c.brake, li c.margin, li c.throw, lb c.hard, .lmap 1, .lmap 2, .lmap 3, .lmap 4]), (1, .map (An (fun x => .agg (AU x)) (fun x => .agg (AU x)) f.2)), (2, .map (An (fun x => .agg (AU x)) (.int .i64) j.2)), (3, .map (An (.int .i64) (fun x => .agg (Em x)) g.2.2.1)), (4, .map (An (.int .i64) (.int .i64) g.2.2.2))], 5⟩) a1
  . exact wf hA [(0, 0), (1, 2), (2, 3), (3, 4), (4, 5)] Z Z Z
  intro g bm q
  unfold DT at q
  refine rs AA <| rl Z <| AB <| cd Z q (fun a2 => ?_) (fun a4 => ?_)
  .refine AE <| AC <| AB <| AH <| rs AA <| rn 1 Z <| bq a2 fun l ae a3 => sx Z (Ac ae Z Z Z <| rl Z <| AB ?_)
   refine Bu AA mixed [0, 1, 2, 3, 4, 5, 6, 7, 8, 9, 10, 11, 12, 13, 14, 15, 16, 17, 18, 19] 20 (by kernel_rfl) Z Z Z ?_
   exact As 14 Z <| Au Z (Ai Z (Q5 (et := 161) (ke := (.int .i64)) (ve := (fun x => .agg (Em x))) (mp := g.2.2.1) (y := l) (⟨0, 0⟩ : Bi) Fm Z Z Z Z Z Z <| As 1 Z <| Au Z (Ai Z (Q6 (ke := (.int .i64)) (ve := (fun x => .agg (Em x))) (mp := g.2.2.1) (y := l) (z := (⟨0, 0⟩ : Bi)) (w := (⟨e.1, g.2.1⟩ : Bi)) Z Z Z Z Z <| Au Z (Ai Z (Q5 (et := 3) (ke := (.int .i64)) (ve := (.int .i64)) (mp := g.2.2.2) (y := l) 0 Fm Z Z Z Z Z Z <| As 1 Z <| Au Z (Ai Z (Q6 (ke := (.int .i64)) (ve := (.int .i64)) (mp := g.2.2.2) (y := l) (z := 0) (w := g.1) Z Z Z Z Z <| BG Z <| AC <| rg AA <| rn 8 Z <| sx Z (KU (et := 40) (ke := (fun x => .agg (AU x))) (ve := (fun x => .agg (AU x))) (mp := f.2) (y := (⟨l, AO (1 - g.1)⟩ : AI)) (⟨0, 0⟩ : AI) CF Z Z Z Z <| rl Z <| Af <| AC <| rg AA <| rl Z <| Ar a3 (wf hA (gi 5 []) Z Z Z))))))))))
  exact AV <| AW <| BI a4 fun bk a5 => Ap <| Af <| AC <| rg AA <| rl Z <| Ar a5 (wf hA (gi 5 []) Z Z Z)
 refine AV <| AW <| BI a6 fun bl a7 => Ap <| AC <| rs AA <| rl Z <| AF ?_
 cases a7
 exact er (Tv Z (.cons (.box Z (.cons (.p _) (.cons (.p _) (.cons (.p _) (.cons (.p _) (.cons (.p _) (.cons (.p _) (.cons (.p _) (.cons (.p _) (.cons (.p _) (.cons (.map Z) (.cons (.map Z) (.cons (.map Z) (.cons (.map Z) .nil)))))))))))))) (.cons (.one (.p _)) .nil))) Le.rfl
noncomputable def Dj (a : Ay) : Option Int :=
 some (a.p.signals.length : Int)
theorem Pq (a : Ay) (r : Int) (h : Dj a = some r) : Ax Tryz.prog 111 [.place (Aq a) 0] (· = .int .i64 r) := by
 refine fn AA Tryz.func111 Z Z 9 Z [.tmp 2] Z [(0, .p (.place (Aq a) 0))] Z Z fun A hA => ?_
 unfold Dj at h
 refine rs AA <| rl Z <| rs AA <| rn 5 Z <| sx Z (Ab Z Z <| rl Z <| AF ?_)
 cases h
 exact er Z Le.rfl
noncomputable def CY (b : Ay) (a : Int) : Option (AI × Bool) :=
 ((bif decide (a < 0) then some true else some (decide ((b.p.signals.length : Int) <= a)) : Option (Bool))).bind fun (c : Bool) => bif c then some ((⟨0, 0⟩ : AI), false) else (AX b.p.signals a).bind fun d => some (d.at_, true)
theorem Ga (a : Ay) (b : Int) (r : (AI × Bool)) (h : CY a b = some r) : Ax Tryz.prog 37 [.place (Aq a) 0, .int .i64 b] (· = .tup [.agg (AU r.1), .bool r.2]) := by
 refine fn AA Tryz.func37 Z Z 28 Z [.cell 4 40, .tmp 5] Z [(0, .p (.place (Aq a) 0)), (1, .p (.int .i64 b))] Z Z fun A hA => ?_
 unfold CY at h
 refine rs AA <| rl Z <| AB <| jb (fun c : Bool => ⟨28, [(0, lq (Aq a)), (1, li b), (4, .lpb 0 0), (17, lb c)], [(0, .box [li 0, li 0])], 1⟩) h (fun c e => ?_) (fun c i => ?_)
 .refine rg AA <| rn 3 Z <| gs 8 e Z Z Z (fun f => ?_) (fun g => ?_)
  .exact rl Z <| AL f (wf hA [(0, 0)] Z Z Z)
  exact rn 6 Z <| sx Z (Ab Z Z <| rl Z <| AL g (wf hA [(0, 0)] Z Z Z))
 refine cd Z i (fun j => ?_) (fun k => ?_)
 .refine rs AA <| rl Z <| AF <| AG ?_
  cases j
  exact er Z Le.rfl
 refine AE <| AC <| rs AA <| rn 6 Z <| bq k fun m d l => sx Z (Ac d Z Z Z <| rl Z <| AF ?_)
 cases l
 exact er Z Le.rfl
noncomputable def Bb (a : Ay) (b : AI) : Option (AI × Bool) :=
 some (((Ah a.next b).getD (⟨0, 0⟩ : AI)), (Ah a.next b).isSome)
theorem CC (a : Ay) (b : AI) (r : (AI × Bool)) (h : Bb a b = some r) : Ax Tryz.prog 72 [.place (Aq a) 0, .agg (AU b)] (· = .tup [.agg (AU r.1), .bool r.2]) := by
 refine fn AA Tryz.func72 Z Z 19 Z [.cell 4 40, .tmp 5] Z [(0, .p (.place (Aq a) 0)), (1, .p (.agg (AU b)))] Z Z fun A hA => ?_
 unfold Bb at h
 refine rs AA <| rl Z <| AB ?_
 refine Bu AA mixed [0, 1, 2, 3, 4, 5, 6, 7, 8, 9, 10, 11] 12 (by kernel_rfl) Z Z Z ?_
 refine As 5 Z <| Au Z (Ai Z (JN (et := 40) (ke := (fun x => .agg (AU x))) (ve := (fun x => .agg (AU x))) (mp := a.next) (y := b) (⟨0, 0⟩ : AI) CF Z Z Z Z <| BG Z <| AC <| rs AA <| rl Z <| AF ?_))
 cases h
 exact er Z Le.rfl
noncomputable def Dk (a : Aa) (b : Int) : Option Bool :=
 some (a.elem == b)
theorem Pr (a : Aa) (b : Int) (r : Bool) (h : Dk a b = some r) : Ax Tryz.prog 165 [.agg (Aw a), .place (Ad b) 0] (· = .bool r) := by
 refine fn AA Tryz.func165 Z Z 8 Z [.tmp 3] Z [(0, .p (.agg (Aw a))), (1, .p (.place (Ad b) 0))] Z Z fun A hA => ?_
 unfold Dk at h
 refine rs AA <| rl Z <| rs AA <| rl Z <| AF ?_
 cases h
 exact er Z Le.rfl
noncomputable def BP (b : (List Aa)) (x1_0 : Int) (a : Int) : Option (Int ⊕ Int) :=
 bif decide (a < (b.length : Int)) then (AX b a).bind fun c => (Dk c x1_0).bind fun d => bif d then some (.inr a) else some (.inl (AO (a + 1))) else some (.inr (-1))
noncomputable def Bm (b : (List Aa)) (x1_0 : Int) : Option Bool :=
 ((AT (BP b x1_0) 0 : Option (Int))).bind fun (a : Int) => some (decide (0 <= a))
theorem HR (b : (List Aa)) (x1_0 : Int) (r : Bool) (h : Bm b x1_0 = some r) : Ax Tryz.prog 150 [.slice 3 (b.map Aw), .fn 165 [.place (Ad x1_0) 0]] (· = .bool r) := by
 refine fn AA Tryz.func150 Z Z 9 Z [.tmp 4] Z [(0, .p (.slice 3 (b.map Aw))), (1, .p (.fn 165 [.place (Ad x1_0) 0]))] Z Z fun A hA => ?_
 unfold Bm at h
 refine NH (Yy 1 Z) <| rs AA <| rl Z <| rs AA <| rn 2 Z <| sx Z (CR AA (fun c : Int => li c) (fun c : Int => []) 0 h Tryz.func167 19 [.tmp 4] [(0, ls 3 Aw b), (1, .fn 165 [lq (Ad x1_0)])] Z Z Z Z Z Z Z Z (fun A hA c i => ?_) (fun c t => ?_))
 .refine rs AA <| rl Z <| AB <| rs AA <| rn 1 Z <| sx Z (Ab Z Z <| rl Z <| AH ?_)
  apply lp (a := c) (fun d : Int => ⟨19, [(0, ls 3 Aw b), (1, .fn 165 [lq (Ad x1_0)]), (7, li (b.length : Int)), (8, li d)], [], 0⟩) i
  . exact wj hA [] Z Z Z Z
  intro d w e
  unfold BP at e
  refine rs AA <| rl Z <| AB <| cd Z e (fun j => ?_) (fun q => ?_)
  .refine AE <| AC <| AB <| AH <| rs AA <| rl Z <| rs AA <| rn 3 Z <| bq j fun x f k => sx Z (Ac f Z Z Z <| rn 1 Z <| bq k fun y g l => sx Z (AM (Pr _ _ _ g) (.inl Z) Z Z Z <| rl Z <| cd Z l (fun m => ?_) (fun o => ?_)))
   .refine rs AA <| rl Z <| AF <| AN <| AG <| A1 m fun u n => AN <| AG ?_
    have hr := Option.some.inj n; subst hr
    exact CU (nt := 19) (sl := [(4, li d)]) (wj hA [] Z Z Z Z) Z
   exact AE <| Af <| AC <| rg AA <| rl Z <| Ar o (wj hA [] Z Z Z Z)
  refine AV <| AW <| BI q fun v s => Ap <| AC <| rs AA <| rl Z <| AF ?_
  cases s
  exact CU (nt := 19) (sl := [(4, li (-1))]) (wj hA [] Z Z Z Z) Z
 refine rl Z <| AF ?_
 cases t
 exact er Z Le.rfl
noncomputable def EY (a : Nd) (b : Int) : Option Bool :=
 ((bif decide ((a.steps.length : Int) < 12) then bif (b != a.berth) then (Bm a.steps b).bind fun d => some (!d) else some false else some false : Option (Bool))).bind fun (c : Bool) => some c
theorem RM (b : Nd) (c : Int) (r : Bool) (h : EY b c = some r) : Ax Tryz.prog 146 [.place (SZ b) 0, .int .i64 c] (· = .bool r) := by
 refine fn AA Tryz.func146 Z Z 28 Z [.tmp 4] Z [(0, .p (.place (SZ b) 0)), (1, .p (.int .i64 c))] Z Z fun A hA => ?_
 unfold EY at h
 refine rs AA <| rl Z <| jb (fun a : Bool => ⟨28, [(4, lb a)], [], 0⟩) h (fun a k => ?_) (fun a j => ?_)
 .refine Bu AA mixed [0, 1, 2, 3, 4, 5, 6, 7, 8, 9, 10, 11, 12, 13, 14, 15, 16, 17, 18, 19, 20, 21, 22, 23] 24 (by kernel_rfl) Z Z Z ?_
  refine As 4 Z <| Au Z (Jm Z Z <| As 2 Z <| DZ 11 k Z Z Z (fun l => ?_) (fun i => ?_))
  .refine As 8 Z <| DZ 19 l Z Z Z (fun e => ?_) (fun g => ?_)
   .exact As 5 Z <| bq e fun m d f => Au Z (A4 (HR _ _ _ d) (.inl Z) Z Z (Dg.eq (.cons (.one (.p _)) (.cons (.fn (.box Z (.cons (.p _) .nil) .nil)) .nil))) <| BG Z <| AL f (wf hA [] Z Z Z))
   exact BG Z <| AL g (wf hA [] Z Z Z)
  exact BG Z <| AL i (wf hA [] Z Z Z)
 refine AF ?_
 have hr := Option.some.inj j; subst hr
 exact er Z Le.rfl
noncomputable def D2 (b : Ay) (a : Int) : Option Ct :=
 ((bif decide (a < 0) then some true else some (decide ((b.p.elems.length : Int) <= a)) : Option (Bool))).bind fun (c : Bool) => bif c then some (⟨ByteArray.empty, 0, 0⟩ : Ct) else (AX b.p.elems a).bind fun d => some d
theorem Mn (a : Ay) (b : Int) (r : Ct) (h : D2 a b = some r) : Ax Tryz.prog 69 [.place (Aq a) 0, .int .i64 b] (· = .agg (B9 r)) := by
 refine fn AA Tryz.func69 Z Z 26 Z [.cell 4 123] Z [(0, .p (.place (Aq a) 0)), (1, .p (.int .i64 b))] Z Z fun A hA => ?_
 unfold D2 at h
 refine rs AA <| rl Z <| AB <| jb (fun c : Bool => ⟨26, [(0, lq (Aq a)), (1, li b), (4, .lpb 0 0), (16, lb c)], [(0, .box [.p (.str ByteArray.empty), li 0, li 0])], 1⟩) h (fun c e => ?_) (fun c i => ?_)
 .refine rg AA <| rn 3 Z <| gs 7 e Z Z Z (fun f => ?_) (fun g => ?_)
  .exact rl Z <| AL f (wf hA [(0, 0)] Z Z Z)
  exact rn 6 Z <| sx Z (Ab Z Z <| rl Z <| AL g (wf hA [(0, 0)] Z Z Z))
 refine cd Z i (fun j => ?_) (fun k => ?_)
 .refine rs AA <| rl Z <| AF <| AG ?_
  cases j
  exact er Z Le.rfl
 refine AE <| AC <| rs AA <| rn 6 Z <| bq k fun m d l => sx Z (Ac d Z Z Z <| rl Z <| AF ?_)
 have hr := Option.some.inj l; subst hr
 exact er Z Le.rfl
noncomputable def BS (a : Ay) (b : Int) : Option Int :=
 (D2 a b).bind fun c => some c.kind
theorem Bp (a : Ay) (b : Int) (r : Int) (h : BS a b = some r) : Ax Tryz.prog 38 [.place (Aq a) 0, .int .i64 b] (· = .int .i64 r) := by
 refine fn AA Tryz.func38 Z Z 9 Z [.tmp 4] Z [(0, .p (.place (Aq a) 0)), (1, .p (.int .i64 b))] Z Z fun A hA => ?_
 unfold BS at h
 refine rs AA <| rl Z <| rs AA <| rn 2 Z <| bq h fun e c d => sx Z (AM (Mn _ _ _ c) (.inl Z) Z Z Z <| rl Z <| AF ?_)
 cases d
 exact er Z Le.rfl
noncomputable def D3 (c : Ay) (d : Int) (a : Int) : Option (List Bf) :=
 ((bif decide (a < 0) then some true else (BS c d).bind fun f => (El f).bind fun g => some (decide (g <= a)) : Option (Bool))).bind fun (e : Bool) => bif e then some [] else (BS c d).bind fun b => bif (b == 1) then some [(⟨AO (1 - a), 0⟩ : Bf)] else bif (b == 3) then (AX ([1, 0, 3, 2] : List Int) a).bind fun h => some [(⟨h, 0⟩ : Bf)] else bif (b == 2) then bif (a == 0) then some [(⟨1, 1⟩ : Bf), (⟨2, 2⟩ : Bf)] else (AX ([0, 1, 2] : List Int) a).bind fun i => some [(⟨0, i⟩ : Bf)] else some []
theorem Mo (b : Ay) (c : Int) (a : Int) (r : (List Bf)) (h : D3 b c a = some r) : Ax Tryz.prog 166 [.place (Aq b) 0, .int .i64 c, .int .i64 a] (· = .slice 2 (r.map Df)) := by
 refine fn AA Tryz.func166 Z Z 47 Z [.tmp 6] Z [(0, .p (.place (Aq b) 0)), (1, .p (.int .i64 c)), (2, .p (.int .i64 a))] Z Z fun A hA => ?_
 unfold D3 at h
 refine rs AA <| rl Z <| AB <| jb (fun d : Bool => ⟨47, [(0, lq (Aq b)), (1, li c), (2, li a), (17, lb d)], [], 0⟩) h (fun d m => ?_) (fun d t => ?_)
 .refine rg AA <| rn 3 Z <| gs 10 m Z Z Z (fun n => ?_) (fun o => ?_)
  .exact rl Z <| AL n (wf hA [] Z Z Z)
  exact rn 3 Z <| bq o fun ak f q => sx Z (AM (Bp _ _ _ f) (.inl Z) Z Z Z <| bq q fun al i s => sx Z (AM (JT _ _ i) (.inl Z) Z Z Z <| rl Z <| AL s (wf hA [] Z Z Z)))
 refine cd Z t (fun u => ?_) (fun v => ?_)
 .refine rs AA <| rl Z <| AF <| AG ?_
  cases u
  exact er Z (Le.nil _)
 refine AE <| AC <| AB <| rs AA <| rn 2 Z <| bq v fun am j w => sx Z (AM (Bp _ _ _ j) (.inl Z) Z Z Z <| rl Z <| AH <| rs AA <| rl Z <| cd Z w (fun x => ?_) (fun z => ?_))
 .refine rs AA <| rl Z <| AF <| AN <| AG ?_
  cases x
  exact er (IJ Z (.one (.own (enc := Df) ([(⟨AO (1 - a), 0⟩ : Bf)] : List Bf) Z Z))) Le.rfl
 refine rs AA <| rl Z <| cd Z z (fun aa => ?_) (fun ac => ?_)
 .refine rs AA <| rl Z <| rs AA <| rn 1 Z <| bq aa fun ai e ab => sx Z (Wd (l := ([1, 0, 3, 2] : List Int)) e Z Z Z Z <| sx Z (Wg (g := fun y => .p (.int .i64 y)) e Z Z Z Z <| rl Z <| AF <| AN <| AG ?_))
  cases ab
  exact er (IJ Z (.one (.own (enc := Df) ([(⟨ai, 0⟩ : Bf)] : List Bf) Z Z))) Le.rfl
 refine rs AA <| rl Z <| cd Z ac (fun ad => ?_) (fun ah => ?_)
 .refine AB <| rs AA <| rl Z <| cd Z ad (fun ae => ?_) (fun af => ?_)
  .refine rs AA <| rl Z <| AF <| AG <| AN <| AG ?_
   cases ae
   exact er (IJ Z (.one (.own (enc := Df) ([(⟨1, 1⟩ : Bf), (⟨2, 2⟩ : Bf)] : List Bf) Z Z))) Le.rfl
  refine AE <| AC <| rs AA <| rn 2 Z <| bq af fun aj k ag => sx Z (ABS (l := ([0, 1, 2] : List Int)) (g := fun y => .int .i64 y) k Z Z Z Z <| rl Z <| AF <| AN <| AG ?_)
  cases ag
  exact er (IJ Z (.one (.own (enc := Df) ([(⟨0, aj⟩ : Bf)] : List Bf) Z Z))) Le.rfl
 refine AE <| Af <| AC <| rs AA <| rl Z <| AF ?_
 cases ah
 exact er Z (Le.nil _)
noncomputable def BU (a : (List Aa)) : Option (List Aa) :=
 L0 a (some []) ((Bt ([] : List Aa) a).bind fun b => some b)
theorem MB (a : (List Aa)) (r : (List Aa)) (h : BU a = some r) : Ax Tryz.prog 113 [.slice 3 (a.map Aw)] (· = .slice 3 (r.map Aw)) := by
 refine fn AA Tryz.func113 Z Z 8 Z [.tmp 2] Z [(0, .p (.slice 3 (a.map Aw)))] Z Z fun A hA => ?_
 unfold BU at h
 refine rs AA <| rl Z <| AB <| rs AA <| rn 1 Z <| sx Z (Jo h Z Z Z (fun d => ?_) (fun e => ?_))
 .refine rl Z <| Qy Z <| rs AA <| rl Z <| AF <| AG ?_
  cases d
  exact er Z (Le.nil _)
 refine rl Z <| SM Z <| AE <| AC <| rs AA <| rn 2 Z <| bq e fun f b c => sx Z (BX (enc := Aw) (l := ([] : List Aa)) (m := a) b (fun _ => ⟨Z, Z⟩) Z Z Z Z Z Z <| rl Z <| AF ?_)
 have hr := Option.some.inj c; subst hr
 exact er (IJ Z (.one (.own (enc := Aw) f Z Z))) Le.rfl
theorem EJ (a : (List Aa)) (r : (List Aa)) (h : BU a = some r) : GQ Tryz.prog 113 [.slice 3 (a.map Aw)] 76 3 (r.map Aw) := by
 refine fnN (enc := Aw) (fun _ => ⟨Z, Z⟩) Tryz.func113 Z Z 8 Z 2 Z [(0, .p (.slice 3 (a.map Aw)))] Z Z fun A hA => ?_
 unfold BU at h
 refine rs AA <| rl Z <| AB <| rs AA <| rn 1 Z <| sx Z (Jo h Z Z Z (fun d => ?_) (fun e => ?_))
 .refine rl Z <| Qy Z <| rs AA <| rl Z <| AF <| AG ?_
  cases d
  exact AAY Z
 refine rl Z <| SM Z <| AE <| AC <| rs AA <| rn 2 Z <| bq e fun f b c => sx Z (BX (enc := Aw) (l := ([] : List Aa)) (m := a) b (fun _ => ⟨Z, Z⟩) Z Z Z Z Z Z <| rl Z <| AF ?_)
 have hr := Option.some.inj c; subst hr
 exact erN Z Z Z
noncomputable def CV (a : Ay) (b : AI) : Option Int :=
 bif (Ah a.reads b).isSome then some ((Ah a.reads b).getD 0) else some (-1)
theorem GG (a : Ay) (b : AI) (r : Int) (h : CV a b = some r) : Ax Tryz.prog 43 [.place (Aq a) 0, .agg (AU b)] (· = .int .i64 r) := by
 refine fn AA Tryz.func43 Z Z 18 Z [.tmp 4] Z [(0, .p (.place (Aq a) 0)), (1, .p (.agg (AU b)))] Z Z fun A hA => ?_
 unfold CV at h
 refine rs AA <| rl Z <| AB <| AB ?_
 refine Bu AA mixed [0, 1, 2, 3, 4, 5, 6, 7, 8, 9, 10] 11 (by kernel_rfl) Z Z Z ?_
 refine As 5 Z <| Au Z (Ai Z (JN (et := 3) (ke := (fun x => .agg (AU x))) (ve := (.int .i64)) (mp := a.reads) (y := b) 0 CF Z Z Z Z <| BG Z <| AC <| rs AA <| rl Z <| cd Z h (fun c => ?_) (fun d => ?_)))
 .refine rs AA <| rl Z <| AF <| AG ?_
  cases c
  exact er Z Le.rfl
 refine AE <| AC <| rs AA <| rl Z <| AF ?_
 cases d
 exact er Z Le.rfl
end Go.E
/- Plain functions, and walks in step with them. Written by a program (gen.py). No condition. -/
set_option maxRecDepth 100000
set_option maxHeartbeats 1000000
namespace Go.E
open Go Go.RowKit Go.Proofs
noncomputable def LB (b : ((List Aa) × (List Int) × (List (List Bf)))) (d : (List Aa)) (a : Int × (List Ao)) : Option ((Int × (List Ao)) ⊕ ((List Aa) × (List Ao))) :=
 bif decide (a.1 < (b.1.length : Int)) then (((AX b.1 a.1).bind fun e => (AX b.2.1 a.1).bind fun f => bif (f != 0) then (AX b.2.1 a.1).bind fun g => (Bt a.2 [(⟨e.elem, g⟩ : Ao)]).bind fun h => some h else some a.2 : Option ((List Ao)))).bind fun (c : (List Ao)) => some (.inl (AO (a.1 + 1), c)) else some (.inr (d, a.2))
noncomputable def LC (a : ((List Aj) × (List Aa) × (List Int) × (List (List Bf)))) (c : Bf) (d : Aa) (f : (List Aa)) (b : Int × (List Ao)) : Option ((Int × (List Ao)) ⊕ ((List Aa) × (List Ao))) :=
 bif decide (b.1 < ((A6 a.2.1 (AO ((a.2.1.length : Int) - 1)) (⟨d.elem, d.in_, c.out⟩ : Aa)).length : Int)) then (((AX (A6 a.2.1 (AO ((a.2.1.length : Int) - 1)) (⟨d.elem, d.in_, c.out⟩ : Aa)) b.1).bind fun g => (AX (A6 a.2.2.1 (AO ((a.2.1.length : Int) - 1)) c.pos) b.1).bind fun h => bif (h != 0) then (AX (A6 a.2.2.1 (AO ((a.2.1.length : Int) - 1)) c.pos) b.1).bind fun i => (Bt b.2 [(⟨g.elem, i⟩ : Ao)]).bind fun j => some j else some b.2 : Option ((List Ao)))).bind fun (e : (List Ao)) => some (.inl (AO (b.1 + 1), e)) else some (.inr (f, b.2))
noncomputable def LD (a : ((List Aj) × (List Aa) × (List Int) × (List (List Bf)))) (c : Bf) (d : Aa) (f : (List Aa)) (b : Int × (List Ao)) : Option ((Int × (List Ao)) ⊕ ((List Aa) × (List Ao))) :=
 bif decide (b.1 < ((A6 a.2.1 (AO ((a.2.1.length : Int) - 1)) (⟨d.elem, d.in_, c.out⟩ : Aa)).length : Int)) then (((AX (A6 a.2.1 (AO ((a.2.1.length : Int) - 1)) (⟨d.elem, d.in_, c.out⟩ : Aa)) b.1).bind fun g => (AX (A6 a.2.2.1 (AO ((a.2.1.length : Int) - 1)) c.pos) b.1).bind fun h => bif (h != 0) then (AX (A6 a.2.2.1 (AO ((a.2.1.length : Int) - 1)) c.pos) b.1).bind fun i => (Bt b.2 [(⟨g.elem, i⟩ : Ao)]).bind fun j => some j else some b.2 : Option ((List Ao)))).bind fun (e : (List Ao)) => some (.inl (AO (b.1 + 1), e)) else some (.inr (f, b.2))
noncomputable def CA (i : Ay) (j : Int) (a : (List Aj) × (List Aa) × (List Int) × (List (List Bf))) : Option (((List Aj) × (List Aa) × (List Int) × (List (List Bf))) ⊕ ((Int × Int × (List Aj) × (List Aa) × (List Int) × (List (List Bf))) ⊕ (List Aj))) :=
 bif decide (0 < (a.2.1.length : Int)) then (AX a.2.2.2 (AO ((a.2.1.length : Int) - 1))).bind fun n => bif ((n.length : Int) == 0) then (((Lf a.2.1 0 (AO ((a.2.1.length : Int) - 1))).bind fun o => (Lf a.2.2.1 0 (AO ((a.2.1.length : Int) - 1))).bind fun p => (Lf a.2.2.2 0 (AO ((a.2.1.length : Int) - 1))).bind fun q => some (o, p, q) : Option ((List Aa) × (List Int) × (List (List Bf))))).bind fun (d : (List Aa) × (List Int) × (List (List Bf))) => some (.inl (a.1, d.1, d.2.1, d.2.2)) else (AX a.2.2.2 (AO ((a.2.1.length : Int) - 1))).bind fun r => (AX r 0).bind fun c => (AX a.2.2.2 (AO ((a.2.1.length : Int) - 1))).bind fun k => (KN k 1 (k.length : Int)).bind fun e => (AX a.2.2.2 (AO ((a.2.1.length : Int) - 1))).bind fun w => (AX a.2.1 (AO ((a.2.1.length : Int) - 1))).bind fun b => (AX a.2.2.1 (AO ((a.2.1.length : Int) - 1))).bind fun x => (AX (A6 a.2.1 (AO ((a.2.1.length : Int) - 1)) (⟨b.elem, b.in_, c.out⟩ : Aa)) (AO ((a.2.1.length : Int) - 1))).bind fun l => (CV i (⟨l.elem, c.out⟩ : AI)).bind fun m => bif decide (0 <= m) then (((BU (A6 a.2.1 (AO ((a.2.1.length : Int) - 1)) (⟨b.elem, b.in_, c.out⟩ : Aa))).bind fun s => AT (LC a c b s) (0, ([] : List Ao)) : Option ((List Aa) × (List Ao)))).bind fun (g : (List Aa) × (List Ao)) => (Bt a.1 ([(⟨j, m, 1, g.1, g.2, ([] : List Ao), ([] : List Int), ([] : List Int), false⟩ : Aj)])).bind fun t => some (.inl (t, A6 a.2.1 (AO ((a.2.1.length : Int) - 1)) (⟨b.elem, b.in_, c.out⟩ : Aa), A6 a.2.2.1 (AO ((a.2.1.length : Int) - 1)) c.pos, A6 a.2.2.2 (AO ((a.2.1.length : Int) - 1)) e)) else (Bb i (⟨l.elem, c.out⟩ : AI)).bind fun f => bif (!f.2) then (((BU (A6 a.2.1 (AO ((a.2.1.length : Int) - 1)) (⟨b.elem, b.in_, c.out⟩ : Aa))).bind fun u => AT (LD a c b u) (0, ([] : List Ao)) : Option ((List Aa) × (List Ao)))).bind fun (h : (List Aa) × (List Ao)) => (Bt a.1 ([(⟨j, (-1), 3, h.1, h.2, ([] : List Ao), ([] : List Int), ([] : List Int), false⟩ : Aj)])).bind fun v => some (.inl (v, A6 a.2.1 (AO ((a.2.1.length : Int) - 1)) (⟨b.elem, b.in_, c.out⟩ : Aa), A6 a.2.2.1 (AO ((a.2.1.length : Int) - 1)) c.pos, A6 a.2.2.2 (AO ((a.2.1.length : Int) - 1)) e)) else some (.inr (.inl (f.1.elem, f.1.fin, a.1, A6 a.2.1 (AO ((a.2.1.length : Int) - 1)) (⟨b.elem, b.in_, c.out⟩ : Aa), A6 a.2.2.1 (AO ((a.2.1.length : Int) - 1)) c.pos, A6 a.2.2.2 (AO ((a.2.1.length : Int) - 1)) e))) else some (.inr (.inr a.1))
noncomputable def CJ (d : Ay) (f : Int) (o : (AI × Bool)) (a : Int × Int × (List Aj) × (List Aa) × (List Int) × (List (List Bf))) : Option ((Int × Int × (List Aj) × (List Aa) × (List Int) × (List (List Bf))) ⊕ (List Aj)) :=
 (((EY (⟨o.1.elem, a.2.2.2.1, a.2.2.2.2.1, a.2.2.2.2.2⟩ : Nd) a.1).bind fun g => bif g then (((Bt a.2.2.2.1 [(⟨a.1, a.2.1, (-1)⟩ : Aa)]).bind fun h => (Bt a.2.2.2.2.1 [0]).bind fun i => (D3 d a.1 a.2.1).bind fun j => (Bt a.2.2.2.2.2 [j]).bind fun k => some (h, i, k) : Option ((List Aa) × (List Int) × (List (List Bf))))).bind fun (b : (List Aa) × (List Int) × (List (List Bf))) => (BS d a.1).bind fun l => bif (l == 4) then (((BU b.1).bind fun m => AT (LB b m) (0, ([] : List Ao)) : Option ((List Aa) × (List Ao)))).bind fun (e : (List Aa) × (List Ao)) => (Bt a.2.2.1 ([(⟨f, (-1), 2, e.1, e.2, ([] : List Ao), ([] : List Int), ([] : List Int), false⟩ : Aj)])).bind fun n => some (n, b.1, b.2.1, b.2.2) else some (a.2.2.1, b.1, b.2.1, b.2.2) else some (a.2.2.1, a.2.2.2.1, a.2.2.2.2.1, a.2.2.2.2.2) : Option ((List Aj) × (List Aa) × (List Int) × (List (List Bf))))).bind fun (c : (List Aj) × (List Aa) × (List Int) × (List (List Bf))) => AT (CA d f) (c.1, c.2.1, c.2.2.1, c.2.2.2)
noncomputable def J0 (a : Ay) (d : Int) : Option (List Aj) :=
 (CY a d).bind fun c => bif (!c.2) then some [] else (Bb a c.1).bind fun b => bif (!b.2) then some [] else AT (CJ a d c) (b.1.elem, b.1.fin, ([] : List Aj), ([] : List Aa), ([] : List Int), ([] : List (List Bf)))
theorem Xw (t : Ay) (g : Int) (r : (List Aj)) (h : J0 t g = some r) : Ax Tryz.prog 112 [.place (Aq t) 0, .int .i64 g] (· = .slice 9 (r.map BM)) := by
 refine fn AA Tryz.func112 Z Z 157 Z [.tmp 4] Z [(0, .p (.place (Aq t) 0)), (1, .p (.int .i64 g))] Z Z fun A hA => ?_
 unfold J0 at h
 refine rs AA <| rl Z <| sc <| rs AA <| rn 2 Z <| bq h fun j bu ef => sx Z (AM (Ga _ _ _ bu) (.inl Z) Z Z Z <| rl Z <| AB <| rs AA <| rl Z <| cd Z ef (fun eg => ?_) (fun eh => ?_))
 .refine rs AA <| rl Z <| AF <| AG <| IK ?_
  cases eg
  exact er Z (Le.nil _)
 refine AE <| AC <| rs AA <| rn 2 Z <| bq eh fun e2 a8 bv => sx Z (AM (CC _ _ _ a8) (.inl Z) Z Z Z <| rl Z <| AB <| rs AA <| rl Z <| cd Z bv (fun bw => ?_) (fun bx => ?_))
 .refine rs AA <| rl Z <| AF <| AG <| IK ?_
  cases bw
  exact er Z (Le.nil _)
 refine AE <| AC <| rs AA <| rl Z <| rs AA <| rl Z <| AB <| Jb <| AC <| AB <| AH ?_
 apply lp (a := r) (fun d : (Int × Int × (List Aj) × (List Aa) × (List Int) × (List (List Bf))) => ⟨157, [(0, lq (Aq t)), (1, li g), (7, .lpb 0 0), (8, .lsl 1 9 0 d.2.2.1.length), (9, .lpb 2 0)], [(0, .box [li d.1, li d.2.1]), (1, .row 72 9 (d.2.2.1.map BM)), (2, .box [li j.1.elem, .lsl 3 3 0 d.2.2.2.1.length, .lsl 4 1 0 d.2.2.2.2.1.length, .lsl 5 1 0 d.2.2.2.2.2.length]), (3, .row 76 3 (d.2.2.2.1.map Aw)), (4, .row 3 1 (d.2.2.2.2.1.map Ad)), (5, .row 215 1 (d.2.2.2.2.2.map (DX 2 Df)))], 6⟩) bx
 . exact A8.trans (Cf 8 72 9 Z) (A8.trans (CM 2 1 76 3 Z Z Z Z) (A8.trans (CM 2 2 3 1 Z Z Z Z) (A8.trans (CM 2 3 215 1 Z Z Z Z) (wf hA [(0, 1), (1, 3), (2, 2), (3, 4), (4, 5), (5, 6)] Z Z Z))))
 intro d a7 a2
 unfold CJ at a2
 refine AH <| sc <| jb (fun k : ((List Aj) × (List Aa) × (List Int) × (List (List Bf))) => ⟨157, [(0, lq (Aq t)), (1, li g), (7, .lpb 0 0), (8, .lsl 1 9 0 k.1.length), (9, .lpb 2 0)], [(0, .box [li d.1, li d.2.1]), (1, .row 72 9 (k.1.map BM)), (2, .box [li j.1.elem, .lsl 3 3 0 k.2.1.length, .lsl 4 1 0 k.2.2.1.length, .lsl 5 1 0 k.2.2.2.length]), (3, .row 76 3 (k.2.1.map Aw)), (4, .row 3 1 (k.2.2.1.map Ad)), (5, .row 215 1 (k.2.2.2.map (DX 2 Df)))], 6⟩) a2 (fun k bz => ?_) (fun k cs => ?_)
 .refine rs AA <| rn 3 Z <| bq bz fun e3 a9 b0 => sx Z (AM (RM _ _ _ a9) (.inl Z) Z Z (Dg.eq (.cons (.box Z (.cons (.p _) (.cons (.own (enc := Aw) d.2.2.2.1 Z Z) (.cons (.own (enc := Ad) d.2.2.2.2.1 Z Z) (.cons (.own (enc := (DX 2 Df)) d.2.2.2.2.2 Z Z) .nil))))) (.cons (.one (.p _)) .nil))) <| rl Z <| cd Z b0 (fun b1 => ?_) (fun cr => ?_))
  .refine rs AA <| rn 3 Z <| sx Z (CR AA (fun f : ((List Aa) × (List Int) × (List (List Bf))) => .tup []) (fun f : ((List Aa) × (List Int) × (List (List Bf))) => [(0, .box [li d.1, li d.2.1]), (1, .row 72 9 (d.2.2.1.map BM)), (2, .box [li j.1.elem, .lsl 6 3 0 f.1.length, .lsl 7 1 0 f.2.1.length, .lsl 8 1 0 f.2.2.length]), (6, .row 76 3 (f.1.map Aw)), (7, .row 3 1 (f.2.1.map Ad)), (8, .row 215 1 (f.2.2.map (DX 2 Df)))]) 9 b1 Tryz.func147 44 [] [(0, .lpb 2 0), (1, lq (Aq t)), (2, .p (.agg [.int .i64 d.1, .int .i64 d.2.1]))] Z Z Z Z Z Z Z Z (fun A hA f b2 => ?_) (fun f b7 => ?_))
   .refine rs AA <| rl Z <| AB ?_
    refine Bu AA mixed [0, 1, 2, 3, 4, 5, 6, 7, 8, 9, 10, 11, 12, 13, 14] 15 (by kernel_rfl) Z Z Z ?_
    refine As 11 Z <| bq b2 fun e4 ba b3 => Au Z (I4 Z (BX (enc := Aw) (l := d.2.2.2.1) (m := [(⟨d.1, d.2.1, (-1)⟩ : Aa)]) ba (fun _ => ⟨Z, Z⟩) Z Z Z Z Z Z <| BG Z <| AC <| rs AA <| rn 6 Z <| bq b3 fun e5 bb b4 => sx Z (BX (enc := Ad) (l := d.2.2.2.2.1) (m := [0]) bb (fun _ => ⟨Z, Z⟩) Z Z Z Z Z Z <| rl Z ?_)))
    refine Bu AA mixed [0, 1, 2, 3, 4, 5, 6, 7, 8, 9, 10, 11, 12, 13, 14, 15] 16 (by kernel_rfl) Z Z Z ?_
    refine As 10 Z <| bq b4 fun ei bc b5 => Au Z (A4 (Mo _ _ _ _ bc) (.inr Z) Z Z Z <| As 1 Z <| bq b5 fun e6 be b6 => Au Z (I4 Z (BX (enc := (DX 2 Df)) (l := d.2.2.2.2.2) (m := [ei]) be (fun _ => ⟨Z, Z⟩) Z Z Z Z Z Z <| BG Z ?_)))
    cases b6
    exact La (nt := 44) (sl := []) (wj hA (gi 6 [(6, 18), (7, 23), (8, 36)]) Z Z Z Z) Z
   refine rl Z <| rs AA <| rn 3 Z <| bq b7 fun e7 bf b8 => sx Z (AM (Bp _ _ _ bf) (.inl Z) Z Z Z <| rl Z <| cd Z b8 (fun b9 => ?_) (fun cq => ?_))
   .refine rg AA <| rn 3 Z <| sx Z (CR AA (fun n : ((List Aa) × (List Ao)) => .p (.agg [.int .i64 g, .int .i64 (-1), .int .i64 2, .slice 3 (n.1.map Aw), .slice 2 (n.2.map A0), .slice 2 (([] : List Ao).map A0), .slice 1 (([] : List Int).map Ad), .slice 1 (([] : List Int).map Ad), .bool false])) (fun n : ((List Aa) × (List Ao)) => [(0, .box [li d.1, li d.2.1]), (1, .row 72 9 (d.2.2.1.map BM)), (2, .box [li j.1.elem, .lsl 6 3 0 f.1.length, .lsl 7 1 0 f.2.1.length, .lsl 8 1 0 f.2.2.length]), (6, .row 76 3 (f.1.map Aw)), (7, .row 3 1 (f.2.1.map Ad)), (8, .row 215 1 (f.2.2.map (DX 2 Df))), (9, .box [li g, li (-1), li 2, ls 3 Aw n.1, ls 2 A0 n.2, ls 2 A0 ([] : List Ao), ls 1 Ad ([] : List Int), ls 1 Ad ([] : List Int), lb false])]) 10 b9 Tryz.func148 56 [.cell 8 72] [(0, .lpb 2 0), (1, li g), (2, li (-1)), (3, li 2)] Z Z Z Z Z Z Z Z (fun A hA n ca => ?_) (fun n co => ?_))
    .refine rs AA <| rl Z <| rs AA <| rn 7 Z <| bq ca fun ab bg cb => sx Z (Na (EJ _ _ bg) (fun _ => Z) Z Z (Dg.eq (.cons (.one (.own (enc := Aw) f.1 Z Z)) .nil)) <| rl Z <| AB <| rs AA <| rl Z <| AH ?_)
     apply lp (a := n) (fun u : (Int × (List Ao)) => ⟨56, [(0, .lpb 2 0), (8, .lpb 9 0), (9, .lpb 10 0), (24, .lsl 6 3 0 f.1.length), (25, li (f.1.length : Int)), (26, li u.1)], [(0, .box [li d.1, li d.2.1]), (1, .row 72 9 (d.2.2.1.map BM)), (2, .box [li j.1.elem, .lsl 6 3 0 f.1.length, .lsl 7 1 0 f.2.1.length, .lsl 8 1 0 f.2.2.length]), (6, .row 76 3 (f.1.map Aw)), (7, .row 3 1 (f.2.1.map Ad)), (8, .row 215 1 (f.2.2.map (DX 2 Df))), (9, .box [li 0, li 0, li 0, .p (.nils), .p (.nils), .p (.nils), .p (.nils), .p (.nils), lb false]), (10, .box [li g, li (-1), li 2, .lsl 11 3 0 ab.length, .lsl 12 2 0 u.2.length, .p (.nils), .p (.nils), .p (.nils), lb false]), (11, .row 76 3 (ab.map Aw)), (12, .row 185 2 (u.2.map A0))], 13⟩) cb
     . exact A8.trans (CM 11 4 185 2 Z Z Z Z) (wj hA (gi 10 [(10, 11), (11, 10), (12, 12)]) Z Z Z Z)
     intro u ey a3
     unfold LB at a3
     refine rs AA <| rl Z <| AB <| cd Z a3 (fun cc => ?_) (fun cm => ?_)
     .refine AE <| AC <| jb (fun af : (List Ao) => ⟨56, [(0, .lpb 2 0), (8, .lpb 9 0), (9, .lpb 10 0), (24, .lsl 6 3 0 f.1.length), (25, li (f.1.length : Int)), (26, li u.1)], [(0, .box [li d.1, li d.2.1]), (1, .row 72 9 (d.2.2.1.map BM)), (2, .box [li j.1.elem, .lsl 6 3 0 f.1.length, .lsl 7 1 0 f.2.1.length, .lsl 8 1 0 f.2.2.length]), (6, .row 76 3 (f.1.map Aw)), (7, .row 3 1 (f.2.1.map Ad)), (8, .row 215 1 (f.2.2.map (DX 2 Df))), (9, .box [li 0, li 0, li 0, .p (.nils), .p (.nils), .p (.nils), .p (.nils), .p (.nils), lb false]), (10, .box [li g, li (-1), li 2, .lsl 11 3 0 ab.length, .lsl 12 2 0 af.length, .p (.nils), .p (.nils), .p (.nils), lb false]), (11, .row 76 3 (ab.map Aw)), (12, .row 185 2 (af.map A0))], 13⟩) cc (fun af ce => ?_) (fun af cl => ?_)
      .refine AH <| rs AA <| rn 1 Z <| bq ce fun ej aj cf => sx Z (By aj Z Z Z Z <| sx Z (C5 aj Z Z Z <| rl Z <| rs AA <| rn 5 Z <| bq cf fun e8 ak cg => sx Z (By ak Z Z Z Z <| sx Z (C5 ak Z Z Z <| rl Z <| cd Z cg (fun ch => ?_) (fun ck => ?_)))))
       .refine Bu AA mixed [0, 1, 2, 3, 4, 5, 6, 7, 8, 9, 10, 11, 12, 13, 14, 15] 16 (by kernel_rfl) Z Z Z ?_
        exact As 9 Z <| bq ch fun ek al ci => Au Z (Ai Z (By al Z Z Z Z <| Au Z (GV Z (C5 al Z Z Z <| As 2 Z <| bq ci fun e9 bh cj => Au Z (I4 Z (BX (enc := A0) (l := u.2) (m := [(⟨ej.elem, ek⟩ : Ao)]) bh (fun _ => ⟨Z, Z⟩) Z Z Z Z Z Z <| BG Z <| Af <| AL cj (wj hA (gi 12 [(12, 27)]) Z Z Z Z)))))))
       exact AE <| Af <| AL ck (wj hA (gi 13 []) Z Z Z Z)
      exact rg AA <| rl Z <| Ar cl (wj hA (gi 13 []) Z Z Z Z)
     refine AV <| AW <| BI cm fun es cn => Ap <| AC <| rs AA <| rl Z <| AF ?_
     cases cn
     exact CU (nt := 56) (sl := [(8, .lpb 9 0)]) (A8.trans (JB 11 (Mp (enc := Aw) (l := ab) Z) (.cons 8 (.same _) .nil) (.cons 0 Z Z (.same _) (.cons 1 Z Z (.same _) (.cons 2 Z Z (.same _) (.cons 6 Z Z (.same _) (.cons 7 Z Z (.same _) (.cons 8 Z Z (.same _) (.cons 9 Z Z (.box (.cons (.same _) (.cons (.same _) (.cons (.same _) (.cons .hit (.cons (.same _) (.cons (.same _) (.cons (.same _) (.cons (.same _) (.cons (.same _) .nil)))))))))) (.cons 10 Z Z (.box (.cons (.same _) (.cons (.same _) (.cons (.same _) (.cons .hit (.cons (.same _) (.cons (.same _) (.cons (.same _) (.cons (.same _) (.cons (.same _) .nil)))))))))) (.cons 12 Z Z (.same _) .nil)))))))))) (A8.trans (JB 12 (Mp (enc := A0) (l := u.2) Z) (.cons 8 (.same _) .nil) (.cons 0 Z Z (.same _) (.cons 1 Z Z (.same _) (.cons 2 Z Z (.same _) (.cons 6 Z Z (.same _) (.cons 7 Z Z (.same _) (.cons 8 Z Z (.same _) (.cons 9 Z Z (.box (.cons (.same _) (.cons (.same _) (.cons (.same _) (.cons (.same _) (.cons .hit (.cons (.same _) (.cons (.same _) (.cons (.same _) (.cons (.same _) .nil)))))))))) (.cons 10 Z Z (.box (.cons (.same _) (.cons (.same _) (.cons (.same _) (.cons (.same _) (.cons .hit (.cons (.same _) (.cons (.same _) (.cons (.same _) (.cons (.same _) .nil)))))))))) .nil))))))))) (A8.trans (EZ (.cons 8 (.same _) .nil) (.cons 0 Z Z (.same _) (.cons 1 Z Z (.same _) (.cons 2 Z Z (.same _) (.cons 6 Z Z (.same _) (.cons 7 Z Z (.same _) (.cons 8 Z Z (.same _) (.cons 9 Z Z (.box (.cons (.same _) (.cons (.same _) (.cons (.same _) (.cons (.same _) (.cons (.same _) (.cons (.nil 2) (.cons (.same _) (.cons (.same _) (.cons (.same _) .nil)))))))))) (.cons 10 Z Z (.same _) .nil))))))))) (A8.trans (EZ (.cons 8 (.same _) .nil) (.cons 0 Z Z (.same _) (.cons 1 Z Z (.same _) (.cons 2 Z Z (.same _) (.cons 6 Z Z (.same _) (.cons 7 Z Z (.same _) (.cons 8 Z Z (.same _) (.cons 9 Z Z (.box (.cons (.same _) (.cons (.same _) (.cons (.same _) (.cons (.same _) (.cons (.same _) (.cons (.same _) (.cons (.nil 1) (.cons (.same _) (.cons (.same _) .nil)))))))))) (.cons 10 Z Z (.same _) .nil))))))))) (A8.trans (EZ (.cons 8 (.same _) .nil) (.cons 0 Z Z (.same _) (.cons 1 Z Z (.same _) (.cons 2 Z Z (.same _) (.cons 6 Z Z (.same _) (.cons 7 Z Z (.same _) (.cons 8 Z Z (.same _) (.cons 9 Z Z (.box (.cons (.same _) (.cons (.same _) (.cons (.same _) (.cons (.same _) (.cons (.same _) (.cons (.same _) (.cons (.same _) (.cons (.nil 1) (.cons (.same _) .nil)))))))))) (.cons 10 Z Z (.same _) .nil))))))))) (wj hA (gi 10 []) Z Z Z Z)))))) Z
    exact rn 1 Z <| bq co fun fa bi cp => sx Z (BX (enc := BM) (l := d.2.2.1) (m := [(⟨g, (-1), 2, n.1, n.2, ([] : List Ao), ([] : List Int), ([] : List Int), false⟩ : Aj)]) bi (fun _ => ⟨Z, Z⟩) Z Z Z Z Z Z <| rl Z <| AL cp (wf hA [(0, 0), (1, 11), (2, 2), (3, 6), (4, 7), (5, 8)] Z Z Z))
   exact AE <| AL cq (wf hA (gi 3 [(3, 6), (4, 7), (5, 8)]) Z Z Z)
  exact AE <| AL cr (wf hA (gi 6 []) Z Z Z)
 refine AB <| Jb <| AC <| AB <| AH ?_
 apply lp (a := a7) (fun b : ((List Aj) × (List Aa) × (List Int) × (List (List Bf))) => ⟨157, [(0, lq (Aq t)), (1, li g), (7, .lpb 0 0), (8, .lsl 1 9 0 b.1.length), (9, .lpb 2 0)], [(0, .box [li d.1, li d.2.1]), (1, .row 72 9 (b.1.map BM)), (2, .box [li j.1.elem, .lsl 3 3 0 b.2.1.length, .lsl 4 1 0 b.2.2.1.length, .lsl 5 1 0 b.2.2.2.length]), (3, .row 76 3 (b.2.1.map Aw)), (4, .row 3 1 (b.2.2.1.map Ad)), (5, .row 215 1 (b.2.2.2.map (DX 2 Df)))], 6⟩) cs
 . exact wf hA (gi 6 []) Z Z Z
 intro b ez a4
 unfold CA at a4
 refine AB <| rs AA <| rl Z <| cd Z a4 (fun ct => ?_) (fun ec => ?_)
 .refine AE <| AC <| AH <| rs AA <| rl Z <| AB <| rs AA <| rn 5 Z <| bq ct fun fb am cu => sx Z (By am Z Z Z Z <| sx Z (C5 am Z Z Z <| sx Z (Ab Z Z <| rl Z <| cd Z cu (fun cv => ?_) (fun c1 => ?_))))
  .refine rs AA <| rn 1 Z <| sx Z (CR AA (fun s : ((List Aa) × (List Int) × (List (List Bf))) => .tup []) (fun s : ((List Aa) × (List Int) × (List (List Bf))) => [(0, .box [li d.1, li d.2.1]), (1, .row 72 9 (b.1.map BM)), (2, .box [li j.1.elem, .lsl 3 3 0 s.1.length, .lsl 4 1 0 s.2.1.length, .lsl 5 1 0 s.2.2.length]), (3, .row 76 3 (s.1.map Aw)), (4, .row 3 1 (s.2.1.map Ad)), (5, .row 215 1 (s.2.2.map (DX 2 Df)))]) 6 cv Tryz.func149 36 [] [(0, .lpb 2 0)] Z Z Z Z Z Z Z Z (fun A hA s cw => ?_) (fun s c0 => ?_))
   .refine rs AA <| rl Z ?_
    refine Bu AA mixed [0, 1, 2, 3, 4, 5, 6, 7, 8, 9, 10, 11, 12, 13, 14, 15, 16, 17, 18, 19, 20, 21, 22, 23, 24, 25, 26, 27, 28, 29] 30 (by kernel_rfl) Z Z Z ?_
    refine As 8 Z <| bq cw fun fc an cx => Au Z (Ai Z (RC (l := b.2.1) an Z Z Z Z <| As 5 Z <| bq cx fun fd ao cy => Au Z (Ai Z (RC (l := b.2.2.1) ao Z Z Z Z <| As 5 Z <| bq cy fun fe ap cz => Au Z (Ai Z (RC (l := b.2.2.2) ap Z Z Z Z <| BG Z ?_))))))
    cases cz
    exact La (nt := 36) (sl := []) (A8.trans (I7 3 an Z Z) (A8.trans (I7 4 ao Z Z) (A8.trans (I7 5 ap Z Z) (wj hA (gi 6 []) Z Z Z Z)))) Z
   exact rl Z <| AV <| AW <| Ap <| Ar c0 (wf hA (gi 6 []) Z Z Z)
  refine AE <| AC <| rs AA <| rn 5 Z <| bq c1 fun ff aq c2 => sx Z (By aq Z Z Z Z <| sx Z (C5 aq Z Z Z <| bq c2 fun c bj c3 => sx Z (Ac bj Z Z Z <| rl Z <| AB ?_)))
  refine Bu AA mixed [0, 1, 2, 3, 4, 5, 6, 7, 8, 9, 10, 11, 12, 13, 14] 15 (by kernel_rfl) Z Z Z ?_
  refine As 10 Z <| bq c3 fun fg ar c4 => Au Z (Ai Z (By ar Z Z Z Z <| Au Z (GV Z (C5 ar Z Z Z <| bq c4 fun i bk c5 => Au Z (Ai Z (TH bk Z Z Z Z <| bq c5 fun fh au c6 => Au Z (Ai Z (By au Z Z Z Z <| Au Z (MU Z (LY (z := i) au Z Z Z Z Z Z Z Z <| BG Z <| AC <| AB <| bq c6 fun e ai c7 => bq c7 fun fi ae c8 => ?_))))))))))
  refine AB0 AA mixed (.picks [0, 1, 2, 3, 4, 5, 6, 7, 8, 9, 10, 11, 12, 14, 15] (.alt 13 [16, 17, 18] .done (.alt 16 [13, 17, 18] .done .nil))) 19 ⟨157, [(0, lq (Aq t)), (1, li g), (7, .lpb 0 0), (8, .lsl 1 9 0 b.1.length), (9, .lpb 2 0), (10, li (AO ((b.2.1.length : Int) - 1))), (11, .lpb 3 0)], [(0, .box [li d.1, li d.2.1]), (1, .row 72 9 (b.1.map BM)), (2, .box [li j.1.elem, .lsl 4 3 0 (A6 b.2.1 (AO ((b.2.1.length : Int) - 1)) (⟨e.elem, e.in_, c.out⟩ : Aa)).length, .lsl 5 1 0 (A6 b.2.2.1 (AO ((b.2.1.length : Int) - 1)) c.pos).length, .lsl 6 1 0 (A6 b.2.2.2 (AO ((b.2.1.length : Int) - 1)) i).length]), (3, .box [li c.out, li c.pos]), (4, .row 76 3 ((A6 b.2.1 (AO ((b.2.1.length : Int) - 1)) (⟨e.elem, e.in_, c.out⟩ : Aa)).map Aw)), (5, .row 3 1 ((A6 b.2.2.1 (AO ((b.2.1.length : Int) - 1)) c.pos).map Ad)), (6, .row 215 1 ((A6 b.2.2.2 (AO ((b.2.1.length : Int) - 1)) i).map (DX 2 Df)))], 7⟩ (by kernel_rfl) Z ?_ ?_
  .refine ABV <| As 13 Z <| Au Z (Ai Z (By ai Z Z Z Z <| BG Z <| ZU ?_ ?_))
   .exact As 1 Z <| Au Z (MU Z (LY (z := (⟨e.elem, e.in_, c.out⟩ : Aa)) ai Z Z Z Z Z Z Z Z <| Au Z (Ai Z (By ae Z Z Z Z <| Au Z (MU Z (LY (z := c.pos) ae Z Z Z Z Z Z Z Z <| BG Z <| ZV (wk (gi 3 [(3, 6), (4, 3), (5, 4), (6, 5)]) (free hA _) Z Z Z (.cons Z (.cons Z (.cons Z (.cons Z (.cons Z (.cons Z (.cons Z .nil))))))) (.cons Z Z (.cons Z Z (.cons Z (by simp only [BJ]; rfl) (.cons Z Z (.cons Z Z (.cons Z Z (.cons Z Z .nil))))))))))))))
   refine ZU ?_ ?_
   .exact Au Z (MU Z (LY (z := (⟨e.elem, e.in_, c.out⟩ : Aa)) ai Z Z Z Z Z Z Z Z <| As 1 Z <| Au Z (Ai Z (By ae Z Z Z Z <| Au Z (MU Z (LY (z := c.pos) ae Z Z Z Z Z Z Z Z <| BG Z <| ZV (wk (gi 3 [(3, 6), (4, 3), (5, 4), (6, 5)]) (free hA _) Z Z Z (.cons Z (.cons Z (.cons Z (.cons Z (.cons Z (.cons Z (.cons Z .nil))))))) (.cons Z Z (.cons Z Z (.cons Z (by simp only [BJ]; rfl) (.cons Z Z (.cons Z Z (.cons Z Z (.cons Z Z .nil))))))))))))))
   exact ABW
  refine AC <| AB ?_
  refine Bu AA mixed [0, 1, 2, 3, 4, 5, 6, 7, 8, 9, 10, 11, 12] 13 (by kernel_rfl) Z Z Z ?_
  refine As 5 Z <| bq c8 fun x av c9 => Au Z (Ai Z (By av Z Z Z (by simp only [BJ]) <| As 1 Z <| Au Z (GV Z (C5 av Z Z Z <| BG Z <| AC <| AB <| rs AA <| rn 2 Z <| bq c9 fun y bl da => sx Z (AM (GG _ _ _ bl) (.inl Z) Z Z Z <| rl Z <| rs AA <| rl Z <| cd Z da (fun db => ?_) (fun ds => ?_))))))
  .refine rs AA <| rn 4 Z <| sx Z (CR AA (fun o : ((List Aa) × (List Ao)) => .p (.agg [.int .i64 g, .int .i64 y, .int .i64 1, .slice 3 (o.1.map Aw), .slice 2 (o.2.map A0), .slice 2 (([] : List Ao).map A0), .slice 1 (([] : List Int).map Ad), .slice 1 (([] : List Int).map Ad), .bool false])) (fun o : ((List Aa) × (List Ao)) => [(0, .box [li d.1, li d.2.1]), (1, .row 72 9 (b.1.map BM)), (2, .box [li j.1.elem, .lsl 4 3 0 (A6 b.2.1 (AO ((b.2.1.length : Int) - 1)) (⟨e.elem, e.in_, c.out⟩ : Aa)).length, .lsl 5 1 0 (A6 b.2.2.1 (AO ((b.2.1.length : Int) - 1)) c.pos).length, .lsl 6 1 0 (A6 b.2.2.2 (AO ((b.2.1.length : Int) - 1)) i).length]), (3, .box [li c.out, li c.pos]), (4, .row 76 3 ((A6 b.2.1 (AO ((b.2.1.length : Int) - 1)) (⟨e.elem, e.in_, c.out⟩ : Aa)).map Aw)), (5, .row 3 1 ((A6 b.2.2.1 (AO ((b.2.1.length : Int) - 1)) c.pos).map Ad)), (6, .row 215 1 ((A6 b.2.2.2 (AO ((b.2.1.length : Int) - 1)) i).map (DX 2 Df))), (18, .box [li x.elem, li c.out]), (20, .box [li g, li y, li 1, ls 3 Aw o.1, ls 2 A0 o.2, ls 2 A0 ([] : List Ao), ls 1 Ad ([] : List Int), ls 1 Ad ([] : List Int), lb false])]) 21 db Tryz.func148 56 [.cell 8 72] [(0, .lpb 2 0), (1, li g), (2, li y), (3, li 1)] Z Z Z Z Z Z Z Z (fun A hA o dc => ?_) (fun o dq => ?_))
   .refine rs AA <| rl Z <| rs AA <| rn 7 Z <| bq dc fun ac bm dd => sx Z (Na (EJ _ _ bm) (fun _ => Z) Z Z (Dg.eq (.cons (.one (.own (enc := Aw) (A6 b.2.1 (AO ((b.2.1.length : Int) - 1)) (⟨e.elem, e.in_, c.out⟩ : Aa)) Z (by simp only [BJ]))) .nil)) <| rl Z <| AB <| rs AA <| rl Z <| AH ?_)
    apply lp (a := o) (fun v : (Int × (List Ao)) => ⟨56, [(0, .lpb 2 0), (8, .lpb 20 0), (9, .lpb 21 0), (24, .lsl 4 3 0 (A6 b.2.1 (AO ((b.2.1.length : Int) - 1)) (⟨e.elem, e.in_, c.out⟩ : Aa)).length), (25, li ((A6 b.2.1 (AO ((b.2.1.length : Int) - 1)) (⟨e.elem, e.in_, c.out⟩ : Aa)).length : Int)), (26, li v.1)], [(0, .box [li d.1, li d.2.1]), (1, .row 72 9 (b.1.map BM)), (2, .box [li j.1.elem, .lsl 4 3 0 (A6 b.2.1 (AO ((b.2.1.length : Int) - 1)) (⟨e.elem, e.in_, c.out⟩ : Aa)).length, .lsl 5 1 0 (A6 b.2.2.1 (AO ((b.2.1.length : Int) - 1)) c.pos).length, .lsl 6 1 0 (A6 b.2.2.2 (AO ((b.2.1.length : Int) - 1)) i).length]), (3, .box [li c.out, li c.pos]), (4, .row 76 3 ((A6 b.2.1 (AO ((b.2.1.length : Int) - 1)) (⟨e.elem, e.in_, c.out⟩ : Aa)).map Aw)), (5, .row 3 1 ((A6 b.2.2.1 (AO ((b.2.1.length : Int) - 1)) c.pos).map Ad)), (6, .row 215 1 ((A6 b.2.2.2 (AO ((b.2.1.length : Int) - 1)) i).map (DX 2 Df))), (18, .box [li x.elem, li c.out]), (20, .box [li 0, li 0, li 0, .p (.nils), .p (.nils), .p (.nils), .p (.nils), .p (.nils), lb false]), (21, .box [li g, li y, li 1, .lsl 22 3 0 ac.length, .lsl 23 2 0 v.2.length, .p (.nils), .p (.nils), .p (.nils), lb false]), (22, .row 76 3 (ac.map Aw)), (23, .row 185 2 (v.2.map A0))], 24⟩) dd
    . exact A8.trans (CM 22 4 185 2 Z Z Z Z) (wk (gi 21 [(21, 22), (22, 21), (23, 23)]) (J9 hA _ Z) Z Z Z (.cons Z (.cons Z (.cons Z (.cons (by simp only [BJ]; rfl) (.cons Z (.cons Z .nil)))))) (.cons Z Z (.cons Z Z (.cons Z (by simp only [BJ]; rfl) (.cons Z Z (.cons Z Z (.cons Z Z (.cons Z Z (.cons Z Z (.cons Z Z (.cons Z Z (.cons Z Z (.cons Z Z .nil)))))))))))))
    intro v e0 a5
    unfold LC at a5
    refine rs AA <| rl Z <| AB <| cd Z a5 (fun de => ?_) (fun dn => ?_)
    .refine AE <| AC <| jb (fun ag : (List Ao) => ⟨56, [(0, .lpb 2 0), (8, .lpb 20 0), (9, .lpb 21 0), (24, .lsl 4 3 0 (A6 b.2.1 (AO ((b.2.1.length : Int) - 1)) (⟨e.elem, e.in_, c.out⟩ : Aa)).length), (25, li ((A6 b.2.1 (AO ((b.2.1.length : Int) - 1)) (⟨e.elem, e.in_, c.out⟩ : Aa)).length : Int)), (26, li v.1)], [(0, .box [li d.1, li d.2.1]), (1, .row 72 9 (b.1.map BM)), (2, .box [li j.1.elem, .lsl 4 3 0 (A6 b.2.1 (AO ((b.2.1.length : Int) - 1)) (⟨e.elem, e.in_, c.out⟩ : Aa)).length, .lsl 5 1 0 (A6 b.2.2.1 (AO ((b.2.1.length : Int) - 1)) c.pos).length, .lsl 6 1 0 (A6 b.2.2.2 (AO ((b.2.1.length : Int) - 1)) i).length]), (3, .box [li c.out, li c.pos]), (4, .row 76 3 ((A6 b.2.1 (AO ((b.2.1.length : Int) - 1)) (⟨e.elem, e.in_, c.out⟩ : Aa)).map Aw)), (5, .row 3 1 ((A6 b.2.2.1 (AO ((b.2.1.length : Int) - 1)) c.pos).map Ad)), (6, .row 215 1 ((A6 b.2.2.2 (AO ((b.2.1.length : Int) - 1)) i).map (DX 2 Df))), (18, .box [li x.elem, li c.out]), (20, .box [li 0, li 0, li 0, .p (.nils), .p (.nils), .p (.nils), .p (.nils), .p (.nils), lb false]), (21, .box [li g, li y, li 1, .lsl 22 3 0 ac.length, .lsl 23 2 0 ag.length, .p (.nils), .p (.nils), .p (.nils), lb false]), (22, .row 76 3 (ac.map Aw)), (23, .row 185 2 (ag.map A0))], 24⟩) de (fun ag df => ?_) (fun ag dm => ?_)
     .refine AH <| rs AA <| rn 1 Z <| bq df fun el aw dg => sx Z (By aw Z Z Z (by simp only [BJ]) <| sx Z (C5 aw Z Z Z <| rl Z <| rs AA <| rn 5 Z <| bq dg fun fj ax dh => sx Z (By ax Z Z Z (by simp only [BJ]) <| sx Z (C5 ax Z Z Z <| rl Z <| cd Z dh (fun di => ?_) (fun dl => ?_)))))
      .refine Bu AA mixed [0, 1, 2, 3, 4, 5, 6, 7, 8, 9, 10, 11, 12, 13, 14, 15] 16 (by kernel_rfl) Z Z Z ?_
       exact As 9 Z <| bq di fun em ay dj => Au Z (Ai Z (By ay Z Z Z (by simp only [BJ]) <| Au Z (GV Z (C5 ay Z Z Z <| As 2 Z <| bq dj fun fk bn dk => Au Z (I4 Z (BX (enc := A0) (l := v.2) (m := [(⟨el.elem, em⟩ : Ao)]) bn (fun _ => ⟨Z, Z⟩) Z Z Z Z Z Z <| BG Z <| Af <| AL dk (wk (gi 23 [(23, 38)]) (J9 hA _ Z) Z Z Z (.cons Z (.cons Z (.cons Z (.cons (by simp only [BJ]; rfl) (.cons Z (.cons Z .nil)))))) (.cons Z Z (.cons Z Z (.cons Z (by simp only [BJ]; rfl) (.cons Z Z (.cons Z Z (.cons Z Z (.cons Z Z (.cons Z Z (.cons Z Z (.cons Z Z (.cons Z Z (.cons Z Z .nil)))))))))))))))))))
      exact AE <| Af <| AL dl (wk (gi 24 []) (J9 hA _ Z) Z Z Z (.cons Z (.cons Z (.cons Z (.cons (by simp only [BJ]; rfl) (.cons Z (.cons Z .nil)))))) (.cons Z Z (.cons Z Z (.cons Z (by simp only [BJ]; rfl) (.cons Z Z (.cons Z Z (.cons Z Z (.cons Z Z (.cons Z Z (.cons Z Z (.cons Z Z (.cons Z Z (.cons Z Z .nil)))))))))))))
     exact rg AA <| rl Z <| Ar dm (wk (gi 24 []) (J9 hA _ Z) Z Z Z (.cons Z (.cons Z (.cons Z (.cons (by simp only [BJ]; rfl) (.cons Z (.cons Z .nil)))))) (.cons Z Z (.cons Z Z (.cons Z (by simp only [BJ]; rfl) (.cons Z Z (.cons Z Z (.cons Z Z (.cons Z Z (.cons Z Z (.cons Z Z (.cons Z Z (.cons Z Z (.cons Z Z .nil)))))))))))))
    refine AV <| AW <| BI dn fun et dp => Ap <| AC <| rs AA <| rl Z <| AF ?_
    cases dp
    exact CU (nt := 56) (sl := [(8, .lpb 20 0)]) (A8.trans (JB 22 (Mp (enc := Aw) (l := ac) Z) (.cons 8 (.same _) .nil) (.cons 0 Z Z (.same _) (.cons 1 Z Z (.same _) (.cons 2 Z Z (.same _) (.cons 3 Z Z (.same _) (.cons 4 Z Z (.same _) (.cons 5 Z Z (.same _) (.cons 6 Z Z (.same _) (.cons 18 Z Z (.same _) (.cons 20 Z Z (.box (.cons (.same _) (.cons (.same _) (.cons (.same _) (.cons .hit (.cons (.same _) (.cons (.same _) (.cons (.same _) (.cons (.same _) (.cons (.same _) .nil)))))))))) (.cons 21 Z Z (.box (.cons (.same _) (.cons (.same _) (.cons (.same _) (.cons .hit (.cons (.same _) (.cons (.same _) (.cons (.same _) (.cons (.same _) (.cons (.same _) .nil)))))))))) (.cons 23 Z Z (.same _) .nil)))))))))))) (A8.trans (JB 23 (Mp (enc := A0) (l := v.2) Z) (.cons 8 (.same _) .nil) (.cons 0 Z Z (.same _) (.cons 1 Z Z (.same _) (.cons 2 Z Z (.same _) (.cons 3 Z Z (.same _) (.cons 4 Z Z (.same _) (.cons 5 Z Z (.same _) (.cons 6 Z Z (.same _) (.cons 18 Z Z (.same _) (.cons 20 Z Z (.box (.cons (.same _) (.cons (.same _) (.cons (.same _) (.cons (.same _) (.cons .hit (.cons (.same _) (.cons (.same _) (.cons (.same _) (.cons (.same _) .nil)))))))))) (.cons 21 Z Z (.box (.cons (.same _) (.cons (.same _) (.cons (.same _) (.cons (.same _) (.cons .hit (.cons (.same _) (.cons (.same _) (.cons (.same _) (.cons (.same _) .nil)))))))))) .nil))))))))))) (A8.trans (EZ (.cons 8 (.same _) .nil) (.cons 0 Z Z (.same _) (.cons 1 Z Z (.same _) (.cons 2 Z Z (.same _) (.cons 3 Z Z (.same _) (.cons 4 Z Z (.same _) (.cons 5 Z Z (.same _) (.cons 6 Z Z (.same _) (.cons 18 Z Z (.same _) (.cons 20 Z Z (.box (.cons (.same _) (.cons (.same _) (.cons (.same _) (.cons (.same _) (.cons (.same _) (.cons (.nil 2) (.cons (.same _) (.cons (.same _) (.cons (.same _) .nil)))))))))) (.cons 21 Z Z (.same _) .nil))))))))))) (A8.trans (EZ (.cons 8 (.same _) .nil) (.cons 0 Z Z (.same _) (.cons 1 Z Z (.same _) (.cons 2 Z Z (.same _) (.cons 3 Z Z (.same _) (.cons 4 Z Z (.same _) (.cons 5 Z Z (.same _) (.cons 6 Z Z (.same _) (.cons 18 Z Z (.same _) (.cons 20 Z Z (.box (.cons (.same _) (.cons (.same _) (.cons (.same _) (.cons (.same _) (.cons (.same _) (.cons (.same _) (.cons (.nil 1) (.cons (.same _) (.cons (.same _) .nil)))))))))) (.cons 21 Z Z (.same _) .nil))))))))))) (A8.trans (EZ (.cons 8 (.same _) .nil) (.cons 0 Z Z (.same _) (.cons 1 Z Z (.same _) (.cons 2 Z Z (.same _) (.cons 3 Z Z (.same _) (.cons 4 Z Z (.same _) (.cons 5 Z Z (.same _) (.cons 6 Z Z (.same _) (.cons 18 Z Z (.same _) (.cons 20 Z Z (.box (.cons (.same _) (.cons (.same _) (.cons (.same _) (.cons (.same _) (.cons (.same _) (.cons (.same _) (.cons (.same _) (.cons (.nil 1) (.cons (.same _) .nil)))))))))) (.cons 21 Z Z (.same _) .nil))))))))))) (wk (gi 21 []) (J9 hA _ Z) Z Z Z (.cons Z .nil) (.cons Z Z (.cons Z Z (.cons Z (by simp only [BJ]; rfl) (.cons Z Z (.cons Z Z (.cons Z Z (.cons Z Z (.cons Z Z (.cons Z Z .nil))))))))))))))) Z
   exact rn 1 Z <| bq dq fun fl bo dr => sx Z (BX (enc := BM) (l := b.1) (m := [(⟨g, y, 1, o.1, o.2, ([] : List Ao), ([] : List Int), ([] : List Int), false⟩ : Aj)]) bo (fun _ => ⟨Z, Z⟩) Z Z Z Z Z Z <| rl Z <| AV <| AW <| Ap <| Ar dr (wk [(0, 0), (1, 22), (2, 2), (3, 4), (4, 5), (5, 6)] (free hA _) Z Z Z (.cons Z (.cons Z (.cons Z (.cons Z (.cons Z .nil))))) (.cons Z Z (.cons Z Z (.cons Z (by simp only [BJ]; rfl) (.cons Z Z (.cons Z Z (.cons Z Z .nil))))))))
  refine AE <| AC <| rs AA <| rn 2 Z <| bq ds fun aa bp dt => sx Z (AM (CC _ _ _ bp) (.inl Z) Z Z Z <| rl Z <| AB <| rs AA <| rl Z <| cd Z dt (fun du => ?_) (fun ea => ?_))
  .refine rs AA <| rn 3 Z <| sx Z (CR AA (fun q : ((List Aa) × (List Ao)) => .p (.agg [.int .i64 g, .int .i64 (-1), .int .i64 3, .slice 3 (q.1.map Aw), .slice 2 (q.2.map A0), .slice 2 (([] : List Ao).map A0), .slice 1 (([] : List Int).map Ad), .slice 1 (([] : List Int).map Ad), .bool false])) (fun q : ((List Aa) × (List Ao)) => [(0, .box [li d.1, li d.2.1]), (1, .row 72 9 (b.1.map BM)), (2, .box [li j.1.elem, .lsl 4 3 0 (A6 b.2.1 (AO ((b.2.1.length : Int) - 1)) (⟨e.elem, e.in_, c.out⟩ : Aa)).length, .lsl 5 1 0 (A6 b.2.2.1 (AO ((b.2.1.length : Int) - 1)) c.pos).length, .lsl 6 1 0 (A6 b.2.2.2 (AO ((b.2.1.length : Int) - 1)) i).length]), (3, .box [li c.out, li c.pos]), (4, .row 76 3 ((A6 b.2.1 (AO ((b.2.1.length : Int) - 1)) (⟨e.elem, e.in_, c.out⟩ : Aa)).map Aw)), (5, .row 3 1 ((A6 b.2.2.1 (AO ((b.2.1.length : Int) - 1)) c.pos).map Ad)), (6, .row 215 1 ((A6 b.2.2.2 (AO ((b.2.1.length : Int) - 1)) i).map (DX 2 Df))), (18, .box [li x.elem, li c.out]), (20, .box [li aa.1.elem, li aa.1.fin]), (21, .box [li g, li (-1), li 3, ls 3 Aw q.1, ls 2 A0 q.2, ls 2 A0 ([] : List Ao), ls 1 Ad ([] : List Int), ls 1 Ad ([] : List Int), lb false])]) 22 du Tryz.func148 56 [.cell 8 72] [(0, .lpb 2 0), (1, li g), (2, li (-1)), (3, li 3)] Z Z Z Z Z Z Z Z (fun A hA q dv => ?_) (fun q d8 => ?_))
   .refine rs AA <| rl Z <| rs AA <| rn 7 Z <| bq dv fun ad br dw => sx Z (Na (EJ _ _ br) (fun _ => Z) Z Z (Dg.eq (.cons (.one (.own (enc := Aw) (A6 b.2.1 (AO ((b.2.1.length : Int) - 1)) (⟨e.elem, e.in_, c.out⟩ : Aa)) Z (by simp only [BJ]))) .nil)) <| rl Z <| AB <| rs AA <| rl Z <| AH ?_)
    apply lp (a := q) (fun w : (Int × (List Ao)) => ⟨56, [(0, .lpb 2 0), (8, .lpb 21 0), (9, .lpb 22 0), (24, .lsl 4 3 0 (A6 b.2.1 (AO ((b.2.1.length : Int) - 1)) (⟨e.elem, e.in_, c.out⟩ : Aa)).length), (25, li ((A6 b.2.1 (AO ((b.2.1.length : Int) - 1)) (⟨e.elem, e.in_, c.out⟩ : Aa)).length : Int)), (26, li w.1)], [(0, .box [li d.1, li d.2.1]), (1, .row 72 9 (b.1.map BM)), (2, .box [li j.1.elem, .lsl 4 3 0 (A6 b.2.1 (AO ((b.2.1.length : Int) - 1)) (⟨e.elem, e.in_, c.out⟩ : Aa)).length, .lsl 5 1 0 (A6 b.2.2.1 (AO ((b.2.1.length : Int) - 1)) c.pos).length, .lsl 6 1 0 (A6 b.2.2.2 (AO ((b.2.1.length : Int) - 1)) i).length]), (3, .box [li c.out, li c.pos]), (4, .row 76 3 ((A6 b.2.1 (AO ((b.2.1.length : Int) - 1)) (⟨e.elem, e.in_, c.out⟩ : Aa)).map Aw)), (5, .row 3 1 ((A6 b.2.2.1 (AO ((b.2.1.length : Int) - 1)) c.pos).map Ad)), (6, .row 215 1 ((A6 b.2.2.2 (AO ((b.2.1.length : Int) - 1)) i).map (DX 2 Df))), (18, .box [li x.elem, li c.out]), (20, .box [li aa.1.elem, li aa.1.fin]), (21, .box [li 0, li 0, li 0, .p (.nils), .p (.nils), .p (.nils), .p (.nils), .p (.nils), lb false]), (22, .box [li g, li (-1), li 3, .lsl 23 3 0 ad.length, .lsl 24 2 0 w.2.length, .p (.nils), .p (.nils), .p (.nils), lb false]), (23, .row 76 3 (ad.map Aw)), (24, .row 185 2 (w.2.map A0))], 25⟩) dw
    . exact A8.trans (CM 23 4 185 2 Z Z Z Z) (wk (gi 22 [(22, 23), (23, 22), (24, 24)]) (J9 hA _ Z) Z Z Z (.cons Z (.cons Z (.cons Z (.cons (by simp only [BJ]; rfl) (.cons Z (.cons Z .nil)))))) (.cons Z Z (.cons Z Z (.cons Z (by simp only [BJ]; rfl) (.cons Z Z (.cons Z Z (.cons Z Z (.cons Z Z (.cons Z Z (.cons Z Z (.cons Z Z (.cons Z Z (.cons Z Z (.cons Z Z .nil))))))))))))))
    intro w e1 a6
    unfold LD at a6
    refine rs AA <| rl Z <| AB <| cd Z a6 (fun dx => ?_) (fun d6 => ?_)
    .refine AE <| AC <| jb (fun ah : (List Ao) => ⟨56, [(0, .lpb 2 0), (8, .lpb 21 0), (9, .lpb 22 0), (24, .lsl 4 3 0 (A6 b.2.1 (AO ((b.2.1.length : Int) - 1)) (⟨e.elem, e.in_, c.out⟩ : Aa)).length), (25, li ((A6 b.2.1 (AO ((b.2.1.length : Int) - 1)) (⟨e.elem, e.in_, c.out⟩ : Aa)).length : Int)), (26, li w.1)], [(0, .box [li d.1, li d.2.1]), (1, .row 72 9 (b.1.map BM)), (2, .box [li j.1.elem, .lsl 4 3 0 (A6 b.2.1 (AO ((b.2.1.length : Int) - 1)) (⟨e.elem, e.in_, c.out⟩ : Aa)).length, .lsl 5 1 0 (A6 b.2.2.1 (AO ((b.2.1.length : Int) - 1)) c.pos).length, .lsl 6 1 0 (A6 b.2.2.2 (AO ((b.2.1.length : Int) - 1)) i).length]), (3, .box [li c.out, li c.pos]), (4, .row 76 3 ((A6 b.2.1 (AO ((b.2.1.length : Int) - 1)) (⟨e.elem, e.in_, c.out⟩ : Aa)).map Aw)), (5, .row 3 1 ((A6 b.2.2.1 (AO ((b.2.1.length : Int) - 1)) c.pos).map Ad)), (6, .row 215 1 ((A6 b.2.2.2 (AO ((b.2.1.length : Int) - 1)) i).map (DX 2 Df))), (18, .box [li x.elem, li c.out]), (20, .box [li aa.1.elem, li aa.1.fin]), (21, .box [li 0, li 0, li 0, .p (.nils), .p (.nils), .p (.nils), .p (.nils), .p (.nils), lb false]), (22, .box [li g, li (-1), li 3, .lsl 23 3 0 ad.length, .lsl 24 2 0 ah.length, .p (.nils), .p (.nils), .p (.nils), lb false]), (23, .row 76 3 (ad.map Aw)), (24, .row 185 2 (ah.map A0))], 25⟩) dx (fun ah dy => ?_) (fun ah d5 => ?_)
     .refine AH <| rs AA <| rn 1 Z <| bq dy fun eo az dz => sx Z (By az Z Z Z (by simp only [BJ]) <| sx Z (C5 az Z Z Z <| rl Z <| rs AA <| rn 5 Z <| bq dz fun fm a0 d0 => sx Z (By a0 Z Z Z (by simp only [BJ]) <| sx Z (C5 a0 Z Z Z <| rl Z <| cd Z d0 (fun d1 => ?_) (fun d4 => ?_)))))
      .refine Bu AA mixed [0, 1, 2, 3, 4, 5, 6, 7, 8, 9, 10, 11, 12, 13, 14, 15] 16 (by kernel_rfl) Z Z Z ?_
       exact As 9 Z <| bq d1 fun ep a1 d2 => Au Z (Ai Z (By a1 Z Z Z (by simp only [BJ]) <| Au Z (GV Z (C5 a1 Z Z Z <| As 2 Z <| bq d2 fun fo bs d3 => Au Z (I4 Z (BX (enc := A0) (l := w.2) (m := [(⟨eo.elem, ep⟩ : Ao)]) bs (fun _ => ⟨Z, Z⟩) Z Z Z Z Z Z <| BG Z <| Af <| AL d3 (wk (gi 24 [(24, 39)]) (J9 hA _ Z) Z Z Z (.cons Z (.cons Z (.cons Z (.cons (by simp only [BJ]; rfl) (.cons Z (.cons Z .nil)))))) (.cons Z Z (.cons Z Z (.cons Z (by simp only [BJ]; rfl) (.cons Z Z (.cons Z Z (.cons Z Z (.cons Z Z (.cons Z Z (.cons Z Z (.cons Z Z (.cons Z Z (.cons Z Z (.cons Z Z .nil))))))))))))))))))))
      exact AE <| Af <| AL d4 (wk (gi 25 []) (J9 hA _ Z) Z Z Z (.cons Z (.cons Z (.cons Z (.cons (by simp only [BJ]; rfl) (.cons Z (.cons Z .nil)))))) (.cons Z Z (.cons Z Z (.cons Z (by simp only [BJ]; rfl) (.cons Z Z (.cons Z Z (.cons Z Z (.cons Z Z (.cons Z Z (.cons Z Z (.cons Z Z (.cons Z Z (.cons Z Z (.cons Z Z .nil))))))))))))))
     exact rg AA <| rl Z <| Ar d5 (wk (gi 25 []) (J9 hA _ Z) Z Z Z (.cons Z (.cons Z (.cons Z (.cons (by simp only [BJ]; rfl) (.cons Z (.cons Z .nil)))))) (.cons Z Z (.cons Z Z (.cons Z (by simp only [BJ]; rfl) (.cons Z Z (.cons Z Z (.cons Z Z (.cons Z Z (.cons Z Z (.cons Z Z (.cons Z Z (.cons Z Z (.cons Z Z (.cons Z Z .nil))))))))))))))
    refine AV <| AW <| BI d6 fun eu d7 => Ap <| AC <| rs AA <| rl Z <| AF ?_
    cases d7
    exact CU (nt := 56) (sl := [(8, .lpb 21 0)]) (A8.trans (JB 23 (Mp (enc := Aw) (l := ad) Z) (.cons 8 (.same _) .nil) (.cons 0 Z Z (.same _) (.cons 1 Z Z (.same _) (.cons 2 Z Z (.same _) (.cons 3 Z Z (.same _) (.cons 4 Z Z (.same _) (.cons 5 Z Z (.same _) (.cons 6 Z Z (.same _) (.cons 18 Z Z (.same _) (.cons 20 Z Z (.same _) (.cons 21 Z Z (.box (.cons (.same _) (.cons (.same _) (.cons (.same _) (.cons .hit (.cons (.same _) (.cons (.same _) (.cons (.same _) (.cons (.same _) (.cons (.same _) .nil)))))))))) (.cons 22 Z Z (.box (.cons (.same _) (.cons (.same _) (.cons (.same _) (.cons .hit (.cons (.same _) (.cons (.same _) (.cons (.same _) (.cons (.same _) (.cons (.same _) .nil)))))))))) (.cons 24 Z Z (.same _) .nil))))))))))))) (A8.trans (JB 24 (Mp (enc := A0) (l := w.2) Z) (.cons 8 (.same _) .nil) (.cons 0 Z Z (.same _) (.cons 1 Z Z (.same _) (.cons 2 Z Z (.same _) (.cons 3 Z Z (.same _) (.cons 4 Z Z (.same _) (.cons 5 Z Z (.same _) (.cons 6 Z Z (.same _) (.cons 18 Z Z (.same _) (.cons 20 Z Z (.same _) (.cons 21 Z Z (.box (.cons (.same _) (.cons (.same _) (.cons (.same _) (.cons (.same _) (.cons .hit (.cons (.same _) (.cons (.same _) (.cons (.same _) (.cons (.same _) .nil)))))))))) (.cons 22 Z Z (.box (.cons (.same _) (.cons (.same _) (.cons (.same _) (.cons (.same _) (.cons .hit (.cons (.same _) (.cons (.same _) (.cons (.same _) (.cons (.same _) .nil)))))))))) .nil)))))))))))) (A8.trans (EZ (.cons 8 (.same _) .nil) (.cons 0 Z Z (.same _) (.cons 1 Z Z (.same _) (.cons 2 Z Z (.same _) (.cons 3 Z Z (.same _) (.cons 4 Z Z (.same _) (.cons 5 Z Z (.same _) (.cons 6 Z Z (.same _) (.cons 18 Z Z (.same _) (.cons 20 Z Z (.same _) (.cons 21 Z Z (.box (.cons (.same _) (.cons (.same _) (.cons (.same _) (.cons (.same _) (.cons (.same _) (.cons (.nil 2) (.cons (.same _) (.cons (.same _) (.cons (.same _) .nil)))))))))) (.cons 22 Z Z (.same _) .nil)))))))))))) (A8.trans (EZ (.cons 8 (.same _) .nil) (.cons 0 Z Z (.same _) (.cons 1 Z Z (.same _) (.cons 2 Z Z (.same _) (.cons 3 Z Z (.same _) (.cons 4 Z Z (.same _) (.cons 5 Z Z (.same _) (.cons 6 Z Z (.same _) (.cons 18 Z Z (.same _) (.cons 20 Z Z (.same _) (.cons 21 Z Z (.box (.cons (.same _) (.cons (.same _) (.cons (.same _) (.cons (.same _) (.cons (.same _) (.cons (.same _) (.cons (.nil 1) (.cons (.same _) (.cons (.same _) .nil)))))))))) (.cons 22 Z Z (.same _) .nil)))))))))))) (A8.trans (EZ (.cons 8 (.same _) .nil) (.cons 0 Z Z (.same _) (.cons 1 Z Z (.same _) (.cons 2 Z Z (.same _) (.cons 3 Z Z (.same _) (.cons 4 Z Z (.same _) (.cons 5 Z Z (.same _) (.cons 6 Z Z (.same _) (.cons 18 Z Z (.same _) (.cons 20 Z Z (.same _) (.cons 21 Z Z (.box (.cons (.same _) (.cons (.same _) (.cons (.same _) (.cons (.same _) (.cons (.same _) (.cons (.same _) (.cons (.same _) (.cons (.nil 1) (.cons (.same _) .nil)))))))))) (.cons 22 Z Z (.same _) .nil)))))))))))) (wk (gi 22 []) (J9 hA _ Z) Z Z Z (.cons Z .nil) (.cons Z Z (.cons Z Z (.cons Z (by simp only [BJ]; rfl) (.cons Z Z (.cons Z Z (.cons Z Z (.cons Z Z (.cons Z Z (.cons Z Z (.cons Z Z .nil)))))))))))))))) Z
   exact rn 1 Z <| bq d8 fun fp bt d9 => sx Z (BX (enc := BM) (l := b.1) (m := [(⟨g, (-1), 3, q.1, q.2, ([] : List Ao), ([] : List Int), ([] : List Int), false⟩ : Aj)]) bt (fun _ => ⟨Z, Z⟩) Z Z Z Z Z Z <| rl Z <| AV <| AW <| Ap <| Ar d9 (wk [(0, 0), (1, 23), (2, 2), (3, 4), (4, 5), (5, 6)] (free hA _) Z Z Z (.cons Z (.cons Z (.cons Z (.cons Z (.cons Z .nil))))) (.cons Z Z (.cons Z Z (.cons Z (by simp only [BJ]; rfl) (.cons Z Z (.cons Z Z (.cons Z Z .nil))))))))
  exact AE <| AC <| rs AA <| rl Z <| AV <| LU Z <| BI ea fun ev eb => LU Z <| AW <| AAX <| Ap <| Ar eb (wk (gi 3 [(3, 4), (4, 5), (5, 6)]) (free hA _) Z Z Z (.cons Z (.cons Z (.cons Z (.cons Z (.cons Z .nil))))) (.cons Z Z (.cons Z Z (.cons Z (by simp only [BJ]; rfl) (.cons Z Z (.cons Z Z (.cons Z Z .nil)))))))
 refine AV <| AW <| BI ec fun ew ed => Ap <| AC <| AV <| AAX <| LU Z <| BI ed fun ex ee => Ap <| AC <| rs AA <| rl Z <| AF <| IK ?_
 cases ee
 exact er (IJ Z (.one (.own (enc := BM) b.1 Z Z))) Le.rfl
end Go.E
/- Plain functions, and walks in step with them. Written by a program (gen.py). No condition. -/
set_option maxRecDepth 100000
set_option maxHeartbeats 1000000
namespace Go.E
open Go Go.RowKit Go.Proofs
noncomputable def EP (b : Ay) (e : Int) (a : Int × (List Aj)) : Option ((Int × (List Aj)) ⊕ ((List Aj) × Int)) :=
 bif decide (a.1 < e) then (J0 b a.1).bind fun c => (Bt a.2 c).bind fun d => some (.inl (AO (a.1 + 1), d)) else (bif decide (64 < (a.2.length : Int)) then some (([] : List Aj), 3) else some (a.2, 0)).map .inr
noncomputable def Ig (a : Ay) : Option ((List Aj) × Int) :=
 (Dj a).bind fun b => AT (EP a b) (0, ([] : List Aj))
theorem Wt (c : Ay) (r : ((List Aj) × Int)) (h : Ig c = some r) : Yz Tryz.prog 81 [] 0 [lq (Aq c)] (.tup [.lsl 0 9 0 r.1.length, li r.2]) [(0, .row 72 9 (r.1.map BM))] 1 := by
 refine fnM AA Tryz.func81 21 [.tmp 2, .tmp 3] [(0, lq (Aq c))] Z Z Z Z Z Z (fun A hA => ?_)
 unfold Ig at h
 refine rs AA <| rl Z <| rs AA <| rl Z <| AB <| rs AA <| rn 1 Z <| bq h fun u g s => sx Z (AM (Pq _ _ g) (.inl Z) Z Z Z <| rl Z <| AH ?_)
 apply lp (a := r) (fun b : (Int × (List Aj)) => ⟨21, [(0, lq (Aq c)), (4, .lsl 0 9 0 b.2.length), (7, li u), (8, li b.1)], [(0, .row 72 9 (b.2.map BM))], 1⟩) s
 . exact A8.trans (Cf 4 72 9 Z) (wj hA [(0, 0)] Z Z Z Z)
 intro b w d
 unfold EP at d
 refine rs AA <| rl Z <| AB <| cd Z d (fun i => ?_) (fun n => ?_)
 .exact AE <| AC <| AB <| AH <| rs AA <| rl Z <| rg AA <| rn 3 Z <| bq i fun t e j => sx Z (AM (Xw _ _ _ e) (.inr Z) Z Z Z <| bq j fun x f k => sx Z (BX (enc := BM) (l := b.2) (m := t) f (fun _ => ⟨Z, Z⟩) Z Z Z Z Z Z <| rl Z <| Af <| AC <| rg AA <| rl Z <| Ar k (wj hA [(0, 1)] Z Z Z Z)))
 refine AV <| AW <| CO n fun v o => Ap <| AC <| AB <| rs AA <| rl Z <| cd Z o (fun p => ?_) (fun q => ?_)
 .refine rs AA <| rl Z <| AF <| AG ?_
  cases p
  exact CU (nt := 21) (sl := [(2, .lsl 0 9 0 ([] : List Aj).length), (3, li 3)]) (A8.trans (Cf 2 72 9 Z) (wj hA [(0, 1)] Z Z Z Z)) Z
 refine AE <| AC <| rs AA <| rl Z <| AF ?_
 cases q
 exact CU (nt := 21) (sl := [(2, .lsl 0 9 0 b.2.length), (3, li 0)]) (wj hA [(0, 0)] Z Z Z Z) Z
noncomputable def DM (a : (List Ao)) : Option (List Ao) :=
 L0 a (some []) ((Bt ([] : List Ao) a).bind fun b => some b)
theorem MC (a : (List Ao)) (r : (List Ao)) (h : DM a = some r) : Ax Tryz.prog 114 [.slice 2 (a.map A0)] (· = .slice 2 (r.map A0)) := by
 refine fn AA Tryz.func114 Z Z 8 Z [.tmp 2] Z [(0, .p (.slice 2 (a.map A0)))] Z Z fun A hA => ?_
 unfold DM at h
 refine rs AA <| rl Z <| AB <| rs AA <| rn 1 Z <| sx Z (Jo h Z Z Z (fun d => ?_) (fun e => ?_))
 .refine rl Z <| Qy Z <| rs AA <| rl Z <| AF <| AG ?_
  cases d
  exact er Z (Le.nil _)
 refine rl Z <| SM Z <| AE <| AC <| rs AA <| rn 2 Z <| bq e fun f b c => sx Z (BX (enc := A0) (l := ([] : List Ao)) (m := a) b (fun _ => ⟨Z, Z⟩) Z Z Z Z Z Z <| rl Z <| AF ?_)
 have hr := Option.some.inj c; subst hr
 exact er (IJ Z (.one (.own (enc := A0) f Z Z))) Le.rfl
noncomputable def Bv (a : Ay) : Option AK :=
 (HD a.p).bind fun b => some b
theorem Gy (a : Ay) (r : AK) (h : Bv a = some r) : Ax Tryz.prog 49 [.place (Aq a) 0] (· = .agg (AS r)) := by
 refine fn AA Tryz.func49 Z Z 8 Z [.cell 2 27] Z [(0, .p (.place (Aq a) 0))] Z Z fun A hA => ?_
 unfold Bv at h
 refine rs AA <| rl Z <| rs AA <| rn 4 Z <| bq h fun d b c => sx Z (AM (RL _ _ b) (.inr Z) Z Z Z <| rl Z <| AF ?_)
 have hr := Option.some.inj c; subst hr
 exact er Z Le.rfl
noncomputable def Ea (g : Ay) (e : (Int × (List AI))) (c : Aa) (b : (List Int)) (a : Int × (List AI)) : Option ((Int × (List AI)) ⊕ ((Int × (List AI)) ⊕ (List AI))) :=
 bif decide (a.1 < (b.length : Int)) then (((AX b a.1).bind fun d => (Bb g (⟨c.elem, d⟩ : AI)).bind fun h => bif h.2 then (Bt a.2 [(⟨c.elem, d⟩ : AI)]).bind fun i => some i else some a.2 : Option ((List AI)))).bind fun (f : (List AI)) => some (.inl (AO (a.1 + 1), f)) else some (.inr (.inl (AO (e.1 + 1), a.2)))
noncomputable def GJ (c : Ay) (d : Aj) (b : Int × (List AI)) : Option ((Int × (List AI)) ⊕ (List AI)) :=
 bif decide (b.1 < (d.steps.length : Int)) then (AX d.steps b.1).bind fun a => (((BS c a.elem).bind fun e => bif (e == 2) then some [AO (3 - (if a.out > a.in_ then a.out else a.in_))] else bif (e == 3) then bif decide (1 < a.in_) then some [0, 1] else some [2, 3] else some ([] : List Int) : Option ((List Int)))).bind fun (f : (List Int)) => AT (Ea c b a f) (0, b.2) else some (.inr b.2)
noncomputable def Gj (a : Ay) (b : Aj) : Option (List AI) :=
 AT (GJ a b) (0, ([] : List AI))
theorem UC (e : Ay) (b : Aj) (r : (List AI)) (h : Gj e b = some r) : Ax Tryz.prog 115 [.place (Aq e) 0, .agg (BM b)] (· = .slice 2 (r.map AU)) := by
 refine fn AA Tryz.func115 Z Z 67 Z [.tmp 4] Z [(0, .p (.place (Aq e) 0)), (1, .p (.agg (BM b)))] Z Z fun A hA => ?_
 unfold Gj at h
 refine rs AA <| rl Z <| rs AA <| rl Z <| AB <| rs AA <| rn 2 Z <| sx Z (Ab Z Z <| rl Z <| AH ?_)
 apply lp (a := r) (fun c : (Int × (List AI)) => ⟨67, [(0, lq (Aq e)), (5, .lsl 0 2 0 c.2.length), (16, ls 3 Aw b.steps), (17, li (b.steps.length : Int)), (18, li c.1)], [(0, .row 40 2 (c.2.map AU))], 1⟩) h
 . exact A8.trans (Cf 5 40 2 Z) (wf hA [(0, 1)] Z Z Z)
 intro c o k
 unfold GJ at k
 refine rs AA <| rl Z <| AB <| cd Z k (fun v => ?_) (fun aq => ?_)
 .refine AE <| AC <| AB <| AH <| rs AA <| bq v fun i q w => sx Z (Ac q Z Z Z <| rl Z <| rs AA <| rl Z <| jb (fun d : (List Int) => ⟨67, [(0, lq (Aq e)), (5, .lsl 0 2 0 c.2.length), (7, .lpb 1 0), (8, .lsl 2 1 0 d.length), (16, ls 3 Aw b.steps), (17, li (b.steps.length : Int)), (18, li c.1)], [(0, .row 40 2 (c.2.map AU)), (1, bx (Aw i)), (2, .row 3 1 (d.map Ad))], 3⟩) w (fun d x => ?_) (fun d af => ?_))
  .refine rs AA <| rn 3 Z <| bq x fun ay s y => sx Z (AM (Bp _ _ _ s) (.inl Z) Z Z Z <| rl Z <| AH <| rs AA <| rl Z <| cd Z y (fun z => ?_) (fun aa => ?_))
   .exact rs AA <| rl Z <| rg AA <| rl Z <| Af <| AL z (wf hA (gi 3 []) Z Z Z)
   refine rs AA <| rl Z <| cd Z aa (fun ab => ?_) (fun ae => ?_)
   .refine rs AA <| rl Z <| rs AA <| rl Z <| cd Z ab (fun ac => ?_) (fun ad => ?_)
    .exact rg AA <| rl Z <| Af <| AL ac (wf hA [(0, 0), (1, 1), (2, 3)] Z Z Z)
    exact AE <| Af <| AL ad (wf hA (gi 3 []) Z Z Z)
   exact AE <| Af <| AL ae (A8.trans (Cf 8 3 1 Z) (wf hA (gi 3 []) Z Z Z))
  refine rs AA <| rl Z <| AH ?_
  apply lp (a := o) (fun f : (Int × (List AI)) => ⟨67, [(0, lq (Aq e)), (5, .lsl 0 2 0 f.2.length), (7, .lpb 1 0), (16, ls 3 Aw b.steps), (17, li (b.steps.length : Int)), (18, li c.1), (43, .lsl 2 1 0 d.length), (44, li (d.length : Int)), (45, li f.1)], [(0, .row 40 2 (f.2.map AU)), (1, bx (Aw i)), (2, .row 3 1 (d.map Ad))], 3⟩) af
  . exact wf hA (gi 3 []) Z Z Z
  intro f ax n
  unfold Ea at n
  refine rs AA <| rl Z <| AB <| cd Z n (fun ag => ?_) (fun ao => ?_)
  .refine AE <| AC <| jb (fun g : (List AI) => ⟨67, [(0, lq (Aq e)), (5, .lsl 0 2 0 g.length), (7, .lpb 1 0), (16, ls 3 Aw b.steps), (17, li (b.steps.length : Int)), (18, li c.1), (43, .lsl 2 1 0 d.length), (44, li (d.length : Int)), (45, li f.1)], [(0, .row 40 2 (g.map AU)), (1, bx (Aw i)), (2, .row 3 1 (d.map Ad))], 3⟩) ag (fun g ah => ?_) (fun g an => ?_)
   .refine AH <| rs AA <| bq ah fun au j ai => sx Z (By j Z Z Z Z <| sx Z (C5 j Z Z Z <| rl Z <| rs AA <| rl Z <| rs AA <| rn 2 Z <| bq ai fun az t aj => sx Z (AM (CC _ _ _ t) (.inl Z) Z Z Z <| rl Z <| rs AA <| rl Z <| cd Z aj (fun ak => ?_) (fun am => ?_))))
    .exact rg AA <| rn 3 Z <| bq ak fun a0 u al => sx Z (BX (enc := AU) (l := f.2) (m := [(⟨i.elem, au⟩ : AI)]) u (fun _ => ⟨Z, Z⟩) Z Z Z Z Z Z <| rl Z <| Af <| AL al (wf hA [(0, 6), (1, 1), (2, 2)] Z Z Z))
    exact AE <| Af <| AL am (wf hA (gi 3 []) Z Z Z)
   exact rg AA <| rl Z <| Ar an (wf hA (gi 3 []) Z Z Z)
  exact AV <| AW <| BI ao fun av ap => Ap <| Af <| AC <| rg AA <| rl Z <| Ar ap (wf hA [(0, 0)] Z Z Z)
 refine AV <| AW <| BI aq fun aw ar => Ap <| AC <| rs AA <| rl Z <| AF ?_
 cases ar
 exact er (IJ Z (.one (.own (enc := AU) c.2 Z Z))) Le.rfl
noncomputable def Ih (a : Aa) (b : Int) : Option Bool :=
 some (a.elem == b)
theorem UD (a : Aa) (b : Int) (r : Bool) (h : Ih a b = some r) : Ax Tryz.prog 151 [.agg (Aw a), .place (Ad b) 0] (· = .bool r) := by
 refine fn AA Tryz.func151 Z Z 8 Z [.tmp 3] Z [(0, .p (.agg (Aw a))), (1, .p (.place (Ad b) 0))] Z Z fun A hA => ?_
 unfold Ih at h
 refine rs AA <| rl Z <| rs AA <| rl Z <| AF ?_
 cases h
 exact er Z Le.rfl
noncomputable def Fu (b : Aj) (c : Int) (a : Int) : Option (Int ⊕ Int) :=
 bif decide (a < (b.steps.length : Int)) then (AX b.steps a).bind fun d => (Ih d c).bind fun e => bif e then some (.inr a) else some (.inl (AO (a + 1))) else some (.inr (-1))
noncomputable def Ii (c : Aj) (d : Int) : Option Bool :=
 ((((AT (Fu c d) 0 : Option (Int))).bind fun (b : Int) => some (decide (0 <= b)) : Option (Bool))).bind fun (a : Bool) => some a
theorem Wu (b : Aj) (d : Int) (r : Bool) (h : Ii b d = some r) : Ax Tryz.prog 117 [.agg (BM b), .int .i64 d] (· = .bool r) := by
 refine fn AA Tryz.func117 Z Z 9 Z [.tmp 4] Z [(0, .p (.agg (BM b))), (1, .p (.int .i64 d))] Z Z fun A hA => ?_
 unfold Ii at h
 refine rs AA <| rl Z <| rs AA <| rn 3 Z <| sx Z (CR AA (fun e : Bool => lb e) (fun e : Bool => [(0, bx (BM b)), (1, .box [li d])]) 2 h Tryz.func150 9 [.tmp 4] [(0, ls 3 Aw b.steps), (1, .fn 151 [.lpb 1 0])] Z Z Z Z Z Z Z Z (fun A hA e k => ?_) (fun e x => ?_))
 .refine rs AA <| rl Z <| rs AA <| rn 2 Z <| sx Z (CR AA (fun c : Int => li c) (fun c : Int => [(0, bx (BM b)), (1, .box [li d])]) 2 k Tryz.func167 19 [.tmp 4] [(0, ls 3 Aw b.steps), (1, .fn 151 [.lpb 1 0])] Z Z Z Z Z Z Z Z (fun A hA c l => ?_) (fun c w => ?_))
  .refine rs AA <| rl Z <| AB <| rs AA <| rn 1 Z <| sx Z (Ab Z Z <| rl Z <| AH ?_)
   apply lp (a := c) (fun f : Int => ⟨19, [(0, ls 3 Aw b.steps), (1, .fn 151 [.lpb 1 0]), (7, li (b.steps.length : Int)), (8, li f)], [(0, bx (BM b)), (1, .box [li d])], 2⟩) l
   . exact wj hA [(0, 0), (1, 1)] Z Z Z Z
   intro f aa g
   unfold Fu at g
   refine rs AA <| rl Z <| AB <| cd Z g (fun m => ?_) (fun u => ?_)
   .refine AE <| AC <| AB <| AH <| rs AA <| rl Z <| rs AA <| rn 3 Z <| bq m fun ab i n => sx Z (Ac i Z Z Z <| rn 1 Z <| bq n fun ac j o => sx Z (AM (UD _ _ _ j) (.inl Z) Z Z (Dg.eq (.cons (.one (.p _)) (.cons (.box Z (.cons (.p _) .nil)) .nil))) <| rl Z <| cd Z o (fun q => ?_) (fun t => ?_)))
    .refine rs AA <| rl Z <| AF <| AN <| AG <| A1 q fun y s => AN <| AG ?_
     have hr := Option.some.inj s; subst hr
     exact CU (nt := 19) (sl := [(4, li f)]) (wj hA [(0, 0), (1, 1)] Z Z Z Z) Z
    exact AE <| Af <| AC <| rg AA <| rl Z <| Ar t (wj hA [(0, 0), (1, 1)] Z Z Z Z)
   refine AV <| AW <| BI u fun z v => Ap <| AC <| rs AA <| rl Z <| AF ?_
   cases v
   exact CU (nt := 19) (sl := [(4, li (-1))]) (wj hA [(0, 0), (1, 1)] Z Z Z Z) Z
  refine rl Z <| AF ?_
  cases w
  exact CU (nt := 9) (sl := [(4, lb (decide (0 <= c)))]) (wj hA [(0, 0), (1, 1)] Z Z Z Z) Z
 refine rl Z <| AF ?_
 have hr := Option.some.inj x; subst hr
 exact er Z Le.rfl
noncomputable def Cm (b : (List Int)) (c : Int) (a : Int) : Option (Int ⊕ Int) :=
 bif decide (a < (b.length : Int)) then (AX b a).bind fun d => bif (c == d) then some (.inr a) else some (.inl (AO (a + 1))) else some (.inr (-1))
noncomputable def Eb (a : (List Int)) (b : Int) : Option Int :=
 AT (Cm a b) 0
theorem O0 (b : (List Int)) (c : Int) (r : Int) (h : Eb b c = some r) : Ax Tryz.prog 73 [.slice 1 (b.map Ad), .int .i64 c] (· = .int .i64 r) := by
 refine fn AA Tryz.func73 Z Z 19 Z [.tmp 4] Z [(0, .p (.slice 1 (b.map Ad))), (1, .p (.int .i64 c))] Z Z fun A hA => ?_
 unfold Eb at h
 refine rs AA <| rl Z <| AB <| rs AA <| rn 1 Z <| sx Z (Ab Z Z <| rl Z <| AH ?_)
 apply lp (a := r) (fun e : Int => ⟨19, [(0, ls 1 Ad b), (1, li c), (7, li (b.length : Int)), (8, li e)], [], 0⟩) h
 . exact wf hA [] Z Z Z
 intro e s d
 unfold Cm at d
 refine rs AA <| rl Z <| AB <| cd Z d (fun n => ?_) (fun l => ?_)
 .refine AE <| AC <| AB <| AH <| rs AA <| rl Z <| rs AA <| rn 3 Z <| bq n fun t f g => sx Z (Ac f Z Z Z <| rl Z <| cd Z g (fun i => ?_) (fun k => ?_))
  .refine rs AA <| rl Z <| AF <| AN <| AG <| A1 i fun o j => AN <| AG ?_
   have hr := Option.some.inj j; subst hr
   exact er Z Le.rfl
  exact AE <| Af <| AC <| rg AA <| rl Z <| Ar k (wf hA [] Z Z Z)
 refine AV <| AW <| BI l fun q m => Ap <| AC <| rs AA <| rl Z <| AF ?_
 cases m
 exact er Z Le.rfl
noncomputable def BY (a : (List Int)) (b : Int) : Option Bool :=
 (Eb a b).bind fun c => some (decide (0 <= c))
theorem Cn (a : (List Int)) (b : Int) (r : Bool) (h : BY a b = some r) : Ax Tryz.prog 46 [.slice 1 (a.map Ad), .int .i64 b] (· = .bool r) := by
 refine fn AA Tryz.func46 Z Z 9 Z [.tmp 4] Z [(0, .p (.slice 1 (a.map Ad))), (1, .p (.int .i64 b))] Z Z fun A hA => ?_
 unfold BY at h
 refine rs AA <| rl Z <| rs AA <| rn 2 Z <| bq h fun e c d => sx Z (AM (O0 _ _ _ c) (.inl Z) Z Z Z <| rl Z <| AF ?_)
 cases d
 exact er Z Le.rfl
noncomputable def CD (b : (List Ao)) (c : Ao) (a : Int) : Option (Int ⊕ Int) :=
 bif decide (a < (b.length : Int)) then (AX b a).bind fun d => bif (c == d) then some (.inr a) else some (.inl (AO (a + 1))) else some (.inr (-1))
noncomputable def DN (a : (List Ao)) (b : Ao) : Option Int :=
 AT (CD a b) 0
theorem MD (c : (List Ao)) (b : Ao) (r : Int) (h : DN c b = some r) : Ax Tryz.prog 152 [.slice 2 (c.map A0), .agg (A0 b)] (· = .int .i64 r) := by
 refine fn AA Tryz.func152 Z Z 19 Z [.tmp 4] Z [(0, .p (.slice 2 (c.map A0))), (1, .p (.agg (A0 b)))] Z Z fun A hA => ?_
 unfold DN at h
 refine rs AA <| rl Z <| AB <| rs AA <| rn 1 Z <| sx Z (Ab Z Z <| rl Z <| AH ?_)
 apply lp (a := r) (fun e : Int => ⟨19, [(0, ls 2 A0 c), (3, .lpb 0 0), (7, li (c.length : Int)), (8, li e)], [(0, .box [li b.elem, li b.pos])], 1⟩) h
 . exact wf hA [(0, 0)] Z Z Z
 intro e t d
 unfold CD at d
 refine rs AA <| rl Z <| AB <| cd Z d (fun n => ?_) (fun l => ?_)
 .refine AE <| AC <| AB <| AH <| rs AA <| rl Z <| AB ?_
  refine Bu AA mixed [0, 1, 2, 3, 4, 5] 6 (by kernel_rfl) Z Z Z ?_
  refine As 3 Z <| bq n fun o f g => Au Z (Ai Z (Ac f Z Z Z <| As 1 Z <| Au Z (Oi (Y0 b o) Z Z Z Z Z <| BG Z <| AC <| cd Z g (fun i => ?_) (fun k => ?_))))
  .refine rs AA <| rl Z <| AF <| AN <| AG <| A1 i fun q j => AN <| AG ?_
   have hr := Option.some.inj j; subst hr
   exact er Z Le.rfl
  exact AE <| Af <| AC <| rg AA <| rl Z <| Ar k (wf hA [(0, 0)] Z Z Z)
 refine AV <| AW <| BI l fun s m => Ap <| AC <| rs AA <| rl Z <| AF ?_
 cases m
 exact er Z Le.rfl
noncomputable def Bo (a : (List Ao)) (b : Ao) : Option Bool :=
 (DN a b).bind fun c => some (decide (0 <= c))
theorem Do (a : (List Ao)) (b : Ao) (r : Bool) (h : Bo a b = some r) : Ax Tryz.prog 119 [.slice 2 (a.map A0), .agg (A0 b)] (· = .bool r) := by
 refine fn AA Tryz.func119 Z Z 9 Z [.tmp 4] Z [(0, .p (.slice 2 (a.map A0))), (1, .p (.agg (A0 b)))] Z Z fun A hA => ?_
 unfold Bo at h
 refine rs AA <| rl Z <| rs AA <| rn 2 Z <| bq h fun e c d => sx Z (AM (MD _ _ _ c) (.inl Z) Z Z Z <| rl Z <| AF ?_)
 cases d
 exact er Z Le.rfl
noncomputable def Dp (e : Int) (c : (List Bf)) (a : Int) : Option (Int ⊕ (Int × Bool)) :=
 bif decide (a < (c.length : Int)) then (AX c a).bind fun b => ((bif (b.pos == 0) then some true else some (b.pos == e) : Option (Bool))).bind fun (d : Bool) => bif d then some (.inr (b.out, true)) else some (.inl (AO (a + 1))) else some (.inr (0, false))
noncomputable def Dl (a : Ay) (b : Int) (c : Int) (d : Int) : Option (Int × Bool) :=
 (D3 a b c).bind fun e => AT (Dp d e) 0
theorem Ps (f : Ay) (g : Int) (i : Int) (b : Int) (r : (Int × Bool)) (h : Dl f g i b = some r) : Ax Tryz.prog 153 [.place (Aq f) 0, .int .i64 g, .int .i64 i, .int .i64 b] (· = .tup [.int .i64 r.1, .bool r.2]) := by
 refine fn AA Tryz.func153 Z Z 33 Z [.tmp 8, .tmp 9] Z [(0, .p (.place (Aq f) 0)), (1, .p (.int .i64 g)), (2, .p (.int .i64 i)), (3, .p (.int .i64 b))] Z Z fun A hA => ?_
 unfold Dl at h
 refine rs AA <| rl Z <| AB <| rs AA <| rn 3 Z <| bq h fun c l n => sx Z (AM (Mo _ _ _ _ l) (.inr Z) Z Z Z <| sx Z (Ab Z Z <| rl Z <| AH ?_))
 apply lp (a := r) (fun d : Int => ⟨33, [(3, li b), (15, ls 2 Df c), (16, li (c.length : Int)), (17, li d)], [], 0⟩) n
 . exact wf hA [] Z Z Z
 intro d ad j
 unfold Dp at j
 refine rs AA <| rl Z <| AB <| cd Z j (fun o => ?_) (fun z => ?_)
 .refine AE <| AC <| AB <| AH <| rs AA <| bq o fun k m q => sx Z (Ac m Z Z Z <| rl Z <| jb (fun e : Bool => ⟨33, [(3, li b), (11, .lpb 0 0), (15, ls 2 Df c), (16, li (c.length : Int)), (17, li d), (29, lb e)], [(0, .box [li k.out, li k.pos])], 1⟩) q (fun e s => ?_) (fun e v => ?_))
  .refine rg AA <| rn 4 Z <| gs 24 s Z Z Z (fun t => ?_) (fun u => ?_)
   .exact rl Z <| AL t (wf hA [(0, 0)] Z Z Z)
   exact rl Z <| AL u (wf hA [(0, 0)] Z Z Z)
  refine cd Z v (fun w => ?_) (fun y => ?_)
  .refine rs AA <| rl Z <| AF <| AN <| AG <| A1 w fun ab x => AN <| AG ?_
   cases x
   exact er Z Le.rfl
  exact AE <| Af <| AC <| rg AA <| rl Z <| Ar y (wf hA [] Z Z Z)
 refine AV <| AW <| BI z fun ac aa => Ap <| AC <| rs AA <| rl Z <| AF ?_
 cases aa
 exact er Z Le.rfl
noncomputable def HE (b : Ay) (c : Int) (d : Int) (e : Int) : Option (Int × Bool) :=
 (Dl b c d e).bind fun a => some (a.1, a.2)
theorem R5 (a : Ay) (b : Int) (c : Int) (d : Int) (r : (Int × Bool)) (h : HE a b c d = some r) : Ax Tryz.prog 120 [.place (Aq a) 0, .int .i64 b, .int .i64 c, .int .i64 d] (· = .tup [.int .i64 r.1, .bool r.2]) := by
 refine fn AA Tryz.func120 Z Z 17 Z [.tmp 8, .tmp 9] Z [(0, .p (.place (Aq a) 0)), (1, .p (.int .i64 b)), (2, .p (.int .i64 c)), (3, .p (.int .i64 d))] Z Z fun A hA => ?_
 unfold HE at h
 refine rs AA <| rl Z <| rs AA <| rn 4 Z <| bq h fun g e f => sx Z (AM (Ps _ _ _ _ _ e) (.inl Z) Z Z Z <| rl Z <| AF ?_)
 cases f
 exact er Z Le.rfl
noncomputable def C2 (d : Ay) (e : Aj) (r : (List Aa)) (l : (List Ao)) (am : AK) (a : Bool × (List (AI × Bool)) × (List Ao) × (List Int) × (List Int) × (List AI)) : Option ((Bool × (List (AI × Bool)) × (List Ao) × (List Int) × (List Int) × (List AI)) ⊕ Aj) :=
 bif decide (0 < (a.2.2.2.2.2.length : Int)) then (AX a.2.2.2.2.2 (AO ((a.2.2.2.2.2.length : Int) - 1))).bind fun b => (Lf a.2.2.2.2.2 0 (AO ((a.2.2.2.2.2.length : Int) - 1))).bind fun c => (((Ii (⟨e.frm, e.to, e.fin, r, l, a.2.2.1, a.2.2.2.1, a.2.2.2.2.1, a.1⟩ : Aj) b.elem).bind fun an => bif an then some true else some ((Ah a.2.1 b).getD false) : Option (Bool))).bind fun (y : Bool) => bif y then some (.inl (a.1, a.2.1, a.2.2.1, a.2.2.2.1, a.2.2.2.2.1, c)) else (CV d b).bind fun m => ((bif decide (0 <= m) then some (!am.hard) else some false : Option (Bool))).bind fun (z : Bool) => bif z then (((BY a.2.2.2.2.1 m).bind fun ao => bif (!ao) then (Bt a.2.2.2.2.1 [m]).bind fun ap => some ap else some a.2.2.2.2.1 : Option ((List Int)))).bind fun (aa : (List Int)) => some (.inl (a.1, A2 b true a.2.1, a.2.2.1, a.2.2.2.1, aa, c)) else (BS d b.elem).bind fun s => bif (s == 4) then some (.inl (true, A2 b true a.2.1, a.2.2.1, a.2.2.2.1, a.2.2.2.2.1, c)) else bif (s == 2) then bif (b.fin == 0) then (((((BY a.2.2.2.1 b.elem).bind fun aq => bif aq then some (true, a.1, a.2.2.2.1) else bif decide (12 <= (a.2.2.2.1.length : Int)) then some (false, true, a.2.2.2.1) else (Bt a.2.2.2.1 [b.elem]).bind fun ar => some (true, a.1, ar) : Option (Bool × Bool × (List Int)))).bind fun (h : Bool × Bool × (List Int)) => bif h.1 then (((Bb d (⟨b.elem, 2⟩ : AI)).bind fun t => bif t.2 then (Bt c [t.1]).bind fun au => some au else some c : Option ((List AI)))).bind fun (n : (List AI)) => (((Bb d (⟨b.elem, 1⟩ : AI)).bind fun u => bif u.2 then (Bt n [u.1]).bind fun av => some av else some n : Option ((List AI)))).bind fun (ab : (List AI)) => some (h.2.1, h.2.2, ab) else some (h.2.1, h.2.2, c) : Option (Bool × (List Int) × (List AI)))).bind fun (k : Bool × (List Int) × (List AI)) => some (.inl (k.1, A2 b true a.2.1, a.2.2.1, k.2.1, a.2.2.2.2.1, k.2.2)) else (((Bo l (⟨b.elem, b.fin⟩ : Ao)).bind fun ac => bif ac then some true else (Bo a.2.2.1 (⟨b.elem, b.fin⟩ : Ao)).bind fun ad => some ad : Option (Bool))).bind fun (v : Bool) => bif v then (((((BY a.2.2.2.1 b.elem).bind fun ae => bif ae then some (true, a.1, a.2.2.2.1) else bif decide (12 <= (a.2.2.2.1.length : Int)) then some (false, true, a.2.2.2.1) else (Bt a.2.2.2.1 [b.elem]).bind fun af => some (true, a.1, af) : Option (Bool × Bool × (List Int)))).bind fun (f : Bool × Bool × (List Int)) => bif f.1 then (((Bb d (⟨b.elem, 0⟩ : AI)).bind fun o => bif o.2 then (Bt c [o.1]).bind fun ag => some ag else some c : Option ((List AI)))).bind fun (w : (List AI)) => some (f.2.1, f.2.2, w) else some (f.2.1, f.2.2, c) : Option (Bool × (List Int) × (List AI)))).bind fun (i : Bool × (List Int) × (List AI)) => some (.inl (i.1, A2 b true a.2.1, a.2.2.1, i.2.1, a.2.2.2.2.1, i.2.2)) else (Bo a.2.2.1 (⟨b.elem, AO (3 - b.fin)⟩ : Ao)).bind fun ah => bif (!ah) then (Bt a.2.2.1 [(⟨b.elem, AO (3 - b.fin)⟩ : Ao)]).bind fun ai => some (.inl (a.1, A2 b true a.2.1, ai, a.2.2.2.1, a.2.2.2.2.1, c)) else some (.inl (a.1, A2 b true a.2.1, a.2.2.1, a.2.2.2.1, a.2.2.2.2.1, c)) else (HE d b.elem b.fin 0).bind fun p => ((bif p.2 then (((BY a.2.2.2.1 b.elem).bind fun aj => bif aj then some (true, a.1, a.2.2.2.1) else bif decide (12 <= (a.2.2.2.1.length : Int)) then some (false, true, a.2.2.2.1) else (Bt a.2.2.2.1 [b.elem]).bind fun ak => some (true, a.1, ak) : Option (Bool × Bool × (List Int)))).bind fun (j : Bool × Bool × (List Int)) => some (j.1, j.2.1, j.2.2) else some (false, a.1, a.2.2.2.1) : Option (Bool × Bool × (List Int)))).bind fun (g : Bool × Bool × (List Int)) => bif g.1 then (((Bb d (⟨b.elem, p.1⟩ : AI)).bind fun q => bif q.2 then (Bt c [q.1]).bind fun al => some al else some c : Option ((List AI)))).bind fun (x : (List AI)) => some (.inl (g.2.1, A2 b true a.2.1, a.2.2.1, g.2.2, a.2.2.2.2.1, x)) else some (.inl (g.2.1, A2 b true a.2.1, a.2.2.1, g.2.2, a.2.2.2.2.1, c)) else some (.inr (⟨e.frm, e.to, e.fin, r, l, a.2.2.1, a.2.2.2.1, a.2.2.2.2.1, a.1⟩ : Aj))
noncomputable def ER (b : Ay) (c : Aj) (i : (List Aa)) (j : (List Ao)) (d : AK) (e : (List AI)) (a : Int × (List AI)) : Option ((Int × (List AI)) ⊕ Aj) :=
 bif decide (0 <= a.1) then (AX e a.1).bind fun f => (Bb b f).bind fun g => (Bt a.2 [g.1]).bind fun h => some (.inl (AO (a.1 - 1), h)) else (AT (C2 b c i j d) (false, [], ([] : List Ao), ([] : List Int), ([] : List Int), a.2)).map .inr
noncomputable def Ec (b : Ay) (a : Aj) : Option Aj :=
 (BU a.steps).bind fun d => (DM a.needs).bind fun e => (Bv b).bind fun f => (Gj b (⟨a.frm, a.to, a.fin, d, e, [], [], [], false⟩ : Aj)).bind fun c => AT (ER b a d e f c) (AO ((c.length : Int) - 1), ([] : List AI))
theorem Wv (e : Ay) (c : Aj) (r : Aj) (h : Ec e c = some r) : Ax Tryz.prog 82 [.place (Aq e) 0, .agg (BM c)] (· = .agg (BM r)) := by
 refine fn AA Tryz.func82 Z Z 187 Z [.cell 4 72] Z [(0, .p (.place (Aq e) 0)), (1, .p (.agg (BM c)))] Z Z fun A hA => ?_
 unfold Ec at h
 refine rs AA <| rl Z <| sc <| AB ?_
 refine Bu AA mixed [0, 1, 2, 3, 4, 5, 6, 7, 8, 9] 10 (by kernel_rfl) Z Z Z ?_
 refine As 2 Z <| bq h fun g a7 de => Au Z (A4 (MB _ _ a7) (.inr Z) Z Z Z <| As 2 Z <| bq de fun i a8 df => Au Z (A4 (MC _ _ a8) (.inr Z) Z Z Z <| BG Z <| AC <| rs AA <| rl Z <| rs AA <| rn 1 Z <| bq df fun o a2 c6 => sx Z (AM (Gy _ _ a2) (.inr Z) Z Z Z <| rl Z <| rs AA <| rl Z <| rs AA <| rl Z <| rs AA <| rn 2 Z <| bq c6 fun e4 a3 c7 => sx Z (AM (Ax.le (UC _ _ _ a3) (.cons Le.rfl (.cons (Le.agg' (.cons Le.rfl (.cons Le.rfl (.cons Le.rfl (.cons Le.rfl (.cons Le.rfl (.cons (Le.nil _) (.cons (Le.nil _) (.cons (Le.nil _) (.cons Le.rfl .nil)))))))))) .nil))) (.inr Z) Z Z Z <| rl Z <| AB <| rs AA <| rn 1 Z <| sx Z (Ab Z Z <| rl Z <| AH ?_)))))
 apply lp (a := r) (fun v : (Int × (List AI)) => ⟨187, [(2, .lpb 0 0), (3, .lpb 1 0), (4, .lpb 2 0), (5, lb o.hard), (6, .lmap 3), (7, .lpb 4 0), (8, ls 2 AU e4), (9, li v.1)], [(0, .box [lq (Aq e)]), (1, .box [li c.frm, li c.to, li c.fin, ls 3 Aw g, ls 2 A0 i, .p (.nils), .p (.nils), .p (.nils), lb false]), (2, .box [li 0, li 0, li 0, .p (.nils), .p (.nils), .p (.nils), .p (.nils), .p (.nils), lb false]), (3, .map (An (fun x => .agg (AU x)) .bool [])), (4, .box [.lsl 5 2 0 v.2.length]), (5, .row 40 2 (v.2.map AU))], 6⟩) c7
 . exact A8.trans (CM 14 0 40 2 Z Z Z Z) (wf hA (gi 3 [(3, 13), (4, 14), (5, 15)]) Z Z Z)
 intro v e9 ai
 unfold ER at ai
 refine AB <| rs AA <| rl Z <| cd Z ai (fun c8 => ?_) (fun dc => ?_)
 .refine AE <| AC <| AB <| AH <| AB ?_
  refine Bu AA mixed [0, 1, 2, 3, 4, 5, 6, 7, 8, 9, 10, 11] 12 (by kernel_rfl) Z Z Z ?_
  exact As 3 Z <| bq c8 fun fl a4 c9 => Au Z (Ai Z (Ac a4 Z Z Z <| As 1 Z <| bq c9 fun e5 a5 da => Au Z (A4 (CC _ _ _ a5) (.inl Z) Z Z Z <| BG Z <| AC <| rg AA <| rn 3 Z <| bq da fun fm a6 db => sx Z (BX (enc := AU) (l := v.2) (m := [e5.1]) a6 (fun _ => ⟨Z, Z⟩) Z Z Z Z Z Z <| rl Z <| Af <| AC <| rg AA <| rl Z <| Ar db (wf hA (gi 5 [(5, 19)]) Z Z Z)))))
 refine AV <| AW <| CO dc fun am dd => Ap <| AC <| rs AA <| rl Z <| AB <| Jb <| AC <| AB <| AH ?_
 apply lp (a := am) (fun b : (Bool × (List (AI × Bool)) × (List Ao) × (List Int) × (List Int) × (List AI)) => ⟨187, [(2, .lpb 0 0), (3, .lpb 1 0), (4, .lpb 2 0), (5, lb o.hard), (6, .lmap 3), (7, .lpb 4 0), (12, .fn 116 [.lpb 0 0, .lpb 4 0])], [(0, .box [lq (Aq e)]), (1, .box [li c.frm, li c.to, li c.fin, ls 3 Aw g, ls 2 A0 i, .lsl 5 2 0 b.2.2.1.length, .lsl 6 1 0 b.2.2.2.1.length, .lsl 7 1 0 b.2.2.2.2.1.length, lb b.1]), (2, .box [li 0, li 0, li 0, .p (.nils), .p (.nils), .p (.nils), .p (.nils), .p (.nils), lb false]), (3, .map (An (fun x => .agg (AU x)) .bool b.2.1)), (4, .box [.lsl 8 2 0 b.2.2.2.2.2.length]), (5, .row 185 2 (b.2.2.1.map A0)), (6, .row 3 1 (b.2.2.2.1.map Ad)), (7, .row 3 1 (b.2.2.2.2.1.map Ad)), (8, .row 40 2 (b.2.2.2.2.2.map AU))], 9⟩) dd
 . exact A8.trans (CM 1 5 185 2 Z Z Z Z) (A8.trans (CM 1 6 3 1 Z Z Z Z) (A8.trans (CM 1 7 3 1 Z Z Z Z) (wf hA (gi 5 [(5, 6), (6, 7), (7, 8), (8, 5)]) Z Z Z)))
 intro b fa aj
 unfold C2 at aj
 refine AB <| rs AA <| rl Z <| cd Z aj (fun dg => ?_) (fun c4 => ?_)
 .refine AE <| AC <| AH <| rs AA <| rn 4 Z <| bq dg fun d ah dh => sx Z (By ah Z Z Z Z <| sx Z (C5 ah Z Z Z <| rl Z <| rs AA <| rn 4 Z <| bq dh fun f ad di => sx Z (RC (l := b.2.2.2.2.2) ad Z Z Z Z <| rl Z <| AB <| jb (fun af : Bool => ⟨187, [(2, .lpb 0 0), (3, .lpb 1 0), (4, .lpb 2 0), (5, lb o.hard), (6, .lmap 3), (7, .lpb 4 0), (12, .fn 116 [.lpb 0 0, .lpb 4 0]), (13, .lpb 5 0), (81, lb af)], [(0, .box [lq (Aq e)]), (1, .box [li c.frm, li c.to, li c.fin, ls 3 Aw g, ls 2 A0 i, .lsl 6 2 0 b.2.2.1.length, .lsl 7 1 0 b.2.2.2.1.length, .lsl 8 1 0 b.2.2.2.2.1.length, lb b.1]), (2, .box [li 0, li 0, li 0, .p (.nils), .p (.nils), .p (.nils), .p (.nils), .p (.nils), lb false]), (3, .map (An (fun x => .agg (AU x)) .bool b.2.1)), (4, .box [.lsl 9 2 0 f.length]), (5, .box [li d.elem, li d.fin]), (6, .row 185 2 (b.2.2.1.map A0)), (7, .row 3 1 (b.2.2.2.1.map Ad)), (8, .row 3 1 (b.2.2.2.2.1.map Ad)), (9, .row 40 2 (f.map AU))], 10⟩) di (fun af dj => ?_) (fun af dn => ?_))))
  .refine rg AA <| rn 3 Z <| bq dj fun fo a9 dk => sx Z (AM (Wu _ _ _ a9) (.inl Z) Z Z (Dg.eq (.cons (.agg (.cons (.p _) (.cons (.p _) (.cons (.p _) (.cons (.p _) (.cons (.p _) (.cons (.own (enc := A0) b.2.2.1 Z Z) (.cons (.own (enc := Ad) b.2.2.2.1 Z Z) (.cons (.own (enc := Ad) b.2.2.2.2.1 Z Z) (.cons (.p _) .nil)))))))))) (.cons (.one (.p _)) .nil))) <| rn 1 Z <| gs 77 dk Z Z Z (fun dl => ?_) (fun dm => ?_))
   .exact rl Z <| AL dl (A8.trans (I7 8 ad Z Z) (wf hA (gi 5 [(5, 9), (6, 5), (7, 6), (8, 7), (9, 8)]) Z Z Z))
   exact rn 2 Z <| sx Z (KU (et := 4) (ke := (fun x => .agg (AU x))) (ve := .bool) (mp := b.2.1) (y := d) false CF Z Z Z Z <| rl Z <| AL dm (A8.trans (I7 8 ad Z Z) (wf hA (gi 5 [(5, 9), (6, 5), (7, 6), (8, 7), (9, 8)]) Z Z Z)))
  refine cd Z dn (fun dp => ?_) (fun dq => ?_)
  .exact AV <| AW <| Ap <| Ar dp (wf hA (gi 5 [(5, 6), (6, 7), (7, 8), (8, 9)]) Z Z Z)
  refine AE <| AC <| rs AA <| rn 2 Z <| sx Z (GE (et := 4) (ke := (fun x => .agg (AU x))) (ve := .bool) (mp := b.2.1) (y := d) (z := true) CF Z Z Z Z Z Z <| rl Z <| AB <| rs AA <| rn 2 Z <| bq dq fun al ba dr => sx Z (AM (GG _ _ _ ba) (.inl Z) Z Z Z <| rl Z <| jb (fun ag : Bool => ⟨187, [(2, .lpb 0 0), (3, .lpb 1 0), (4, .lpb 2 0), (5, lb o.hard), (6, .lmap 3), (7, .lpb 4 0), (12, .fn 116 [.lpb 0 0, .lpb 4 0]), (13, .lpb 5 0), (14, li al), (92, lb ag)], [(0, .box [lq (Aq e)]), (1, .box [li c.frm, li c.to, li c.fin, ls 3 Aw g, ls 2 A0 i, .lsl 6 2 0 b.2.2.1.length, .lsl 7 1 0 b.2.2.2.1.length, .lsl 8 1 0 b.2.2.2.2.1.length, lb b.1]), (2, .box [li 0, li 0, li 0, .p (.nils), .p (.nils), .p (.nils), .p (.nils), .p (.nils), lb false]), (3, .map (An (fun x => .agg (AU x)) .bool (A2 d true b.2.1))), (4, .box [.lsl 9 2 0 f.length]), (5, .box [li d.elem, li d.fin]), (6, .row 185 2 (b.2.2.1.map A0)), (7, .row 3 1 (b.2.2.2.1.map Ad)), (8, .row 3 1 (b.2.2.2.2.1.map Ad)), (9, .row 40 2 (f.map AU))], 10⟩) dr (fun ag ds => ?_) (fun ag dv => ?_)))
  .refine rg AA <| rn 3 Z <| gs 89 ds Z Z Z (fun dt => ?_) (fun du => ?_)
   .exact rl Z <| AL dt (wf hA (gi 10 []) Z Z Z)
   exact rl Z <| AL du (wf hA (gi 10 []) Z Z Z)
  refine cd Z dv (fun dw => ?_) (fun d3 => ?_)
  .refine jb (fun ac : (List Int) => ⟨187, [(2, .lpb 0 0), (3, .lpb 1 0), (4, .lpb 2 0), (5, lb o.hard), (6, .lmap 3), (7, .lpb 4 0), (12, .fn 116 [.lpb 0 0, .lpb 4 0])], [(0, .box [lq (Aq e)]), (1, .box [li c.frm, li c.to, li c.fin, ls 3 Aw g, ls 2 A0 i, .lsl 5 2 0 b.2.2.1.length, .lsl 6 1 0 b.2.2.2.1.length, .lsl 7 1 0 ac.length, lb b.1]), (2, .box [li 0, li 0, li 0, .p (.nils), .p (.nils), .p (.nils), .p (.nils), .p (.nils), lb false]), (3, .map (An (fun x => .agg (AU x)) .bool (A2 d true b.2.1))), (4, .box [.lsl 8 2 0 f.length]), (5, .row 185 2 (b.2.2.1.map A0)), (6, .row 3 1 (b.2.2.2.1.map Ad)), (7, .row 3 1 (ac.map Ad)), (8, .row 40 2 (f.map AU))], 9⟩) dw (fun ac dx => ?_) (fun ac d2 => ?_)
   .refine rs AA <| rn 3 Z <| bq dx fun fp bb dy => sx Z (AM (Cn _ _ _ bb) (.inl Z) Z Z (Dg.eq (.cons (.one (.own (enc := Ad) b.2.2.2.2.1 Z Z)) (.cons (.one (.p _)) .nil))) <| rl Z <| cd Z dy (fun dz => ?_) (fun d1 => ?_))
    .exact rg AA <| rn 4 Z <| bq dz fun fq bc d0 => sx Z (BX (enc := Ad) (l := b.2.2.2.2.1) (m := [al]) bc (fun _ => ⟨Z, Z⟩) Z Z Z Z Z Z <| rl Z <| AL d0 (wf hA (gi 5 [(5, 6), (6, 7), (7, 11), (8, 9)]) Z Z Z))
    exact AE <| AL d1 (wf hA (gi 5 [(5, 6), (6, 7), (7, 8), (8, 9)]) Z Z Z)
   exact AV <| AW <| Ap <| Ar d2 (wf hA (gi 9 []) Z Z Z)
  refine AE <| AC <| rs AA <| rn 3 Z <| bq d3 fun fr be d4 => sx Z (AM (Bp _ _ _ be) (.inl Z) Z Z Z <| rl Z <| AH <| rs AA <| rl Z <| cd Z d4 (fun d5 => ?_) (fun d6 => ?_))
  .exact rg AA <| rl Z <| Af <| Af <| Ar d5 (wf hA (gi 5 [(5, 6), (6, 7), (7, 8), (8, 9)]) Z Z Z)
  refine rs AA <| rl Z <| cd Z d6 (fun d7 => ?_) (fun ci => ?_)
  .refine AB <| rs AA <| rl Z <| cd Z d7 (fun d8 => ?_) (fun e1 => ?_)
   .refine jb (fun t : (Bool × (List Int) × (List AI)) => ⟨187, [(2, .lpb 0 0), (3, .lpb 1 0), (4, .lpb 2 0), (5, lb o.hard), (6, .lmap 3), (7, .lpb 4 0), (12, .fn 116 [.lpb 0 0, .lpb 4 0])], [(0, .box [lq (Aq e)]), (1, .box [li c.frm, li c.to, li c.fin, ls 3 Aw g, ls 2 A0 i, .lsl 5 2 0 b.2.2.1.length, .lsl 6 1 0 t.2.1.length, .lsl 7 1 0 b.2.2.2.2.1.length, lb t.1]), (2, .box [li 0, li 0, li 0, .p (.nils), .p (.nils), .p (.nils), .p (.nils), .p (.nils), lb false]), (3, .map (An (fun x => .agg (AU x)) .bool (A2 d true b.2.1))), (4, .box [.lsl 8 2 0 t.2.2.length]), (5, .row 185 2 (b.2.2.1.map A0)), (6, .row 3 1 (t.2.1.map Ad)), (7, .row 3 1 (b.2.2.2.2.1.map Ad)), (8, .row 40 2 (t.2.2.map AU))], 9⟩) d8 (fun t d9 => ?_) (fun t e0 => ?_)
    .refine rs AA <| rn 2 Z <| sx Z (CR AA (fun j : (Bool × Bool × (List Int)) => lb j.1) (fun j : (Bool × Bool × (List Int)) => [(0, .box [lq (Aq e)]), (1, .box [li c.frm, li c.to, li c.fin, ls 3 Aw g, ls 2 A0 i, .lsl 6 2 0 b.2.2.1.length, .lsl 10 1 0 j.2.2.length, .lsl 8 1 0 b.2.2.2.2.1.length, lb j.2.1]), (2, .box [li 0, li 0, li 0, .p (.nils), .p (.nils), .p (.nils), .p (.nils), .p (.nils), lb false]), (3, .map (An (fun x => .agg (AU x)) .bool (A2 d true b.2.1))), (4, .box [.lsl 9 2 0 f.length]), (5, .box [li d.elem, li d.fin]), (6, .row 185 2 (b.2.2.1.map A0)), (8, .row 3 1 (b.2.2.2.2.1.map Ad)), (9, .row 40 2 (f.map AU)), (10, .row 3 1 (j.2.2.map Ad))]) 11 d9 Tryz.func118 30 [.tmp 4] [(0, .lpb 1 0), (1, li d.elem)] Z Z Z Z Z Z Z Z (fun A hA j ea => ?_) (fun j eh => ?_))
     .refine rs AA <| rl Z <| AB <| rs AA <| rn 5 Z <| bq ea fun fs bf eb => sx Z (AM (Cn _ _ _ bf) (.inl Z) Z Z (Dg.eq (.cons (.one (.own (enc := Ad) b.2.2.2.1 Z Z)) (.cons (.one (.p _)) .nil))) <| rl Z <| cd Z eb (fun ec => ?_) (fun ed => ?_))
      .refine rs AA <| rl Z <| AF <| AG ?_
       cases ec
       exact CU (nt := 30) (sl := [(4, lb true)]) (wj hA (gi 7 [(8, 8), (9, 9), (10, 7), (7, 7)]) Z Z Z Z) Z
      refine AE <| AC <| AB <| rs AA <| rl Z <| cd Z ed (fun ee => ?_) (fun ef => ?_)
      .refine rs AA <| rl Z <| rs AA <| rl Z <| AF <| AG ?_
       cases ee
       exact CU (nt := 30) (sl := [(4, lb false)]) (wj hA (gi 7 [(8, 8), (9, 9), (10, 7), (7, 7)]) Z Z Z Z) Z
      refine AE <| AC <| rs AA <| rn 7 Z <| bq ef fun ft bg eg => sx Z (BX (enc := Ad) (l := b.2.2.2.1) (m := [d.elem]) bg (fun _ => ⟨Z, Z⟩) Z Z Z Z Z Z <| rl Z <| rs AA <| rl Z <| AF ?_)
      cases eg
      exact CU (nt := 30) (sl := [(4, lb true)]) (wj hA (gi 7 [(8, 8), (9, 9), (10, 11), (7, 7)]) Z Z Z Z) Z
     refine rl Z <| cd Z eh (fun ei => ?_) (fun ez => ?_)
     .refine rs AA <| rn 3 Z <| sx Z (CR AA (fun u : (List AI) => .tup []) (fun u : (List AI) => [(0, .box [lq (Aq e)]), (1, .box [li c.frm, li c.to, li c.fin, ls 3 Aw g, ls 2 A0 i, .lsl 6 2 0 b.2.2.1.length, .lsl 10 1 0 j.2.2.length, .lsl 8 1 0 b.2.2.2.2.1.length, lb j.2.1]), (2, .box [li 0, li 0, li 0, .p (.nils), .p (.nils), .p (.nils), .p (.nils), .p (.nils), lb false]), (3, .map (An (fun x => .agg (AU x)) .bool (A2 d true b.2.1))), (4, .box [.lsl 11 2 0 u.length]), (5, .box [li d.elem, li d.fin]), (6, .row 185 2 (b.2.2.1.map A0)), (8, .row 3 1 (b.2.2.2.2.1.map Ad)), (10, .row 3 1 (j.2.2.map Ad)), (11, .row 40 2 (u.map AU))]) 12 ei Tryz.func116 21 [] [(0, li d.elem), (1, li 2), (2, .lpb 0 0), (3, .lpb 4 0)] Z Z Z Z Z Z Z Z (fun A hA u ej => ?_) (fun u ep => ?_))
      .refine rs AA <| rn 4 Z <| bq ej fun e6 bh ek => sx Z (AM (CC _ _ _ bh) (.inl Z) Z Z Z <| rl Z <| rs AA <| rl Z <| cd Z ek (fun el => ?_) (fun eo => ?_))
       .refine rg AA <| rn 3 Z <| bq el fun fu bi em => sx Z (BX (enc := AU) (l := f) (m := [e6.1]) bi (fun _ => ⟨Z, Z⟩) Z Z Z Z Z Z <| rl Z ?_)
        have hr := Option.some.inj em; subst hr
        exact La (nt := 21) (sl := []) (wj hA (gi 9 [(10, 10), (11, 13), (9, 9)]) Z Z Z Z) Z
       refine AE ?_
       have hr := Option.some.inj eo; subst hr
       exact La (nt := 21) (sl := []) (wj hA (gi 9 [(10, 10), (11, 9), (9, 9)]) Z Z Z Z) Z
      refine rl Z <| rg AA <| rn 3 Z <| sx Z (CR AA (fun ab : (List AI) => .tup []) (fun ab : (List AI) => [(0, .box [lq (Aq e)]), (1, .box [li c.frm, li c.to, li c.fin, ls 3 Aw g, ls 2 A0 i, .lsl 6 2 0 b.2.2.1.length, .lsl 10 1 0 j.2.2.length, .lsl 8 1 0 b.2.2.2.2.1.length, lb j.2.1]), (2, .box [li 0, li 0, li 0, .p (.nils), .p (.nils), .p (.nils), .p (.nils), .p (.nils), lb false]), (3, .map (An (fun x => .agg (AU x)) .bool (A2 d true b.2.1))), (4, .box [.lsl 12 2 0 ab.length]), (5, .box [li d.elem, li d.fin]), (6, .row 185 2 (b.2.2.1.map A0)), (8, .row 3 1 (b.2.2.2.2.1.map Ad)), (10, .row 3 1 (j.2.2.map Ad)), (12, .row 40 2 (ab.map AU))]) 13 ep Tryz.func116 21 [] [(0, li d.elem), (1, li 1), (2, .lpb 0 0), (3, .lpb 4 0)] Z Z Z Z Z Z Z Z (fun A hA ab es => ?_) (fun ab ey => ?_))
      .refine rs AA <| rn 4 Z <| bq es fun e7 bj eu => sx Z (AM (CC _ _ _ bj) (.inl Z) Z Z Z <| rl Z <| rs AA <| rl Z <| cd Z eu (fun ev => ?_) (fun ex => ?_))
       .refine rg AA <| rn 3 Z <| bq ev fun fv bk ew => sx Z (BX (enc := AU) (l := u) (m := [e7.1]) bk (fun _ => ⟨Z, Z⟩) Z Z Z Z Z Z <| rl Z ?_)
        have hr := Option.some.inj ew; subst hr
        exact La (nt := 21) (sl := []) (wj hA (gi 11 [(12, 14), (11, 11)]) Z Z Z Z) Z
       refine AE ?_
       have hr := Option.some.inj ex; subst hr
       exact La (nt := 21) (sl := []) (wj hA (gi 11 [(12, 11), (11, 11)]) Z Z Z Z) Z
      exact rl Z <| AL ey (wf hA (gi 5 [(5, 6), (6, 10), (7, 8), (8, 12)]) Z Z Z)
     exact AE <| AL ez (wf hA (gi 5 [(5, 6), (6, 10), (7, 8), (8, 9)]) Z Z Z)
    exact AV <| AW <| LU Z <| Ap <| Ar e0 (wf hA (gi 9 []) Z Z Z)
   refine AE <| AC <| rs AA <| rl Z <| AB <| jb (fun ae : Bool => ⟨187, [(2, .lpb 0 0), (3, .lpb 1 0), (4, .lpb 2 0), (5, lb o.hard), (6, .lmap 3), (7, .lpb 4 0), (12, .fn 116 [.lpb 0 0, .lpb 4 0]), (13, .lpb 5 0), (161, lb ae)], [(0, .box [lq (Aq e)]), (1, .box [li c.frm, li c.to, li c.fin, ls 3 Aw g, ls 2 A0 i, .lsl 6 2 0 b.2.2.1.length, .lsl 7 1 0 b.2.2.2.1.length, .lsl 8 1 0 b.2.2.2.2.1.length, lb b.1]), (2, .box [li 0, li 0, li 0, .p (.nils), .p (.nils), .p (.nils), .p (.nils), .p (.nils), lb false]), (3, .map (An (fun x => .agg (AU x)) .bool (A2 d true b.2.1))), (4, .box [.lsl 9 2 0 f.length]), (5, .box [li d.elem, li d.fin]), (6, .row 185 2 (b.2.2.1.map A0)), (7, .row 3 1 (b.2.2.2.1.map Ad)), (8, .row 3 1 (b.2.2.2.2.1.map Ad)), (9, .row 40 2 (f.map AU))], 10⟩) e1 (fun ae bl => ?_) (fun ae br => ?_)
   .refine rg AA <| rn 3 Z <| bq bl fun fb an bm => sx Z (AM (Do _ _ _ an) (.inl Z) Z Z Z <| rn 1 Z <| gs 156 bm Z Z Z (fun bn => ?_) (fun bo => ?_))
    .exact rl Z <| AL bn (wf hA (gi 10 []) Z Z Z)
    exact rn 3 Z <| bq bo fun fc ao bp => sx Z (AM (Do _ _ _ ao) (.inl Z) Z Z (Dg.eq (.cons (.one (.own (enc := A0) b.2.2.1 Z Z)) (.cons (.one (.p _)) .nil))) <| rl Z <| AL bp (wf hA (gi 10 []) Z Z Z))
   refine cd Z br (fun bs => ?_) (fun cc => ?_)
   .refine jb (fun q : (Bool × (List Int) × (List AI)) => ⟨187, [(2, .lpb 0 0), (3, .lpb 1 0), (4, .lpb 2 0), (5, lb o.hard), (6, .lmap 3), (7, .lpb 4 0), (12, .fn 116 [.lpb 0 0, .lpb 4 0])], [(0, .box [lq (Aq e)]), (1, .box [li c.frm, li c.to, li c.fin, ls 3 Aw g, ls 2 A0 i, .lsl 5 2 0 b.2.2.1.length, .lsl 6 1 0 q.2.1.length, .lsl 7 1 0 b.2.2.2.2.1.length, lb q.1]), (2, .box [li 0, li 0, li 0, .p (.nils), .p (.nils), .p (.nils), .p (.nils), .p (.nils), lb false]), (3, .map (An (fun x => .agg (AU x)) .bool (A2 d true b.2.1))), (4, .box [.lsl 8 2 0 q.2.2.length]), (5, .row 185 2 (b.2.2.1.map A0)), (6, .row 3 1 (q.2.1.map Ad)), (7, .row 3 1 (b.2.2.2.2.1.map Ad)), (8, .row 40 2 (q.2.2.map AU))], 9⟩) bs (fun q bt => ?_) (fun q cb => ?_)
    .refine rs AA <| rn 2 Z <| sx Z (CR AA (fun k : (Bool × Bool × (List Int)) => lb k.1) (fun k : (Bool × Bool × (List Int)) => [(0, .box [lq (Aq e)]), (1, .box [li c.frm, li c.to, li c.fin, ls 3 Aw g, ls 2 A0 i, .lsl 6 2 0 b.2.2.1.length, .lsl 10 1 0 k.2.2.length, .lsl 8 1 0 b.2.2.2.2.1.length, lb k.2.1]), (2, .box [li 0, li 0, li 0, .p (.nils), .p (.nils), .p (.nils), .p (.nils), .p (.nils), lb false]), (3, .map (An (fun x => .agg (AU x)) .bool (A2 d true b.2.1))), (4, .box [.lsl 9 2 0 f.length]), (5, .box [li d.elem, li d.fin]), (6, .row 185 2 (b.2.2.1.map A0)), (8, .row 3 1 (b.2.2.2.2.1.map Ad)), (9, .row 40 2 (f.map AU)), (10, .row 3 1 (k.2.2.map Ad))]) 11 bt Tryz.func118 30 [.tmp 4] [(0, .lpb 1 0), (1, li d.elem)] Z Z Z Z Z Z Z Z (fun A hA k bu => ?_) (fun k b2 => ?_))
     .refine rs AA <| rl Z <| AB <| rs AA <| rn 5 Z <| bq bu fun fd ap bv => sx Z (AM (Cn _ _ _ ap) (.inl Z) Z Z (Dg.eq (.cons (.one (.own (enc := Ad) b.2.2.2.1 Z Z)) (.cons (.one (.p _)) .nil))) <| rl Z <| cd Z bv (fun bw => ?_) (fun bx => ?_))
      .refine rs AA <| rl Z <| AF <| AG ?_
       cases bw
       exact CU (nt := 30) (sl := [(4, lb true)]) (wj hA (gi 7 [(8, 8), (9, 9), (10, 7), (7, 7)]) Z Z Z Z) Z
      refine AE <| AC <| AB <| rs AA <| rl Z <| cd Z bx (fun bz => ?_) (fun b0 => ?_)
      .refine rs AA <| rl Z <| rs AA <| rl Z <| AF <| AG ?_
       cases bz
       exact CU (nt := 30) (sl := [(4, lb false)]) (wj hA (gi 7 [(8, 8), (9, 9), (10, 7), (7, 7)]) Z Z Z Z) Z
      refine AE <| AC <| rs AA <| rn 7 Z <| bq b0 fun fe aq b1 => sx Z (BX (enc := Ad) (l := b.2.2.2.1) (m := [d.elem]) aq (fun _ => ⟨Z, Z⟩) Z Z Z Z Z Z <| rl Z <| rs AA <| rl Z <| AF ?_)
      cases b1
      exact CU (nt := 30) (sl := [(4, lb true)]) (wj hA (gi 7 [(8, 8), (9, 9), (10, 11), (7, 7)]) Z Z Z Z) Z
     refine rl Z <| cd Z b2 (fun b3 => ?_) (fun ca => ?_)
     .refine rg AA <| rn 3 Z <| sx Z (CR AA (fun w : (List AI) => .tup []) (fun w : (List AI) => [(0, .box [lq (Aq e)]), (1, .box [li c.frm, li c.to, li c.fin, ls 3 Aw g, ls 2 A0 i, .lsl 6 2 0 b.2.2.1.length, .lsl 10 1 0 k.2.2.length, .lsl 8 1 0 b.2.2.2.2.1.length, lb k.2.1]), (2, .box [li 0, li 0, li 0, .p (.nils), .p (.nils), .p (.nils), .p (.nils), .p (.nils), lb false]), (3, .map (An (fun x => .agg (AU x)) .bool (A2 d true b.2.1))), (4, .box [.lsl 11 2 0 w.length]), (5, .box [li d.elem, li d.fin]), (6, .row 185 2 (b.2.2.1.map A0)), (8, .row 3 1 (b.2.2.2.2.1.map Ad)), (10, .row 3 1 (k.2.2.map Ad)), (11, .row 40 2 (w.map AU))]) 12 b3 Tryz.func116 21 [] [(0, li d.elem), (1, li 0), (2, .lpb 0 0), (3, .lpb 4 0)] Z Z Z Z Z Z Z Z (fun A hA w b4 => ?_) (fun w b9 => ?_))
      .refine rs AA <| rn 4 Z <| bq b4 fun e2 ar b5 => sx Z (AM (CC _ _ _ ar) (.inl Z) Z Z Z <| rl Z <| rs AA <| rl Z <| cd Z b5 (fun b6 => ?_) (fun b8 => ?_))
       .refine rg AA <| rn 3 Z <| bq b6 fun ff au b7 => sx Z (BX (enc := AU) (l := f) (m := [e2.1]) au (fun _ => ⟨Z, Z⟩) Z Z Z Z Z Z <| rl Z ?_)
        have hr := Option.some.inj b7; subst hr
        exact La (nt := 21) (sl := []) (wj hA (gi 9 [(10, 10), (11, 13), (9, 9)]) Z Z Z Z) Z
       refine AE ?_
       have hr := Option.some.inj b8; subst hr
       exact La (nt := 21) (sl := []) (wj hA (gi 9 [(10, 10), (11, 9), (9, 9)]) Z Z Z Z) Z
      exact rl Z <| AL b9 (wf hA (gi 5 [(5, 6), (6, 10), (7, 8), (8, 11)]) Z Z Z)
     exact AE <| AL ca (wf hA (gi 5 [(5, 6), (6, 10), (7, 8), (8, 9)]) Z Z Z)
    exact AV <| AW <| LU Z <| Ap <| Ar cb (wf hA (gi 9 []) Z Z Z)
   refine AE <| AC <| rs AA <| rl Z <| rs AA <| rn 3 Z <| bq cc fun fg av ce => sx Z (AM (Do _ _ _ av) (.inl Z) Z Z (Dg.eq (.cons (.one (.own (enc := A0) b.2.2.1 Z Z)) (.cons (.one (.p _)) .nil))) <| rl Z <| cd Z ce (fun cf => ?_) (fun ch => ?_))
   .exact rg AA <| rn 4 Z <| bq cf fun fh aw cg => sx Z (BX (enc := A0) (l := b.2.2.1) (m := [(⟨d.elem, AO (3 - d.fin)⟩ : Ao)]) aw (fun _ => ⟨Z, Z⟩) Z Z Z Z Z Z <| rl Z <| Af <| Af <| Ar cg (wf hA (gi 5 [(5, 12), (6, 7), (7, 8), (8, 9)]) Z Z Z))
   exact AE <| Af <| Af <| Ar ch (wf hA (gi 5 [(5, 6), (6, 7), (7, 8), (8, 9)]) Z Z Z)
  refine rs AA <| rn 5 Z <| bq ci fun ak ax cj => sx Z (AM (R5 _ _ _ _ _ ax) (.inl Z) Z Z Z <| rl Z <| jb (fun n : (Bool × Bool × (List Int)) => ⟨187, [(2, .lpb 0 0), (3, .lpb 1 0), (4, .lpb 2 0), (5, lb o.hard), (6, .lmap 3), (7, .lpb 4 0), (12, .fn 116 [.lpb 0 0, .lpb 4 0]), (13, .lpb 5 0), (17, li ak.1), (122, lb n.1)], [(0, .box [lq (Aq e)]), (1, .box [li c.frm, li c.to, li c.fin, ls 3 Aw g, ls 2 A0 i, .lsl 6 2 0 b.2.2.1.length, .lsl 7 1 0 n.2.2.length, .lsl 8 1 0 b.2.2.2.2.1.length, lb n.2.1]), (2, .box [li 0, li 0, li 0, .p (.nils), .p (.nils), .p (.nils), .p (.nils), .p (.nils), lb false]), (3, .map (An (fun x => .agg (AU x)) .bool (A2 d true b.2.1))), (4, .box [.lsl 9 2 0 f.length]), (5, .box [li d.elem, li d.fin]), (6, .row 185 2 (b.2.2.1.map A0)), (7, .row 3 1 (n.2.2.map Ad)), (8, .row 3 1 (b.2.2.2.2.1.map Ad)), (9, .row 40 2 (f.map AU))], 10⟩) cj (fun n ck => ?_) (fun n cv => ?_))
  .refine rg AA <| rn 2 Z <| gs 118 ck Z Z Z (fun cl => ?_) (fun cu => ?_)
   .refine rn 2 Z <| sx Z (CR AA (fun s : (Bool × Bool × (List Int)) => lb s.1) (fun s : (Bool × Bool × (List Int)) => [(0, .box [lq (Aq e)]), (1, .box [li c.frm, li c.to, li c.fin, ls 3 Aw g, ls 2 A0 i, .lsl 6 2 0 b.2.2.1.length, .lsl 10 1 0 s.2.2.length, .lsl 8 1 0 b.2.2.2.2.1.length, lb s.2.1]), (2, .box [li 0, li 0, li 0, .p (.nils), .p (.nils), .p (.nils), .p (.nils), .p (.nils), lb false]), (3, .map (An (fun x => .agg (AU x)) .bool (A2 d true b.2.1))), (4, .box [.lsl 9 2 0 f.length]), (5, .box [li d.elem, li d.fin]), (6, .row 185 2 (b.2.2.1.map A0)), (8, .row 3 1 (b.2.2.2.2.1.map Ad)), (9, .row 40 2 (f.map AU)), (10, .row 3 1 (s.2.2.map Ad))]) 11 cl Tryz.func118 30 [.tmp 4] [(0, .lpb 1 0), (1, li d.elem)] Z Z Z Z Z Z Z Z (fun A hA s cm => ?_) (fun s ct => ?_))
    .refine rs AA <| rl Z <| AB <| rs AA <| rn 5 Z <| bq cm fun fi ay cn => sx Z (AM (Cn _ _ _ ay) (.inl Z) Z Z (Dg.eq (.cons (.one (.own (enc := Ad) b.2.2.2.1 Z Z)) (.cons (.one (.p _)) .nil))) <| rl Z <| cd Z cn (fun co => ?_) (fun cp => ?_))
     .refine rs AA <| rl Z <| AF <| AG ?_
      cases co
      exact CU (nt := 30) (sl := [(4, lb true)]) (wj hA (gi 7 [(8, 8), (9, 9), (10, 7), (7, 7)]) Z Z Z Z) Z
     refine AE <| AC <| AB <| rs AA <| rl Z <| cd Z cp (fun cq => ?_) (fun cr => ?_)
     .refine rs AA <| rl Z <| rs AA <| rl Z <| AF <| AG ?_
      cases cq
      exact CU (nt := 30) (sl := [(4, lb false)]) (wj hA (gi 7 [(8, 8), (9, 9), (10, 7), (7, 7)]) Z Z Z Z) Z
     refine AE <| AC <| rs AA <| rn 7 Z <| bq cr fun fj az cs => sx Z (BX (enc := Ad) (l := b.2.2.2.1) (m := [d.elem]) az (fun _ => ⟨Z, Z⟩) Z Z Z Z Z Z <| rl Z <| rs AA <| rl Z <| AF ?_)
     cases cs
     exact CU (nt := 30) (sl := [(4, lb true)]) (wj hA (gi 7 [(8, 8), (9, 9), (10, 11), (7, 7)]) Z Z Z Z) Z
    exact rl Z <| AL ct (wf hA (gi 7 [(7, 10), (8, 8), (9, 9)]) Z Z Z)
   exact rl Z <| AL cu (wf hA (gi 10 []) Z Z Z)
  refine cd Z cv (fun cw => ?_) (fun c3 => ?_)
  .refine rg AA <| rn 4 Z <| sx Z (CR AA (fun aa : (List AI) => .tup []) (fun aa : (List AI) => [(0, .box [lq (Aq e)]), (1, .box [li c.frm, li c.to, li c.fin, ls 3 Aw g, ls 2 A0 i, .lsl 6 2 0 b.2.2.1.length, .lsl 7 1 0 n.2.2.length, .lsl 8 1 0 b.2.2.2.2.1.length, lb n.2.1]), (2, .box [li 0, li 0, li 0, .p (.nils), .p (.nils), .p (.nils), .p (.nils), .p (.nils), lb false]), (3, .map (An (fun x => .agg (AU x)) .bool (A2 d true b.2.1))), (4, .box [.lsl 10 2 0 aa.length]), (5, .box [li d.elem, li d.fin]), (6, .row 185 2 (b.2.2.1.map A0)), (7, .row 3 1 (n.2.2.map Ad)), (8, .row 3 1 (b.2.2.2.2.1.map Ad)), (10, .row 40 2 (aa.map AU))]) 11 cw Tryz.func116 21 [] [(0, li d.elem), (1, li ak.1), (2, .lpb 0 0), (3, .lpb 4 0)] Z Z Z Z Z Z Z Z (fun A hA aa cx => ?_) (fun aa c2 => ?_))
   .refine rs AA <| rn 4 Z <| bq cx fun e3 a0 cy => sx Z (AM (CC _ _ _ a0) (.inl Z) Z Z Z <| rl Z <| rs AA <| rl Z <| cd Z cy (fun cz => ?_) (fun c1 => ?_))
    .refine rg AA <| rn 3 Z <| bq cz fun fk a1 c0 => sx Z (BX (enc := AU) (l := f) (m := [e3.1]) a1 (fun _ => ⟨Z, Z⟩) Z Z Z Z Z Z <| rl Z ?_)
     have hr := Option.some.inj c0; subst hr
     exact La (nt := 21) (sl := []) (wj hA (gi 9 [(10, 12), (9, 9)]) Z Z Z Z) Z
    refine AE ?_
    have hr := Option.some.inj c1; subst hr
    exact La (nt := 21) (sl := []) (wj hA (gi 9 [(10, 9), (9, 9)]) Z Z Z Z) Z
   exact rl Z <| Af <| Af <| Ar c2 (wf hA (gi 5 [(5, 6), (6, 7), (7, 8), (8, 10)]) Z Z Z)
  exact AE <| Af <| Af <| Ar c3 (wf hA (gi 5 [(5, 6), (6, 7), (7, 8), (8, 9)]) Z Z Z)
 refine AV <| AW <| BI c4 fun e8 c5 => Ap <| AC <| rs AA <| rl Z <| AF <| IK ?_
 cases c5
 exact er (IJ Z (.agg (.cons (.p _) (.cons (.p _) (.cons (.p _) (.cons (.p _) (.cons (.p _) (.cons (.own (enc := A0) b.2.2.1 Z Z) (.cons (.own (enc := Ad) b.2.2.2.1 Z Z) (.cons (.own (enc := Ad) b.2.2.2.2.1 Z Z) (.cons (.p _) .nil))))))))))) Le.rfl
end Go.E
/- Plain functions, and walks in step with them. Written by a program (gen.py). No condition. -/
set_option maxRecDepth 100000
set_option maxHeartbeats 1000000
namespace Go.E
open Go Go.RowKit Go.Proofs
noncomputable def EC (b : Ay) (f : ((List Aj) × Int)) (a : Int × (List Aj)) : Option ((Int × (List Aj)) ⊕ (C6 × Int)) :=
 bif decide (a.1 < (f.1.length : Int)) then (AX a.2 a.1).bind fun c => (Ec b c).bind fun d => (AX a.2 a.1).bind fun g => some (.inl (AO (a.1 + 1), A6 a.2 a.1 d)) else ((Bv b).bind fun e => some ((⟨e, a.2⟩ : C6), 0)).map .inr
noncomputable def Fv (d : AK) : Option (C6 × Int) :=
 (Cj d).bind fun a => I3 a.1 (bif (a.2 != 0) then some ((⟨(⟨[], [], [], [], 0, 0, 0, 0, false⟩ : AK), []⟩ : C6), a.2) else none) fun c => bif (a.2 != 0) then some ((⟨(⟨[], [], [], [], 0, 0, 0, 0, false⟩ : AK), []⟩ : C6), a.2) else (Ig c).bind fun b => bif (b.2 != 0) then some ((⟨(⟨[], [], [], [], 0, 0, 0, 0, false⟩ : AK), []⟩ : C6), b.2) else AT (EC c b) (0, b.1)
theorem S5 (d : AK) (r : (C6 × Int)) (h : Fv d = some r) : Ax Tryz.prog 52 [.agg (AS d)] (· = .tup [.agg (Ck r.1), .int .i64 r.2]) := by
 refine fn AA Tryz.func52 Z Z 45 Z [.cell 2 35, .tmp 3] Z [(0, .p (.agg (AS d)))] Z Z fun A hA => ?_
 unfold Fv at h
 refine rs AA <| rl Z <| rs AA <| rn 1 Z <| bq h fun af l b => sx Z (AM (Ow _ _ l) (.inr Z) Z Z Z ?_)
 revert b; rcases aj : af.1 with _ | ag <;> intro b
 .replace b := Tq b
  refine rl Z <| AB <| rs AA <| rl Z <| cd Z b (fun ac => ?_) (fun m => ?_)
  .refine rs AA <| rl Z <| AF <| AG ?_
   cases ac
   exact er Z (Le.tup' (.cons (Le.agg' (.cons (Le.nil _) (.cons (Le.nil _) (.cons (Le.nil _) (.cons (Le.nil _) (.cons Le.rfl (.cons Le.rfl (.cons Le.rfl (.cons Le.rfl (.cons Le.rfl (.cons (Le.nil _) .nil))))))))))) (.cons Le.rfl .nil)))
  refine AE <| AC <| rs AA <| rn 1 Z ?_
  cases m
 replace b := Tr b
 refine rl Z <| AB <| rs AA <| rl Z <| cd Z b (fun v => ?_) (fun x => ?_)
 .refine rs AA <| rl Z <| AF <| AG ?_
  cases v
  exact er Z (Le.tup' (.cons (Le.agg' (.cons (Le.nil _) (.cons (Le.nil _) (.cons (Le.nil _) (.cons (Le.nil _) (.cons Le.rfl (.cons Le.rfl (.cons Le.rfl (.cons Le.rfl (.cons Le.rfl (.cons (Le.nil _) .nil))))))))))) (.cons Le.rfl .nil)))
 refine AE <| AC <| rs AA <| rn 1 Z <| bq x fun ae k y => sx Z (Vw (c' := 3) (Wt _ _ k) [] Z trivial Z Z Z Z Z Z Z <| rl Z <| AB <| rs AA <| rl Z <| cd Z y (fun aa => ?_) (fun ab => ?_))
 .refine rs AA <| rl Z <| AF <| AG ?_
  cases aa
  exact er Z (Le.tup' (.cons (Le.agg' (.cons (Le.nil _) (.cons (Le.nil _) (.cons (Le.nil _) (.cons (Le.nil _) (.cons Le.rfl (.cons Le.rfl (.cons Le.rfl (.cons Le.rfl (.cons Le.rfl (.cons (Le.nil _) .nil))))))))))) (.cons Le.rfl .nil)))
 refine AE <| AC <| AB <| rs AA <| rl Z <| AH ?_
 apply lp (a := r) (fun c : (Int × (List Aj)) => ⟨45, [(2, .lpb 0 0), (4, lq (Aq ag)), (6, .lsl 1 9 0 c.2.length), (27, li (ae.1.length : Int)), (28, li c.1)], [(0, .box [.p (.nils), .p (.nils), .p (.nils), .p (.nils), li 0, li 0, li 0, li 0, lb false, .p (.nils)]), (1, .row 72 9 (c.2.map BM))], 2⟩) ab
 . exact wf hA [(0, 1), (1, 2)] Z Z Z
 intro c ai g
 unfold EC at g
 refine rs AA <| rl Z <| AB <| cd Z g (fun n => ?_) (fun t => ?_)
 .exact AE <| AC <| AB <| AH <| rs AA <| rl Z <| rg AA <| rn 5 Z <| bq n fun ak e o => sx Z (By e Z Z Z Z <| sx Z (C5 e Z Z Z <| bq o fun ad i q => sx Z (AM (Wv _ _ _ i) (.inr Z) Z Z Z <| bq q fun al f s => sx Z (By f Z Z Z Z <| sx Z (LY (z := ad) f Z Z Z Z Z Z Z Z <| rl Z <| Af <| AC <| rg AA <| rl Z <| Ar s (wk [(0, 0), (1, 1)] (free hA _) Z Z Z (.cons Z (.cons Z (.cons (by simp only [BJ]; rfl) (.cons Z (.cons Z .nil))))) (.cons Z Z (.cons Z Z .nil))))))))
 refine AV <| AW <| CO t fun ah u => Ap <| AC <| rs AA <| rn 1 Z <| bq u fun am j w => sx Z (AM (Gy _ _ j) (.inr Z) Z Z Z <| rl Z <| AF ?_)
 cases w
 exact er (Tv Z (.cons (.agg (.cons (.p _) (.cons (.p _) (.cons (.p _) (.cons (.p _) (.cons (.p _) (.cons (.p _) (.cons (.p _) (.cons (.p _) (.cons (.p _) (.cons (.own (enc := BM) c.2 Z Z) .nil))))))))))) (.cons (.one (.p _)) .nil))) Le.rfl
noncomputable def F2 (a : AK) : Option (C6 × Bool) :=
 (Ge a).bind fun c => bif (!c) then some ((⟨(⟨[], [], [], [], 0, 0, 0, 0, false⟩ : AK), []⟩ : C6), false) else (Fv a).bind fun b => some (b.1, (b.2 == 0))
theorem Pz (a : AK) (r : (C6 × Bool)) (h : F2 a = some r) : Ax Tryz.prog 24 [.agg (AS a)] (· = .tup [.agg (Ck r.1), .bool r.2]) := by
 refine fn AA Tryz.func24 Z Z 18 Z [.cell 2 35, .tmp 3] Z [(0, .p (.agg (AS a)))] Z Z fun A hA => ?_
 unfold F2 at h
 refine rs AA <| rl Z <| AB <| rs AA <| rn 1 Z <| bq h fun j c d => sx Z (AM (Oy _ _ c) (.inl Z) Z Z Z <| rl Z <| cd Z d (fun e => ?_) (fun f => ?_))
 .refine rs AA <| rl Z <| AF <| AG ?_
  cases e
  exact er Z (Le.tup' (.cons (Le.agg' (.cons (Le.nil _) (.cons (Le.nil _) (.cons (Le.nil _) (.cons (Le.nil _) (.cons Le.rfl (.cons Le.rfl (.cons Le.rfl (.cons Le.rfl (.cons Le.rfl (.cons (Le.nil _) .nil))))))))))) (.cons Le.rfl .nil)))
 refine AE <| AC <| rs AA <| rn 1 Z <| bq f fun i b g => sx Z (AM (S5 _ _ b) (.inr Z) Z Z Z <| rl Z <| rs AA <| rl Z <| AF ?_)
 cases g
 exact er Z Le.rfl
noncomputable def H6 (b : AK) : Option (Option Ay) :=
 (Ge b).bind fun c => bif (!c) then some none else (Cj b).bind fun a => I3 a.1 (bif (a.2 != 0) then some none else some none) fun d => bif (a.2 != 0) then some none else some (some d)
theorem SY (b : AK) (r : (Option Ay)) (h : H6 b = some r) : Ax Tryz.prog 33 [.agg (AS b)] (· = Wp Aq r) := by
 refine fn AA Tryz.func33 Z Z 16 Z [.tmp 2] Z [(0, .p (.agg (AS b)))] Z Z fun A hA => ?_
 unfold H6 at h
 refine rs AA <| rl Z <| AB <| rs AA <| rn 1 Z <| bq h fun o d e => sx Z (AM (Oy _ _ d) (.inl Z) Z Z Z <| rl Z <| cd Z e (fun f => ?_) (fun g => ?_))
 .refine rs AA <| rl Z <| AF <| AG ?_
  cases f
  exact er Z Le.rfl
 refine AE <| AC <| rs AA <| rn 1 Z <| bq g fun m c a => sx Z (AM (Ow _ _ c) (.inr Z) Z Z Z ?_)
 revert a; rcases n : m.1 with _ | q <;> intro a
 .replace a := Tq a
  refine rl Z <| AB <| rs AA <| rl Z <| cd Z a (fun i => ?_) (fun j => ?_)
  .refine rs AA <| rl Z <| AF <| AG ?_
   cases i
   exact er Z Le.rfl
  refine AE <| AC <| rs AA <| rl Z <| AF ?_
  cases j
  exact er Z Le.rfl
 replace a := Tr a
 refine rl Z <| AB <| rs AA <| rl Z <| cd Z a (fun k => ?_) (fun l => ?_)
 .refine rs AA <| rl Z <| AF <| AG ?_
  cases k
  exact er Z Le.rfl
 refine AE <| AC <| rs AA <| rl Z <| AF ?_
 cases l
 exact er Z Le.rfl
noncomputable def Gb : Option Ak :=
 some (⟨0, ([(⟨(⟨#[120]⟩ : ByteArray), 5, 10, 10, 5⟩ : BK)] : List BK), ([(⟨(⟨#[116]⟩ : ByteArray), 0, 0, 0, ([(⟨false, 0, 1, 1⟩ : Ch), (⟨false, 0, 3, 4⟩ : Ch), (⟨true, 0, 2, 0⟩ : Ch)] : List Ch)⟩ : DG)] : List DG)⟩ : Ak)
theorem Jw (r : Ak) (h : Gb = some r) : Ax Tryz.prog 34 [] (· = .agg (AY r)) := by
 refine fn AA Tryz.func34 Z Z 10 Z [.cell 0 31] Z [] Z Z fun A hA => ?_
 unfold Gb at h
 refine rs AA <| rl Z <| rs AA <| rn 1 Z <| sx Z (Wh (sz := 5) (l := List.map BL ([(⟨(⟨#[120]⟩ : ByteArray), 5, 10, 10, 5⟩ : BK)] : List BK)) Z <| rn 3 Z <| sx Z (Wh (sz := 4) (l := List.map EI ([(⟨false, 0, 1, 1⟩ : Ch), (⟨false, 0, 3, 4⟩ : Ch), (⟨true, 0, 2, 0⟩ : Ch)] : List Ch)) Z <| rn 1 Z <| sx Z (Wh (sz := 5) (l := List.map Bz ([(⟨(⟨#[116]⟩ : ByteArray), 0, 0, 0, ([(⟨false, 0, 1, 1⟩ : Ch), (⟨false, 0, 3, 4⟩ : Ch), (⟨true, 0, 2, 0⟩ : Ch)] : List Ch)⟩ : DG)] : List DG)) Z <| rl Z <| AF ?_)))
 cases h
 exact er Z Le.rfl
noncomputable def FU (b : Ak) (a : Int) (c : Int) : Option ((List Ch) × Bool) :=
 ((bif decide (a < 0) then some true else bif decide ((b.runs.length : Int) <= a) then some true else bif decide (c < 0) then some true else (AX b.runs a).bind fun e => some (decide ((e.legs.length : Int) < c)) : Option (Bool))).bind fun (d : Bool) => bif d then some ([], false) else (AX b.runs a).bind fun f => some (f.legs, true)
theorem Nb (a : Ak) (b : Int) (d : Int) (r : ((List Ch) × Bool)) (h : FU a b d = some r) : Ax Tryz.prog 39 [.agg (AY a), .int .i64 b, .int .i64 d] (· = .tup [.slice 4 (r.1.map EI), .bool r.2]) := by
 refine fn AA Tryz.func39 Z Z 38 Z [.tmp 6, .tmp 7] Z [(0, .p (.agg (AY a))), (1, .p (.int .i64 b)), (2, .p (.int .i64 d))] Z Z fun A hA => ?_
 unfold FU at h
 refine rs AA <| rl Z <| AB <| jb (fun c : Bool => ⟨38, [(1, li b), (3, .lpb 0 0), (31, lb c)], [(0, bx (AY a))], 1⟩) h (fun c g => ?_) (fun c q => ?_)
 .refine rg AA <| rn 3 Z <| gs 10 g Z Z Z (fun i => ?_) (fun j => ?_)
  .exact rl Z <| AL i (wf hA [(0, 0)] Z Z Z)
  refine rn 3 Z <| sx Z (Ab Z Z <| rn 3 Z <| gs 17 j Z Z Z (fun k => ?_) (fun l => ?_))
  .exact rl Z <| AL k (wf hA [(0, 0)] Z Z Z)
  refine rn 4 Z <| gs 21 l Z Z Z (fun m => ?_) (fun n => ?_)
  .exact rl Z <| AL m (wf hA [(0, 0)] Z Z Z)
  exact rn 4 Z <| bq n fun v e o => sx Z (Ac e Z Z Z <| rn 2 Z <| sx Z (Ab Z Z <| rl Z <| AL o (wf hA [(0, 0)] Z Z Z)))
 refine cd Z q (fun s => ?_) (fun t => ?_)
 .refine rs AA <| rl Z <| AF <| AG ?_
  cases s
  exact er Z (Le.tup' (.cons (Le.nil _) (.cons Le.rfl .nil)))
 refine AE <| AC <| rs AA <| rn 3 Z <| bq t fun w f u => sx Z (Ac f Z Z Z <| rl Z <| AF ?_)
 cases u
 exact er Z Le.rfl
noncomputable def Hu (b : Ay) (c : Int) : Option (Int × Bool) :=
 (CY b c).bind fun a => some (a.1.elem, a.2)
theorem S6 (a : Ay) (b : Int) (r : (Int × Bool)) (h : Hu a b = some r) : Ax Tryz.prog 70 [.place (Aq a) 0, .int .i64 b] (· = .tup [.int .i64 r.1, .bool r.2]) := by
 refine fn AA Tryz.func70 Z Z 17 Z [.tmp 4, .tmp 5] Z [(0, .p (.place (Aq a) 0)), (1, .p (.int .i64 b))] Z Z fun A hA => ?_
 unfold Hu at h
 refine rs AA <| rl Z <| rs AA <| rn 2 Z <| bq h fun e c d => sx Z (AM (Ga _ _ _ c) (.inl Z) Z Z Z <| rl Z <| rs AA <| rl Z <| AF ?_)
 cases d
 exact er Z Le.rfl
noncomputable def F5 (b : Ay) (c : Int) : Option Int :=
 (Hu b c).bind fun a => bif (!a.2) then some (-1) else some a.1
theorem P1 (a : Ay) (b : Int) (r : Int) (h : F5 a b = some r) : Ax Tryz.prog 40 [.place (Aq a) 0, .int .i64 b] (· = .int .i64 r) := by
 refine fn AA Tryz.func40 Z Z 16 Z [.tmp 4] Z [(0, .p (.place (Aq a) 0)), (1, .p (.int .i64 b))] Z Z fun A hA => ?_
 unfold F5 at h
 refine rs AA <| rl Z <| rs AA <| rn 2 Z <| bq h fun g c d => sx Z (AM (S6 _ _ _ c) (.inl Z) Z Z Z <| rl Z <| AB <| rs AA <| rl Z <| cd Z d (fun e => ?_) (fun f => ?_))
 .refine rs AA <| rl Z <| AF <| AG ?_
  cases e
  exact er Z Le.rfl
 refine AE <| AC <| rs AA <| rl Z <| AF ?_
 cases f
 exact er Z Le.rfl
noncomputable def CI (c : Ay) (d : Ak) (e : Int) (b : Int) : Option Int :=
 (FU d e b).bind fun f => bif (!f.2) then some (-1) else bif (b == 0) then (AX d.runs e).bind fun g => (F5 c g.frm).bind fun h => some h else (AX f.1 (AO (b - 1))).bind fun a => bif (a.fin == 1) then (F5 c a.to).bind fun i => some i else bif (a.fin == 3) then some a.to else some (-1)
theorem D9 (a : Ay) (b : Ak) (c : Int) (d : Int) (r : Int) (h : CI a b c d = some r) : Ax Tryz.prog 13 [.place (Aq a) 0, .agg (AY b), .int .i64 c, .int .i64 d] (· = .int .i64 r) := by
 refine fn AA Tryz.func13 Z Z 48 Z [.tmp 8] Z [(0, .p (.place (Aq a) 0)), (1, .p (.agg (AY b))), (2, .p (.int .i64 c)), (3, .p (.int .i64 d))] Z Z fun A hA => ?_
 unfold CI at h
 refine rs AA <| rl Z <| rs AA <| rn 3 Z <| bq h fun ab g o => sx Z (AM (Nb _ _ _ _ g) (.inr Z) Z Z Z <| rl Z <| AB <| rs AA <| rl Z <| cd Z o (fun x => ?_) (fun y => ?_))
 .refine rs AA <| rl Z <| AF <| AG ?_
  cases x
  exact er Z Le.rfl
 refine AE <| AC <| AB <| rs AA <| rl Z <| cd Z y (fun k => ?_) (fun n => ?_)
 .refine rs AA <| rn 4 Z <| bq k fun z e l => sx Z (Ac e Z Z Z <| rn 2 Z <| bq l fun aa f m => sx Z (AM (P1 _ _ _ f) (.inl Z) Z Z Z <| rl Z <| AF <| AG ?_))
  have hr := Option.some.inj m; subst hr
  exact er Z Le.rfl
 refine AE <| AC <| AB <| rs AA <| rn 3 Z <| bq n fun ac i q => sx Z (Ac i Z Z Z <| rl Z <| rs AA <| rl Z <| AH <| rs AA <| rl Z <| cd Z q (fun s => ?_) (fun u => ?_))
 .refine rs AA <| rn 3 Z <| bq s fun ad j t => sx Z (AM (P1 _ _ _ j) (.inl Z) Z Z Z <| rl Z <| AF <| AN <| AG ?_)
  have hr := Option.some.inj t; subst hr
  exact er Z Le.rfl
 refine rs AA <| rl Z <| cd Z u (fun v => ?_) (fun w => ?_)
 .refine rs AA <| rl Z <| AF <| AN <| AG ?_
  cases v
  exact er Z Le.rfl
 refine AE <| Af <| AC <| rs AA <| rl Z <| AF ?_
 cases w
 exact er Z Le.rfl
noncomputable def JQ (b : Ay) (a : Int) : Option Int :=
 (BS b a).bind fun c => bif (c == 4) then some (-1) else some a
theorem Px (a : Ay) (b : Int) (r : Int) (h : JQ a b = some r) : Ax Tryz.prog 48 [.place (Aq a) 0, .int .i64 b] (· = .int .i64 r) := by
 refine fn AA Tryz.func48 Z Z 10 Z [.tmp 4] Z [(0, .p (.place (Aq a) 0)), (1, .p (.int .i64 b))] Z Z fun A hA => ?_
 unfold JQ at h
 refine rs AA <| rl Z <| AB <| rs AA <| rn 2 Z <| bq h fun g c d => sx Z (AM (Bp _ _ _ c) (.inl Z) Z Z Z <| rl Z <| cd Z d (fun e => ?_) (fun f => ?_))
 .refine rs AA <| rl Z <| AF <| AG ?_
  cases e
  exact er Z Le.rfl
 refine AE <| AC <| rs AA <| rl Z <| AF ?_
 have hr := Option.some.inj f; subst hr
 exact er Z Le.rfl
noncomputable def Gx (a : Ay) (b : Int) : Option (Int × Int) :=
 bif (Ah a.line b).isSome then (AX ([((Ah a.line b).getD (⟨0, 0⟩ : Bi)).a0, ((Ah a.line b).getD (⟨0, 0⟩ : Bi)).a1] : List Int) 0).bind fun c => (AX ([((Ah a.line b).getD (⟨0, 0⟩ : Bi)).a0, ((Ah a.line b).getD (⟨0, 0⟩ : Bi)).a1] : List Int) 1).bind fun d => some (c, d) else some ((-1), (-1))
theorem Ma (a : Ay) (b : Int) (r : (Int × Int)) (h : Gx a b = some r) : Ax Tryz.prog 77 [.place (Aq a) 0, .int .i64 b] (· = .tup [.int .i64 r.1, .int .i64 r.2]) := by
 refine fn AA Tryz.func77 Z Z 22 Z [.tmp 4, .tmp 5] Z [(0, .p (.place (Aq a) 0)), (1, .p (.int .i64 b))] Z Z fun A hA => ?_
 unfold Gx at h
 refine rs AA <| rl Z <| AB <| rs AA <| rn 5 Z <| sx Z (JN (et := 161) (ke := (.int .i64)) (ve := (fun x => .agg (Em x))) (mp := a.line) (y := b) (⟨0, 0⟩ : Bi) Fm Z Z Z Z <| rl Z <| rs AA <| rl Z <| cd Z h (fun e => ?_) (fun j => ?_))
 .refine AB ?_
  refine Bu AA mixed [0, 1, 2, 3, 4, 5] 6 (by kernel_rfl) Z Z Z ?_
  refine bq e fun k c f => Au Z (Ai Z (Wd (l := ([((Ah a.line b).getD (⟨0, 0⟩ : Bi)).a0, ((Ah a.line b).getD (⟨0, 0⟩ : Bi)).a1] : List Int)) c Z Z Z Z <| Au Z (GV Z (Wg (g := fun y => .p (.int .i64 y)) c Z Z Z Z <| bq f fun m d i => Au Z (Ai Z (Wd (l := ([((Ah a.line b).getD (⟨0, 0⟩ : Bi)).a0, ((Ah a.line b).getD (⟨0, 0⟩ : Bi)).a1] : List Int)) d Z Z Z Z <| Au Z (GV Z (Wg (g := fun y => .p (.int .i64 y)) d Z Z Z Z <| BG Z <| AC <| AF <| AG ?_))))))))
  cases i
  exact er Z Le.rfl
 refine AE <| AC <| rs AA <| rl Z <| AF ?_
 cases j
 exact er Z Le.rfl
noncomputable def Hk (b : Ay) (c : Ak) (d : Int) (e : Int) : Option (AI × Bool) :=
 bif (e == 0) then (AX c.runs d).bind fun l => (CY b l.frm).bind fun f => some (f.1, f.2) else (AX c.runs d).bind fun m => (AX m.legs (AO (e - 1))).bind fun a => bif (a.fin == 1) then (CY b a.to).bind fun g => some (g.1, g.2) else bif (a.fin == 3) then (Bb b (⟨a.to, 0⟩ : AI)).bind fun h => (Bb b (⟨a.to, 1⟩ : AI)).bind fun i => ((bif (!h.2) then some i.2 else some false : Option (Bool))).bind fun (j : Bool) => bif j then some ((⟨a.to, 0⟩ : AI), true) else ((bif h.2 then some (!i.2) else some false : Option (Bool))).bind fun (k : Bool) => some ((⟨a.to, 1⟩ : AI), k) else some ((⟨0, 0⟩ : AI), false)
theorem VM (c : Ay) (d : Ak) (e : Int) (f : Int) (r : (AI × Bool)) (h : Hk c d e f = some r) : Ax Tryz.prog 42 [.place (Aq c) 0, .agg (AY d), .int .i64 e, .int .i64 f] (· = .tup [.agg (AU r.1), .bool r.2]) := by
 refine fn AA Tryz.func42 Z Z 82 Z [.cell 8 40, .tmp 9] Z [(0, .p (.place (Aq c) 0)), (1, .p (.agg (AY d))), (2, .p (.int .i64 e)), (3, .p (.int .i64 f))] Z Z fun A hA => ?_
 unfold Hk at h
 refine rs AA <| rl Z <| AB <| rs AA <| rl Z <| cd Z h (fun w => ?_) (fun af => ?_)
 .refine rs AA <| rn 4 Z <| bq w fun aq i ad => sx Z (Ac i Z Z Z <| rn 2 Z <| bq ad fun ar j ae => sx Z (AM (Ga _ _ _ j) (.inl Z) Z Z Z <| rl Z <| AF <| AG ?_))
  cases ae
  exact er Z Le.rfl
 refine AE <| AC <| AB <| rs AA <| rn 3 Z <| bq af fun au k ag => sx Z (Ac k Z Z Z <| rn 4 Z <| bq ag fun g l ah => sx Z (Ac l Z Z Z <| rl Z <| rs AA <| rl Z <| AH <| rs AA <| rl Z <| cd Z ah (fun ai => ?_) (fun ak => ?_)))
 .refine rs AA <| rn 3 Z <| bq ai fun av m aj => sx Z (AM (Ga _ _ _ m) (.inl Z) Z Z Z <| rl Z <| AF <| AN <| AG ?_)
  cases aj
  exact er Z Le.rfl
 refine rs AA <| rl Z <| cd Z ak (fun al => ?_) (fun ac => ?_)
 .refine rs AA <| rn 4 Z <| bq al fun ao n am => sx Z (AM (CC _ _ _ n) (.inl Z) Z Z Z <| rl Z <| rs AA <| rn 4 Z <| bq am fun ap o an => sx Z (AM (CC _ _ _ o) (.inl Z) Z Z Z <| rl Z <| AB <| jb (fun a : Bool => ⟨82, [(8, .lpb 0 0), (10, .lpb 1 0), (12, lb ao.2), (14, lb ap.2), (69, lb a)], [(0, .box [li 0, li 0]), (1, bx (EI g))], 2⟩) an (fun a q => ?_) (fun a u => ?_)))
  .refine rg AA <| rn 3 Z <| gs 67 q Z Z Z (fun s => ?_) (fun t => ?_)
   .exact rl Z <| AL s (wf hA [(0, 1), (1, 2)] Z Z Z)
   exact rl Z <| AL t (wf hA [(0, 1), (1, 2)] Z Z Z)
  refine cd Z u (fun v => ?_) (fun x => ?_)
  .refine rs AA <| rl Z <| AF <| AG <| AN <| AG ?_
   cases v
   exact er Z Le.rfl
  refine AE <| AC <| jb (fun b : Bool => ⟨82, [(8, .lpb 0 0), (9, lb b)], [(0, .box [li g.to, li 1])], 1⟩) x (fun b y => ?_) (fun b ab => ?_)
  .refine rg AA <| rn 5 Z <| gs 77 y Z Z Z (fun z => ?_) (fun aa => ?_)
   .exact rl Z <| AL z (wf hA [(0, 0)] Z Z Z)
   exact rl Z <| AL aa (wf hA [(0, 0)] Z Z Z)
  refine AF <| AN <| AG ?_
  cases ab
  exact er Z Le.rfl
 refine AE <| Af <| AC <| rs AA <| rl Z <| AF ?_
 cases ac
 exact er Z Le.rfl
noncomputable def G0 (d : Ay) (e : Ak) (f : Int) (a : Int) : Option Int :=
 (FU e f a).bind fun c => ((bif (!c.2) then some true else some (a == (c.1.length : Int)) : Option (Bool))).bind fun (g : Bool) => bif g then some (-1) else (Hk d e f a).bind fun b => ((bif (!b.2) then some true else (AX c.1 a).bind fun j => bif j.turn then (BS d b.1.elem).bind fun k => some (k != 1) else some false : Option (Bool))).bind fun (h : Bool) => bif h then some (-1) else (((AX c.1 a).bind fun l => bif l.turn then some (AO (1 - b.1.fin)) else some b.1.fin : Option (Int))).bind fun (i : Int) => (CV d (⟨b.1.elem, i⟩ : AI)).bind fun m => some m
theorem RH (a : Ay) (c : Ak) (d : Int) (b : Int) (r : Int) (h : G0 a c d b = some r) : Ax Tryz.prog 15 [.place (Aq a) 0, .agg (AY c), .int .i64 d, .int .i64 b] (· = .int .i64 r) := by
 refine fn AA Tryz.func15 Z Z 63 Z [.tmp 8] Z [(0, .p (.place (Aq a) 0)), (1, .p (.agg (AY c))), (2, .p (.int .i64 d)), (3, .p (.int .i64 b))] Z Z fun A hA => ?_
 unfold G0 at h
 refine rs AA <| rl Z <| rs AA <| rn 3 Z <| bq h fun j l z => sx Z (AM (Nb _ _ _ _ l) (.inr Z) Z Z Z <| rl Z <| AB <| jb (fun e : Bool => ⟨63, [(0, lq (Aq a)), (2, li d), (3, li b), (5, .lpb 0 0), (9, ls 4 EI j.1), (26, lb e)], [(0, bx (AY c))], 1⟩) z (fun e s => ?_) (fun e v => ?_))
 .refine rg AA <| rn 3 Z <| gs 21 s Z Z Z (fun t => ?_) (fun u => ?_)
  .exact rl Z <| AL t (wf hA [(0, 0)] Z Z Z)
  exact rn 2 Z <| sx Z (Ab Z Z <| rl Z <| AL u (wf hA [(0, 0)] Z Z Z))
 refine cd Z v (fun w => ?_) (fun x => ?_)
 .refine rs AA <| rl Z <| AF <| AG ?_
  cases w
  exact er Z Le.rfl
 refine AE <| AC <| rs AA <| rn 4 Z <| bq x fun i k y => sx Z (AM (VM _ _ _ _ _ k) (.inl Z) Z Z Z <| rl Z <| AB <| jb (fun f : Bool => ⟨63, [(0, lq (Aq a)), (3, li b), (9, ls 4 EI j.1), (11, .lpb 0 0), (50, lb f)], [(0, .box [li i.1.elem, li i.1.fin])], 1⟩) y (fun f aa => ?_) (fun f ah => ?_))
 .refine rg AA <| rn 3 Z <| gs 37 aa Z Z Z (fun ab => ?_) (fun ac => ?_)
  .exact rl Z <| AL ab (wf hA [(0, 1)] Z Z Z)
  refine rn 2 Z <| bq ac fun aq m ad => sx Z (Ac m Z Z Z <| rn 3 Z <| gs 43 ad Z Z Z (fun ae => ?_) (fun ag => ?_))
  .exact rn 3 Z <| bq ae fun ar n af => sx Z (AM (Bp _ _ _ n) (.inl Z) Z Z Z <| rl Z <| AL af (wf hA [(0, 1)] Z Z Z))
  exact rl Z <| AL ag (wf hA [(0, 1)] Z Z Z)
 refine cd Z ah (fun ai => ?_) (fun aj => ?_)
 .refine rs AA <| rl Z <| AF <| AG ?_
  cases ai
  exact er Z Le.rfl
 refine AE <| AC <| jb (fun g : Int => ⟨63, [(0, lq (Aq a)), (11, .lpb 0 0)], [(0, .box [li i.1.elem, li g])], 1⟩) aj (fun g ak => ?_) (fun g ao => ?_)
 .refine rs AA <| rn 2 Z <| bq ak fun au o al => sx Z (Ac o Z Z Z <| rl Z <| cd Z al (fun am => ?_) (fun an => ?_))
  .exact rg AA <| rl Z <| AL am (wf hA [(0, 0)] Z Z Z)
  exact AE <| AL an (wf hA [(0, 0)] Z Z Z)
 refine rs AA <| rn 2 Z <| bq ao fun av q ap => sx Z (AM (GG _ _ _ q) (.inl Z) Z Z Z <| rl Z <| AF ?_)
 have hr := Option.some.inj ap; subst hr
 exact er Z Le.rfl
noncomputable def Ij (a : Aj) (b : Ch) : Option Bool :=
 ((bif (a.fin != b.fin) then some true else some ((a.steps.length : Int) == 0) : Option (Bool))).bind fun (c : Bool) => bif c then some false else bif (b.fin == 1) then some (a.to == b.to) else (AX a.steps (AO ((a.steps.length : Int) - 1))).bind fun d => some (d.elem == b.to)
theorem Ww (a : Aj) (b : Ch) (r : Bool) (h : Ij a b = some r) : Ax Tryz.prog 45 [.agg (BM a), .agg (EI b)] (· = .bool r) := by
 refine fn AA Tryz.func45 Z Z 36 Z [.tmp 4] Z [(0, .p (.agg (BM a))), (1, .p (.agg (EI b)))] Z Z fun A hA => ?_
 unfold Ij at h
 refine rs AA <| rl Z <| AB <| jb (fun c : Bool => ⟨36, [(2, .lpb 0 0), (3, .lpb 1 0), (15, lb c)], [(0, bx (BM a)), (1, bx (EI b))], 2⟩) h (fun c e => ?_) (fun c i => ?_)
 .refine rg AA <| rn 6 Z <| gs 10 e Z Z Z (fun f => ?_) (fun g => ?_)
  .exact rl Z <| AL f (wf hA [(0, 0), (1, 1)] Z Z Z)
  exact rn 2 Z <| sx Z (Ab Z Z <| rl Z <| AL g (wf hA [(0, 0), (1, 1)] Z Z Z))
 refine cd Z i (fun j => ?_) (fun k => ?_)
 .refine rs AA <| rl Z <| AF <| AG ?_
  cases j
  exact er Z Le.rfl
 refine AE <| AC <| AB <| rs AA <| rl Z <| cd Z k (fun l => ?_) (fun m => ?_)
 .refine rs AA <| rl Z <| AF <| AG ?_
  cases l
  exact er Z Le.rfl
 refine AE <| AC <| AB ?_
 refine Bu AA mixed [0, 1, 2, 3, 4, 5, 6, 7, 8, 9, 10, 11, 12] 13 (by kernel_rfl) Z Z Z ?_
 refine As 4 Z <| Au Z (Jm Z Z <| As 1 Z <| bq m fun o d n => Au Z (Ai Z (Ac d Z Z Z <| BG Z <| AC <| AF ?_)))
 cases n
 exact er Z Le.rfl
noncomputable def DB (a : Ay) (b : Int) : Option Int :=
 (D2 a b).bind fun c => some c.length
theorem K7 (a : Ay) (b : Int) (r : Int) (h : DB a b = some r) : Ax Tryz.prog 74 [.place (Aq a) 0, .int .i64 b] (· = .int .i64 r) := by
 refine fn AA Tryz.func74 Z Z 9 Z [.tmp 4] Z [(0, .p (.place (Aq a) 0)), (1, .p (.int .i64 b))] Z Z fun A hA => ?_
 unfold DB at h
 refine rs AA <| rl Z <| rs AA <| rn 2 Z <| bq h fun e c d => sx Z (AM (Mn _ _ _ c) (.inl Z) Z Z Z <| rl Z <| AF ?_)
 cases d
 exact er Z Le.rfl
noncomputable def Gk (a : Ay) (d : BK) (b : Int) : Option Bool :=
 (BS a b).bind fun c => bif (c == 4) then some true else bif (c == 1) then (DB a b).bind fun e => (Bv a).bind fun f => some (decide (AO (d.len + f.margin) <= e)) else some false
theorem UE (a : Ay) (b : BK) (c : Int) (r : Bool) (h : Gk a b c = some r) : Ax Tryz.prog 47 [.place (Aq a) 0, .agg (BL b), .int .i64 c] (· = .bool r) := by
 refine fn AA Tryz.func47 Z Z 24 Z [.tmp 6] Z [(0, .p (.place (Aq a) 0)), (1, .p (.agg (BL b))), (2, .p (.int .i64 c))] Z Z fun A hA => ?_
 unfold Gk at h
 refine rs AA <| rl Z <| AB <| rs AA <| rn 2 Z <| bq h fun o d g => sx Z (AM (Bp _ _ _ d) (.inl Z) Z Z Z <| rl Z <| AH <| rs AA <| rl Z <| cd Z g (fun i => ?_) (fun j => ?_))
 .refine rs AA <| rl Z <| AF <| AN <| AG ?_
  cases i
  exact er Z Le.rfl
 refine rs AA <| rl Z <| cd Z j (fun k => ?_) (fun n => ?_)
 .refine AB ?_
  refine Bu AA mixed [0, 1, 2, 3, 4, 5, 6, 7, 8, 9, 10] 11 (by kernel_rfl) Z Z Z ?_
  refine As 2 Z <| bq k fun q e l => Au Z (A4 (K7 _ _ _ e) (.inl Z) Z Z Z <| As 3 Z <| bq l fun s f m => Au Z (A4 (Gy _ _ f) (.inr Z) Z Z Z <| BG Z <| AC <| AF <| AN <| AG ?_))
  cases m
  exact er Z Le.rfl
 refine AE <| Af <| AC <| rs AA <| rl Z <| AF ?_
 cases n
 exact er Z Le.rfl
noncomputable def HF (f : Ay) (c : (List Aj)) (g : Ak) (h : Int) (i : Int) (j : Int) (l : Int) (k : BK) (a : Int × (List Int)) : Option ((Int × (List Int)) ⊕ (List Int)) :=
 bif decide (a.1 < (c.length : Int)) then (((AX c a.1).bind fun b => ((bif (b.frm == j) then (AX g.runs h).bind fun m => (AX m.legs i).bind fun n => (Ij b n).bind fun o => bif o then bif (!b.bare) then (BY b.zone l).bind fun p => bif (!p) then (AX b.steps (AO ((b.steps.length : Int) - 1))).bind fun q => (Gk f k q.elem).bind fun r => some r else some false else some false else some false else some false : Option (Bool))).bind fun (e : Bool) => bif e then (Bt a.2 [a.1]).bind fun s => some s else some a.2 : Option ((List Int)))).bind fun (d : (List Int)) => some (.inl (AO (a.1 + 1), d)) else some (.inr a.2)
noncomputable def Dt (c : Ay) (g : (List Aj)) (a : Ak) (b : Int) (d : Int) : Option (List Int) :=
 (G0 c a b d).bind fun e => (CI c a b d).bind fun l => ((bif decide (e < 0) then some true else (AX a.runs b).bind fun h => bif decide (h.stock < 0) then some true else (AX a.runs b).bind fun i => some (decide ((a.stock.length : Int) <= i.stock)) : Option (Bool))).bind fun (f : Bool) => bif f then some [] else (AX a.runs b).bind fun j => (AX a.stock j.stock).bind fun k => AT (HF c g a b d e l k) (0, ([] : List Int))
theorem JP (d : Ay) (c : (List Aj)) (e : Ak) (f : Int) (g : Int) (r : (List Int)) (h : Dt d c e f g = some r) : Ax Tryz.prog 18 [.place (Aq d) 0, .slice 9 (c.map BM), .agg (AY e), .int .i64 f, .int .i64 g] (· = .slice 1 (r.map Ad)) := by
 refine fn AA Tryz.func18 Z Z 116 Z [.tmp 10] Z [(0, .p (.place (Aq d) 0)), (1, .p (.slice 9 (c.map BM))), (2, .p (.agg (AY e))), (3, .p (.int .i64 f)), (4, .p (.int .i64 g))] Z Z fun A hA => ?_
 unfold Dt at h
 refine rs AA <| rl Z <| AB ?_
 refine Bu AA mixed [0, 1, 2, 3, 4, 5, 6, 7, 8, 9, 10, 11] 12 (by kernel_rfl) Z Z Z ?_
 refine As 4 Z <| bq h fun j v av => Au Z (A4 (RH _ _ _ _ _ v) (.inl Z) Z Z Z <| As 4 Z <| bq av fun k y aw => Au Z (A4 (D9 _ _ _ _ _ y) (.inl Z) Z Z Z <| BG Z <| AC <| AB <| jb (fun n : Bool => ⟨116, [(0, lq (Aq d)), (1, ls 9 BM c), (3, li f), (4, li g), (7, .lpb 0 0), (11, li j), (12, li k), (49, lb n)], [(0, bx (AY e))], 1⟩) aw (fun n ah => ?_) (fun n ao => ?_)))
 .refine Bu AA mixed [0, 1, 2, 3, 4, 5, 6, 7, 8, 9, 10, 11, 12, 13, 14, 15, 16, 17, 18, 19, 20, 21, 22] 23 (by kernel_rfl) Z Z Z ?_
  refine As 3 Z <| DZ 29 ah Z Z Z (fun ai => ?_) (fun aj => ?_)
  .exact BG Z <| AL ai (wf hA [(0, 0)] Z Z Z)
  refine As 3 Z <| bq aj fun bp t ak => Au Z (Ai Z (Ac t Z Z Z <| As 5 Z <| DZ 38 ak Z Z Z (fun al => ?_) (fun am => ?_)))
  .exact BG Z <| AL al (wf hA [(0, 0)] Z Z Z)
  exact As 3 Z <| bq am fun br u an => Au Z (Ai Z (Ac u Z Z Z <| As 4 Z <| Au Z (Jm Z Z <| BG Z <| AL an (wf hA [(0, 0)] Z Z Z))))
 refine cd Z ao (fun ap => ?_) (fun aq => ?_)
 .refine rs AA <| rl Z <| AF <| AG ?_
  cases ap
  exact er Z (Le.nil _)
 refine AE <| AC <| AB ?_
 refine Bu AA mixed [0, 1, 2, 3, 4, 5, 6, 7, 8, 9, 10, 11] 12 (by kernel_rfl) Z Z Z ?_
 refine As 5 Z <| bq aq fun bs w ar => Au Z (Ai Z (Ac w Z Z Z <| As 2 Z <| bq ar fun q x au => Au Z (Ai Z (Ac x Z Z Z <| BG Z <| AC <| rs AA <| rl Z <| AB <| rs AA <| rn 1 Z <| sx Z (Ab Z Z <| rl Z <| AH ?_)))))
 apply lp (a := r) (fun b : (Int × (List Int)) => ⟨116, [(0, lq (Aq d)), (3, li f), (4, li g), (7, .lpb 0 0), (11, li j), (12, li k), (13, .lpb 1 0), (14, .lsl 2 1 0 b.2.length), (60, ls 9 BM c), (61, li (c.length : Int)), (62, li b.1)], [(0, bx (AY e)), (1, bx (BL q)), (2, .row 3 1 (b.2.map Ad))], 3⟩) au
 . exact A8.trans (Cf 14 3 1 Z) (wf hA [(0, 0), (1, 11), (2, 13)] Z Z Z)
 intro b bo s
 unfold HF at s
 refine rs AA <| rl Z <| AB <| cd Z s (fun ax => ?_) (fun bl => ?_)
 .refine AE <| AC <| jb (fun i : (List Int) => ⟨116, [(0, lq (Aq d)), (3, li f), (4, li g), (7, .lpb 0 0), (11, li j), (12, li k), (13, .lpb 1 0), (14, .lsl 2 1 0 i.length), (60, ls 9 BM c), (61, li (c.length : Int)), (62, li b.1)], [(0, bx (AY e)), (1, bx (BL q)), (2, .row 3 1 (i.map Ad))], 3⟩) ax (fun i ay => ?_) (fun i bk => ?_)
  .refine AH <| rs AA <| rn 1 Z <| bq ay fun bt z az => sx Z (Ac z Z Z Z <| rl Z <| jb (fun o : Bool => ⟨116, [(0, lq (Aq d)), (3, li f), (4, li g), (7, .lpb 0 0), (11, li j), (12, li k), (13, .lpb 1 0), (14, .lsl 2 1 0 b.2.length), (15, li b.1), (60, ls 9 BM c), (61, li (c.length : Int)), (62, li b.1), (109, lb o)], [(0, bx (AY e)), (1, bx (BL q)), (2, .row 3 1 (b.2.map Ad))], 3⟩) az (fun o a0 => ?_) (fun o bg => ?_))
   .refine Bu AA mixed [0, 1, 2, 3, 4, 5, 6, 7, 8, 9, 10, 11, 12, 13, 14, 15, 16, 17, 18, 19, 20, 21, 22, 23, 24, 25, 26, 27, 28, 29, 30, 31, 32, 33, 34, 35, 36, 37, 38, 39, 40, 41, 42] 43 (by kernel_rfl) Z Z Z ?_
    refine As 5 Z <| DZ 71 a0 Z Z Z (fun a1 => ?_) (fun bf => ?_)
    .refine As 4 Z <| bq a1 fun bu aa a2 => Au Z (Ai Z (Ac aa Z Z Z <| As 3 Z <| bq a2 fun bv ab a3 => Au Z (Ai Z (Ac ab Z Z Z <| As 1 Z <| bq a3 fun bw ac a4 => Au Z (A4 (Ww _ _ _ ac) (.inl Z) Z Z Z <| As 2 Z <| DZ 84 a4 Z Z Z (fun a5 => ?_) (fun be => ?_))))))
     .refine As 5 Z <| DZ 89 a5 Z Z Z (fun a6 => ?_) (fun bc => ?_)
      .refine As 3 Z <| bq a6 fun bz ad a7 => Au Z (A4 (Cn _ _ _ ad) (.inl Z) Z Z Z <| As 3 Z <| DZ 96 a7 Z Z Z (fun a8 => ?_) (fun bb => ?_))
       .exact As 6 Z <| Au Z (Jm Z Z <| As 1 Z <| bq a8 fun b0 ae a9 => Au Z (Ai Z (Ac ae Z Z Z <| As 2 Z <| bq a9 fun b1 af ba => Au Z (A4 (UE _ _ _ _ af) (.inl Z) Z Z Z <| BG Z <| AL ba (wf hA (gi 3 []) Z Z Z)))))
       exact BG Z <| AL bb (wf hA (gi 3 []) Z Z Z)
      exact BG Z <| AL bc (wf hA (gi 3 []) Z Z Z)
     exact BG Z <| AL be (wf hA (gi 3 []) Z Z Z)
    exact BG Z <| AL bf (wf hA (gi 3 []) Z Z Z)
   refine cd Z bg (fun bh => ?_) (fun bj => ?_)
   .exact rg AA <| rn 3 Z <| bq bh fun b2 ag bi => sx Z (BX (enc := Ad) (l := b.2) (m := [b.1]) ag (fun _ => ⟨Z, Z⟩) Z Z Z Z Z Z <| rl Z <| Af <| AL bi (wf hA [(0, 0), (1, 1), (2, 4)] Z Z Z))
   exact AE <| Af <| AL bj (wf hA (gi 3 []) Z Z Z)
  exact rg AA <| rl Z <| Ar bk (wf hA (gi 3 []) Z Z Z)
 refine AV <| AW <| BI bl fun bn bm => Ap <| AC <| rs AA <| rl Z <| AF ?_
 cases bm
 exact er (IJ Z (.one (.own (enc := Ad) b.2 Z Z))) Le.rfl
end Go.E
/- Plain functions, and walks in step with them. Written by a program (gen.py). No condition. -/
set_option maxRecDepth 100000
set_option maxHeartbeats 1000000
namespace Go.E
open Go Go.RowKit Go.Proofs
noncomputable def KP (a : (List (Int × Bool))) : Option (List Int) := R1 a
theorem Ot (a : (List (Int × Bool))) (r : (List Int)) (h : KP a = some r) : GQ Tryz.prog 79 [.map (An (.int .i64) .bool a)] 3 1 (r.map Ad) := Xp Xq rfl a r h
noncomputable def IR (a : Int) (b : (Option Ay)) : Option Bool :=
 I3 b (none) fun d => (BS d a).bind fun c => some (c == 4)
theorem Ou (b : Int) (a : (Option Ay)) (r : Bool) (h : IR b a = some r) : Ax Tryz.prog 80 [.int .i64 b, .place ((AAg Aq) a) 0] (· = .bool r) := by
 refine fn AA Tryz.func80 Z Z 8 Z [.tmp 3] Z [(0, .p (.int .i64 b)), (1, .p (.place ((AAg Aq) a) 0))] Z Z fun A hA => ?_
 unfold IR at h
 refine rs AA <| rl Z <| rs AA <| rn 2 Z ?_
 revert h; rcases e : a with _ | g <;> intro h
 .replace h := Tq h
  cases h
 replace h := Tr h
 refine bq h fun f c d => sx Z (AM (Bp _ _ _ c) (.inl Z) Z Z Z <| rl Z <| AF ?_)
 cases d
 exact er Z Le.rfl
noncomputable def N1 (b : Cu) (a : Int × (List (Int × Bool))) : Option ((Int × (List (Int × Bool))) ⊕ (List (Int × Bool))) :=
 bif decide (a.1 < (b.elems.length : Int)) then (AX b.elems a.1).bind fun c => some (.inl (AO (a.1 + 1), A2 c true a.2)) else some (.inr a.2)
noncomputable def N2 (b : Cu) (a : Int × (List (Int × Bool))) : Option ((Int × (List (Int × Bool))) ⊕ (List (Int × Bool))) :=
 bif decide (a.1 < (b.elems.length : Int)) then (AX b.elems a.1).bind fun c => some (.inl (AO (a.1 + 1), A2 c true a.2)) else some (.inr a.2)
noncomputable def N3 (i : Ay) (d : (List Cu)) (f : (Int × (List (Int × Bool)))) (e : Aj) (a : Int × (List (Int × Bool))) : Option ((Int × (List (Int × Bool))) ⊕ ((Int × (List (Int × Bool))) ⊕ (List Int))) :=
 bif decide (a.1 < (e.zone.length : Int)) then (AX e.zone a.1).bind fun b => (((Gx i b).bind fun c => ((bif decide (0 <= c.1) then some (decide (c.1 < (d.length : Int))) else some false : Option (Bool))).bind fun (h : Bool) => bif h then (AX d c.1).bind fun j => AT (N2 j) (0, A2 b true a.2) else some (A2 b true a.2) : Option ((List (Int × Bool))))).bind fun (g : (List (Int × Bool))) => some (.inl (AO (a.1 + 1), g)) else some (.inr (.inl (AO (f.1 + 1), a.2)))
noncomputable def N4 (e : Ay) (b : (List Cu)) (j : (List Aj)) (g : (Int × (List (Int × Bool)))) (k : Int) (f : Aj) (a : Int × (List (Int × Bool))) : Option ((Int × (List (Int × Bool))) ⊕ ((Int × (List (Int × Bool))) ⊕ (List Int))) :=
 bif decide (a.1 < (f.steps.length : Int)) then (AX f.steps a.1).bind fun c => (((Gx e c.elem).bind fun d => ((bif decide (0 <= d.1) then some (decide (d.1 < (b.length : Int))) else some false : Option (Bool))).bind fun (i : Bool) => bif i then (AX b d.1).bind fun l => AT (N1 l) (0, A2 c.elem true a.2) else some (A2 c.elem true a.2) : Option ((List (Int × Bool))))).bind fun (h : (List (Int × Bool))) => some (.inl (AO (a.1 + 1), h)) else ((AX j k).bind fun m => AT (N3 e b g m) (0, a.2)).map .inr
noncomputable def N5 (c : Ay) (b : (List Int)) (a : Int) : Option (Int ⊕ Int) :=
 bif decide (a < (b.length : Int)) then (AX b a).bind fun d => (IR d (some c)).bind fun e => bif e then some (.inr a) else some (.inl (AO (a + 1))) else some (.inr (-1))
noncomputable def N6 (d : Ay) (a : Int × Int × (List Int)) : Option ((Int × Int × (List Int)) ⊕ (List Int)) :=
 bif decide (a.2.1 < (a.2.2.length : Int)) then (((AX a.2.2 a.2.1).bind fun c => (IR c (some d)).bind fun e => bif (!e) then (AX a.2.2 a.1).bind fun i => some (AO (a.1 + 1), A6 a.2.2 a.1 c) else some (a.1, a.2.2) : Option (Int × (List Int)))).bind fun (b : Int × (List Int)) => some (.inl (b.1, AO (a.2.1 + 1), b.2)) else ((Lf a.2.2 a.1 (a.2.2.length : Int)).bind fun f => (T5 0 a.2.2 f).bind fun g => (Lf g 0 a.1).bind fun h => some h).map .inr
noncomputable def N7 (b : Ay) (i : (List Cu)) (e : (List Aj)) (j : Ak) (k : Int) (l : Int) (f : (List Int)) (a : Int × (List (Int × Bool))) : Option ((Int × (List (Int × Bool))) ⊕ (List Int)) :=
 bif decide (a.1 < (f.length : Int)) then (AX f a.1).bind fun g => (AX e g).bind fun m => AT (N4 b i e a g m) (0, a.2) else ((CI b j k l).bind fun n => (KP (Kw n a.2)).bind fun d => ((((AT (N5 b d) 0 : Option (Int))).bind fun (c : Int) => bif (c == (-1)) then some d else AT (N6 b) (c, AO (c + 1), d) : Option ((List Int)))).bind fun (h : (List Int)) => some h).map .inr
noncomputable def NZ (a : Ay) (f : (List Cu)) (b : (List Aj)) (c : Ak) (d : Int) (e : Int) : Option (List Int) :=
 (Dt a b c d e).bind fun g => AT (N7 a f b c d e g) (0, [])
theorem Wl (b : Ay) (c : (List Cu)) (j : (List Aj)) (d : Ak) (k : Int) (m : Int) (r : (List Int)) (h : NZ b c j d k m = some r) : Ax Tryz.prog 50 [.place (Aq b) 0, .slice 2 (c.map Bd), .slice 9 (j.map BM), .agg (AY d), .int .i64 k, .int .i64 m] (· = .slice 1 (r.map Ad)) := by
 refine fn AA Tryz.func50 Z Z 74 Z [.tmp 12] Z [(0, .p (.place (Aq b) 0)), (1, .p (.slice 2 (c.map Bd))), (2, .p (.slice 9 (j.map BM))), (3, .p (.agg (AY d))), (4, .p (.int .i64 k)), (5, .p (.int .i64 m))] Z Z fun A hA => ?_
 unfold NZ at h
 refine rs AA <| rl Z <| rs AA <| rl Z <| rs AA <| rl Z <| AB <| rs AA <| rn 5 Z <| bq h fun n a1 bi => sx Z (AM (JP _ _ _ _ _ _ a1) (.inr Z) Z Z Z <| sx Z (Ab Z Z <| rl Z <| AH ?_))
 apply lp (a := r) (fun e : (Int × (List (Int × Bool))) => ⟨74, [(2, ls 9 BM j), (4, li k), (5, li m), (6, .lpb 0 0), (9, .lpb 1 0), (13, .lpb 2 0), (14, .fn 76 [.lpb 2 0, .lpb 0 0, .lpb 3 0]), (28, ls 1 Ad n), (29, li (n.length : Int)), (30, li e.1)], [(0, .box [lq (Aq b)]), (1, bx (AY d)), (2, .box [.lmap 4]), (3, .box [ls 2 Bd c]), (4, .map (An (.int .i64) .bool e.2))], 5⟩) bi
 . exact wf hA [(0, 0), (1, 2), (2, 4), (3, 1), (4, 3)] Z Z Z
 intro e a0 am
 unfold N7 at am
 refine rs AA <| rl Z <| AB <| cd Z am (fun bj => ?_) (fun cr => ?_)
 .refine AE <| AC <| AB <| AH <| rs AA <| bq bj fun dm a2 bk => sx Z (Ac a2 Z Z Z <| rl Z <| AB <| rs AA <| rn 2 Z <| bq bk fun av a3 bl => sx Z (Ac a3 Z Z Z <| rn 2 Z <| sx Z (Ab Z Z <| rl Z <| AH ?_)))
  apply lp (a := a0) (fun s : (Int × (List (Int × Bool))) => ⟨74, [(2, ls 9 BM j), (4, li k), (5, li m), (6, .lpb 0 0), (9, .lpb 1 0), (13, .lpb 2 0), (14, .fn 76 [.lpb 2 0, .lpb 0 0, .lpb 3 0]), (16, li dm), (28, ls 1 Ad n), (29, li (n.length : Int)), (30, li e.1), (38, ls 3 Aw av.steps), (39, li (av.steps.length : Int)), (40, li s.1)], [(0, .box [lq (Aq b)]), (1, bx (AY d)), (2, .box [.lmap 4]), (3, .box [ls 2 Bd c]), (4, .map (An (.int .i64) .bool s.2))], 5⟩) bl
  . exact wf hA (gi 5 []) Z Z Z
  intro s d2 an
  unfold N4 at an
  refine rs AA <| rl Z <| AB <| cd Z an (fun bm => ?_) (fun b5 => ?_)
  .refine AE <| AC <| AB <| AH <| rs AA <| bq bm fun o a4 bn => sx Z (Ac a4 Z Z Z <| rl Z <| rg AA <| rn 3 Z <| sx Z (CR AA (fun u : (List (Int × Bool)) => .tup []) (fun u : (List (Int × Bool)) => [(0, .box [lq (Aq b)]), (1, bx (AY d)), (2, .box [.lmap 4]), (3, .box [ls 2 Bd c]), (4, .map (An (.int .i64) .bool u)), (5, bx (Aw o))]) 6 bn Tryz.func76 38 [] [(0, li o.elem), (1, .lpb 2 0), (2, .lpb 0 0), (3, .lpb 3 0)] Z Z Z Z Z Z Z Z (fun A hA u bo => ?_) (fun u b4 => ?_)))
   .refine rs AA <| rn 2 Z <| sx Z (GE (et := 4) (ke := (.int .i64)) (ve := .bool) (mp := s.2) (y := o.elem) (z := true) Fm Z Z Z Z Z Z <| rl Z <| rs AA <| rn 2 Z <| bq bo fun dn a5 bp => sx Z (AM (Ma _ _ _ a5) (.inl Z) Z Z Z <| rl Z <| jb (fun ad : Bool => ⟨38, [(1, .lpb 2 0), (3, .lpb 3 0), (5, li dn.1), (24, lb ad)], [(0, .box [lq (Aq b)]), (1, bx (AY d)), (2, .box [.lmap 4]), (3, .box [ls 2 Bd c]), (4, .map (An (.int .i64) .bool (A2 o.elem true s.2))), (5, bx (Aw o))], 6⟩) bp (fun ad br => ?_) (fun ad bu => ?_)))
    .refine rg AA <| rn 3 Z <| gs 19 br Z Z Z (fun bs => ?_) (fun bt => ?_)
     .exact rn 2 Z <| sx Z (Ab Z Z <| rl Z <| AL bs (wj hA (gi 6 []) Z Z Z Z))
     exact rl Z <| AL bt (wj hA (gi 6 []) Z Z Z Z)
    refine cd Z bu (fun bv => ?_) (fun b3 => ?_)
    .refine rs AA <| rn 2 Z <| bq bv fun aw a6 bw => sx Z (Ac a6 Z Z Z <| rn 2 Z <| sx Z (Ab Z Z <| rl Z <| AH ?_))
     apply lp (a := u) (fun aa : (Int × (List (Int × Bool))) => ⟨38, [(1, .lpb 2 0), (29, ls 1 Ad aw.elems), (30, li (aw.elems.length : Int)), (31, li aa.1)], [(0, .box [lq (Aq b)]), (1, bx (AY d)), (2, .box [.lmap 4]), (3, .box [ls 2 Bd c]), (4, .map (An (.int .i64) .bool aa.2)), (5, bx (Aw o))], 6⟩) bw
     . exact wj hA (gi 6 []) Z Z Z Z
     intro aa d3 ao
     unfold N1 at ao
     refine rs AA <| rl Z <| AB <| cd Z ao (fun bz => ?_) (fun b1 => ?_)
     .exact AE <| AC <| AB <| AH <| rs AA <| bq bz fun dp a7 b0 => sx Z (Ac a7 Z Z Z <| rl Z <| rg AA <| rn 2 Z <| sx Z (GE (et := 4) (ke := (.int .i64)) (ve := .bool) (mp := aa.2) (y := dp) (z := true) Fm Z Z Z Z Z Z <| rl Z <| Af <| AC <| rg AA <| rl Z <| Ar b0 (wj hA (gi 6 []) Z Z Z Z)))
     refine AV <| AW <| BI b1 fun dv b2 => Ap ?_
     cases b2
     exact La (nt := 38) (sl := []) (wj hA (gi 6 []) Z Z Z Z) Z
    refine AE ?_
    cases b3
    exact La (nt := 38) (sl := []) (wj hA (gi 6 []) Z Z Z Z) Z
   exact rl Z <| Af <| AC <| rg AA <| rl Z <| Ar b4 (wf hA (gi 5 []) Z Z Z)
  refine AV <| AW <| CO b5 fun az b6 => Ap <| AC <| rs AA <| rn 2 Z <| bq b6 fun ax a8 b7 => sx Z (Ac a8 Z Z Z <| rn 2 Z <| sx Z (Ab Z Z <| rl Z <| AH ?_))
  apply lp (a := az) (fun t : (Int × (List (Int × Bool))) => ⟨74, [(2, ls 9 BM j), (4, li k), (5, li m), (6, .lpb 0 0), (9, .lpb 1 0), (13, .lpb 2 0), (14, .fn 76 [.lpb 2 0, .lpb 0 0, .lpb 3 0]), (28, ls 1 Ad n), (29, li (n.length : Int)), (30, li e.1), (53, ls 1 Ad ax.zone), (54, li (ax.zone.length : Int)), (55, li t.1)], [(0, .box [lq (Aq b)]), (1, bx (AY d)), (2, .box [.lmap 4]), (3, .box [ls 2 Bd c]), (4, .map (An (.int .i64) .bool t.2))], 5⟩) b7
  . exact wf hA (gi 5 []) Z Z Z
  intro t d4 ap
  unfold N3 at ap
  refine rs AA <| rl Z <| AB <| cd Z ap (fun b8 => ?_) (fun cp => ?_)
  .refine AE <| AC <| AB <| AH <| rs AA <| bq b8 fun af a9 b9 => sx Z (Ac a9 Z Z Z <| rl Z <| rg AA <| rn 2 Z <| sx Z (CR AA (fun v : (List (Int × Bool)) => .tup []) (fun v : (List (Int × Bool)) => [(0, .box [lq (Aq b)]), (1, bx (AY d)), (2, .box [.lmap 4]), (3, .box [ls 2 Bd c]), (4, .map (An (.int .i64) .bool v))]) 5 b9 Tryz.func76 38 [] [(0, li af), (1, .lpb 2 0), (2, .lpb 0 0), (3, .lpb 3 0)] Z Z Z Z Z Z Z Z (fun A hA v ca => ?_) (fun v co => ?_)))
   .refine rs AA <| rn 2 Z <| sx Z (GE (et := 4) (ke := (.int .i64)) (ve := .bool) (mp := t.2) (y := af) (z := true) Fm Z Z Z Z Z Z <| rl Z <| rs AA <| rn 2 Z <| bq ca fun dq ba cb => sx Z (AM (Ma _ _ _ ba) (.inl Z) Z Z Z <| rl Z <| jb (fun ae : Bool => ⟨38, [(1, .lpb 2 0), (3, .lpb 3 0), (5, li dq.1), (24, lb ae)], [(0, .box [lq (Aq b)]), (1, bx (AY d)), (2, .box [.lmap 4]), (3, .box [ls 2 Bd c]), (4, .map (An (.int .i64) .bool (A2 af true t.2)))], 5⟩) cb (fun ae cc => ?_) (fun ae cg => ?_)))
    .refine rg AA <| rn 3 Z <| gs 19 cc Z Z Z (fun ce => ?_) (fun cf => ?_)
     .exact rn 2 Z <| sx Z (Ab Z Z <| rl Z <| AL ce (wj hA (gi 5 []) Z Z Z Z))
     exact rl Z <| AL cf (wj hA (gi 5 []) Z Z Z Z)
    refine cd Z cg (fun ch => ?_) (fun cn => ?_)
    .refine rs AA <| rn 2 Z <| bq ch fun ay bb ci => sx Z (Ac bb Z Z Z <| rn 2 Z <| sx Z (Ab Z Z <| rl Z <| AH ?_))
     apply lp (a := v) (fun ab : (Int × (List (Int × Bool))) => ⟨38, [(1, .lpb 2 0), (29, ls 1 Ad ay.elems), (30, li (ay.elems.length : Int)), (31, li ab.1)], [(0, .box [lq (Aq b)]), (1, bx (AY d)), (2, .box [.lmap 4]), (3, .box [ls 2 Bd c]), (4, .map (An (.int .i64) .bool ab.2))], 5⟩) ci
     . exact wj hA (gi 5 []) Z Z Z Z
     intro ab d5 aq
     unfold N2 at aq
     refine rs AA <| rl Z <| AB <| cd Z aq (fun cj => ?_) (fun cl => ?_)
     .exact AE <| AC <| AB <| AH <| rs AA <| bq cj fun dr bc ck => sx Z (Ac bc Z Z Z <| rl Z <| rg AA <| rn 2 Z <| sx Z (GE (et := 4) (ke := (.int .i64)) (ve := .bool) (mp := ab.2) (y := dr) (z := true) Fm Z Z Z Z Z Z <| rl Z <| Af <| AC <| rg AA <| rl Z <| Ar ck (wj hA (gi 5 []) Z Z Z Z)))
     refine AV <| AW <| BI cl fun dw cm => Ap ?_
     cases cm
     exact La (nt := 38) (sl := []) (wj hA (gi 5 []) Z Z Z Z) Z
    refine AE ?_
    cases cn
    exact La (nt := 38) (sl := []) (wj hA (gi 5 []) Z Z Z Z) Z
   exact rl Z <| Af <| AC <| rg AA <| rl Z <| Ar co (wf hA (gi 5 []) Z Z Z)
  exact AV <| AW <| BI cp fun dx cq => Ap <| Af <| AC <| rg AA <| rl Z <| Ar cq (wf hA (gi 5 []) Z Z Z)
 refine AV <| AW <| CO cr fun dy cs => Ap <| AC <| AB ?_
 refine ABz false AA mixed [0, 1, 2, 3, 4, 5] 7 Z Z (by kernel_rfl) (by kernel_rfl) Z Z ?_
 refine As 5 Z <| bq cs fun q be ct => Au Z (A4 (D9 _ _ _ _ _ be) (.inl Z) Z Z Z <| BG Z <| (ABQ (et := 4) (ke := (.int .i64)) (ve := .bool) (mp := e.2) (y := q) Fm Z Z Z Z Z Z Z Z <| AC <| rs AA <| rn 1 Z <| bq ct fun i bf cu => sx Z (Na (Ot _ _ bf) (fun _ => Z) Z Z (Dg.eq (.cons (.one (.mapd Z)) .nil)) <| rn 1 Z <| sx Z (CR AA (fun g : (List Int) => .lsl 12 1 0 g.length) (fun g : (List Int) => [(0, .box [lq (Aq b)]), (1, bx (AY d)), (2, .box [.lmap 4]), (3, .box [ls 2 Bd c]), (4, .mapd (An (.int .i64) .bool (Kw q e.2))), (12, .row 3 1 (g.map Ad))]) 13 cu Tryz.func78 42 [.tmp 4] [(0, .lsl 12 1 0 i.length), (1, .fn 80 [.lpb 0 0])] Z Z Z Z Z Z Z Z (fun A hA g cv => ?_) (fun g dl => ?_)))))
 .refine rs AA <| rl Z <| rs AA <| rn 2 Z <| sx Z (CR AA (fun w : Int => li w) (fun w : Int => [(0, .box [lq (Aq b)]), (1, bx (AY d)), (2, .box [.lmap 4]), (3, .box [ls 2 Bd c]), (4, .mapd (An (.int .i64) .bool (Kw q e.2))), (12, .row 3 1 (i.map Ad))]) 13 cv Tryz.func108 19 [.tmp 4] [(0, .lsl 12 1 0 i.length), (1, .fn 80 [.lpb 0 0])] Z Z Z Z Z Z Z Z (fun A hA w cw => ?_) (fun w c5 => ?_))
  .refine rs AA <| rl Z <| AB <| rs AA <| rl Z <| AH ?_
   apply lp (a := w) (fun ac : Int => ⟨19, [(0, .lsl 12 1 0 i.length), (1, .fn 80 [.lpb 0 0]), (7, li (i.length : Int)), (8, li ac)], [(0, .box [lq (Aq b)]), (1, bx (AY d)), (2, .box [.lmap 4]), (3, .box [ls 2 Bd c]), (4, .mapd (An (.int .i64) .bool (Kw q e.2))), (12, .row 3 1 (i.map Ad))], 13⟩) cw
   . exact wj hA (gi 13 []) Z Z Z Z
   intro ac d6 ar
   unfold N5 at ar
   refine rs AA <| rl Z <| AB <| cd Z ar (fun cx => ?_) (fun c3 => ?_)
   .refine AE <| AC <| AB <| AH <| rs AA <| rl Z <| rs AA <| rn 3 Z <| bq cx fun d8 ag cy => sx Z (By ag Z Z Z Z <| sx Z (C5 ag Z Z Z <| bq cy fun d9 bg cz => sx Z (AM (Ou _ _ _ bg) (.inl Z) Z Z (Dg.eq (.cons (.one (.p _)) (.cons (.box Z (.cons (.p _) .nil)) .nil))) <| rl Z <| cd Z cz (fun c0 => ?_) (fun c2 => ?_))))
    .refine rs AA <| rl Z <| AF <| AN <| AG <| A1 c0 fun dz c1 => AN <| AG ?_
     have hr := Option.some.inj c1; subst hr
     exact CU (nt := 19) (sl := [(4, li ac)]) (wj hA (gi 13 []) Z Z Z Z) Z
    exact AE <| Af <| AC <| rg AA <| rl Z <| Ar c2 (wj hA (gi 13 []) Z Z Z Z)
   refine AV <| AW <| BI c3 fun d0 c4 => Ap <| AC <| rs AA <| rl Z <| AF ?_
   cases c4
   exact CU (nt := 19) (sl := [(4, li (-1))]) (wj hA (gi 13 []) Z Z Z Z) Z
  refine rl Z <| AB <| rs AA <| rl Z <| cd Z c5 (fun c6 => ?_) (fun c7 => ?_)
  .refine rs AA <| rl Z <| AF <| AG ?_
   have hr := Option.some.inj c6; subst hr
   exact CU (nt := 42) (sl := [(4, .lsl 12 1 0 i.length)]) (wj hA (gi 13 []) Z Z Z Z) Z
  refine AE <| AC <| AB <| rs AA <| rl Z <| AH ?_
  apply lp (a := g) (fun f : (Int × Int × (List Int)) => ⟨42, [(0, .lsl 12 1 0 f.2.2.length), (1, .fn 80 [.lpb 0 0]), (5, li f.1), (6, li f.2.1)], [(0, .box [lq (Aq b)]), (1, bx (AY d)), (2, .box [.lmap 4]), (3, .box [ls 2 Bd c]), (4, .mapd (An (.int .i64) .bool (Kw q e.2))), (12, .row 3 1 (f.2.2.map Ad))], 13⟩) c7
  . exact wj hA (gi 13 []) Z Z Z Z
  intro f d7 au
  unfold N6 at au
  refine AB <| rs AA <| rl Z <| cd Z au (fun c8 => ?_) (fun dg => ?_)
  .refine AE <| AC <| jb (fun x : (Int × (List Int)) => ⟨42, [(0, .lsl 12 1 0 x.2.length), (1, .fn 80 [.lpb 0 0]), (5, li x.1), (6, li f.2.1)], [(0, .box [lq (Aq b)]), (1, bx (AY d)), (2, .box [.lmap 4]), (3, .box [ls 2 Bd c]), (4, .mapd (An (.int .i64) .bool (Kw q e.2))), (12, .row 3 1 (x.2.map Ad))], 13⟩) c8 (fun x c9 => ?_) (fun x df => ?_)
   .refine AH <| rs AA <| rn 2 Z <| bq c9 fun ds ah da => sx Z (By ah Z Z Z Z <| sx Z (C5 ah Z Z Z <| rl Z <| rs AA <| rn 2 Z <| bq da fun ea bh db => sx Z (AM (Ou _ _ _ bh) (.inl Z) Z Z (Dg.eq (.cons (.one (.p _)) (.cons (.box Z (.cons (.p _) .nil)) .nil))) <| rl Z <| cd Z db (fun dc => ?_) (fun de => ?_))))
    .exact rs AA <| rn 3 Z <| bq dc fun eb ai dd => sx Z (By ai Z Z Z Z <| sx Z (LY (z := ds) ai Z Z Z Z Z Z Z Z <| rl Z <| rg AA <| rl Z <| Af <| AL dd (wk (gi 13 []) (J9 hA _ Z) Z Z Z (.cons (by simp only [BJ]; rfl) (.cons Z (.cons Z (.cons Z .nil)))) (.cons Z Z (.cons Z Z (.cons Z Z (.cons Z Z (.cons Z Z (.cons Z Z .nil)))))))))
    exact AE <| Af <| AL de (wj hA (gi 13 []) Z Z Z Z)
   exact rg AA <| rl Z <| Ar df (wj hA (gi 13 []) Z Z Z Z)
  refine AV <| AW <| CO dg fun d1 dh => Ap <| AC <| rs AA <| rn 2 Z <| bq dh fun ec aj di => sx Z (ZT (l := f.2.2) aj Z Z Z Z Z <| bq di fun dt ak dj => sx Z (ABU (enc := Ad) (l := f.2.2) (z := 0) aj Z ak Z Z Z Z Z Z Z <| rl Z <| rs AA <| rn 2 Z <| bq dj fun du al dk => sx Z (RC (l := dt) al Z (by first | rfl | exact Yx ak) Z Z <| rl Z <| AF ?_)))
  have hr := Option.some.inj dk; subst hr
  exact CU (nt := 42) (sl := [(4, .lsl 12 1 0 du.length)]) (A8.trans (I7 12 al Z Z) (wj hA (gi 13 []) Z Z Z Z)) Z
 refine rl Z <| AF ?_
 have hr := Option.some.inj dl; subst hr
 exact er (IJ Z (.one (.own (enc := Ad) g Z Z))) Le.rfl
noncomputable def Mb (b : Ay) (f : (List Aj)) (c : Ak) (d : Int) (k : ((List Ch) × Bool)) (e : (List Int)) (l : AK) (a : Int × (List Ov)) : Option ((Int × (List Ov)) ⊕ Pe) :=
 bif decide (a.1 < (k.1.length : Int)) then (NZ b l.lines f c d a.1).bind fun g => (CI b c d (AO (a.1 + 1))).bind fun h => (JQ b h).bind fun i => (Bt a.2 [(⟨g, i⟩ : Ov)]).bind fun j => some (.inl (AO (a.1 + 1), j)) else some (.inr (⟨e, a.2⟩ : Pe))
noncomputable def L3 (a : Ay) (h : (List Aj)) (b : Ak) (c : Int) (d : Int) : Option Pe :=
 (FU b c d).bind fun f => bif (!f.2) then some (⟨[], []⟩ : Pe) else (((CI a b c d).bind fun i => (JQ a i).bind fun e => bif decide (0 <= e) then some [e] else some ([] : List Int) : Option ((List Int)))).bind fun (g : (List Int)) => (Bv a).bind fun j => AT (Mb a h b c f g j) (d, ([] : List Ov))
theorem U8 (d : Ay) (e : (List Aj)) (f : Ak) (g : Int) (i : Int) (r : Pe) (h : L3 d e f g i = some r) : Ax Tryz.prog 21 [.place (Aq d) 0, .slice 9 (e.map BM), .agg (AY f), .int .i64 g, .int .i64 i] (· = .agg (AAh r)) := by
 refine fn AA Tryz.func21 Z Z 71 Z [.cell 10 56] Z [(0, .p (.place (Aq d) 0)), (1, .p (.slice 9 (e.map BM))), (2, .p (.agg (AY f))), (3, .p (.int .i64 g)), (4, .p (.int .i64 i))] Z Z fun A hA => ?_
 unfold L3 at h
 refine rs AA <| rl Z <| rs AA <| rl Z <| rs AA <| rn 3 Z <| bq h fun k v al => sx Z (AM (Nb _ _ _ _ v) (.inr Z) Z Z Z <| rl Z <| AB <| rs AA <| rl Z <| cd Z al (fun am => ?_) (fun an => ?_))
 .refine rs AA <| rl Z <| AF <| AG ?_
  cases am
  exact er Z (Le.agg' (.cons (Le.nil _) (.cons (Le.nil _) .nil)))
 refine AE <| AC <| jb (fun b : (List Int) => ⟨71, [(0, lq (Aq d)), (1, ls 9 BM e), (3, li g), (4, li i), (7, .lpb 0 0), (10, .lpb 1 0), (11, .lpb 2 0), (12, ls 4 EI k.1)], [(0, bx (AY f)), (1, .box [.p (.nils), .p (.nils)]), (2, .box [.lsl 3 1 0 b.length, .p (.nils)]), (3, .row 3 1 (b.map Ad))], 4⟩) an (fun b aa => ?_) (fun b aj => ?_)
 .refine rs AA <| rn 5 Z <| bq aa fun ax t af => sx Z (AM (D9 _ _ _ _ _ t) (.inl Z) Z Z Z <| bq af fun ay u ag => sx Z (AM (Px _ _ _ u) (.inl Z) Z Z Z <| rl Z <| rs AA <| rl Z <| cd Z ag (fun ah => ?_) (fun ai => ?_)))
  .exact rg AA <| rl Z <| AL ah (wf hA (gi 4 []) Z Z Z)
  exact AE <| AL ai (A8.trans (CM 2 0 3 1 Z Z Z Z) (wf hA (gi 4 []) Z Z Z))
 refine rs AA <| rn 1 Z <| bq aj fun aq w ak => sx Z (AM (Gy _ _ w) (.inr Z) Z Z Z <| rl Z <| AB <| rs AA <| rl Z <| AH ?_)
 apply lp (a := r) (fun c : (Int × (List Ov)) => ⟨71, [(0, lq (Aq d)), (1, ls 9 BM e), (3, li g), (7, .lpb 0 0), (10, .lpb 1 0), (11, .lpb 2 0), (12, ls 4 EI k.1), (15, ls 2 Bd aq.lines), (16, li c.1)], [(0, bx (AY f)), (1, .box [.p (.nils), .p (.nils)]), (2, .box [.lsl 3 1 0 b.length, .lsl 4 2 0 c.2.length]), (3, .row 3 1 (b.map Ad)), (4, .row 88 2 (c.2.map TO))], 5⟩) ak
 . exact A8.trans (CM 2 1 88 2 Z Z Z Z) (wf hA (gi 5 []) Z Z Z)
 intro c au j
 unfold Mb at j
 refine AB <| rs AA <| rn 2 Z <| sx Z (Ab Z Z <| rl Z <| cd Z j (fun x => ?_) (fun ad => ?_))
 .refine AE <| AC <| AB <| AH ?_
  refine Bu AA mixed [0, 1, 2, 3, 4, 5, 6, 7, 8, 9, 10, 11, 12, 13, 14, 15, 16, 17, 18, 19, 20, 21] 22 (by kernel_rfl) Z Z Z ?_
  exact As 8 Z <| bq x fun ao n y => Au Z (A4 (Wl _ _ _ _ _ _ _ n) (.inr Z) Z Z Z <| As 6 Z <| bq y fun av o z => Au Z (A4 (D9 _ _ _ _ _ o) (.inl Z) Z Z Z <| bq z fun ap q ab => Au Z (A4 (Px _ _ _ q) (.inl Z) Z Z Z <| As 2 Z <| bq ab fun aw s ac => Au Z (I4 Z (BX (enc := TO) (l := c.2) (m := [(⟨ao, ap⟩ : Ov)]) s (fun _ => ⟨Z, Z⟩) Z Z Z Z Z Z <| BG Z <| Af <| AC <| rg AA <| rl Z <| Ar ac (wf hA (gi 4 [(4, 24)]) Z Z Z))))))
 refine AV <| AW <| BI ad fun ar ae => Ap <| AC <| rs AA <| rl Z <| AF ?_
 cases ae
 exact er (IJ Z (.agg (.cons (.own (enc := Ad) b Z Z) (.cons (.own (enc := TO) c.2 Z Z) .nil)))) Le.rfl
noncomputable def KD (a : Br) : Option Bool :=
 some a.auto
theorem Sz (a : Br) (r : Bool) (h : KD a = some r) : Ax Tryz.prog 54 [.agg (BT a)] (· = .bool r) := by
 refine fn AA Tryz.func54 Z Z 5 Z [.tmp 2] Z [(0, .p (.agg (BT a)))] Z Z fun A hA => ?_
 unfold KD at h
 refine rs AA <| rl Z <| rs AA <| rl Z <| AF ?_
 cases h
 exact er Z Le.rfl
noncomputable def HO (a : DG) : Option Bool :=
 some (decide (12 < (a.legs.length : Int)))
theorem Pn (a : DG) (r : Bool) (h : HO a = some r) : Ax Tryz.prog 85 [.agg (Bz a)] (· = .bool r) := by
 refine fn AA Tryz.func85 Z Z 7 Z [.tmp 2] Z [(0, .p (.agg (Bz a)))] Z Z fun A hA => ?_
 unfold HO at h
 refine rs AA <| rl Z <| rs AA <| rn 2 Z <| sx Z (Ab Z Z <| rl Z <| AF ?_)
 cases h
 exact er Z Le.rfl
noncomputable def F1 (a : Int) (c : Int) : Option Bool :=
 ((bif decide (1 <= a) then some (decide (a <= c)) else some false : Option (Bool))).bind fun (b : Bool) => some b
theorem JR (b : Int) (c : Int) (r : Bool) (h : F1 b c = some r) : Ax Tryz.prog 168 [.int .i64 b, .int .i64 c] (· = .bool r) := by
 refine fn AA Tryz.func168 Z Z 12 Z [.tmp 4] Z [(0, .p (.int .i64 b)), (1, .p (.int .i64 c))] Z Z fun A hA => ?_
 unfold F1 at h
 refine rs AA <| rl Z <| jb (fun a : Bool => ⟨12, [(4, lb a)], [], 0⟩) h (fun a d => ?_) (fun a g => ?_)
 .refine rg AA <| rn 3 Z <| gs 7 d Z Z Z (fun e => ?_) (fun f => ?_)
  .exact rl Z <| AL e (wf hA [] Z Z Z)
  exact rl Z <| AL f (wf hA [] Z Z Z)
 refine AF ?_
 have hr := Option.some.inj g; subst hr
 exact er Z Le.rfl
noncomputable def L4 (a : BK) : Option Bool :=
 (((CB a.name).bind fun c => bif c then (F1 a.len 4000).bind fun d => bif d then (F1 a.top 60).bind fun e => bif e then (F1 a.acc 10).bind fun f => bif f then (F1 a.brake 10).bind fun g => some g else some false else some false else some false else some false : Option (Bool))).bind fun (b : Bool) => some b
theorem U9 (b : BK) (r : Bool) (h : L4 b = some r) : Ax Tryz.prog 154 [.agg (BL b)] (· = .bool r) := by
 refine fn AA Tryz.func154 Z Z 26 Z [.tmp 2] Z [(0, .p (.agg (BL b)))] Z Z fun A hA => ?_
 unfold L4 at h
 refine rs AA <| rl Z <| jb (fun a : Bool => ⟨26, [(2, lb a)], [], 0⟩) h (fun a i => ?_) (fun a y => ?_)
 .refine rg AA <| rn 2 Z <| bq i fun z c j => sx Z (AM (Hb _ _ c) (.inl Z) Z Z Z <| rn 1 Z <| gs 6 j Z Z Z (fun k => ?_) (fun x => ?_))
  .refine rn 2 Z <| bq k fun aa d l => sx Z (AM (JR _ _ _ d) (.inl Z) Z Z Z <| rn 2 Z <| gs 11 l Z Z Z (fun m => ?_) (fun w => ?_))
   .refine rn 2 Z <| bq m fun ab e n => sx Z (AM (JR _ _ _ e) (.inl Z) Z Z Z <| rn 2 Z <| gs 16 n Z Z Z (fun o => ?_) (fun v => ?_))
    .refine rn 2 Z <| bq o fun ac f q => sx Z (AM (JR _ _ _ f) (.inl Z) Z Z Z <| rn 2 Z <| gs 21 q Z Z Z (fun s => ?_) (fun u => ?_))
     .exact rn 2 Z <| bq s fun ad g t => sx Z (AM (JR _ _ _ g) (.inl Z) Z Z Z <| rl Z <| AL t (wf hA [] Z Z Z))
     exact rl Z <| AL u (wf hA [] Z Z Z)
    exact rl Z <| AL v (wf hA [] Z Z Z)
   exact rl Z <| AL w (wf hA [] Z Z Z)
  exact rl Z <| AL x (wf hA [] Z Z Z)
 refine AF ?_
 have hr := Option.some.inj y; subst hr
 exact er Z Le.rfl
noncomputable def K1 (c : (Int × Int)) (d : BK) (b : (List BK)) (a : Int) : Option (Int ⊕ (Int ⊕ ((Int × Int) ⊕ Int))) :=
 bif decide (a < (b.length : Int)) then (AX b a).bind fun e => bif (e.name.toList == d.name.toList) then some (.inr (.inl 4)) else some (.inl (AO (a + 1))) else some (.inr (.inl c.1))
noncomputable def K2 (b : (List BK)) (a : Int × Int) : Option ((Int × Int) ⊕ Int) :=
 bif decide (a.2 < (b.length : Int)) then EH (((AX b a.2).bind fun c => (L4 c).bind fun e => bif (!e) then some (.inr (.inr 1)) else (KN b 0 a.2).bind fun f => AT (K1 a c f) 0 : Option (Int ⊕ ((Int × Int) ⊕ Int)))) fun (d : Int) => some (.inl (d, AO (a.2 + 1))) else some (.inr a.1)
noncomputable def KE (a : (List BK)) : Option Int :=
 bif decide (4 < (a.length : Int)) then some 3 else AT (K2 a) (0, 0)
theorem S0 (b : (List BK)) (r : Int) (h : KE b = some r) : Ax Tryz.prog 122 [.slice 5 (b.map BL)] (· = .int .i64 r) := by
 refine fn AA Tryz.func122 Z Z 37 Z [.tmp 2] Z [(0, .p (.slice 5 (b.map BL)))] Z Z fun A hA => ?_
 unfold KE at h
 refine rs AA <| rl Z <| sc <| AB <| rs AA <| rn 1 Z <| sx Z (Ab Z Z <| rl Z <| cd Z h (fun q => ?_) (fun s => ?_))
 .refine rs AA <| rl Z <| AF <| AG <| IK ?_
  cases q
  exact er Z Le.rfl
 refine AE <| AC <| rs AA <| rl Z <| AB <| Jb <| AC <| AB <| rs AA <| rn 1 Z <| sx Z (Ab Z Z <| rl Z <| AH ?_)
 apply lp (a := r) (fun c : (Int × Int) => ⟨37, [(0, ls 5 BL b), (3, li c.1), (11, ls 5 BL b), (12, li (b.length : Int)), (13, li c.2)], [], 0⟩) s
 . exact wf hA [] Z Z Z
 intro c j d
 unfold K2 at d
 refine rs AA <| rl Z <| AB <| cd Z d (fun t => ?_) (fun ak => ?_)
 .refine AE <| AC ?_
  apply jn (a := j) (fun g : Int => ⟨37, [(0, ls 5 BL b), (3, li g), (11, ls 5 BL b), (12, li (b.length : Int)), (13, li c.2)], [], 0⟩) t
  .intro k u
   refine AH <| rs AA <| rn 1 Z <| bq u fun am l v => sx Z (Ac l Z Z Z <| rl Z <| AB <| rs AA <| rn 1 Z <| bq v fun av m w => sx Z (AM (U9 _ _ m) (.inl Z) Z Z Z <| rl Z <| cd Z w (fun x => ?_) (fun aa => ?_)))
   .refine rs AA <| rl Z <| AF <| AG <| AN <| A1 x fun an y => A1 y fun ao z => AN <| AG <| IK ?_
    cases z
    exact er Z Le.rfl
   refine AE <| AC <| rs AA <| rn 2 Z <| bq aa fun i n ab => sx Z (TH n Z Z Z Z <| sx Z (Ab Z Z <| rl Z <| AH ?_))
   apply lp (a := k) (fun f : Int => ⟨37, [(0, ls 5 BL b), (3, li c.1), (5, .lpb 0 0), (11, ls 5 BL b), (12, li (b.length : Int)), (13, li c.2), (23, ls 5 BL i), (24, li (i.length : Int)), (25, li f)], [(0, bx (BL am))], 1⟩) ab
   . exact wf hA [(0, 0)] Z Z Z
   intro f au e
   unfold K1 at e
   refine rs AA <| rl Z <| AB <| cd Z e (fun ac => ?_) (fun ah => ?_)
   .refine AE <| AC <| AB <| AH <| rs AA <| bq ac fun aw o ad => sx Z (Ac o Z Z Z <| rl Z <| rs AA <| rl Z <| cd Z ad (fun ae => ?_) (fun ag => ?_))
    .exact rs AA <| rl Z <| AV <| LU Z <| AW <| BI ae fun ap af => LU Z <| Ap <| Ar af (wf hA [] Z Z Z)
    exact AE <| Af <| AC <| rg AA <| rl Z <| Ar ag (wf hA [(0, 0)] Z Z Z)
   exact AV <| AW <| BI ah fun aq ai => Ap <| Af <| Ar ai (wf hA [] Z Z Z)
  intro g aj
  exact rg AA <| rl Z <| Ar aj (wf hA [] Z Z Z)
 refine AV <| AW <| BI ak fun ar al => Ap <| AC <| rs AA <| rl Z <| AF <| IK ?_
 cases al
 exact er Z Le.rfl
end Go.E
/- Plain functions, and walks in step with them. Written by a program (gen.py). No condition. -/
set_option maxRecDepth 100000
set_option maxHeartbeats 1000000
namespace Go.E
open Go Go.RowKit Go.Proofs
noncomputable def IS (a : BK) (b : AK) : Option Bool :=
 ((bif decide (b.top < a.top) then some true else some (decide (a.brake < b.brake)) : Option (Bool))).bind fun (c : Bool) => some c
theorem RD (b : BK) (c : AK) (r : Bool) (h : IS b c = some r) : Ax Tryz.prog 124 [.agg (BL b), .place (AS c) 0] (· = .bool r) := by
 refine fn AA Tryz.func124 Z Z 16 Z [.tmp 3] Z [(0, .p (.agg (BL b))), (1, .p (.place (AS c) 0))] Z Z fun A hA => ?_
 unfold IS at h
 refine rs AA <| rl Z <| jb (fun a : Bool => ⟨16, [(3, lb a)], [], 0⟩) h (fun a d => ?_) (fun a g => ?_)
 .refine rg AA <| rn 6 Z <| gs 9 d Z Z Z (fun e => ?_) (fun f => ?_)
  .exact rl Z <| AL e (wf hA [] Z Z Z)
  exact rl Z <| AL f (wf hA [] Z Z Z)
 refine AF ?_
 have hr := Option.some.inj g; subst hr
 exact er Z Le.rfl
noncomputable def K3 (c : AK) (b : (List BK)) (a : Int) : Option (Int ⊕ Int) :=
 bif decide (a < (b.length : Int)) then (AX b a).bind fun d => (IS d c).bind fun e => bif e then some (.inr a) else some (.inl (AO (a + 1))) else some (.inr (-1))
noncomputable def KF (e : AK) (a : (List BK)) : Option Int :=
 (KE a).bind fun b => bif (b != 0) then some b else ((((AT (K3 e a) 0 : Option (Int))).bind fun (d : Int) => some (decide (0 <= d)) : Option (Bool))).bind fun (c : Bool) => bif c then some 9 else some 0
theorem S1 (d : AK) (b : (List BK)) (r : Int) (h : KF d b = some r) : Ax Tryz.prog 86 [.agg (AS d), .slice 5 (b.map BL)] (· = .int .i64 r) := by
 refine fn AA Tryz.func86 Z Z 14 Z [.tmp 4] Z [(0, .p (.agg (AS d))), (1, .p (.slice 5 (b.map BL)))] Z Z fun A hA => ?_
 unfold KF at h
 refine rs AA <| rl Z <| AB <| rs AA <| rn 1 Z <| bq h fun aj k l => sx Z (AM (S0 _ _ k) (.inl Z) Z Z Z <| rl Z <| rs AA <| rl Z <| cd Z l (fun m => ?_) (fun n => ?_))
 .refine rs AA <| rl Z <| AF <| AG ?_
  have hr := Option.some.inj m; subst hr
  exact er Z Le.rfl
 refine AE <| AC <| AB <| rs AA <| rn 2 Z <| sx Z (CR AA (fun e : Bool => lb e) (fun e : Bool => [(0, bx (AS d))]) 1 n Tryz.func123 9 [.tmp 4] [(0, ls 5 BL b), (1, .fn 124 [.lpb 0 0])] Z Z Z Z Z Z Z Z (fun A hA e o => ?_) (fun e ab => ?_))
 .refine rs AA <| rl Z <| rs AA <| rn 2 Z <| sx Z (CR AA (fun c : Int => li c) (fun c : Int => [(0, bx (AS d))]) 1 o Tryz.func155 19 [.tmp 4] [(0, ls 5 BL b), (1, .fn 124 [.lpb 0 0])] Z Z Z Z Z Z Z Z (fun A hA c q => ?_) (fun c aa => ?_))
  .refine rs AA <| rl Z <| AB <| rs AA <| rn 1 Z <| sx Z (Ab Z Z <| rl Z <| AH ?_)
   apply lp (a := c) (fun f : Int => ⟨19, [(0, ls 5 BL b), (1, .fn 124 [.lpb 0 0]), (7, li (b.length : Int)), (8, li f)], [(0, bx (AS d))], 1⟩) q
   . exact wj hA [(0, 0)] Z Z Z Z
   intro f ag g
   unfold K3 at g
   refine rs AA <| rl Z <| AB <| cd Z g (fun s => ?_) (fun y => ?_)
   .refine AE <| AC <| AB <| AH <| rs AA <| rl Z <| rs AA <| rn 3 Z <| bq s fun ah i t => sx Z (Ac i Z Z Z <| rn 1 Z <| bq t fun ai j u => sx Z (AM (RD _ _ _ j) (.inl Z) Z Z (Dg.eq (.cons (.one (.p _)) (.cons (.box Z (.cons (.p _) (.cons (.p _) (.cons (.p _) (.cons (.p _) (.cons (.p _) (.cons (.p _) (.cons (.p _) (.cons (.p _) (.cons (.p _) .nil)))))))))) .nil))) <| rl Z <| cd Z u (fun v => ?_) (fun x => ?_)))
    .refine rs AA <| rl Z <| AF <| AN <| AG <| A1 v fun ae w => AN <| AG ?_
     have hr := Option.some.inj w; subst hr
     exact CU (nt := 19) (sl := [(4, li f)]) (wj hA [(0, 0)] Z Z Z Z) Z
    exact AE <| Af <| AC <| rg AA <| rl Z <| Ar x (wj hA [(0, 0)] Z Z Z Z)
   refine AV <| AW <| BI y fun af z => Ap <| AC <| rs AA <| rl Z <| AF ?_
   cases z
   exact CU (nt := 19) (sl := [(4, li (-1))]) (wj hA [(0, 0)] Z Z Z Z) Z
  refine rl Z <| AF ?_
  cases aa
  exact CU (nt := 9) (sl := [(4, lb (decide (0 <= c)))]) (wj hA [(0, 0)] Z Z Z Z) Z
 refine rl Z <| cd Z ab (fun ac => ?_) (fun ad => ?_)
 .refine rs AA <| rl Z <| AF <| AG ?_
  cases ac
  exact er Z Le.rfl
 refine AE <| AC <| rs AA <| rl Z <| AF ?_
 cases ad
 exact er Z Le.rfl
noncomputable def Cv (a : Int) (c : Int) : Option Bool :=
 ((bif decide (0 <= a) then some (decide (a <= c)) else some false : Option (Bool))).bind fun (b : Bool) => some b
theorem EA (b : Int) (c : Int) (r : Bool) (h : Cv b c = some r) : Ax Tryz.prog 87 [.int .i64 b, .int .i64 c] (· = .bool r) := by
 refine fn AA Tryz.func87 Z Z 12 Z [.tmp 4] Z [(0, .p (.int .i64 b)), (1, .p (.int .i64 c))] Z Z fun A hA => ?_
 unfold Cv at h
 refine rs AA <| rl Z <| jb (fun a : Bool => ⟨12, [(4, lb a)], [], 0⟩) h (fun a d => ?_) (fun a g => ?_)
 .refine rg AA <| rn 3 Z <| gs 7 d Z Z Z (fun e => ?_) (fun f => ?_)
  .exact rl Z <| AL e (wf hA [] Z Z Z)
  exact rl Z <| AL f (wf hA [] Z Z Z)
 refine AF ?_
 have hr := Option.some.inj g; subst hr
 exact er Z Le.rfl
noncomputable def Gz (a : AK) (b : Int) : Option Int :=
 (Cv b (AO ((a.elems.length : Int) - 1))).bind fun d => bif (!d) then some 0 else (AX a.elems b).bind fun c => some c.kind
theorem Mc (a : AK) (b : Int) (r : Int) (h : Gz a b = some r) : Ax Tryz.prog 157 [.agg (AS a), .int .i64 b] (· = .int .i64 r) := by
 refine fn AA Tryz.func157 Z Z 18 Z [.tmp 4] Z [(0, .p (.agg (AS a))), (1, .p (.int .i64 b))] Z Z fun A hA => ?_
 unfold Gz at h
 refine rs AA <| rl Z <| AB <| rs AA <| rn 3 Z <| sx Z (Ab Z Z <| rn 1 Z <| bq h fun k d e => sx Z (AM (EA _ _ _ d) (.inl Z) Z Z Z <| rl Z <| cd Z e (fun f => ?_) (fun g => ?_)))
 .refine rs AA <| rl Z <| AF <| AG ?_
  cases f
  exact er Z Le.rfl
 refine AE <| AC <| rs AA <| rn 3 Z <| bq g fun j c i => sx Z (Ac c Z Z Z <| rl Z <| AF ?_)
 cases i
 exact er Z Le.rfl
noncomputable def IT (b : AK) (a : Ch) : Option Bool :=
 bif (a.fin == 1) then (Cv a.to (AO ((b.signals.length : Int) - 1))).bind fun c => some c else bif (a.fin == 2) then (Gz b a.to).bind fun d => some (d == 4) else bif (a.fin == 3) then (Gz b a.to).bind fun e => some (e == 1) else some false
theorem RE (a : AK) (b : Ch) (r : Bool) (h : IT a b = some r) : Ax Tryz.prog 126 [.agg (AS a), .agg (EI b)] (· = .bool r) := by
 refine fn AA Tryz.func126 Z Z 30 Z [.tmp 4] Z [(0, .p (.agg (AS a))), (1, .p (.agg (EI b)))] Z Z fun A hA => ?_
 unfold IT at h
 refine rs AA <| rl Z <| AB <| rs AA <| rl Z <| AH <| rs AA <| rl Z <| cd Z h (fun f => ?_) (fun i => ?_)
 .refine rs AA <| rn 4 Z <| sx Z (Ab Z Z <| rn 1 Z <| bq f fun q c g => sx Z (AM (EA _ _ _ c) (.inl Z) Z Z Z <| rl Z <| AF <| AN <| AG ?_))
  have hr := Option.some.inj g; subst hr
  exact er Z Le.rfl
 refine rs AA <| rl Z <| cd Z i (fun j => ?_) (fun l => ?_)
 .refine rs AA <| rn 3 Z <| bq j fun s d k => sx Z (AM (Mc _ _ _ d) (.inl Z) Z Z Z <| rl Z <| AF <| AN <| AG ?_)
  cases k
  exact er Z Le.rfl
 refine rs AA <| rl Z <| cd Z l (fun m => ?_) (fun o => ?_)
 .refine rs AA <| rn 3 Z <| bq m fun t e n => sx Z (AM (Mc _ _ _ e) (.inl Z) Z Z Z <| rl Z <| AF <| AN <| AG ?_)
  cases n
  exact er Z Le.rfl
 refine AE <| Af <| AC <| rs AA <| rl Z <| AF ?_
 cases o
 exact er Z Le.rfl
noncomputable def K4 (e : AK) (c : DG) (a : Int × Int) : Option ((Int × Int) ⊕ Bool) :=
 bif decide (a.2 < (c.legs.length : Int)) then (AX c.legs a.2).bind fun b => (((Cv b.at_ 2000).bind fun f => bif (!f) then some true else bif decide (b.at_ < a.1) then some true else (IT e b).bind fun g => some (!g) : Option (Bool))).bind fun (d : Bool) => bif d then some (.inr false) else some (.inl (b.at_, AO (a.2 + 1))) else some (.inr true)
noncomputable def KG (b : AK) (d : Ak) (a : DG) : Option Bool :=
 (((CB a.name).bind fun e => bif (!e) then some true else (Cv a.stock (AO ((d.stock.length : Int) - 1))).bind fun f => bif (!f) then some true else (Cv a.frm (AO ((b.signals.length : Int) - 1))).bind fun g => bif (!g) then some true else (Cv a.left 4000).bind fun h => some (!h) : Option (Bool))).bind fun (c : Bool) => bif c then some false else AT (K4 b a) (0, 0)
theorem S2 (c : AK) (g : Ak) (b : DG) (r : Bool) (h : KG c g b = some r) : Ax Tryz.prog 89 [.agg (AS c), .agg (AY g), .agg (Bz b)] (· = .bool r) := by
 refine fn AA Tryz.func89 Z Z 66 Z [.tmp 6] Z [(0, .p (.agg (AS c))), (1, .p (.agg (AY g))), (2, .p (.agg (Bz b)))] Z Z fun A hA => ?_
 unfold KG at h
 refine rs AA <| rl Z <| AB <| jb (fun e : Bool => ⟨66, [(3, .lpb 0 0), (5, .lpb 1 0), (39, lb e)], [(0, bx (AS c)), (1, bx (Bz b))], 2⟩) h (fun e s => ?_) (fun e af => ?_)
 .refine rg AA <| rn 2 Z <| bq s fun a1 j t => sx Z (AM (Hb _ _ j) (.inl Z) Z Z Z <| rn 2 Z <| gs 14 t Z Z Z (fun u => ?_) (fun v => ?_))
  .exact rl Z <| AL u (wf hA [(0, 0), (1, 2)] Z Z Z)
  refine rn 4 Z <| sx Z (Ab Z Z <| rn 1 Z <| bq v fun a2 k w => sx Z (AM (EA _ _ _ k) (.inl Z) Z Z Z <| rn 3 Z <| gs 24 w Z Z Z (fun y => ?_) (fun z => ?_)))
  .exact rl Z <| AL y (wf hA [(0, 0), (1, 2)] Z Z Z)
  refine rn 4 Z <| sx Z (Ab Z Z <| rn 1 Z <| bq z fun a3 l aa => sx Z (AM (EA _ _ _ l) (.inl Z) Z Z Z <| rn 3 Z <| gs 34 aa Z Z Z (fun ab => ?_) (fun ad => ?_)))
  .exact rl Z <| AL ab (wf hA [(0, 0), (1, 2)] Z Z Z)
  exact rn 2 Z <| bq ad fun a4 n ae => sx Z (AM (EA _ _ _ n) (.inl Z) Z Z Z <| rl Z <| AL ae (wf hA [(0, 0), (1, 2)] Z Z Z))
 refine cd Z af (fun ao => ?_) (fun aw => ?_)
 .refine rs AA <| rl Z <| AF <| AG ?_
  cases ao
  exact er Z Le.rfl
 refine AE <| AC <| rs AA <| rl Z <| AB <| rs AA <| rn 2 Z <| sx Z (Ab Z Z <| rl Z <| AH ?_)
 apply lp (a := r) (fun d : (Int × Int) => ⟨66, [(3, .lpb 0 0), (7, li d.1), (41, ls 4 EI b.legs), (42, li (b.legs.length : Int)), (43, li d.2)], [(0, bx (AS c))], 1⟩) aw
 . exact wf hA [(0, 0)] Z Z Z
 intro d a0 i
 unfold K4 at i
 refine rs AA <| rl Z <| AB <| cd Z i (fun x => ?_) (fun au => ?_)
 .refine AE <| AC <| AB <| AH <| rs AA <| bq x fun ax m ac => sx Z (Ac m Z Z Z <| rl Z <| AB <| jb (fun f : Bool => ⟨66, [(3, .lpb 0 0), (9, .lpb 1 0), (41, ls 4 EI b.legs), (42, li (b.legs.length : Int)), (43, li d.2), (62, lb f)], [(0, bx (AS c)), (1, bx (EI ax))], 2⟩) ac (fun f ag => ?_) (fun f an => ?_))
  .refine rg AA <| rn 2 Z <| bq ag fun a5 o ah => sx Z (AM (EA _ _ _ o) (.inl Z) Z Z Z <| rn 2 Z <| gs 51 ah Z Z Z (fun ai => ?_) (fun aj => ?_))
   .exact rl Z <| AL ai (wf hA [(0, 0), (1, 1)] Z Z Z)
   refine rn 6 Z <| gs 57 aj Z Z Z (fun ak => ?_) (fun al => ?_)
   .exact rl Z <| AL ak (wf hA [(0, 0), (1, 1)] Z Z Z)
   exact rn 2 Z <| bq al fun a6 q am => sx Z (AM (RE _ _ _ q) (.inl Z) Z Z Z <| rl Z <| AL am (wf hA [(0, 0), (1, 1)] Z Z Z))
  refine cd Z an (fun ap => ?_) (fun ar => ?_)
  .refine rs AA <| rl Z <| AF <| AG <| AN <| AG <| A1 ap fun ay aq => AN <| AG ?_
   cases aq
   exact er Z Le.rfl
  exact AE <| AC <| rg AA <| rl Z <| Af <| AC <| rg AA <| rl Z <| Ar ar (wf hA [(0, 0)] Z Z Z)
 refine AV <| AW <| BI au fun az av => Ap <| AC <| rs AA <| rl Z <| AF ?_
 cases av
 exact er Z Le.rfl
noncomputable def HP (a : DG) (b : AK) (c : Ak) : Option Bool :=
 (KG b c a).bind fun d => some (!d)
theorem Po (a : DG) (b : AK) (c : Ak) (r : Bool) (h : HP a b c = some r) : Ax Tryz.prog 88 [.agg (Bz a), .place (AS b) 0, .place (AY c) 0] (· = .bool r) := by
 refine fn AA Tryz.func88 Z Z 10 Z [.tmp 4] Z [(0, .p (.agg (Bz a))), (1, .p (.place (AS b) 0)), (2, .p (.place (AY c) 0))] Z Z fun A hA => ?_
 unfold HP at h
 refine rs AA <| rl Z <| rs AA <| rn 3 Z <| bq h fun f d e => sx Z (AM (S2 _ _ _ _ d) (.inl Z) Z Z Z <| rl Z <| AF ?_)
 cases e
 exact er Z Le.rfl
noncomputable def HQ (a : DG) (b : DG) : Option Bool :=
 some (a.name.toList == b.name.toList)
theorem Pp (a : DG) (b : DG) (r : Bool) (h : HQ a b = some r) : Ax Tryz.prog 90 [.agg (Bz a), .place (Bz b) 0] (· = .bool r) := by
 refine fn AA Tryz.func90 Z Z 9 Z [.tmp 3] Z [(0, .p (.agg (Bz a))), (1, .p (.place (Bz b) 0))] Z Z fun A hA => ?_
 unfold HQ at h
 refine rs AA <| rl Z <| rs AA <| rl Z <| AF ?_
 cases h
 exact er Z Le.rfl
noncomputable def Js (b : Ak) (a : Int) : Option (Int ⊕ Int) :=
 bif decide (a < (b.runs.length : Int)) then (AX b.runs a).bind fun c => (HO c).bind fun d => bif d then some (.inr a) else some (.inl (AO (a + 1))) else some (.inr (-1))
noncomputable def Jt (c : AK) (b : Ak) (a : Int) : Option (Int ⊕ Int) :=
 bif decide (a < (b.runs.length : Int)) then (AX b.runs a).bind fun d => (HP d c b).bind fun e => bif e then some (.inr a) else some (.inl (AO (a + 1))) else some (.inr (-1))
noncomputable def Ju (c : DG) (b : (List DG)) (a : Int) : Option (Int ⊕ Int) :=
 bif decide (a < (b.length : Int)) then (AX b a).bind fun d => (HQ d c).bind fun e => bif e then some (.inr a) else some (.inl (AO (a + 1))) else some (.inr (-1))
noncomputable def Jv (b : Ak) (a : Int) : Option (Int ⊕ Int) :=
 bif decide (a < (b.runs.length : Int)) then (AX b.runs a).bind fun e => (KN b.runs 0 a).bind fun f => ((((AT (Ju e f) 0 : Option (Int))).bind fun (d : Int) => some (decide (0 <= d)) : Option (Bool))).bind fun (c : Bool) => bif c then some (.inr 4) else some (.inl (AO (a + 1))) else some (.inr 0)
noncomputable def IU (b : AK) (a : Ak) : Option Int :=
 ((bif decide (8 < (a.runs.length : Int)) then some true else ((((AT (Js a) 0 : Option (Int))).bind fun (g : Int) => some (decide (0 <= g)) : Option (Bool))).bind fun (f : Bool) => some f : Option (Bool))).bind fun (e : Bool) => bif e then some 3 else (KF b a.stock).bind fun c => bif (c != 0) then some c else (((Cv a.begin 86399).bind fun j => bif (!j) then some true else ((((AT (Jt b a) 0 : Option (Int))).bind fun (d : Int) => some (decide (0 <= d)) : Option (Bool))).bind fun (i : Bool) => some i : Option (Bool))).bind fun (h : Bool) => bif h then some 1 else AT (Jv a) 0
theorem RG (c : AK) (b : Ak) (r : Int) (h : IU c b = some r) : Ax Tryz.prog 55 [.agg (AS c), .agg (AY b)] (· = .int .i64 r) := by
 refine fn AA Tryz.func55 Z Z 49 Z [.tmp 4] Z [(0, .p (.agg (AS c))), (1, .p (.agg (AY b)))] Z Z fun A hA => ?_
 unfold IU at h
 refine rs AA <| rl Z <| AB <| jb (fun o : Bool => ⟨49, [(2, .lpb 0 0), (3, .lpb 1 0), (16, lb o)], [(0, bx (AS c)), (1, bx (AY b))], 2⟩) h (fun o az => ?_) (fun o b1 => ?_)
 .refine rg AA <| rn 2 Z <| sx Z (Ab Z Z <| rn 2 Z <| gs 12 az Z Z Z (fun a0 => ?_) (fun a1 => ?_))
  .exact rl Z <| AL a0 (wf hA [(0, 0), (1, 1)] Z Z Z)
  refine rn 2 Z <| sx Z (CR AA (fun i : Bool => lb i) (fun i : Bool => [(0, bx (AS c)), (1, bx (AY b))]) 2 a1 Tryz.func84 9 [.tmp 4] [(0, ls 5 Bz b.runs), (1, .fn 85 [])] Z Z Z Z Z Z Z Z (fun A hA i bm => ?_) (fun i b0 => ?_))
  .refine rs AA <| rl Z <| rs AA <| rn 2 Z <| sx Z (CR AA (fun f : Int => li f) (fun f : Int => [(0, bx (AS c)), (1, bx (AY b))]) 2 bm Tryz.func121 19 [.tmp 4] [(0, ls 5 Bz b.runs), (1, .fn 85 [])] Z Z Z Z Z Z Z Z (fun A hA f bn => ?_) (fun f bz => ?_))
   .refine rs AA <| rl Z <| AB <| rs AA <| rn 1 Z <| sx Z (Ab Z Z <| rl Z <| AH ?_)
    apply lp (a := f) (fun n : Int => ⟨19, [(0, ls 5 Bz b.runs), (1, .fn 85 []), (7, li (b.runs.length : Int)), (8, li n)], [(0, bx (AS c)), (1, bx (AY b))], 2⟩) bn
    . exact wj hA [(0, 0), (1, 1)] Z Z Z Z
    intro n co w
    unfold Js at w
    refine rs AA <| rl Z <| AB <| cd Z w (fun bo => ?_) (fun bv => ?_)
    .refine AE <| AC <| AB <| AH <| rs AA <| rl Z <| rs AA <| rn 3 Z <| bq bo fun ct ae bp => sx Z (Ac ae Z Z Z <| rn 1 Z <| bq bp fun cu af br => sx Z (AM (Pn _ _ af) (.inl Z) Z Z Z <| rl Z <| cd Z br (fun bs => ?_) (fun bu => ?_)))
     .refine rs AA <| rl Z <| AF <| AN <| AG <| A1 bs fun cj bt => AN <| AG ?_
      have hr := Option.some.inj bt; subst hr
      exact CU (nt := 19) (sl := [(4, li n)]) (wj hA [(0, 0), (1, 1)] Z Z Z Z) Z
     exact AE <| Af <| AC <| rg AA <| rl Z <| Ar bu (wj hA [(0, 0), (1, 1)] Z Z Z Z)
    refine AV <| AW <| BI bv fun ck bw => Ap <| AC <| rs AA <| rl Z <| AF ?_
    cases bw
    exact CU (nt := 19) (sl := [(4, li (-1))]) (wj hA [(0, 0), (1, 1)] Z Z Z Z) Z
   refine rl Z <| AF ?_
   cases bz
   exact CU (nt := 9) (sl := [(4, lb (decide (0 <= f)))]) (wj hA [(0, 0), (1, 1)] Z Z Z Z) Z
  exact rl Z <| AL b0 (wf hA [(0, 0), (1, 1)] Z Z Z)
 refine cd Z b1 (fun b2 => ?_) (fun b3 => ?_)
 .refine rs AA <| rl Z <| AF <| AG ?_
  cases b2
  exact er Z Le.rfl
 refine AE <| AC <| AB <| rs AA <| rn 3 Z <| bq b3 fun cv ag b4 => sx Z (AM (S1 _ _ _ ag) (.inl Z) Z Z Z <| rl Z <| rs AA <| rl Z <| cd Z b4 (fun b5 => ?_) (fun b6 => ?_))
 .refine rs AA <| rl Z <| AF <| AG ?_
  have hr := Option.some.inj b5; subst hr
  exact er Z Le.rfl
 refine AE <| AC <| AB <| jb (fun q : Bool => ⟨49, [(3, .lpb 0 0), (33, lb q)], [(0, bx (AY b))], 1⟩) b6 (fun q b7 => ?_) (fun q av => ?_)
 .refine rg AA <| rn 2 Z <| bq b7 fun cw ah b8 => sx Z (AM (EA _ _ _ ah) (.inl Z) Z Z Z <| rn 2 Z <| gs 28 b8 Z Z Z (fun b9 => ?_) (fun ca => ?_))
  .exact rl Z <| AL b9 (wf hA [(0, 1)] Z Z Z)
  refine rn 3 Z <| sx Z (CR AA (fun j : Bool => lb j) (fun j : Bool => [(0, bx (AS c)), (1, bx (AY b))]) 2 ca Tryz.func84 9 [.tmp 4] [(0, ls 5 Bz b.runs), (1, .fn 88 [.lpb 0 0, .lpb 1 0])] Z Z Z Z Z Z Z Z (fun A hA j cb => ?_) (fun j au => ?_))
  .refine rs AA <| rl Z <| rs AA <| rn 2 Z <| sx Z (CR AA (fun d : Int => li d) (fun d : Int => [(0, bx (AS c)), (1, bx (AY b))]) 2 cb Tryz.func121 19 [.tmp 4] [(0, ls 5 Bz b.runs), (1, .fn 88 [.lpb 0 0, .lpb 1 0])] Z Z Z Z Z Z Z Z (fun A hA d ai => ?_) (fun d ar => ?_))
   .refine rs AA <| rl Z <| AB <| rs AA <| rn 1 Z <| sx Z (Ab Z Z <| rl Z <| AH ?_)
    apply lp (a := d) (fun l : Int => ⟨19, [(0, ls 5 Bz b.runs), (1, .fn 88 [.lpb 0 0, .lpb 1 0]), (7, li (b.runs.length : Int)), (8, li l)], [(0, bx (AS c)), (1, bx (AY b))], 2⟩) ai
    . exact wj hA [(0, 0), (1, 1)] Z Z Z Z
    intro l cl t
    unfold Jt at t
    refine rs AA <| rl Z <| AB <| cd Z t (fun aj => ?_) (fun ap => ?_)
    .refine AE <| AC <| AB <| AH <| rs AA <| rl Z <| rs AA <| rn 3 Z <| bq aj fun cp y ak => sx Z (Ac y Z Z Z <| rn 1 Z <| bq ak fun cq z al => sx Z (AM (Po _ _ _ _ z) (.inl Z) Z Z (Dg.eq (.cons (.one (.p _)) (.cons (.box Z (.cons (.p _) (.cons (.p _) (.cons (.p _) (.cons (.p _) (.cons (.p _) (.cons (.p _) (.cons (.p _) (.cons (.p _) (.cons (.p _) .nil)))))))))) (.cons (.box Z (.cons (.p _) (.cons (.p _) (.cons (.p _) .nil)))) .nil)))) <| rl Z <| cd Z al (fun am => ?_) (fun ao => ?_)))
     .refine rs AA <| rl Z <| AF <| AN <| AG <| A1 am fun cc an => AN <| AG ?_
      have hr := Option.some.inj an; subst hr
      exact CU (nt := 19) (sl := [(4, li l)]) (wj hA [(0, 0), (1, 1)] Z Z Z Z) Z
     exact AE <| Af <| AC <| rg AA <| rl Z <| Ar ao (wj hA [(0, 0), (1, 1)] Z Z Z Z)
    refine AV <| AW <| BI ap fun ce aq => Ap <| AC <| rs AA <| rl Z <| AF ?_
    cases aq
    exact CU (nt := 19) (sl := [(4, li (-1))]) (wj hA [(0, 0), (1, 1)] Z Z Z Z) Z
   refine rl Z <| AF ?_
   cases ar
   exact CU (nt := 9) (sl := [(4, lb (decide (0 <= d)))]) (wj hA [(0, 0), (1, 1)] Z Z Z Z) Z
  exact rl Z <| AL au (wf hA [(0, 1)] Z Z Z)
 refine cd Z av (fun aw => ?_) (fun ax => ?_)
 .refine rs AA <| rl Z <| AF <| AG ?_
  cases aw
  exact er Z Le.rfl
 refine AE <| AC <| AB <| rs AA <| rn 2 Z <| sx Z (Ab Z Z <| rl Z <| AH ?_)
 apply lp (a := r) (fun x : Int => ⟨49, [(3, .lpb 0 0), (35, ls 5 Bz b.runs), (36, li (b.runs.length : Int)), (37, li x)], [(0, bx (AY b))], 1⟩) ax
 . exact wf hA [(0, 0)] Z Z Z
 intro x cm u
 unfold Jv at u
 refine rs AA <| rl Z <| AB <| cd Z u (fun ay => ?_) (fun bk => ?_)
 .refine AE <| AC <| AB <| AH <| rs AA <| rn 1 Z <| bq ay fun s aa a2 => sx Z (Ac aa Z Z Z <| rl Z <| rs AA <| rn 3 Z <| bq a2 fun k ab a3 => sx Z (TH ab Z Z Z Z <| rn 1 Z <| sx Z (CR AA (fun g : Bool => lb g) (fun g : Bool => [(0, bx (AY b)), (1, bx (Bz s))]) 2 a3 Tryz.func84 9 [.tmp 4] [(0, ls 5 Bz k), (1, .fn 90 [.lpb 1 0])] Z Z Z Z Z Z Z Z (fun A hA g a4 => ?_) (fun g bg => ?_))))
  .refine rs AA <| rl Z <| rs AA <| rn 2 Z <| sx Z (CR AA (fun e : Int => li e) (fun e : Int => [(0, bx (AY b)), (1, bx (Bz s))]) 2 a4 Tryz.func121 19 [.tmp 4] [(0, ls 5 Bz k), (1, .fn 90 [.lpb 1 0])] Z Z Z Z Z Z Z Z (fun A hA e a5 => ?_) (fun e bf => ?_))
   .refine rs AA <| rl Z <| AB <| rs AA <| rn 1 Z <| sx Z (Ab Z Z <| rl Z <| AH ?_)
    apply lp (a := e) (fun m : Int => ⟨19, [(0, ls 5 Bz k), (1, .fn 90 [.lpb 1 0]), (7, li (k.length : Int)), (8, li m)], [(0, bx (AY b)), (1, bx (Bz s))], 2⟩) a5
    . exact wj hA [(0, 0), (1, 1)] Z Z Z Z
    intro m cn v
    unfold Ju at v
    refine rs AA <| rl Z <| AB <| cd Z v (fun a6 => ?_) (fun bc => ?_)
    .refine AE <| AC <| AB <| AH <| rs AA <| rl Z <| rs AA <| rn 3 Z <| bq a6 fun cr ac a7 => sx Z (Ac ac Z Z Z <| rn 1 Z <| bq a7 fun cs ad a8 => sx Z (AM (Pp _ _ _ ad) (.inl Z) Z Z (Dg.eq (.cons (.one (.p _)) (.cons (.box Z (.cons (.p _) (.cons (.p _) (.cons (.p _) (.cons (.p _) (.cons (.p _) .nil)))))) .nil))) <| rl Z <| cd Z a8 (fun a9 => ?_) (fun bb => ?_)))
     .refine rs AA <| rl Z <| AF <| AN <| AG <| A1 a9 fun cf ba => AN <| AG ?_
      have hr := Option.some.inj ba; subst hr
      exact CU (nt := 19) (sl := [(4, li m)]) (wj hA [(0, 0), (1, 1)] Z Z Z Z) Z
     exact AE <| Af <| AC <| rg AA <| rl Z <| Ar bb (wj hA [(0, 0), (1, 1)] Z Z Z Z)
    refine AV <| AW <| BI bc fun cg be => Ap <| AC <| rs AA <| rl Z <| AF ?_
    cases be
    exact CU (nt := 19) (sl := [(4, li (-1))]) (wj hA [(0, 0), (1, 1)] Z Z Z Z) Z
   refine rl Z <| AF ?_
   cases bf
   exact CU (nt := 9) (sl := [(4, lb (decide (0 <= e)))]) (wj hA [(0, 0), (1, 1)] Z Z Z Z) Z
  refine rl Z <| cd Z bg (fun bh => ?_) (fun bj => ?_)
  .refine rs AA <| rl Z <| AF <| AN <| AG <| A1 bh fun ch bi => AN <| AG ?_
   cases bi
   exact er Z Le.rfl
  exact AE <| Af <| AC <| rg AA <| rl Z <| Ar bj (wf hA [(0, 0)] Z Z Z)
 refine AV <| AW <| BI bk fun ci bl => Ap <| AC <| rs AA <| rl Z <| AF ?_
 cases bl
 exact er Z Le.rfl
noncomputable def L5 (c : Ay) (d : Ak) (b : Int) : Option (Nc × Bool) :=
 ((bif decide (b < 0) then some true else some (decide ((d.runs.length : Int) <= b)) : Option (Bool))).bind fun (f : Bool) => bif f then some ((⟨ByteArray.empty, 0, (⟨0, 0⟩ : AI), 0⟩ : Nc), false) else (AX d.runs b).bind fun a => (CY c a.frm).bind fun e => (((BS c e.1.elem).bind fun h => bif (h == 4) then some 0 else some a.left : Option (Int))).bind fun (g : Int) => some ((⟨a.name, a.stock, e.1, g⟩ : Nc), true)
theorem VA (a : Ay) (b : Ak) (c : Int) (r : (Nc × Bool)) (h : L5 a b c = some r) : Ax Tryz.prog 11 [.place (Aq a) 0, .agg (AY b), .int .i64 c] (· = .tup [.agg (Md r.1), .bool r.2]) := by
 refine fn AA Tryz.func11 Z Z 49 Z [.cell 6 42, .tmp 7] Z [(0, .p (.place (Aq a) 0)), (1, .p (.agg (AY b))), (2, .p (.int .i64 c))] Z Z fun A hA => ?_
 unfold L5 at h
 refine rs AA <| rl Z <| AB <| jb (fun d : Bool => ⟨49, [(0, lq (Aq a)), (2, li c), (4, .lpb 0 0), (6, .lpb 1 0), (20, lb d)], [(0, bx (AY b)), (1, .box [.p (.str ByteArray.empty), li 0, li 0, li 0, li 0])], 2⟩) h (fun d l => ?_) (fun d o => ?_)
 .refine rg AA <| rn 3 Z <| gs 14 l Z Z Z (fun m => ?_) (fun n => ?_)
  .exact rl Z <| AL m (wf hA [(0, 0), (1, 1)] Z Z Z)
  exact rn 3 Z <| sx Z (Ab Z Z <| rl Z <| AL n (wf hA [(0, 0), (1, 1)] Z Z Z))
 refine cd Z o (fun q => ?_) (fun s => ?_)
 .refine rs AA <| rl Z <| AF <| AG ?_
  cases q
  exact er Z Le.rfl
 refine AE <| AC <| rs AA <| rn 3 Z <| bq s fun f i t => sx Z (Ac i Z Z Z <| rl Z <| rs AA <| rn 3 Z <| bq t fun g j u => sx Z (AM (Ga _ _ _ j) (.inl Z) Z Z Z <| rl Z <| rs AA <| rl Z <| jb (fun e : Int => ⟨49, [(6, .lpb 0 0), (11, .lpb 1 0)], [(0, .box [.p (.str ByteArray.empty), li 0, li 0, li 0, li 0]), (1, .box [.p (.str f.name), li f.stock, li g.1.elem, li g.1.fin, li e])], 2⟩) u (fun e v => ?_) (fun e z => ?_)))
 .refine rs AA <| rn 3 Z <| bq v fun aa k w => sx Z (AM (Bp _ _ _ k) (.inl Z) Z Z Z <| rl Z <| cd Z w (fun x => ?_) (fun y => ?_))
  .exact rg AA <| rl Z <| AL x (wf hA [(0, 1), (1, 4)] Z Z Z)
  exact AE <| AL y (wf hA [(0, 1), (1, 4)] Z Z Z)
 refine rs AA <| rl Z <| AF ?_
 cases z
 exact er Z Le.rfl
end Go.E
/- Plain functions, and walks in step with them. Written by a program (gen.py). No condition. -/
set_option maxRecDepth 100000
set_option maxHeartbeats 1000000
namespace Go.E
open Go Go.RowKit Go.Proofs
noncomputable def JS (c : Ay) (a : AI) : Option Bool :=
 ((bif decide (0 <= a.fin) then (BS c a.elem).bind fun d => (El d).bind fun e => some (decide (a.fin < e)) else some false : Option (Bool))).bind fun (b : Bool) => some b
theorem Py (b : Ay) (c : AI) (r : Bool) (h : JS b c = some r) : Ax Tryz.prog 136 [.place (Aq b) 0, .agg (AU c)] (· = .bool r) := by
 refine fn AA Tryz.func136 Z Z 18 Z [.tmp 4] Z [(0, .p (.place (Aq b) 0)), (1, .p (.agg (AU c)))] Z Z fun A hA => ?_
 unfold JS at h
 refine rs AA <| rl Z <| jb (fun a : Bool => ⟨18, [(4, lb a)], [], 0⟩) h (fun a k => ?_) (fun a j => ?_)
 .refine Bu AA mixed [0, 1, 2, 3, 4, 5, 6, 7, 8, 9, 10, 11, 12, 13] 14 (by kernel_rfl) Z Z Z ?_
  refine As 4 Z <| DZ 8 k Z Z Z (fun l => ?_) (fun i => ?_)
  .exact As 5 Z <| bq l fun m d f => Au Z (A4 (Bp _ _ _ d) (.inl Z) Z Z Z <| bq f fun n e g => Au Z (A4 (JT _ _ e) (.inl Z) Z Z Z <| BG Z <| AL g (wf hA [] Z Z Z)))
  exact BG Z <| AL i (wf hA [] Z Z Z)
 refine AF ?_
 have hr := Option.some.inj j; subst hr
 exact er Z Le.rfl
noncomputable def K5 (c : Ay) (d : Int) (a : Nc) : Option (K6 × Int) :=
 (BS c a.at_.elem).bind fun b => (DB c a.at_.elem).bind fun e => ((bif decide (d < 1) then some true else bif decide (4000 < d) then some true else bif (b != 4) then bif (b != 1) then some true else (JS c a.at_).bind fun j => some (!j) else (JS c a.at_).bind fun k => some (!k) : Option (Bool))).bind fun (i : Bool) => bif i then some ((⟨0, [], 0, 0, 0⟩ : K6), 1) else (CV c a.at_).bind fun l => bif decide (l < 0) then some ((⟨0, [], 0, 0, 0⟩ : K6), 7) else ((bif (b == 4) then bif (a.left != 0) then some true else bif (b == 1) then bif decide (a.left < 0) then some true else some (decide (e < a.left)) else some false else bif (b == 1) then bif decide (a.left < 0) then some true else some (decide (e < a.left)) else some false : Option (Bool))).bind fun (f : Bool) => bif f then some ((⟨0, [], 0, 0, 0⟩ : K6), 1) else ((bif (b == 1) then some (decide (e < AO (a.left + d))) else some false : Option (Bool))).bind fun (g : Bool) => bif g then some ((⟨0, [], 0, 0, 0⟩ : K6), 9) else ((bif (b == 4) then some 1 else some 2 : Option (Int))).bind fun (h : Int) => some ((⟨h, [a.at_], a.left, 0, 0⟩ : K6), 0)
theorem T6 (c : Ay) (b : Int) (a : Nc) (r : (K6 × Int)) (h : K5 c b a = some r) : Ax Tryz.prog 92 [.place (Aq c) 0, .int .i64 b, .agg (Md a)] (· = .tup [.agg (Wm r.1), .int .i64 r.2]) := by
 refine fn AA Tryz.func92 Z Z 97 Z [.cell 6 117, .tmp 7] Z [(0, .p (.place (Aq c) 0)), (1, .p (.int .i64 b)), (2, .p (.agg (Md a)))] Z Z fun A hA => ?_
 unfold K5 at h
 refine rs AA <| rl Z <| AB ?_
 refine Bu AA mixed [0, 1, 2, 3, 4, 5, 6, 7, 8, 9, 10, 11] 12 (by kernel_rfl) Z Z Z ?_
 refine As 4 Z <| bq h fun i n a5 => Au Z (A4 (Bp _ _ _ n) (.inl Z) Z Z Z <| As 4 Z <| bq a5 fun j o a6 => Au Z (A4 (K7 _ _ _ o) (.inl Z) Z Z Z <| BG Z <| AC <| AB <| AH <| jb (fun g : Bool => ⟨97, [(0, lq (Aq c)), (1, li b), (5, .lpb 0 0), (6, .lpb 1 0), (8, li i), (9, li j), (21, lb g)], [(0, bx (Md a)), (1, .box [li 0, .p (.nils), li 0, li 0, li 0])], 2⟩) a6 (fun g a7 => ?_) (fun g x => ?_)))
 .refine rg AA <| rn 3 Z <| gs 24 a7 Z Z Z (fun a8 => ?_) (fun a9 => ?_)
  .exact rl Z <| AL a8 (wf hA [(0, 0), (1, 1)] Z Z Z)
  refine rn 4 Z <| gs 28 a9 Z Z Z (fun ba => ?_) (fun bb => ?_)
  .exact rl Z <| AL ba (wf hA [(0, 0), (1, 1)] Z Z Z)
  refine rn 3 Z <| gs 31 bb Z Z Z (fun q => ?_) (fun v => ?_)
  .refine rn 5 Z <| gs 36 q Z Z Z (fun s => ?_) (fun t => ?_)
   .exact rl Z <| AL s (wf hA [(0, 0), (1, 1)] Z Z Z)
   exact rn 3 Z <| bq t fun bc k u => sx Z (AM (Py _ _ _ k) (.inl Z) Z Z Z <| rl Z <| AL u (wf hA [(0, 0), (1, 1)] Z Z Z))
  exact rn 8 Z <| bq v fun be l w => sx Z (AM (Py _ _ _ l) (.inl Z) Z Z Z <| rl Z <| AL w (wf hA [(0, 0), (1, 1)] Z Z Z))
 refine cd Z x (fun y => ?_) (fun z => ?_)
 .refine rs AA <| rl Z <| AF <| AN <| AG ?_
  cases y
  exact er Z (Le.tup' (.cons (Le.agg' (.cons Le.rfl (.cons (Le.nil _) (.cons Le.rfl (.cons Le.rfl (.cons Le.rfl .nil)))))) (.cons Le.rfl .nil)))
 refine rs AA <| rn 3 Z <| bq z fun bf m aa => sx Z (AM (GG _ _ _ m) (.inl Z) Z Z Z <| rl Z <| cd Z aa (fun ab => ?_) (fun ac => ?_))
 .refine rs AA <| rl Z <| AF <| AN <| AG ?_
  cases ab
  exact er Z (Le.tup' (.cons (Le.agg' (.cons Le.rfl (.cons (Le.nil _) (.cons Le.rfl (.cons Le.rfl (.cons Le.rfl .nil)))))) (.cons Le.rfl .nil)))
 refine jb (fun d : Bool => ⟨97, [(1, li b), (5, .lpb 0 0), (6, .lpb 1 0), (8, li i), (9, li j), (51, lb d)], [(0, bx (Md a)), (1, .box [li 0, .p (.nils), li 0, li 0, li 0])], 2⟩) ac (fun d ad => ?_) (fun d aq => ?_)
 .refine rg AA <| rn 3 Z <| gs 54 ad Z Z Z (fun ae => ?_) (fun al => ?_)
  .refine rn 5 Z <| gs 59 ae Z Z Z (fun af => ?_) (fun ag => ?_)
   .exact rl Z <| AL af (wf hA [(0, 0), (1, 1)] Z Z Z)
   refine rn 3 Z <| gs 62 ag Z Z Z (fun ah => ?_) (fun ak => ?_)
   .refine rn 4 Z <| gs 66 ah Z Z Z (fun ai => ?_) (fun aj => ?_)
    .exact rl Z <| AL ai (wf hA [(0, 0), (1, 1)] Z Z Z)
    exact rl Z <| AL aj (wf hA [(0, 0), (1, 1)] Z Z Z)
   exact rl Z <| AL ak (wf hA [(0, 0), (1, 1)] Z Z Z)
  refine rn 8 Z <| gs 62 al Z Z Z (fun am => ?_) (fun ap => ?_)
  .refine rn 4 Z <| gs 66 am Z Z Z (fun an => ?_) (fun ao => ?_)
   .exact rl Z <| AL an (wf hA [(0, 0), (1, 1)] Z Z Z)
   exact rl Z <| AL ao (wf hA [(0, 0), (1, 1)] Z Z Z)
  exact rl Z <| AL ap (wf hA [(0, 0), (1, 1)] Z Z Z)
 refine cd Z aq (fun ar => ?_) (fun au => ?_)
 .refine rs AA <| rl Z <| AF <| AN <| AG ?_
  cases ar
  exact er Z (Le.tup' (.cons (Le.agg' (.cons Le.rfl (.cons (Le.nil _) (.cons Le.rfl (.cons Le.rfl (.cons Le.rfl .nil)))))) (.cons Le.rfl .nil)))
 refine jb (fun e : Bool => ⟨97, [(5, .lpb 0 0), (6, .lpb 1 0), (8, li i), (75, lb e)], [(0, bx (Md a)), (1, .box [li 0, .p (.nils), li 0, li 0, li 0])], 2⟩) au (fun e av => ?_) (fun e ay => ?_)
 .refine rg AA <| rn 3 Z <| gs 78 av Z Z Z (fun aw => ?_) (fun ax => ?_)
  .exact rl Z <| AL aw (wf hA [(0, 0), (1, 1)] Z Z Z)
  exact rl Z <| AL ax (wf hA [(0, 0), (1, 1)] Z Z Z)
 refine cd Z ay (fun az => ?_) (fun a0 => ?_)
 .refine rs AA <| rl Z <| AF <| AN <| AG ?_
  cases az
  exact er Z (Le.tup' (.cons (Le.agg' (.cons Le.rfl (.cons (Le.nil _) (.cons Le.rfl (.cons Le.rfl (.cons Le.rfl .nil)))))) (.cons Le.rfl .nil)))
 refine AE <| Af <| AC <| rs AA <| rl Z <| jb (fun f : Int => ⟨97, [(6, .lpb 0 0), (10, .lpb 1 0)], [(0, .box [li 0, .p (.nils), li 0, li 0, li 0]), (1, .box [li f, .lsl 2 2 0 [a.at_].length, li a.left, li 0, li 0]), (2, .row 40 2 ([a.at_].map AU))], 3⟩) a0 (fun f a1 => ?_) (fun f a4 => ?_)
 .refine rs AA <| rl Z <| cd Z a1 (fun a2 => ?_) (fun a3 => ?_)
  .exact rg AA <| rl Z <| AL a2 (wf hA [(0, 1), (1, 3), (2, 2)] Z Z Z)
  exact AE <| AL a3 (wf hA [(0, 1), (1, 3), (2, 2)] Z Z Z)
 refine rs AA <| rl Z <| AF ?_
 cases a4
 exact er (Tv Z (.cons (.agg (.cons (.p _) (.cons (.own (enc := AU) ([a.at_] : List AI) Z Z) (.cons (.p _) (.cons (.p _) (.cons (.p _) .nil)))))) (.cons (.one (.p _)) .nil))) Le.rfl
noncomputable def Me (e : Ay) (b : K6) (a : Int × (List Int)) : Option ((Int × (List Int)) ⊕ (List Int)) :=
 bif decide (a.1 < (b.trail.length : Int)) then (((AX b.trail a.1).bind fun c => (BS e c.elem).bind fun f => bif (f != 4) then (Bt a.2 [c.elem]).bind fun g => some g else some a.2 : Option ((List Int)))).bind fun (d : (List Int)) => some (.inl (AO (a.1 + 1), d)) else ((Pf a.2).bind fun h => (TP h).bind fun i => some i).map .inr
noncomputable def L6 (a : Ay) (b : K6) : Option (List Int) :=
 AT (Me a b) (0, ([] : List Int))
theorem VB (d : Ay) (c : K6) (r : (List Int)) (h : L6 d c = some r) : Ax Tryz.prog 93 [.place (Aq d) 0, .agg (Wm c)] (· = .slice 1 (r.map Ad)) := by
 refine fn AA Tryz.func93 Z Z 30 Z [.tmp 4] Z [(0, .p (.place (Aq d) 0)), (1, .p (.agg (Wm c)))] Z Z fun A hA => ?_
 unfold L6 at h
 refine rs AA <| rl Z <| rs AA <| rl Z <| AB <| rs AA <| rn 2 Z <| sx Z (Ab Z Z <| rl Z <| AH ?_)
 apply lp (a := r) (fun b : (Int × (List Int)) => ⟨30, [(0, lq (Aq d)), (5, .lsl 0 1 0 b.2.length), (9, ls 2 AU c.trail), (10, li (c.trail.length : Int)), (11, li b.1)], [(0, .row 3 1 (b.2.map Ad))], 1⟩) h
 . exact A8.trans (Cf 5 3 1 Z) (wf hA [(0, 1)] Z Z Z)
 intro b ai i
 unfold Me at i
 refine rs AA <| rl Z <| AB <| cd Z i (fun q => ?_) (fun aa => ?_)
 .refine AE <| AC <| jb (fun f : (List Int) => ⟨30, [(0, lq (Aq d)), (5, .lsl 0 1 0 f.length), (9, ls 2 AU c.trail), (10, li (c.trail.length : Int)), (11, li b.1)], [(0, .row 3 1 (f.map Ad))], 1⟩) q (fun f s => ?_) (fun f z => ?_)
  .refine AH <| rs AA <| bq s fun ae j u => sx Z (Ac j Z Z Z <| rl Z <| rs AA <| rn 3 Z <| bq u fun aj k v => sx Z (AM (Bp _ _ _ k) (.inl Z) Z Z Z <| rl Z <| cd Z v (fun w => ?_) (fun y => ?_)))
   .exact rg AA <| rn 4 Z <| bq w fun ak n x => sx Z (BX (enc := Ad) (l := b.2) (m := [ae.elem]) n (fun _ => ⟨Z, Z⟩) Z Z Z Z Z Z <| rl Z <| Af <| AL x (wf hA [(0, 3)] Z Z Z))
   exact AE <| Af <| AL y (wf hA [(0, 0)] Z Z Z)
  exact rg AA <| rl Z <| Ar z (wf hA [(0, 0)] Z Z Z)
 refine AV <| AW <| CO aa fun ah ab => Ap <| AC <| rs AA <| rn 1 Z <| bq ab fun af g ac => sx Z (AAi (t := 50) (e := 3) (enc := Ad) (l := b.2) AA Xq Z Z g Z Z Z Z Z Z <| rl Z <| rs AA <| rn 1 Z <| bq ac fun ag o ad => sx Z (AAj (t := 50) (e := 3) (enc := Ad) (l := af) AA AAk Z Z o Z (by first | rfl | exact Xr g) Z Z Z Z <| rl Z <| AF ?_))
 have hr := Option.some.inj ad; subst hr
 exact er (IJ Z (.one (.own (enc := Ad) ag Z Z))) Le.rfl
noncomputable def Lg (d : (Int × Int × (List (Int × Bool)))) (b : (List Int)) (a : Int × Int × (List (Int × Bool))) : Option ((Int × Int × (List (Int × Bool))) ⊕ ((Int × Int × (List (Int × Bool))) ⊕ Int)) :=
 bif decide (a.2.1 < (b.length : Int)) then (AX b a.2.1).bind fun c => ((bif ((Ah a.2.2 c).getD false) then some 18 else some a.1 : Option (Int))).bind fun (e : Int) => some (.inl (e, AO (a.2.1 + 1), A2 c true a.2.2)) else some (.inr (.inl (a.1, AO (d.2.1 + 1), a.2.2)))
noncomputable def Lh (c : Ay) (b : Ak) (a : Int × Int × (List (Int × Bool))) : Option ((Int × Int × (List (Int × Bool))) ⊕ Int) :=
 bif decide (a.2.1 < (b.runs.length : Int)) then (AX b.runs a.2.1).bind fun e => (L5 c b a.2.1).bind fun f => (AX b.stock e.stock).bind fun g => (K5 c g.len f.1).bind fun d => bif (d.2 != 0) then some (.inr d.2) else (L6 c d.1).bind fun h => AT (Lg a h) (a.1, 0, a.2.2) else some (.inr a.1)
noncomputable def K8 (a : Ay) (b : Ak) : Option Int :=
 AT (Lh a b) (0, 0, [])
theorem T7 (e : Ay) (b : Ak) (r : Int) (h : K8 e b = some r) : Ax Tryz.prog 57 [.place (Aq e) 0, .agg (AY b)] (· = .int .i64 r) := by
 refine fn AA Tryz.func57 Z Z 63 Z [.tmp 4] Z [(0, .p (.place (Aq e) 0)), (1, .p (.agg (AY b)))] Z Z fun A hA => ?_
 unfold K8 at h
 refine rs AA <| rl Z <| rs AA <| rl Z <| AB <| rs AA <| rn 2 Z <| sx Z (Ab Z Z <| rl Z <| AH ?_)
 apply lp (a := r) (fun d : (Int × Int × (List (Int × Bool))) => ⟨63, [(0, lq (Aq e)), (3, .lpb 0 0), (5, li d.1), (6, .lmap 1), (17, ls 5 Bz b.runs), (18, li (b.runs.length : Int)), (19, li d.2.1)], [(0, bx (AY b)), (1, .map (An (.int .i64) .bool d.2.2))], 2⟩) h
 . exact wf hA [(0, 0), (1, 1)] Z Z Z
 intro d l j
 unfold Lh at j
 refine rs AA <| rl Z <| AB <| cd Z j (fun u => ?_) (fun an => ?_)
 .refine AE <| AC <| AB <| AH <| rs AA <| rn 1 Z <| bq u fun av m v => sx Z (Ac m Z Z Z <| rl Z <| rs AA <| rn 3 Z <| bq v fun aw n w => sx Z (AM (VA _ _ _ _ n) (.inl Z) Z Z Z <| rl Z <| AB ?_))
  refine Bu AA mixed [0, 1, 2, 3, 4, 5, 6, 7, 8, 9, 10, 11, 12, 13, 14, 15] 16 (by kernel_rfl) Z Z Z ?_
  refine As 5 Z <| bq w fun ax o x => Au Z (Ai Z (Ac o Z Z Z <| As 3 Z <| bq x fun ay q aa => Au Z (A4 (T6 _ _ _ _ q) (.inr Z) Z Z Z <| BG Z <| AC <| AB <| rs AA <| rl Z <| cd Z aa (fun ab => ?_) (fun ad => ?_))))
  .refine rs AA <| rl Z <| AF <| AG <| AN <| AG <| A1 ab fun ap ac => AN <| AG ?_
   cases ac
   exact er Z Le.rfl
  refine AE <| AC <| rs AA <| rn 2 Z <| bq ad fun f s ae => sx Z (AM (VB _ _ _ s) (.inr Z) Z Z Z <| sx Z (Ab Z Z <| rl Z <| AH ?_))
  apply lp (a := l) (fun c : (Int × Int × (List (Int × Bool))) => ⟨63, [(0, lq (Aq e)), (3, .lpb 0 0), (5, li c.1), (6, .lmap 1), (17, ls 5 Bz b.runs), (18, li (b.runs.length : Int)), (19, li d.2.1), (49, ls 1 Ad f), (50, li (f.length : Int)), (51, li c.2.1)], [(0, bx (AY b)), (1, .map (An (.int .i64) .bool c.2.2))], 2⟩) ae
  . exact wf hA [(0, 0), (1, 1)] Z Z Z
  intro c au k
  unfold Lg at k
  refine rs AA <| rl Z <| AB <| cd Z k (fun af => ?_) (fun al => ?_)
  .refine AE <| AC <| AB <| AH <| rs AA <| bq af fun i t ag => sx Z (Ac t Z Z Z <| rl Z <| jb (fun g : Int => ⟨63, [(0, lq (Aq e)), (3, .lpb 0 0), (5, li g), (6, .lmap 1), (14, li i), (17, ls 5 Bz b.runs), (18, li (b.runs.length : Int)), (19, li d.2.1), (49, ls 1 Ad f), (50, li (f.length : Int)), (51, li c.2.1)], [(0, bx (AY b)), (1, .map (An (.int .i64) .bool c.2.2))], 2⟩) ag (fun g ah => ?_) (fun g ak => ?_))
   .refine rs AA <| rn 2 Z <| sx Z (KU (et := 4) (ke := (.int .i64)) (ve := .bool) (mp := c.2.2) (y := i) false Fm Z Z Z Z <| rl Z <| cd Z ah (fun ai => ?_) (fun aj => ?_))
    .exact rg AA <| rl Z <| AL ai (wf hA [(0, 0), (1, 1)] Z Z Z)
    exact AE <| AL aj (wf hA [(0, 0), (1, 1)] Z Z Z)
   exact rg AA <| rn 2 Z <| sx Z (GE (et := 4) (ke := (.int .i64)) (ve := .bool) (mp := c.2.2) (y := i) (z := true) Fm Z Z Z Z Z Z <| rl Z <| Af <| AC <| rg AA <| rl Z <| Ar ak (wf hA [(0, 0), (1, 1)] Z Z Z))
  exact AV <| AW <| BI al fun aq am => Ap <| Af <| AC <| rg AA <| rl Z <| Ar am (wf hA [(0, 0), (1, 1)] Z Z Z)
 refine AV <| AW <| BI an fun ar ao => Ap <| AC <| rs AA <| rl Z <| AF ?_
 cases ao
 exact er Z Le.rfl
noncomputable def Mf (b : C6) (a : Int) : Option (Int ⊕ Int) :=
 bif decide (a < (b.plan.signals.length : Int)) then (AX b.plan.signals a).bind fun c => (KD c).bind fun d => bif d then some (.inr a) else some (.inl (AO (a + 1))) else some (.inr (-1))
noncomputable def Mg (c : C6) (d : Ak) (g : Ay) (b : Int) (e : DG) (a : Int) : Option (Int ⊕ (Int ⊕ Int)) :=
 bif decide (a < (e.legs.length : Int)) then (Dt g c.roads d b a).bind fun f => bif ((f.length : Int) == 0) then some (.inr (.inr 10)) else some (.inl (AO (a + 1))) else some (.inr (.inl (AO (b + 1))))
noncomputable def Mh (e : C6) (c : Ak) (g : Ay) (b : Int) : Option (Int ⊕ Int) :=
 bif decide (b < (c.runs.length : Int)) then (AX c.runs b).bind fun a => ((bif ((a.legs.length : Int) == 0) then some true else (AX a.legs (AO ((a.legs.length : Int) - 1))).bind fun f => some (f.fin != 2) : Option (Bool))).bind fun (d : Bool) => bif d then some (.inr 10) else AT (Mg e c g b a) 0 else some (.inr 0)
noncomputable def L7 (b : C6) (c : Ak) : Option Int :=
 ((((AT (Mf b) 0 : Option (Int))).bind fun (h : Int) => some (decide (0 <= h)) : Option (Bool))).bind fun (g : Bool) => bif g then some 7 else (IU b.plan c).bind fun d => bif (d != 0) then some d else (Cj b.plan).bind fun a => I3 a.1 (bif (a.2 != 0) then some a.2 else none) fun f => bif (a.2 != 0) then some a.2 else (K8 f c).bind fun e => bif (e != 0) then some e else AT (Mh b c f) 0
theorem VC (c : C6) (b : Ak) (r : Int) (h : L7 c b = some r) : Ax Tryz.prog 25 [.agg (Ck c), .agg (AY b)] (· = .int .i64 r) := by
 refine fn AA Tryz.func25 Z Z 78 Z [.tmp 4] Z [(0, .p (.agg (Ck c))), (1, .p (.agg (AY b)))] Z Z fun A hA => ?_
 unfold L7 at h
 refine rs AA <| rl Z <| AB <| rs AA <| rn 3 Z <| sx Z (CR AA (fun g : Bool => lb g) (fun g : Bool => [(0, bx (Ck c)), (1, bx (AY b))]) 2 h Tryz.func53 9 [.tmp 4] [(0, ls 4 BT c.plan.signals), (1, .fn 54 [])] Z Z Z Z Z Z Z Z (fun A hA g ab => ?_) (fun g am => ?_))
 .refine rs AA <| rl Z <| rs AA <| rn 2 Z <| sx Z (CR AA (fun f : Int => li f) (fun f : Int => [(0, bx (Ck c)), (1, bx (AY b))]) 2 ab Tryz.func83 19 [.tmp 4] [(0, ls 4 BT c.plan.signals), (1, .fn 54 [])] Z Z Z Z Z Z Z Z (fun A hA f ac => ?_) (fun f al => ?_))
  .refine rs AA <| rl Z <| AB <| rs AA <| rn 1 Z <| sx Z (Ab Z Z <| rl Z <| AH ?_)
   apply lp (a := f) (fun i : Int => ⟨19, [(0, ls 4 BT c.plan.signals), (1, .fn 54 []), (7, li (c.plan.signals.length : Int)), (8, li i)], [(0, bx (Ck c)), (1, bx (AY b))], 2⟩) ac
   . exact wj hA [(0, 0), (1, 1)] Z Z Z Z
   intro i bv l
   unfold Mf at l
   refine rs AA <| rl Z <| AB <| cd Z l (fun ad => ?_) (fun aj => ?_)
   .refine AE <| AC <| AB <| AH <| rs AA <| rl Z <| rs AA <| rn 3 Z <| bq ad fun b0 t ae => sx Z (Ac t Z Z Z <| rn 1 Z <| bq ae fun b1 u af => sx Z (AM (Sz _ _ u) (.inl Z) Z Z Z <| rl Z <| cd Z af (fun ag => ?_) (fun ai => ?_)))
    .refine rs AA <| rl Z <| AF <| AN <| AG <| A1 ag fun bn ah => AN <| AG ?_
     have hr := Option.some.inj ah; subst hr
     exact CU (nt := 19) (sl := [(4, li i)]) (wj hA [(0, 0), (1, 1)] Z Z Z Z) Z
    exact AE <| Af <| AC <| rg AA <| rl Z <| Ar ai (wj hA [(0, 0), (1, 1)] Z Z Z Z)
   refine AV <| AW <| BI aj fun bo ak => Ap <| AC <| rs AA <| rl Z <| AF ?_
   cases ak
   exact CU (nt := 19) (sl := [(4, li (-1))]) (wj hA [(0, 0), (1, 1)] Z Z Z Z) Z
  refine rl Z <| AF ?_
  cases al
  exact CU (nt := 9) (sl := [(4, lb (decide (0 <= f)))]) (wj hA [(0, 0), (1, 1)] Z Z Z Z) Z
 refine rl Z <| cd Z am (fun an => ?_) (fun ao => ?_)
 .refine rs AA <| rl Z <| AF <| AG ?_
  cases an
  exact er Z Le.rfl
 refine AE <| AC <| AB <| rs AA <| rn 3 Z <| bq ao fun b2 v ap => sx Z (AM (RG _ _ _ v) (.inl Z) Z Z Z <| rl Z <| rs AA <| rl Z <| cd Z ap (fun aq => ?_) (fun ar => ?_))
 .refine rs AA <| rl Z <| AF <| AG ?_
  have hr := Option.some.inj aq; subst hr
  exact er Z Le.rfl
 refine AE <| AC <| rs AA <| rn 2 Z <| bq ar fun bm w d => sx Z (AM (Ow _ _ w) (.inr Z) Z Z Z ?_)
 revert d; rcases bz : bm.1 with _ | k <;> intro d
 .replace d := Tq d
  refine rl Z <| AB <| rs AA <| rl Z <| cd Z d (fun au => ?_) (fun av => ?_)
  .refine rs AA <| rl Z <| AF <| AG ?_
   cases au
   exact er Z Le.rfl
  refine AE <| AC <| AB <| rs AA <| rn 2 Z ?_
  cases av
 replace d := Tr d
 refine rl Z <| AB <| rs AA <| rl Z <| cd Z d (fun aw => ?_) (fun ax => ?_)
 .refine rs AA <| rl Z <| AF <| AG ?_
  cases aw
  exact er Z Le.rfl
 refine AE <| AC <| AB <| rs AA <| rn 2 Z <| bq ax fun b3 x ay => sx Z (AM (T7 _ _ _ x) (.inl Z) Z Z Z <| rl Z <| rs AA <| rl Z <| cd Z ay (fun az => ?_) (fun a0 => ?_))
 .refine rs AA <| rl Z <| AF <| AG ?_
  have hr := Option.some.inj az; subst hr
  exact er Z Le.rfl
 refine AE <| AC <| AB <| rs AA <| rn 2 Z <| sx Z (Ab Z Z <| rl Z <| AH ?_)
 apply lp (a := r) (fun e : Int => ⟨78, [(2, .lpb 0 0), (3, .lpb 1 0), (6, lq (Aq k)), (38, ls 5 Bz b.runs), (39, li (b.runs.length : Int)), (40, li e)], [(0, bx (Ck c)), (1, bx (AY b))], 2⟩) a0
 . exact wf hA [(0, 0), (1, 1)] Z Z Z
 intro e s m
 unfold Mh at m
 refine rs AA <| rl Z <| AB <| cd Z m (fun a1 => ?_) (fun bk => ?_)
 .refine AE <| AC <| AB <| AH <| rs AA <| rn 1 Z <| bq a1 fun q y a2 => sx Z (Ac y Z Z Z <| rl Z <| AB <| jb (fun j : Bool => ⟨78, [(2, .lpb 0 0), (3, .lpb 1 0), (6, lq (Aq k)), (8, li e), (9, .lpb 2 0), (38, ls 5 Bz b.runs), (39, li (b.runs.length : Int)), (40, li e), (60, lb j)], [(0, bx (Ck c)), (1, bx (AY b)), (2, bx (Bz q))], 3⟩) a2 (fun j a3 => ?_) (fun j a7 => ?_))
  .refine rg AA <| rn 2 Z <| sx Z (Ab Z Z <| rn 2 Z <| gs 49 a3 Z Z Z (fun a4 => ?_) (fun a5 => ?_))
   .exact rl Z <| AL a4 (wf hA (gi 3 []) Z Z Z)
   exact rn 4 Z <| sx Z (Ab Z Z <| rn 1 Z <| bq a5 fun b4 z a6 => sx Z (Ac z Z Z Z <| rl Z <| AL a6 (wf hA (gi 3 []) Z Z Z)))
  refine cd Z a7 (fun a8 => ?_) (fun ba => ?_)
  .refine rs AA <| rl Z <| AF <| AG <| AN <| AG <| A1 a8 fun bp a9 => AN <| AG ?_
   cases a9
   exact er Z Le.rfl
  refine AE <| AC <| rs AA <| rn 2 Z <| sx Z (Ab Z Z <| rl Z <| AH ?_)
  apply lp (a := s) (fun o : Int => ⟨78, [(2, .lpb 0 0), (3, .lpb 1 0), (6, lq (Aq k)), (8, li e), (38, ls 5 Bz b.runs), (39, li (b.runs.length : Int)), (40, li e), (63, li (q.legs.length : Int)), (64, li o)], [(0, bx (Ck c)), (1, bx (AY b))], 2⟩) ba
  . exact wf hA [(0, 0), (1, 1)] Z Z Z
  intro o bw n
  unfold Mg at n
  refine rs AA <| rl Z <| AB <| cd Z n (fun bb => ?_) (fun bi => ?_)
  .refine AE <| AC <| AB <| AH <| rs AA <| rl Z <| rs AA <| rn 6 Z <| bq bb fun b5 aa bc => sx Z (AM (JP _ _ _ _ _ _ aa) (.inr Z) Z Z Z <| sx Z (Ab Z Z <| rl Z <| cd Z bc (fun be => ?_) (fun bh => ?_)))
   .refine rs AA <| rl Z <| AF <| AN <| AG <| A1 be fun br bf => AN <| AN <| AG <| A1 bf fun bs bg => AN <| AG ?_
    cases bg
    exact er Z Le.rfl
   exact AE <| Af <| AC <| rg AA <| rl Z <| Ar bh (wf hA [(0, 0), (1, 1)] Z Z Z)
  exact AV <| AW <| BI bi fun bt bj => Ap <| Af <| AC <| rg AA <| rl Z <| Ar bj (wf hA [(0, 0), (1, 1)] Z Z Z)
 refine AV <| AW <| BI bk fun bu bl => Ap <| AC <| rs AA <| rl Z <| AF ?_
 cases bl
 exact er Z Le.rfl
noncomputable def K9 (b : (List Int)) (c : (List Int)) (a : Int) : Option (Int ⊕ Bool) :=
 bif decide (a < (b.length : Int)) then (AX b a).bind fun d => (AX c a).bind fun e => bif (d != e) then some (.inr false) else some (.inl (AO (a + 1))) else some (.inr true)
noncomputable def KH (a : (List Int)) (b : (List Int)) : Option Bool :=
 bif ((a.length : Int) != (b.length : Int)) then some false else AT (K9 a b) 0
theorem S3 (b : (List Int)) (c : (List Int)) (r : Bool) (h : KH b c = some r) : Ax Tryz.prog 17 [.slice 1 (b.map Ad), .slice 1 (c.map Ad)] (· = .bool r) := by
 refine fn AA Tryz.func17 Z Z 26 Z [.tmp 4] Z [(0, .p (.slice 1 (b.map Ad))), (1, .p (.slice 1 (c.map Ad)))] Z Z fun A hA => ?_
 unfold KH at h
 refine rs AA <| rl Z <| AB <| rs AA <| rn 1 Z <| sx Z (Ab Z Z <| rn 1 Z <| sx Z (Ab Z Z <| rl Z <| cd Z h (fun s => ?_) (fun t => ?_)))
 .refine rs AA <| rl Z <| AF <| AG ?_
  cases s
  exact er Z Le.rfl
 refine AE <| AC <| AB <| rs AA <| rl Z <| AH ?_
 apply lp (a := r) (fun e : Int => ⟨26, [(0, ls 1 Ad b), (1, ls 1 Ad c), (5, li e)], [], 0⟩) t
 . exact wf hA [] Z Z Z
 intro e w d
 unfold K9 at d
 refine AB <| rs AA <| rn 2 Z <| sx Z (Ab Z Z <| rl Z <| cd Z d (fun i => ?_) (fun o => ?_))
 .refine AE <| AC <| AB <| AH <| AB ?_
  refine Bu AA mixed [0, 1, 2, 3, 4, 5, 6, 7, 8] 9 (by kernel_rfl) Z Z Z ?_
  refine As 2 Z <| bq i fun x f j => Au Z (Ai Z (Ac f Z Z Z <| As 3 Z <| bq j fun y g k => Au Z (Ai Z (Ac g Z Z Z <| BG Z <| AC <| cd Z k (fun l => ?_) (fun n => ?_)))))
  .refine rs AA <| rl Z <| AF <| AN <| AG <| A1 l fun u m => AN <| AG ?_
   cases m
   exact er Z Le.rfl
  exact AE <| Af <| AC <| rg AA <| rl Z <| Ar n (wf hA [] Z Z Z)
 refine AV <| AW <| BI o fun v q => Ap <| AC <| rs AA <| rl Z <| AF ?_
 cases q
 exact er Z Le.rfl
noncomputable def JU : Option Bool :=
 (NX).bind fun d => (F2 d).bind fun a => (H6 d).bind fun l => I3 l (((bif (!a.2) then some () else some () : Option (Unit))).bind fun (s : Unit) => some false) fun b => ((bif (!a.2) then some true else some false : Option (Bool))).bind fun (e : Bool) => bif e then some false else (Gb).bind fun m => (L3 b a.1.roads m 0 1).bind fun c => (((Gb).bind fun n => (L7 a.1 n).bind fun o => bif (o == 0) then (Gb).bind fun p => (CI b p 0 2).bind fun q => bif (q == 4) then (Gb).bind fun r => (G0 b r 0 2).bind fun g => bif (g == 4) then (Gb).bind fun h => (Dt b a.1.roads h 0 1).bind fun i => bif ((i.length : Int) == 1) then (KH c.at_ ([1] : (List Int))).bind fun j => bif j then bif ((c.legs.length : Int) == 2) then (AX c.legs 0).bind fun k => some (k.fin == 4) else some false else some false else some false else some false else some false else some false : Option (Bool))).bind fun (f : Bool) => some f
theorem VD (r : Bool) (h : JU = some r) : Ax Tryz.prog 9 [] (· = .bool r) := by
 refine fn AA Tryz.func9 Z Z 70 Z [.tmp 0] Z [] Z Z fun A hA => ?_
 unfold JU at h
 refine rs AA <| rl Z <| rs AA <| bq h fun bk m au => sx Z (AM (Wj _ m) (.inr Z) Z Z Z <| rl Z <| rs AA <| rn 1 Z <| bq au fun e q a3 => sx Z (AM (Pz _ _ q) (.inr Z) Z Z Z <| rl Z <| rs AA <| rn 1 Z <| bq a3 fun bb l a => sx Z (AM (SY _ _ l) (.inr Z) Z Z Z ?_)))
 revert a; rcases be : bb with _ | bc <;> intro a
 .replace a := Tq a
  refine rl Z <| AB <| jb (fun d : Unit => ⟨70, [(2, .lpb 0 0), (4, .p (.nilp)), (19, lb true)], [(0, bx (Ck e.1))], 1⟩) a (fun d ao => ?_) (fun d ar => ?_)
  .refine rg AA <| rn 3 Z <| gs 16 ao Z Z Z (fun ap => ?_) (fun aq => ?_)
   .exact rl Z <| AL ap (wf hA [(0, 1)] Z Z Z)
   exact rl Z <| AL aq (wf hA [(0, 1)] Z Z Z)
  refine Qy Z <| rs AA <| rl Z <| AF <| AG ?_
  cases ar
  exact er Z Le.rfl
 replace a := Tr a
 refine rl Z <| AB <| jb (fun b : Bool => ⟨70, [(2, .lpb 0 0), (4, lq (Aq bc)), (19, lb b)], [(0, bx (Ck e.1))], 1⟩) a (fun b av => ?_) (fun b ay => ?_)
 .refine rg AA <| rn 3 Z <| gs 16 av Z Z Z (fun aw => ?_) (fun ax => ?_)
  .exact rl Z <| AL aw (wf hA [(0, 1)] Z Z Z)
  exact rl Z <| AL ax (wf hA [(0, 1)] Z Z Z)
 refine cd Z ay (fun az => ?_) (fun a0 => ?_)
 .refine rs AA <| rl Z <| AF <| AG ?_
  cases az
  exact er Z Le.rfl
 refine AE <| AC <| AB ?_
 refine Bu AA mixed [0, 1, 2, 3, 4, 5, 6] 7 (by kernel_rfl) Z Z Z ?_
 refine As 3 Z <| bq a0 fun bl n a1 => Au Z (A4 (Jw _ n) (.inr Z) Z Z Z <| bq a1 fun bm o a2 => Au Z (A4 (U8 _ _ _ _ _ _ o) (.inr Z) Z Z Z <| BG Z <| AC <| jb (fun c : Bool => ⟨70, [(0, lb c)], [], 0⟩) a2 (fun c a4 => ?_) (fun c an => ?_)))
 .refine Bu AA mixed [0, 1, 2, 3, 4, 5, 6, 7, 8, 9, 10, 11, 12, 13, 14, 15, 16, 17, 18, 19, 20, 21, 22, 23, 24, 25, 26, 27, 28, 29, 30, 31, 32, 33, 34, 35, 36, 37, 38, 39, 40, 41, 42, 43, 44, 45] 46 (by kernel_rfl) Z Z Z ?_
  refine As 1 Z <| bq a4 fun bn s a5 => Au Z (A4 (Jw _ s) (.inr Z) Z Z Z <| bq a5 fun bo t a6 => Au Z (A4 (VC _ _ _ t) (.inl Z) Z Z Z <| As 2 Z <| DZ 29 a6 Z Z Z (fun a7 => ?_) (fun am => ?_)))
  .refine As 1 Z <| bq a7 fun bp u a8 => Au Z (A4 (Jw _ u) (.inr Z) Z Z Z <| bq a8 fun br v a9 => Au Z (A4 (D9 _ _ _ _ _ v) (.inl Z) Z Z Z <| As 3 Z <| DZ 35 a9 Z Z Z (fun ba => ?_) (fun al => ?_)))
   .refine As 1 Z <| bq ba fun bs w x => Au Z (A4 (Jw _ w) (.inr Z) Z Z Z <| bq x fun bf f y => Au Z (A4 (RH _ _ _ _ _ f) (.inl Z) Z Z Z <| As 3 Z <| DZ 41 y Z Z Z (fun z => ?_) (fun ak => ?_)))
    .refine As 3 Z <| bq z fun bg g aa => Au Z (A4 (Jw _ g) (.inr Z) Z Z Z <| bq aa fun bh i ab => Au Z (A4 (JP _ _ _ _ _ _ i) (.inr Z) Z Z Z <| Au Z (Jm Z Z <| As 3 Z <| DZ 50 ab Z Z Z (fun ac => ?_) (fun aj => ?_))))
     .refine As 3 Z <| bq ac fun bi j ad => Au Z (A4 (S3 _ _ _ j) (.inl Z) Z Z (Dg.eq (.cons (.one (.p _)) (.cons (.one (.own (enc := Ad) ([1] : List Int) Z Z)) .nil))) <| As 2 Z <| DZ 56 ad Z Z Z (fun ae => ?_) (fun ai => ?_))
      .refine As 2 Z <| Au Z (Jm Z Z <| As 3 Z <| DZ 62 ae Z Z Z (fun af => ?_) (fun ah => ?_))
       .exact As 2 Z <| bq af fun bj k ag => Au Z (Ai Z (Ac k Z Z Z <| BG Z <| AL ag (wf hA [] Z Z Z)))
       exact BG Z <| AL ah (wf hA [] Z Z Z)
      exact BG Z <| AL ai (wf hA [] Z Z Z)
     exact BG Z <| AL aj (wf hA [] Z Z Z)
    exact BG Z <| AL ak (wf hA [] Z Z Z)
   exact BG Z <| AL al (wf hA [] Z Z Z)
  exact BG Z <| AL am (wf hA [] Z Z Z)
 refine AF ?_
 have hr := Option.some.inj an; subst hr
 exact er Z Le.rfl
end Go.E
/- Plain functions, and walks in step with them. Written by a program (gen.py). No condition. -/
set_option maxRecDepth 100000
set_option maxHeartbeats 1000000
namespace Go.E
open Go Go.RowKit Go.Proofs
noncomputable def Gc (b : Ak) (a : Int) : Option (Int ⊕ Bool) :=
 bif decide (a < (b.stock.length : Int)) then (AX b.stock a).bind fun c => bif decide (100 < (c.name.size : Int)) then some (.inr false) else some (.inl (AO (a + 1))) else some (.inr true)
noncomputable def IV (b : Ak) (a : Int) : Option (Int ⊕ Bool) :=
 bif decide (a < (b.runs.length : Int)) then (AX b.runs a).bind fun c => ((bif decide (20 < (c.legs.length : Int)) then some true else some (decide (100 < (c.name.size : Int))) : Option (Bool))).bind fun (d : Bool) => bif d then some (.inr false) else some (.inl (AO (a + 1))) else (AT (Gc b) 0).map .inr
noncomputable def Jx (a : Ak) : Option Bool :=
 ((bif decide (10 < (a.stock.length : Int)) then some true else some (decide (12 < (a.runs.length : Int))) : Option (Bool))).bind fun (b : Bool) => bif b then some false else AT (IV a) 0
theorem Xs (b : Ak) (r : Bool) (h : Jx b = some r) : Ax Tryz.prog 23 [.agg (AY b)] (· = .bool r) := by
 refine fn AA Tryz.func23 Z Z 47 Z [.tmp 2] Z [(0, .p (.agg (AY b)))] Z Z fun A hA => ?_
 unfold Jx at h
 refine rs AA <| rl Z <| AB <| jb (fun d : Bool => ⟨47, [(1, .lpb 0 0), (16, lb d)], [(0, bx (AY b))], 1⟩) h (fun d m => ?_) (fun d q => ?_)
 .refine rg AA <| rn 2 Z <| sx Z (Ab Z Z <| rn 2 Z <| gs 11 m Z Z Z (fun n => ?_) (fun o => ?_))
  .exact rl Z <| AL n (wf hA [(0, 0)] Z Z Z)
  exact rn 2 Z <| sx Z (Ab Z Z <| rl Z <| AL o (wf hA [(0, 0)] Z Z Z))
 refine cd Z q (fun s => ?_) (fun t => ?_)
 .refine rs AA <| rl Z <| AF <| AG ?_
  cases s
  exact er Z Le.rfl
 refine AE <| AC <| AB <| rs AA <| rn 2 Z <| sx Z (Ab Z Z <| rl Z <| AH ?_)
 apply lp (a := r) (fun c : Int => ⟨47, [(1, .lpb 0 0), (18, ls 5 Bz b.runs), (19, li (b.runs.length : Int)), (20, li c)], [(0, bx (AY b))], 1⟩) t
 . exact wf hA [(0, 0)] Z Z Z
 intro c ap f
 unfold IV at f
 refine rs AA <| rl Z <| AB <| cd Z f (fun u => ?_) (fun ad => ?_)
 .refine AE <| AC <| AB <| AH <| rs AA <| bq u fun ar k v => sx Z (Ac k Z Z Z <| rl Z <| jb (fun e : Bool => ⟨47, [(1, .lpb 0 0), (18, ls 5 Bz b.runs), (19, li (b.runs.length : Int)), (20, li c), (33, lb e)], [(0, bx (AY b))], 1⟩) v (fun e w => ?_) (fun e z => ?_))
  .refine rg AA <| rn 2 Z <| sx Z (Ab Z Z <| rn 2 Z <| gs 28 w Z Z Z (fun x => ?_) (fun y => ?_))
   .exact rl Z <| AL x (wf hA [(0, 0)] Z Z Z)
   exact rl Z <| AL y (wf hA [(0, 0)] Z Z Z)
  refine cd Z z (fun aa => ?_) (fun ac => ?_)
  .refine rs AA <| rl Z <| AF <| AN <| AG <| A1 aa fun am ab => AN <| AG ?_
   cases ab
   exact er Z Le.rfl
  exact AE <| Af <| AC <| rg AA <| rl Z <| Ar ac (wf hA [(0, 0)] Z Z Z)
 refine AV <| AW <| CO ad fun j ae => Ap <| AC <| AB <| rs AA <| rn 2 Z <| sx Z (Ab Z Z <| rl Z <| AH ?_)
 apply lp (a := j) (fun i : Int => ⟨47, [(36, ls 5 BL b.stock), (37, li (b.stock.length : Int)), (38, li i)], [], 0⟩) ae
 . exact wf hA [] Z Z Z
 intro i aq g
 unfold Gc at g
 refine rs AA <| rl Z <| AB <| cd Z g (fun af => ?_) (fun ak => ?_)
 .refine AE <| AC <| AB <| AH <| rs AA <| bq af fun au l ag => sx Z (Ac l Z Z Z <| rl Z <| rs AA <| rl Z <| cd Z ag (fun ah => ?_) (fun aj => ?_))
  .refine rs AA <| rl Z <| AF <| AN <| AG <| A1 ah fun an ai => AN <| AG ?_
   cases ai
   exact er Z Le.rfl
  exact AE <| Af <| AC <| rg AA <| rl Z <| Ar aj (wf hA [] Z Z Z)
 refine AV <| AW <| BI ak fun ao al => Ap <| AC <| rs AA <| rl Z <| AF ?_
 cases al
 exact er Z Le.rfl
noncomputable def DS (a : Int) (c : Int) (d : Int) : Option Bool :=
 ((bif decide (c <= a) then some (decide (a <= d)) else some false : Option (Bool))).bind fun (b : Bool) => some b
theorem IW (b : Int) (c : Int) (d : Int) (r : Bool) (h : DS b c d = some r) : Ax Tryz.prog 62 [.int .i64 b, .int .i64 c, .int .i64 d] (· = .bool r) := by
 refine fn AA Tryz.func62 Z Z 15 Z [.tmp 6] Z [(0, .p (.int .i64 b)), (1, .p (.int .i64 c)), (2, .p (.int .i64 d))] Z Z fun A hA => ?_
 unfold DS at h
 refine rs AA <| rl Z <| jb (fun a : Bool => ⟨15, [(6, lb a)], [], 0⟩) h (fun a e => ?_) (fun a i => ?_)
 .refine rg AA <| rn 4 Z <| gs 10 e Z Z Z (fun f => ?_) (fun g => ?_)
  .exact rl Z <| AL f (wf hA [] Z Z Z)
  exact rl Z <| AL g (wf hA [] Z Z Z)
 refine AF ?_
 have hr := Option.some.inj i; subst hr
 exact er Z Le.rfl
noncomputable def Jy (a : BK) : Option Bool :=
 (((Ci a.name).bind fun c => bif c then (DS a.len 1 4000).bind fun d => bif d then (DS a.top 1 60).bind fun e => bif e then (DS a.acc 1 10).bind fun f => bif f then (DS a.brake 1 10).bind fun g => some g else some false else some false else some false else some false : Option (Bool))).bind fun (b : Bool) => some b
theorem Xt (b : BK) (r : Bool) (h : Jy b = some r) : Ax Tryz.prog 31 [.agg (BL b)] (· = .bool r) := by
 refine fn AA Tryz.func31 Z Z 26 Z [.tmp 2] Z [(0, .p (.agg (BL b)))] Z Z fun A hA => ?_
 unfold Jy at h
 refine rs AA <| rl Z <| jb (fun a : Bool => ⟨26, [(2, lb a)], [], 0⟩) h (fun a i => ?_) (fun a y => ?_)
 .refine rg AA <| rn 2 Z <| bq i fun z c j => sx Z (AM (Jq _ _ c) (.inl Z) Z Z Z <| rn 1 Z <| gs 6 j Z Z Z (fun k => ?_) (fun x => ?_))
  .refine rn 2 Z <| bq k fun aa d l => sx Z (AM (IW _ _ _ _ d) (.inl Z) Z Z Z <| rn 2 Z <| gs 11 l Z Z Z (fun m => ?_) (fun w => ?_))
   .refine rn 2 Z <| bq m fun ab e n => sx Z (AM (IW _ _ _ _ e) (.inl Z) Z Z Z <| rn 2 Z <| gs 16 n Z Z Z (fun o => ?_) (fun v => ?_))
    .refine rn 2 Z <| bq o fun ac f q => sx Z (AM (IW _ _ _ _ f) (.inl Z) Z Z Z <| rn 2 Z <| gs 21 q Z Z Z (fun s => ?_) (fun u => ?_))
     .exact rn 2 Z <| bq s fun ad g t => sx Z (AM (IW _ _ _ _ g) (.inl Z) Z Z Z <| rl Z <| AL t (wf hA [] Z Z Z))
     exact rl Z <| AL u (wf hA [] Z Z Z)
    exact rl Z <| AL v (wf hA [] Z Z Z)
   exact rl Z <| AL w (wf hA [] Z Z Z)
  exact rl Z <| AL x (wf hA [] Z Z Z)
 refine AF ?_
 have hr := Option.some.inj y; subst hr
 exact er Z Le.rfl
noncomputable def Hr (b : (List BK)) (c : ByteArray) (a : Int) : Option (Int ⊕ Int) :=
 bif decide (a < (b.length : Int)) then (AX b a).bind fun d => bif (d.name.toList == c.toList) then some (.inr a) else some (.inl (AO (a + 1))) else some (.inr (-1))
noncomputable def IX (a : (List BK)) (b : ByteArray) : Option Int :=
 AT (Hr a b) 0
theorem Wn (b : (List BK)) (c : ByteArray) (r : Int) (h : IX b c = some r) : Ax Tryz.prog 143 [.slice 5 (b.map BL), .str c] (· = .int .i64 r) := by
 refine fn AA Tryz.func143 Z Z 20 Z [.tmp 4] Z [(0, .p (.slice 5 (b.map BL))), (1, .p (.str c))] Z Z fun A hA => ?_
 unfold IX at h
 refine rs AA <| rl Z <| AB <| rs AA <| rn 1 Z <| sx Z (Ab Z Z <| rl Z <| AH ?_)
 apply lp (a := r) (fun e : Int => ⟨20, [(1, .p (.str c)), (7, ls 5 BL b), (8, li (b.length : Int)), (9, li e)], [], 0⟩) h
 . exact wf hA [] Z Z Z
 intro e s d
 unfold Hr at d
 refine rs AA <| rl Z <| AB <| cd Z d (fun n => ?_) (fun l => ?_)
 .refine AE <| AC <| AB <| AH <| rs AA <| rn 1 Z <| bq n fun t f g => sx Z (Ac f Z Z Z <| rl Z <| rs AA <| rl Z <| cd Z g (fun i => ?_) (fun k => ?_))
  .refine rs AA <| rl Z <| AF <| AN <| AG <| A1 i fun o j => AN <| AG ?_
   have hr := Option.some.inj j; subst hr
   exact er Z Le.rfl
  exact AE <| Af <| AC <| rg AA <| rl Z <| Ar k (wf hA [] Z Z Z)
 refine AV <| AW <| BI l fun q m => Ap <| AC <| rs AA <| rl Z <| AF ?_
 cases m
 exact er Z Le.rfl
noncomputable def Dy (b : (List BK)) (a : Int) : Option (Int ⊕ Int) :=
 bif decide (a < (b.length : Int)) then (AX b a).bind fun c => (IX b c.name).bind fun d => bif (d != a) then some (.inr 4) else some (.inl (AO (a + 1))) else some (.inr 0)
noncomputable def G1 (b : (List BK)) (a : Int) : Option (Int ⊕ Int) :=
 bif decide (a < (b.length : Int)) then (AX b a).bind fun c => (Jy c).bind fun d => bif (!d) then some (.inr 1) else some (.inl (AO (a + 1))) else (AT (Dy b) 0).map .inr
noncomputable def Hc (a : (List BK)) : Option Int :=
 bif decide (4 < (a.length : Int)) then some 3 else AT (G1 a) 0
theorem VE (b : (List BK)) (r : Int) (h : Hc b = some r) : Ax Tryz.prog 102 [.slice 5 (b.map BL)] (· = .int .i64 r) := by
 refine fn AA Tryz.func102 Z Z 34 Z [.tmp 2] Z [(0, .p (.slice 5 (b.map BL)))] Z Z fun A hA => ?_
 unfold Hc at h
 refine rs AA <| rl Z <| AB <| rs AA <| rn 1 Z <| sx Z (Ab Z Z <| rl Z <| cd Z h (fun x => ?_) (fun af => ?_))
 .refine rs AA <| rl Z <| AF <| AG ?_
  cases x
  exact er Z Le.rfl
 refine AE <| AC <| AB <| rs AA <| rn 1 Z <| sx Z (Ab Z Z <| rl Z <| AH ?_)
 apply lp (a := r) (fun f : Int => ⟨34, [(0, ls 5 BL b), (10, ls 5 BL b), (11, li (b.length : Int)), (12, li f)], [], 0⟩) af
 . exact wf hA [] Z Z Z
 intro f aj c
 unfold G1 at c
 refine rs AA <| rl Z <| AB <| cd Z c (fun m => ?_) (fun u => ?_)
 .refine AE <| AC <| AB <| AH <| rs AA <| bq m fun al i n => sx Z (Ac i Z Z Z <| rl Z <| rs AA <| rn 1 Z <| bq n fun am j o => sx Z (AM (Xt _ _ j) (.inl Z) Z Z Z <| rl Z <| cd Z o (fun q => ?_) (fun t => ?_)))
  .refine rs AA <| rl Z <| AF <| AN <| AG <| A1 q fun ag s => AN <| AG ?_
   cases s
   exact er Z Le.rfl
  exact AE <| Af <| AC <| rg AA <| rl Z <| Ar t (wf hA [] Z Z Z)
 refine AV <| AW <| CO u fun g v => Ap <| AC <| AB <| rs AA <| rn 1 Z <| sx Z (Ab Z Z <| rl Z <| AH ?_)
 apply lp (a := g) (fun e : Int => ⟨34, [(0, ls 5 BL b), (20, ls 5 BL b), (21, li (b.length : Int)), (22, li e)], [], 0⟩) v
 . exact wf hA [] Z Z Z
 intro e ak d
 unfold Dy at d
 refine rs AA <| rl Z <| AB <| cd Z d (fun w => ?_) (fun ad => ?_)
 .refine AE <| AC <| AB <| AH <| rs AA <| rn 1 Z <| bq w fun an k y => sx Z (Ac k Z Z Z <| rl Z <| rs AA <| rn 3 Z <| bq y fun ao l z => sx Z (AM (Wn _ _ _ l) (.inl Z) Z Z Z <| rl Z <| cd Z z (fun aa => ?_) (fun ac => ?_)))
  .refine rs AA <| rl Z <| AF <| AN <| AG <| A1 aa fun ah ab => AN <| AG ?_
   cases ab
   exact er Z Le.rfl
  exact AE <| Af <| AC <| rg AA <| rl Z <| Ar ac (wf hA [] Z Z Z)
 refine AV <| AW <| BI ad fun ai ae => Ap <| AC <| rs AA <| rl Z <| AF ?_
 cases ae
 exact er Z Le.rfl
noncomputable def G2 (b : AK) (c : (List BK)) (a : Int) : Option (Int ⊕ Int) :=
 bif decide (a < (c.length : Int)) then (AX c a).bind fun d => ((bif decide (b.top < d.top) then some true else some (decide (d.brake < b.brake)) : Option (Bool))).bind fun (e : Bool) => bif e then some (.inr 9) else some (.inl (AO (a + 1))) else some (.inr 0)
noncomputable def Hd (c : AK) (a : (List BK)) : Option Int :=
 (Hc a).bind fun b => bif (b != 0) then some b else AT (G2 c a) 0
theorem VF (c : AK) (b : (List BK)) (r : Int) (h : Hd c b = some r) : Ax Tryz.prog 66 [.agg (AS c), .slice 5 (b.map BL)] (· = .int .i64 r) := by
 refine fn AA Tryz.func66 Z Z 32 Z [.tmp 4] Z [(0, .p (.agg (AS c))), (1, .p (.slice 5 (b.map BL)))] Z Z fun A hA => ?_
 unfold Hd at h
 refine rs AA <| rl Z <| AB <| rs AA <| rn 1 Z <| bq h fun ad i j => sx Z (AM (VE _ _ i) (.inl Z) Z Z Z <| rl Z <| rs AA <| rl Z <| cd Z j (fun k => ?_) (fun l => ?_))
 .refine rs AA <| rl Z <| AF <| AG ?_
  have hr := Option.some.inj k; subst hr
  exact er Z Le.rfl
 refine AE <| AC <| AB <| rs AA <| rn 1 Z <| sx Z (Ab Z Z <| rl Z <| AH ?_)
 apply lp (a := r) (fun d : Int => ⟨32, [(2, .lpb 0 0), (13, ls 5 BL b), (14, li (b.length : Int)), (15, li d)], [(0, bx (AS c))], 1⟩) l
 . exact wf hA [(0, 0)] Z Z Z
 intro d ab f
 unfold G2 at f
 refine rs AA <| rl Z <| AB <| cd Z f (fun m => ?_) (fun x => ?_)
 .refine AE <| AC <| AB <| AH <| rs AA <| bq m fun ac g n => sx Z (Ac g Z Z Z <| rl Z <| jb (fun e : Bool => ⟨32, [(2, .lpb 0 0), (13, ls 5 BL b), (14, li (b.length : Int)), (15, li d), (30, lb e)], [(0, bx (AS c))], 1⟩) n (fun e o => ?_) (fun e t => ?_))
  .refine rg AA <| rn 6 Z <| gs 24 o Z Z Z (fun q => ?_) (fun s => ?_)
   .exact rl Z <| AL q (wf hA [(0, 0)] Z Z Z)
   exact rl Z <| AL s (wf hA [(0, 0)] Z Z Z)
  refine cd Z t (fun u => ?_) (fun w => ?_)
  .refine rs AA <| rl Z <| AF <| AN <| AG <| A1 u fun z v => AN <| AG ?_
   cases v
   exact er Z Le.rfl
  exact AE <| Af <| AC <| rg AA <| rl Z <| Ar w (wf hA [(0, 0)] Z Z Z)
 refine AV <| AW <| BI x fun aa y => Ap <| AC <| rs AA <| rl Z <| AF ?_
 cases y
 exact er Z Le.rfl
noncomputable def CZ (a : Int) (c : Int) (d : Int) : Option Bool :=
 ((bif decide (c <= a) then some (decide (a <= d)) else some false : Option (Bool))).bind fun (b : Bool) => some b
theorem E1 (b : Int) (c : Int) (d : Int) (r : Bool) (h : CZ b c d = some r) : Ax Tryz.prog 67 [.int .i64 b, .int .i64 c, .int .i64 d] (· = .bool r) := by
 refine fn AA Tryz.func67 Z Z 15 Z [.tmp 6] Z [(0, .p (.int .i64 b)), (1, .p (.int .i64 c)), (2, .p (.int .i64 d))] Z Z fun A hA => ?_
 unfold CZ at h
 refine rs AA <| rl Z <| jb (fun a : Bool => ⟨15, [(6, lb a)], [], 0⟩) h (fun a e => ?_) (fun a i => ?_)
 .refine rg AA <| rn 4 Z <| gs 10 e Z Z Z (fun f => ?_) (fun g => ?_)
  .exact rl Z <| AL f (wf hA [] Z Z Z)
  exact rl Z <| AL g (wf hA [] Z Z Z)
 refine AF ?_
 have hr := Option.some.inj i; subst hr
 exact er Z Le.rfl
noncomputable def Gd (a : AK) (b : Int) : Option Int :=
 (Du a b).bind fun c => some c
theorem Ox (a : AK) (b : Int) (r : Int) (h : Gd a b = some r) : Ax Tryz.prog 30 [.agg (AS a), .int .i64 b] (· = .int .i64 r) := by
 refine fn AA Tryz.func30 Z Z 8 Z [.tmp 4] Z [(0, .p (.agg (AS a))), (1, .p (.int .i64 b))] Z Z fun A hA => ?_
 unfold Gd at h
 refine rs AA <| rl Z <| rs AA <| rn 2 Z <| bq h fun e c d => sx Z (AM (H7 _ _ _ c) (.inl Z) Z Z Z <| rl Z <| AF ?_)
 have hr := Option.some.inj d; subst hr
 exact er Z Le.rfl
noncomputable def Fo (c : AK) (d : (List Ch)) (b : Int × Int) : Option ((Int × Int) ⊕ Bool) :=
 bif decide (b.2 < (d.length : Int)) then EH (((AX d b.2).bind fun a => (CZ a.at_ b.1 2000).bind fun f => bif (!f) then some (.inr (.inr false)) else bif (a.fin == 1) then (CZ a.to 0 (AO ((c.signals.length : Int) - 1))).bind fun g => bif (!g) then some (.inr (.inr false)) else some (.inl a.at_) else bif (a.fin == 2) then (Gd c a.to).bind fun h => bif (h != 4) then some (.inr (.inr false)) else some (.inl a.at_) else bif (a.fin == 3) then (Gd c a.to).bind fun i => bif (i != 1) then some (.inr (.inr false)) else some (.inl a.at_) else some (.inr (.inr false)) : Option (Int ⊕ ((Int × Int) ⊕ Bool)))) fun (e : Int) => some (.inl (e, AO (b.2 + 1))) else some (.inr true)
noncomputable def IY (a : AK) (b : (List Ch)) : Option Bool :=
 AT (Fo a b) (0, 0)
theorem Wo (c : AK) (b : (List Ch)) (r : Bool) (h : IY c b = some r) : Ax Tryz.prog 68 [.agg (AS c), .slice 4 (b.map EI)] (· = .bool r) := by
 refine fn AA Tryz.func68 Z Z 48 Z [.tmp 4] Z [(0, .p (.agg (AS c))), (1, .p (.slice 4 (b.map EI)))] Z Z fun A hA => ?_
 unfold IY at h
 refine rs AA <| rl Z <| rs AA <| rl Z <| AB <| rs AA <| rn 1 Z <| sx Z (Ab Z Z <| rl Z <| AH ?_)
 apply lp (a := r) (fun d : (Int × Int) => ⟨48, [(2, .lpb 0 0), (5, li d.1), (8, ls 4 EI b), (9, li (b.length : Int)), (10, li d.2)], [(0, bx (AS c))], 1⟩) h
 . exact wf hA [(0, 0)] Z Z Z
 intro d g e
 unfold Fo at e
 refine rs AA <| rl Z <| AB <| cd Z e (fun n => ?_) (fun ax => ?_)
 .refine AE <| AC ?_
  apply jn (a := g) (fun f : Int => ⟨48, [(2, .lpb 0 0), (5, li f), (8, ls 4 EI b), (9, li (b.length : Int)), (10, li d.2)], [(0, bx (AS c))], 1⟩) n
  .intro ba o
   refine AH <| rs AA <| bq o fun bb i q => sx Z (Ac i Z Z Z <| rl Z <| AB <| rs AA <| rn 3 Z <| bq q fun bc j s => sx Z (AM (E1 _ _ _ _ j) (.inl Z) Z Z Z <| rl Z <| cd Z s (fun t => ?_) (fun w => ?_)))
   .refine rs AA <| rl Z <| AF <| AG <| AN <| A1 t fun az u => A1 u fun a0 v => AN <| AG ?_
    cases v
    exact er Z Le.rfl
   refine AE <| AC <| rs AA <| rl Z <| rs AA <| rl Z <| AH <| rs AA <| rl Z <| cd Z w (fun x => ?_) (fun ad => ?_)
   .refine rs AA <| rn 4 Z <| sx Z (Ab Z Z <| rn 1 Z <| bq x fun be k y => sx Z (AM (E1 _ _ _ _ k) (.inl Z) Z Z Z <| rl Z <| cd Z y (fun z => ?_) (fun ac => ?_)))
    .refine rs AA <| rl Z <| AF <| AN <| AN <| A1 z fun a1 aa => A1 aa fun a2 ab => AN <| AG ?_
     cases ab
     exact er Z Le.rfl
    exact AE <| Af <| Af <| Ar ac (wf hA [(0, 0)] Z Z Z)
   refine rs AA <| rl Z <| cd Z ad (fun ae => ?_) (fun ak => ?_)
   .refine rs AA <| rn 3 Z <| bq ae fun bf l af => sx Z (AM (Ox _ _ _ l) (.inl Z) Z Z Z <| rl Z <| cd Z af (fun ag => ?_) (fun aj => ?_))
    .refine rs AA <| rl Z <| AF <| AN <| AN <| A1 ag fun a3 ah => A1 ah fun a4 ai => AN <| AG ?_
     cases ai
     exact er Z Le.rfl
    exact AE <| Af <| Af <| Ar aj (wf hA [(0, 0)] Z Z Z)
   refine rs AA <| rl Z <| cd Z ak (fun al => ?_) (fun ar => ?_)
   .refine rs AA <| rn 3 Z <| bq al fun bg m am => sx Z (AM (Ox _ _ _ m) (.inl Z) Z Z Z <| rl Z <| cd Z am (fun an => ?_) (fun aq => ?_))
    .refine rs AA <| rl Z <| AF <| AN <| AN <| A1 an fun a5 ao => A1 ao fun a6 ap => AN <| AG ?_
     cases ap
     exact er Z Le.rfl
    exact AE <| Af <| Af <| Ar aq (wf hA [(0, 0)] Z Z Z)
   refine rs AA <| rl Z <| AF <| AN <| AN <| A1 ar fun a7 au => A1 au fun a8 av => AN <| AG ?_
   cases av
   exact er Z Le.rfl
  intro f aw
  exact rg AA <| rl Z <| Ar aw (wf hA [(0, 0)] Z Z Z)
 refine AV <| AW <| BI ax fun a9 ay => Ap <| AC <| rs AA <| rl Z <| AF ?_
 cases ay
 exact er Z Le.rfl
noncomputable def G3 (c : Int) (d : DG) (b : (List DG)) (a : Int) : Option (Int ⊕ (Int ⊕ Int)) :=
 bif decide (a < (b.length : Int)) then (AX b a).bind fun e => bif (d.name.toList == e.name.toList) then some (.inr (.inr 4)) else some (.inl (AO (a + 1))) else some (.inr (.inl (AO (c + 1))))
noncomputable def Dz (b : Ak) (a : Int) : Option (Int ⊕ Int) :=
 bif decide (a < (b.runs.length : Int)) then (AX b.runs a).bind fun c => (KN b.runs 0 a).bind fun d => AT (G3 a c d) 0 else some (.inr 0)
noncomputable def G4 (d : AK) (b : Ak) (c : Int) : Option (Int ⊕ Int) :=
 bif decide (c < (b.runs.length : Int)) then (AX b.runs c).bind fun a => (((Ci a.name).bind fun f => bif (!f) then some true else (CZ a.stock 0 (AO ((b.stock.length : Int) - 1))).bind fun g => bif (!g) then some true else (CZ a.frm 0 (AO ((d.signals.length : Int) - 1))).bind fun h => bif (!h) then some true else (CZ a.left 0 4000).bind fun i => bif (!i) then some true else (IY d a.legs).bind fun j => some (!j) : Option (Bool))).bind fun (e : Bool) => bif e then some (.inr 1) else some (.inl (AO (c + 1))) else (AT (Dz b) 0).map .inr
noncomputable def G5 (c : AK) (a : Ak) (b : Int) : Option (Int ⊕ Int) :=
 bif decide (b < (a.runs.length : Int)) then (AX a.runs b).bind fun e => bif decide (12 < (e.legs.length : Int)) then some (.inr 3) else some (.inl (AO (b + 1))) else ((Hd c a.stock).bind fun d => bif (d != 0) then some d else (CZ a.begin 0 86399).bind fun f => bif (!f) then some 1 else AT (G4 c a) 0).map .inr
noncomputable def Hf (b : AK) (a : Ak) : Option Int :=
 bif decide (8 < (a.runs.length : Int)) then some 3 else AT (G5 b a) 0
theorem VG (c : AK) (b : Ak) (r : Int) (h : Hf c b = some r) : Ax Tryz.prog 36 [.agg (AS c), .agg (AY b)] (· = .int .i64 r) := by
 refine fn AA Tryz.func36 Z Z 110 Z [.tmp 4] Z [(0, .p (.agg (AS c))), (1, .p (.agg (AY b)))] Z Z fun A hA => ?_
 unfold Hf at h
 refine rs AA <| rl Z <| AB <| rs AA <| rn 2 Z <| sx Z (Ab Z Z <| rl Z <| cd Z h (fun a6 => ?_) (fun a7 => ?_))
 .refine rs AA <| rl Z <| AF <| AG ?_
  cases a6
  exact er Z Le.rfl
 refine AE <| AC <| AB <| rs AA <| rn 2 Z <| sx Z (Ab Z Z <| rl Z <| AH ?_)
 apply lp (a := r) (fun m : Int => ⟨110, [(2, .lpb 0 0), (3, .lpb 1 0), (19, ls 5 Bz b.runs), (20, li (b.runs.length : Int)), (21, li m)], [(0, bx (AS c)), (1, bx (AY b))], 2⟩) a7
 . exact wf hA [(0, 0), (1, 1)] Z Z Z
 intro m b8 k
 unfold G5 at k
 refine rs AA <| rl Z <| AB <| cd Z k (fun bw => ?_) (fun aj => ?_)
 .refine AE <| AC <| AB <| AH <| rs AA <| bq bw fun b9 t af => sx Z (Ac t Z Z Z <| rl Z <| rs AA <| rn 2 Z <| sx Z (Ab Z Z <| rl Z <| cd Z af (fun ag => ?_) (fun ai => ?_)))
  .refine rs AA <| rl Z <| AF <| AN <| AG <| A1 ag fun b0 ah => AN <| AG ?_
   cases ah
   exact er Z Le.rfl
  exact AE <| Af <| AC <| rg AA <| rl Z <| Ar ai (wf hA [(0, 0), (1, 1)] Z Z Z)
 refine AV <| AW <| CO aj fun o ak => Ap <| AC <| AB <| rs AA <| rn 3 Z <| bq ak fun ca u al => sx Z (AM (VF _ _ _ u) (.inl Z) Z Z Z <| rl Z <| rs AA <| rl Z <| cd Z al (fun am => ?_) (fun an => ?_))
 .refine rs AA <| rl Z <| AF <| AG ?_
  have hr := Option.some.inj am; subst hr
  exact er Z Le.rfl
 refine AE <| AC <| AB <| rs AA <| rn 2 Z <| bq an fun cb v ao => sx Z (AM (E1 _ _ _ _ v) (.inl Z) Z Z Z <| rl Z <| cd Z ao (fun ap => ?_) (fun ar => ?_))
 .refine rs AA <| rl Z <| AF <| AG ?_
  cases ap
  exact er Z Le.rfl
 refine AE <| AC <| AB <| rs AA <| rn 2 Z <| sx Z (Ab Z Z <| rl Z <| AH ?_)
 apply lp (a := o) (fun e : Int => ⟨110, [(2, .lpb 0 0), (3, .lpb 1 0), (42, ls 5 Bz b.runs), (43, li (b.runs.length : Int)), (44, li e)], [(0, bx (AS c)), (1, bx (AY b))], 2⟩) ar
 . exact wf hA [(0, 0), (1, 1)] Z Z Z
 intro e b7 j
 unfold G4 at j
 refine rs AA <| rl Z <| AB <| cd Z j (fun a8 => ?_) (fun bu => ?_)
 .refine AE <| AC <| AB <| AH <| rs AA <| bq a8 fun ce z a9 => sx Z (Ac z Z Z Z <| rl Z <| jb (fun f : Bool => ⟨110, [(2, .lpb 0 0), (3, .lpb 1 0), (42, ls 5 Bz b.runs), (43, li (b.runs.length : Int)), (44, li e), (84, lb f)], [(0, bx (AS c)), (1, bx (AY b))], 2⟩) a9 (fun f ba => ?_) (fun f bp => ?_))
  .refine rg AA <| rn 2 Z <| bq ba fun cf aa bb => sx Z (AM (Jq _ _ aa) (.inl Z) Z Z Z <| rn 2 Z <| gs 52 bb Z Z Z (fun bc => ?_) (fun be => ?_))
   .exact rl Z <| AL bc (wf hA [(0, 0), (1, 1)] Z Z Z)
   refine rn 4 Z <| sx Z (Ab Z Z <| rn 1 Z <| bq be fun cg ab bf => sx Z (AM (E1 _ _ _ _ ab) (.inl Z) Z Z Z <| rn 3 Z <| gs 62 bf Z Z Z (fun bg => ?_) (fun bh => ?_)))
   .exact rl Z <| AL bg (wf hA [(0, 0), (1, 1)] Z Z Z)
   refine rn 4 Z <| sx Z (Ab Z Z <| rn 1 Z <| bq bh fun ch ac bi => sx Z (AM (E1 _ _ _ _ ac) (.inl Z) Z Z Z <| rn 3 Z <| gs 72 bi Z Z Z (fun bj => ?_) (fun bk => ?_)))
   .exact rl Z <| AL bj (wf hA [(0, 0), (1, 1)] Z Z Z)
   refine rn 2 Z <| bq bk fun ci ad bl => sx Z (AM (E1 _ _ _ _ ad) (.inl Z) Z Z Z <| rn 3 Z <| gs 78 bl Z Z Z (fun bm => ?_) (fun bn => ?_))
   .exact rl Z <| AL bm (wf hA [(0, 0), (1, 1)] Z Z Z)
   exact rn 3 Z <| bq bn fun cj ae bo => sx Z (AM (Wo _ _ _ ae) (.inl Z) Z Z Z <| rl Z <| AL bo (wf hA [(0, 0), (1, 1)] Z Z Z))
  refine cd Z bp (fun br => ?_) (fun bt => ?_)
  .refine rs AA <| rl Z <| AF <| AN <| AG <| A1 br fun b5 bs => AN <| AG ?_
   cases bs
   exact er Z Le.rfl
  exact AE <| Af <| AC <| rg AA <| rl Z <| Ar bt (wf hA [(0, 0), (1, 1)] Z Z Z)
 refine AV <| AW <| CO bu fun q bv => Ap <| AC <| AB <| rs AA <| rn 2 Z <| sx Z (Ab Z Z <| rl Z <| AH ?_)
 apply lp (a := q) (fun d : Int => ⟨110, [(3, .lpb 0 0), (87, ls 5 Bz b.runs), (88, li (b.runs.length : Int)), (89, li d)], [(0, bx (AY b))], 1⟩) bv
 . exact wf hA [(0, 1)] Z Z Z
 intro d s g
 unfold Dz at g
 refine rs AA <| rl Z <| AB <| cd Z g (fun aq => ?_) (fun a4 => ?_)
 .refine AE <| AC <| AB <| AH <| rs AA <| rn 1 Z <| bq aq fun bz w au => sx Z (Ac w Z Z Z <| rl Z <| rs AA <| rn 3 Z <| bq au fun n x av => sx Z (TH x Z Z Z Z <| sx Z (Ab Z Z <| rl Z <| AH ?_)))
  apply lp (a := s) (fun l : Int => ⟨110, [(3, .lpb 0 0), (11, .lpb 1 0), (87, ls 5 Bz b.runs), (88, li (b.runs.length : Int)), (89, li d), (97, ls 5 Bz n), (98, li (n.length : Int)), (99, li l)], [(0, bx (AY b)), (1, bx (Bz bz))], 2⟩) av
  . exact wf hA [(0, 0), (1, 1)] Z Z Z
  intro l b6 i
  unfold G3 at i
  refine rs AA <| rl Z <| AB <| cd Z i (fun aw => ?_) (fun a2 => ?_)
  .refine AE <| AC <| AB <| AH <| rs AA <| bq aw fun cc y ax => sx Z (Ac y Z Z Z <| rl Z <| rs AA <| rl Z <| cd Z ax (fun ay => ?_) (fun a1 => ?_))
   .refine rs AA <| rl Z <| AF <| AN <| AG <| A1 ay fun b1 az => AN <| AN <| AG <| A1 az fun b2 a0 => AN <| AG ?_
    cases a0
    exact er Z Le.rfl
   exact AE <| Af <| AC <| rg AA <| rl Z <| Ar a1 (wf hA [(0, 0), (1, 1)] Z Z Z)
  exact AV <| AW <| BI a2 fun b3 a3 => Ap <| Af <| AC <| rg AA <| rl Z <| Ar a3 (wf hA [(0, 0)] Z Z Z)
 refine AV <| AW <| BI a4 fun b4 a5 => Ap <| AC <| rs AA <| rl Z <| AF ?_
 cases a5
 exact er Z Le.rfl
end Go.E
/- Plain functions, and walks in step with them. Written by a program (gen.py). No condition. -/
set_option maxRecDepth 100000
set_option maxHeartbeats 1000000
namespace Go.E
open Go Go.RowKit Go.Proofs
noncomputable def Hg (a : AK) (c : Ak) : Option (C6 × (Option Ay) × Bool) :=
 (((Jx c).bind fun f => bif (!f) then some true else (Ge a).bind fun g => bif (!g) then some true else (Hf a c).bind fun h => some (h != 0) : Option (Bool))).bind fun (d : Bool) => bif d then some ((⟨(⟨[], [], [], [], 0, 0, 0, 0, false⟩ : AK), []⟩ : C6), none, false) else (F2 a).bind fun b => (H6 a).bind fun i => I3 i (((bif b.2 then some () else some () : Option (Unit))).bind fun (k : Unit) => some (b.1, none, false)) fun j => ((bif b.2 then some true else some false : Option (Bool))).bind fun (e : Bool) => some (b.1, some j, e)
theorem VH (b : AK) (e : Ak) (r : (C6 × (Option Ay) × Bool)) (h : Hg b e = some r) : Ax Tryz.prog 10 [.agg (AS b), .agg (AY e)] (· = .tup [.agg (Ck r.1), Wp Aq r.2.1, .bool r.2.2]) := by
 refine fn AA Tryz.func10 Z Z 39 Z [.cell 4 35, .tmp 5, .tmp 6] Z [(0, .p (.agg (AS b))), (1, .p (.agg (AY e)))] Z Z fun A hA => ?_
 unfold Hg at h
 refine rs AA <| rl Z <| AB <| jb (fun c : Bool => ⟨39, [(2, .lpb 0 0), (4, .lpb 1 0), (23, lb c)], [(0, bx (AS b)), (1, .box [.p (.nils), .p (.nils), .p (.nils), .p (.nils), li 0, li 0, li 0, li 0, lb false, .p (.nils)])], 2⟩) h (fun c n => ?_) (fun c x => ?_)
 .refine rg AA <| rn 1 Z <| bq n fun am i o => sx Z (AM (Xs _ _ i) (.inl Z) Z Z Z <| rn 2 Z <| gs 13 o Z Z Z (fun q => ?_) (fun s => ?_))
  .exact rl Z <| AL q (wf hA [(0, 0), (1, 2)] Z Z Z)
  refine rn 1 Z <| bq s fun an j t => sx Z (AM (Oy _ _ j) (.inl Z) Z Z Z <| rn 3 Z <| gs 18 t Z Z Z (fun u => ?_) (fun v => ?_))
  .exact rl Z <| AL u (wf hA [(0, 0), (1, 2)] Z Z Z)
  exact rn 2 Z <| bq v fun ao k w => sx Z (AM (VG _ _ _ k) (.inl Z) Z Z Z <| rl Z <| AL w (wf hA [(0, 0), (1, 2)] Z Z Z))
 refine cd Z x (fun y => ?_) (fun z => ?_)
 .refine rs AA <| rl Z <| AF <| AG ?_
  cases y
  exact er Z (Le.tup' (.cons (Le.agg' (.cons (Le.nil _) (.cons (Le.nil _) (.cons (Le.nil _) (.cons (Le.nil _) (.cons Le.rfl (.cons Le.rfl (.cons Le.rfl (.cons Le.rfl (.cons Le.rfl (.cons (Le.nil _) .nil))))))))))) (.cons Le.rfl (.cons Le.rfl .nil))))
 refine AE <| AC <| rs AA <| rn 1 Z <| bq z fun g l aa => sx Z (AM (Pz _ _ l) (.inr Z) Z Z Z <| rl Z <| rs AA <| rn 1 Z <| bq aa fun aj m a => sx Z (AM (SY _ _ m) (.inr Z) Z Z Z ?_))
 revert a; rcases al : aj with _ | ak <;> intro a
 .replace a := Tq a
  refine rl Z <| jb (fun f : Unit => ⟨39, [(4, .lpb 0 0), (5, .p (.nilp)), (6, lb false)], [(0, bx (Ck g.1))], 1⟩) a (fun f ab => ?_) (fun f ae => ?_)
  .refine rg AA <| rn 4 Z <| gs 35 ab Z Z Z (fun ac => ?_) (fun ad => ?_)
   .exact rl Z <| AL ac (wf hA [(0, 1)] Z Z Z)
   exact rl Z <| AL ad (wf hA [(0, 1)] Z Z Z)
  refine AF ?_
  cases ae
  exact er Z Le.rfl
 replace a := Tr a
 refine rl Z <| jb (fun d : Bool => ⟨39, [(4, .lpb 0 0), (5, lq (Aq ak)), (6, lb d)], [(0, bx (Ck g.1))], 1⟩) a (fun d af => ?_) (fun d ai => ?_)
 .refine rg AA <| rn 4 Z <| gs 35 af Z Z Z (fun ag => ?_) (fun ah => ?_)
  .exact rl Z <| AL ag (wf hA [(0, 1)] Z Z Z)
  exact rl Z <| AL ah (wf hA [(0, 1)] Z Z Z)
 refine AF ?_
 cases ai
 exact er Z Le.rfl
noncomputable def I8 (b : AK) (a : Int) : Option (AI × Bool) :=
 ((bif decide (a < 0) then some true else some (decide ((b.signals.length : Int) <= a)) : Option (Bool))).bind fun (c : Bool) => bif c then some ((⟨0, 0⟩ : AI), false) else (AX b.signals a).bind fun d => some (d.at_, true)
theorem Zz (a : AK) (b : Int) (r : (AI × Bool)) (h : I8 a b = some r) : Ax Tryz.prog 27 [.agg (AS a), .int .i64 b] (· = .tup [.agg (AU r.1), .bool r.2]) := by
 refine fn AA Tryz.func27 Z Z 22 Z [.cell 4 40, .tmp 5] Z [(0, .p (.agg (AS a))), (1, .p (.int .i64 b))] Z Z fun A hA => ?_
 unfold I8 at h
 refine rs AA <| rl Z <| AB <| jb (fun c : Bool => ⟨22, [(1, li b), (2, .lpb 0 0), (4, .lpb 1 0), (14, lb c)], [(0, bx (AS a)), (1, .box [li 0, li 0])], 2⟩) h (fun c e => ?_) (fun c i => ?_)
 .refine rg AA <| rn 3 Z <| gs 8 e Z Z Z (fun f => ?_) (fun g => ?_)
  .exact rl Z <| AL f (wf hA [(0, 0), (1, 1)] Z Z Z)
  exact rn 3 Z <| sx Z (Ab Z Z <| rl Z <| AL g (wf hA [(0, 0), (1, 1)] Z Z Z))
 refine cd Z i (fun j => ?_) (fun k => ?_)
 .refine rs AA <| rl Z <| AF <| AG ?_
  cases j
  exact er Z Le.rfl
 refine AE <| AC <| rs AA <| rn 3 Z <| bq k fun m d l => sx Z (Ac d Z Z Z <| rl Z <| AF ?_)
 cases l
 exact er Z Le.rfl
noncomputable def G6 (a : AK) (d : BK) (b : Int) : Option Bool :=
 (Gd a b).bind fun c => bif (c == 1) then (F3 a b).bind fun e => some (decide (AO (d.len + a.margin) <= e)) else bif (c == 4) then some true else some false
theorem RJ (a : AK) (b : BK) (c : Int) (r : Bool) (h : G6 a b c = some r) : Ax Tryz.prog 29 [.agg (AS a), .agg (BL b), .int .i64 c] (· = .bool r) := by
 refine fn AA Tryz.func29 Z Z 23 Z [.tmp 6] Z [(0, .p (.agg (AS a))), (1, .p (.agg (BL b))), (2, .p (.int .i64 c))] Z Z fun A hA => ?_
 unfold G6 at h
 refine rs AA <| rl Z <| AB <| rs AA <| rn 2 Z <| bq h fun m d f => sx Z (AM (Ox _ _ _ d) (.inl Z) Z Z Z <| rl Z <| AH <| rs AA <| rl Z <| cd Z f (fun g => ?_) (fun j => ?_))
 .refine AB ?_
  refine Bu AA mixed [0, 1, 2, 3, 4, 5, 6, 7, 8, 9] 10 (by kernel_rfl) Z Z Z ?_
  refine As 2 Z <| bq g fun n e i => Au Z (A4 (P0 _ _ _ e) (.inl Z) Z Z Z <| BG Z <| AC <| AF <| AN <| AG ?_)
  cases i
  exact er Z Le.rfl
 refine rs AA <| rl Z <| cd Z j (fun k => ?_) (fun l => ?_)
 .refine rs AA <| rl Z <| AF <| AN <| AG ?_
  cases k
  exact er Z Le.rfl
 refine AE <| Af <| AC <| rs AA <| rl Z <| AF ?_
 cases l
 exact er Z Le.rfl
end Go.E
/- Plain functions, and walks in step with them. Written by a program (gen.py). No condition. -/
set_option maxRecDepth 100000
set_option maxHeartbeats 1000000
namespace Go.E
open Go Go.RowKit Go.Proofs
end Go.E
