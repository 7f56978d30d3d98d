/- Plain functions, and walks in step with them. Written by a program (gen.py). No condition. -/
import Derived.Test.YtlmjaeojocjhkaaGreatJ3
set_option linter.unusedVariables false
set_option linter.unusedSimpArgs false
set_option maxRecDepth 100000
set_option maxHeartbeats 1000000
namespace Go.E
open Go Go.RowKit Go.Proofs
noncomputable def NW (b : Int) (a : Int × Int) : Option ((Int × Int) ⊕ Int) :=
 bif decide (0 < a.1) then some (.inl (AO (a.1 - b), AO (a.2 + a.1))) else some (.inr a.2)
noncomputable def KR (b : Int) (a : Int) : Option Int :=
 ((bif decide (b < 0) then some true else bif decide (60 < b) then some true else bif decide (a < 1) then some true else some (decide (10 < a)) : Option (Bool))).bind fun (c : Bool) => bif c then some 0 else AR (NW a) (AO (b - a), 0)
theorem WE (c : Int) (b : Int) (r : Int) (h : KR c b = some r) : Aw Tryz.prog 161 [.int .i64 c, .int .i64 b] (· = .int .i64 r) := by
 refine fn AA Tryz.func161 Z Z 32 Z [.tmp 4] Z [(0, .p (.int .i64 c)), (1, .p (.int .i64 b))] Z Z fun A hA => ?_
 unfold KR at h
 refine rs AA <| rl Z <| AB <| jb (fun e : Bool => ⟨32, [(0, li c), (1, li b), (19, lb e)], [], 0⟩) h (fun e g => ?_) (fun e o => ?_)
 .refine rg AA <| rn 3 Z <| gs 8 g Z Z Z (fun i => ?_) (fun j => ?_)
  .exact rl Z <| AL i (wf hA [] Z Z Z)
  refine rn 4 Z <| gs 12 j Z Z Z (fun k => ?_) (fun l => ?_)
  .exact rl Z <| AL k (wf hA [] Z Z Z)
  refine rn 4 Z <| gs 16 l Z Z Z (fun m => ?_) (fun n => ?_)
  .exact rl Z <| AL m (wf hA [] Z Z Z)
  exact rl Z <| AL n (wf hA [] Z Z Z)
 refine cd Z o (fun q => ?_) (fun s => ?_)
 .refine rs AA <| rl Z <| AF <| AG ?_
  cases q
  exact er Z Le.rfl
 refine AE <| AC <| rs AA <| rl Z <| AB <| rs AA <| rl Z <| AH ?_
 apply lp (a := r) (fun d : (Int × Int) => ⟨32, [(0, li d.1), (1, li b), (5, li d.2)], [], 0⟩) s
 . exact wf hA [] Z Z Z
 intro d x f
 unfold NW at f
 refine AB <| rs AA <| rl Z <| cd Z f (fun t => ?_) (fun u => ?_)
 .exact AE <| AC <| AB <| AH <| rg AA <| rl Z <| Ad <| AC <| rg AA <| rl Z <| Aq t (wf hA [] Z Z Z)
 refine AU <| AX <| BH u fun w v => Am <| AC <| rs AA <| rl Z <| AF ?_
 cases v
 exact er Z Le.rfl
noncomputable def EL (b : AK) (a : Int) : Option (Int ⊕ Bool) :=
 bif decide (a < (b.elems.length : Int)) then (Aa b.elems a).bind fun c => ((bif (c.kind != 4) then some (decide (c.length < b.top)) else some false : Option (Bool))).bind fun (d : Bool) => bif d then some (.inr false) else some (.inl (AO (a + 1))) else some (.inr true)
noncomputable def Fo (a : AK) (b : Int) : Option (Int ⊕ Bool) :=
 bif decide (b < (a.signals.length : Int)) then (Aa a.signals b).bind fun e => (Aa a.elems e.at_.elem).bind fun c => ((bif (c.kind == 1) then some (decide (c.length < a.margin)) else some false : Option (Bool))).bind fun (d : Bool) => bif d then some (.inr false) else some (.inl (AO (b + 1))) else (AR (EL a) 0).map .inr
noncomputable def Ii (a : AK) : Option Bool :=
 (KR a.top a.brake).bind fun b => bif decide (a.margin < AO (a.top + b)) then some false else AR (Fo a) 0
theorem WF (b : AK) (r : Bool) (h : Ii b = some r) : Aw Tryz.prog 135 [.agg (AP b)] (· = .bool r) := by
 refine fn AA Tryz.func135 Z Z 62 Z [.tmp 2] Z [(0, .p (.agg (AP b)))] Z Z fun A hA => ?_
 unfold Ii at h
 refine rs AA <| rl Z <| AB <| AB ?_
 refine By AA mixed [0, 1, 2, 3, 4, 5, 6, 7, 8, 9, 10] 11 (by kernel_rfl) Z Z Z ?_
 refine As 8 Z <| bq h fun a0 n o => Au Z (A2 (WE _ _ _ n) (.inl Z) Z Z Z <| BF Z <| AC <| cd Z o (fun q => ?_) (fun s => ?_))
 .refine rs AA <| rl Z <| AF <| AG ?_
  cases q
  exact er Z Le.rfl
 refine AE <| AC <| AB <| rs AA <| rn 2 Z <| sx Z (Ac Z Z <| rl Z <| AH ?_)
 apply lp (a := r) (fun c : Int => ⟨62, [(1, .lpb 0 0), (20, ls 4 BT b.signals), (21, li (b.signals.length : Int)), (22, li c)], [(0, bx (AP b))], 1⟩) s
 . exact wf hA [(0, 0)] Z Z Z
 intro c av g
 unfold Fo at g
 refine rs AA <| rl Z <| AB <| cd Z g (fun t => ?_) (fun ad => ?_)
 .refine AE <| AC <| AB <| AH <| rs AA <| bq t fun ax k u => sx Z (Ab k Z Z Z <| rl Z <| rs AA <| rn 5 Z <| bq u fun ay l v => sx Z (Ab l Z Z Z <| rl Z <| jb (fun e : Bool => ⟨62, [(1, .lpb 0 0), (20, ls 4 BT b.signals), (21, li (b.signals.length : Int)), (22, li c), (42, lb e)], [(0, bx (AP b))], 1⟩) v (fun e w => ?_) (fun e z => ?_)))
  .refine rg AA <| rn 4 Z <| gs 36 w Z Z Z (fun x => ?_) (fun y => ?_)
   .exact rl Z <| AL x (wf hA [(0, 0)] Z Z Z)
   exact rl Z <| AL y (wf hA [(0, 0)] Z Z Z)
  refine cd Z z (fun aa => ?_) (fun ac => ?_)
  .refine rs AA <| rl Z <| AF <| AN <| AG <| Az aa fun aq ab => AN <| AG ?_
   cases ab
   exact er Z Le.rfl
  exact AE <| Ad <| AC <| rg AA <| rl Z <| Aq ac (wf hA [(0, 0)] Z Z Z)
 refine AU <| AX <| CH ad fun j ae => Am <| AC <| AB <| rs AA <| rn 2 Z <| sx Z (Ac Z Z <| rl Z <| AH ?_)
 apply lp (a := j) (fun d : Int => ⟨62, [(1, .lpb 0 0), (45, ls 3 CD b.elems), (46, li (b.elems.length : Int)), (47, li d)], [(0, bx (AP b))], 1⟩) ae
 . exact wf hA [(0, 0)] Z Z Z
 intro d aw i
 unfold EL at i
 refine rs AA <| rl Z <| AB <| cd Z i (fun af => ?_) (fun ao => ?_)
 .refine AE <| AC <| AB <| AH <| rs AA <| bq af fun az m ag => sx Z (Ab m Z Z Z <| rl Z <| jb (fun f : Bool => ⟨62, [(1, .lpb 0 0), (45, ls 3 CD b.elems), (46, li (b.elems.length : Int)), (47, li d), (60, lb f)], [(0, bx (AP b))], 1⟩) ag (fun f ah => ?_) (fun f ak => ?_))
  .refine rg AA <| rn 4 Z <| gs 54 ah Z Z Z (fun ai => ?_) (fun aj => ?_)
   .exact rl Z <| AL ai (wf hA [(0, 0)] Z Z Z)
   exact rl Z <| AL aj (wf hA [(0, 0)] Z Z Z)
  refine cd Z ak (fun al => ?_) (fun an => ?_)
  .refine rs AA <| rl Z <| AF <| AN <| AG <| Az al fun ar am => AN <| AG ?_
   cases am
   exact er Z Le.rfl
  exact AE <| Ad <| AC <| rg AA <| rl Z <| Aq an (wf hA [(0, 0)] Z Z Z)
 refine AU <| AX <| BH ao fun au ap => Am <| AC <| rs AA <| rl Z <| AF ?_
 cases ap
 exact er Z Le.rfl
noncomputable def Do (b : AK) (a : Int × (List (ByteArray × Bool))) : Option ((Int × (List (ByteArray × Bool))) ⊕ Bool) :=
 bif decide (a.1 < (b.elems.length : Int)) then (Fi a.1 b).bind fun c => bif ((An a.2 c).getD false) then some (.inr true) else (Fi a.1 b).bind fun d => some (.inl (AO (a.1 + 1), A3 d true a.2)) else some (.inr false)
noncomputable def Dp (b : AK) (a : Int × (List (ByteArray × Bool))) : Option ((Int × (List (ByteArray × Bool))) ⊕ Bool) :=
 bif decide (a.1 < (b.signals.length : Int)) then (Fj a.1 b).bind fun c => bif ((An a.2 c).getD false) then some (.inr true) else (Fj a.1 b).bind fun d => some (.inl (AO (a.1 + 1), A3 d true a.2)) else some (.inr false)
noncomputable def Dq (b : AK) (a : Int × (List (ByteArray × Bool))) : Option ((Int × (List (ByteArray × Bool))) ⊕ Bool) :=
 bif decide (a.1 < (b.lines.length : Int)) then (Fk a.1 b).bind fun c => bif ((An a.2 c).getD false) then some (.inr true) else (Fk a.1 b).bind fun d => some (.inl (AO (a.1 + 1), A3 d true a.2)) else some (.inr false)
noncomputable def Ha (a : AK) : Option Int :=
 ((bif decide (40 < (a.elems.length : Int)) then some true else bif decide (24 < (a.signals.length : Int)) then some true else bif decide (4 < (a.lines.length : Int)) then some true else some (decide (80 < (a.joins.length : Int))) : Option (Bool))).bind fun (c : Bool) => bif c then some 3 else (Fh a).bind fun h => bif (!h) then some 1 else ((((AR (Do a) (0, []) : Option (Bool))).bind fun (e : Bool) => bif e then some true else ((AR (Dp a) (0, []) : Option (Bool))).bind fun (f : Bool) => bif f then some true else ((AR (Dq a) (0, []) : Option (Bool))).bind fun (g : Bool) => some g : Option (Bool))).bind fun (d : Bool) => bif d then some 4 else (GX a).bind fun b => bif (!b.2) then some 6 else (Fm a b.1).bind fun i => bif (!i) then some 7 else (HZ a b.1).bind fun j => bif (!j) then some 8 else (Ii a).bind fun k => bif (!k) then some 9 else some 0
theorem Ux (b : AK) (r : Int) (h : Ha b = some r) : Aw Tryz.prog 91 [.agg (AP b)] (· = .int .i64 r) := by
 refine fn AA Tryz.func91 Z Z 71 Z [.tmp 2] Z [(0, .p (.agg (AP b)))] Z Z fun A hA => ?_
 unfold Ha at h
 refine rs AA <| rl Z <| AB <| jb (fun j : Bool => ⟨71, [(1, .lpb 0 0), (26, lb j)], [(0, bx (AP b))], 1⟩) h (fun j ad => ?_) (fun j ak => ?_)
 .refine rg AA <| rn 2 Z <| sx Z (Ac Z Z <| rn 2 Z <| gs 9 ad Z Z Z (fun ae => ?_) (fun af => ?_))
  .exact rl Z <| AL ae (wf hA [(0, 0)] Z Z Z)
  refine rn 2 Z <| sx Z (Ac Z Z <| rn 3 Z <| gs 15 af Z Z Z (fun ag => ?_) (fun ah => ?_))
  .exact rl Z <| AL ag (wf hA [(0, 0)] Z Z Z)
  refine rn 2 Z <| sx Z (Ac Z Z <| rn 3 Z <| gs 21 ah Z Z Z (fun ai => ?_) (fun aj => ?_))
  .exact rl Z <| AL ai (wf hA [(0, 0)] Z Z Z)
  exact rn 2 Z <| sx Z (Ac Z Z <| rl Z <| AL aj (wf hA [(0, 0)] Z Z Z))
 refine cd Z ak (fun al => ?_) (fun am => ?_)
 .refine rs AA <| rl Z <| AF <| AG ?_
  cases al
  exact er Z Le.rfl
 refine AE <| AC <| AB <| rs AA <| rn 1 Z <| bq am fun cq s a2 => sx Z (AM (Sl _ _ s) (.inl Z) Z Z Z <| rl Z <| cd Z a2 (fun a4 => ?_) (fun a6 => ?_))
 .refine rs AA <| rl Z <| AF <| AG ?_
  cases a4
  exact er Z Le.rfl
 refine AE <| AC <| AB <| jb (fun k : Bool => ⟨71, [(1, .lpb 0 0), (48, lb k)], [(0, bx (AP b))], 1⟩) a6 (fun k an => ?_) (fun k bt => ?_)
 .refine rg AA <| rn 2 Z <| sx Z (Ac Z Z <| rn 1 Z <| sx Z (CW AA (fun f : Bool => lb f) (fun f : Bool => [(0, bx (AP b))]) 1 an Tryz.func128 22 [.tmp 4] [(0, li (b.elems.length : Int)), (1, .fn 129 [.lpb 0 0])] Z Z Z Z Z Z Z Z (fun A hA f ao => ?_) (fun f az => ?_)))
  .refine rs AA <| rl Z <| rs AA <| rl Z <| AB <| rs AA <| rl Z <| AH ?_
   apply lp (a := f) (fun c : (Int × (List (ByteArray × Bool))) => ⟨22, [(1, .fn 129 [.lpb 0 0]), (5, .lmap 1), (8, li (b.elems.length : Int)), (9, li c.1)], [(0, bx (AP b)), (1, .map (Ao .str .bool c.2))], 2⟩) ao
   . exact wj hA [(0, 0), (1, 1)] Z Z Z Z
   intro c cn l
   unfold Do at l
   refine rs AA <| rl Z <| AB <| cd Z l (fun ap => ?_) (fun ax => ?_)
   .refine AE <| AC <| AB <| AH <| rs AA <| rl Z <| AB <| rs AA <| rn 3 Z <| bq ap fun ca o aq => sx Z (AM (NT _ _ _ o) (.inl Z) Z Z (Dm.eq (.cons (.one (.p _)) (.cons (.box Z (.cons (.p _) (.cons (.p _) (.cons (.p _) (.cons (.p _) (.cons (.p _) (.cons (.p _) (.cons (.p _) (.cons (.p _) (.cons (.p _) .nil)))))))))) .nil))) <| sx Z (LL (et := 4) (ke := .str) (ve := .bool) (mp := c.2) (y := ca) false NX Z Z Z Z <| rl Z <| cd Z aq (fun ar => ?_) (fun av => ?_)))
    .refine rs AA <| rl Z <| AF <| AG <| AN <| AG <| Az ar fun ch au => AN <| AG ?_
     cases au
     exact CZ (nt := 22) (sl := [(4, lb true)]) (wj hA [(0, 0)] Z Z Z Z) Z
    exact AE <| AC <| rg AA <| rn 3 Z <| bq av fun cb q aw => sx Z (AM (NT _ _ _ q) (.inl Z) Z Z (Dm.eq (.cons (.one (.p _)) (.cons (.box Z (.cons (.p _) (.cons (.p _) (.cons (.p _) (.cons (.p _) (.cons (.p _) (.cons (.p _) (.cons (.p _) (.cons (.p _) (.cons (.p _) .nil)))))))))) .nil))) <| sx Z (G0 (et := 4) (ke := .str) (ve := .bool) (mp := c.2) (y := cb) (z := true) NX Z Z Z Z Z Z <| rl Z <| Ad <| AC <| rg AA <| rl Z <| Aq aw (wj hA [(0, 0), (1, 1)] Z Z Z Z)))
   refine AU <| AX <| BH ax fun ci ay => Am <| AC <| rs AA <| rl Z <| AF ?_
   cases ay
   exact CZ (nt := 22) (sl := [(4, lb false)]) (wj hA [(0, 0)] Z Z Z Z) Z
  refine rn 1 Z <| gs 35 az Z Z Z (fun a0 => ?_) (fun a1 => ?_)
  .exact rl Z <| AL a0 (wf hA [(0, 0)] Z Z Z)
  refine rn 2 Z <| sx Z (Ac Z Z <| rn 1 Z <| sx Z (CW AA (fun g : Bool => lb g) (fun g : Bool => [(0, bx (AP b))]) 1 a1 Tryz.func128 22 [.tmp 4] [(0, li (b.signals.length : Int)), (1, .fn 130 [.lpb 0 0])] Z Z Z Z Z Z Z Z (fun A hA g a3 => ?_) (fun g bf => ?_)))
  .refine rs AA <| rl Z <| rs AA <| rl Z <| AB <| rs AA <| rl Z <| AH ?_
   apply lp (a := g) (fun d : (Int × (List (ByteArray × Bool))) => ⟨22, [(1, .fn 130 [.lpb 0 0]), (5, .lmap 1), (8, li (b.signals.length : Int)), (9, li d.1)], [(0, bx (AP b)), (1, .map (Ao .str .bool d.2))], 2⟩) a3
   . exact wj hA [(0, 0), (1, 1)] Z Z Z Z
   intro d co m
   unfold Dp at m
   refine rs AA <| rl Z <| AB <| cd Z m (fun a5 => ?_) (fun bc => ?_)
   .refine AE <| AC <| AB <| AH <| rs AA <| rl Z <| AB <| rs AA <| rn 3 Z <| bq a5 fun cc t a7 => sx Z (AM (NU _ _ _ t) (.inl Z) Z Z (Dm.eq (.cons (.one (.p _)) (.cons (.box Z (.cons (.p _) (.cons (.p _) (.cons (.p _) (.cons (.p _) (.cons (.p _) (.cons (.p _) (.cons (.p _) (.cons (.p _) (.cons (.p _) .nil)))))))))) .nil))) <| sx Z (LL (et := 4) (ke := .str) (ve := .bool) (mp := d.2) (y := cc) false NX Z Z Z Z <| rl Z <| cd Z a7 (fun a8 => ?_) (fun ba => ?_)))
    .refine rs AA <| rl Z <| AF <| AG <| AN <| AG <| Az a8 fun cj a9 => AN <| AG ?_
     cases a9
     exact CZ (nt := 22) (sl := [(4, lb true)]) (wj hA [(0, 0)] Z Z Z Z) Z
    exact AE <| AC <| rg AA <| rn 3 Z <| bq ba fun ce u bb => sx Z (AM (NU _ _ _ u) (.inl Z) Z Z (Dm.eq (.cons (.one (.p _)) (.cons (.box Z (.cons (.p _) (.cons (.p _) (.cons (.p _) (.cons (.p _) (.cons (.p _) (.cons (.p _) (.cons (.p _) (.cons (.p _) (.cons (.p _) .nil)))))))))) .nil))) <| sx Z (G0 (et := 4) (ke := .str) (ve := .bool) (mp := d.2) (y := ce) (z := true) NX Z Z Z Z Z Z <| rl Z <| Ad <| AC <| rg AA <| rl Z <| Aq bb (wj hA [(0, 0), (1, 1)] Z Z Z Z)))
   refine AU <| AX <| BH bc fun ck be => Am <| AC <| rs AA <| rl Z <| AF ?_
   cases be
   exact CZ (nt := 22) (sl := [(4, lb false)]) (wj hA [(0, 0)] Z Z Z Z) Z
  refine rn 2 Z <| gs 42 bf Z Z Z (fun bg => ?_) (fun bh => ?_)
  .exact rl Z <| AL bg (wf hA [(0, 0)] Z Z Z)
  refine rn 2 Z <| sx Z (Ac Z Z <| rn 1 Z <| sx Z (CW AA (fun i : Bool => lb i) (fun i : Bool => [(0, bx (AP b))]) 1 bh Tryz.func128 22 [.tmp 4] [(0, li (b.lines.length : Int)), (1, .fn 131 [.lpb 0 0])] Z Z Z Z Z Z Z Z (fun A hA i bi => ?_) (fun i bs => ?_)))
  .refine rs AA <| rl Z <| rs AA <| rl Z <| AB <| rs AA <| rl Z <| AH ?_
   apply lp (a := i) (fun e : (Int × (List (ByteArray × Bool))) => ⟨22, [(1, .fn 131 [.lpb 0 0]), (5, .lmap 1), (8, li (b.lines.length : Int)), (9, li e.1)], [(0, bx (AP b)), (1, .map (Ao .str .bool e.2))], 2⟩) bi
   . exact wj hA [(0, 0), (1, 1)] Z Z Z Z
   intro e cp n
   unfold Dq at n
   refine rs AA <| rl Z <| AB <| cd Z n (fun bj => ?_) (fun bp => ?_)
   .refine AE <| AC <| AB <| AH <| rs AA <| rl Z <| AB <| rs AA <| rn 3 Z <| bq bj fun cf v bk => sx Z (AM (NV _ _ _ v) (.inl Z) Z Z (Dm.eq (.cons (.one (.p _)) (.cons (.box Z (.cons (.p _) (.cons (.p _) (.cons (.p _) (.cons (.p _) (.cons (.p _) (.cons (.p _) (.cons (.p _) (.cons (.p _) (.cons (.p _) .nil)))))))))) .nil))) <| sx Z (LL (et := 4) (ke := .str) (ve := .bool) (mp := e.2) (y := cf) false NX Z Z Z Z <| rl Z <| cd Z bk (fun bl => ?_) (fun bn => ?_)))
    .refine rs AA <| rl Z <| AF <| AG <| AN <| AG <| Az bl fun cl bm => AN <| AG ?_
     cases bm
     exact CZ (nt := 22) (sl := [(4, lb true)]) (wj hA [(0, 0)] Z Z Z Z) Z
    exact AE <| AC <| rg AA <| rn 3 Z <| bq bn fun cg w bo => sx Z (AM (NV _ _ _ w) (.inl Z) Z Z (Dm.eq (.cons (.one (.p _)) (.cons (.box Z (.cons (.p _) (.cons (.p _) (.cons (.p _) (.cons (.p _) (.cons (.p _) (.cons (.p _) (.cons (.p _) (.cons (.p _) (.cons (.p _) .nil)))))))))) .nil))) <| sx Z (G0 (et := 4) (ke := .str) (ve := .bool) (mp := e.2) (y := cg) (z := true) NX Z Z Z Z Z Z <| rl Z <| Ad <| AC <| rg AA <| rl Z <| Aq bo (wj hA [(0, 0), (1, 1)] Z Z Z Z)))
   refine AU <| AX <| BH bp fun cm br => Am <| AC <| rs AA <| rl Z <| AF ?_
   cases br
   exact CZ (nt := 22) (sl := [(4, lb false)]) (wj hA [(0, 0)] Z Z Z Z) Z
  exact rl Z <| AL bs (wf hA [(0, 0)] Z Z Z)
 refine cd Z bt (fun bu => ?_) (fun bv => ?_)
 .refine rs AA <| rl Z <| AF <| AG ?_
  cases bu
  exact er Z Le.rfl
 refine AE <| AC <| rs AA <| rn 1 Z <| bq bv fun cr x bw => sx Z (AM (Tp _ _ x) (.inr Z) Z Z Z <| rl Z <| AB <| AH <| rs AA <| rl Z <| cd Z bw (fun bz => ?_) (fun b0 => ?_))
 .refine rs AA <| rl Z <| AF <| AN <| AG ?_
  cases bz
  exact er Z Le.rfl
 refine rs AA <| rn 2 Z <| bq b0 fun cs aa b1 => sx Z (AM (Sm _ _ _ aa) (.inl Z) Z Z Z <| rl Z <| cd Z b1 (fun b2 => ?_) (fun b3 => ?_))
 .refine rs AA <| rl Z <| AF <| AN <| AG ?_
  cases b2
  exact er Z Le.rfl
 refine rs AA <| rn 2 Z <| bq b3 fun ct ab b4 => sx Z (AM (Uw _ _ _ ab) (.inl Z) Z Z Z <| rl Z <| cd Z b4 (fun b5 => ?_) (fun b6 => ?_))
 .refine rs AA <| rl Z <| AF <| AN <| AG ?_
  cases b5
  exact er Z Le.rfl
 refine rs AA <| rn 1 Z <| bq b6 fun cu ac b7 => sx Z (AM (WF _ _ ac) (.inl Z) Z Z Z <| rl Z <| cd Z b7 (fun b8 => ?_) (fun b9 => ?_))
 .refine rs AA <| rl Z <| AF <| AN <| AG ?_
  cases b8
  exact er Z Le.rfl
 refine AE <| Ad <| AC <| rs AA <| rl Z <| AF ?_
 cases b9
 exact er Z Le.rfl
noncomputable def DS (a : (List Cy)) : Option (List Cy) :=
 Mq a (some []) ((Bq ([] : List Cy) a).bind fun b => some b)
theorem Mx (a : (List Cy)) (r : (List Cy)) (h : DS a = some r) : Aw Tryz.prog 103 [.slice 3 (a.map CD)] (· = .slice 3 (r.map CD)) := by
 refine fn AA Tryz.func103 Z Z 8 Z [.tmp 2] Z [(0, .p (.slice 3 (a.map CD)))] Z Z fun A hA => ?_
 unfold DS at h
 refine rs AA <| rl Z <| AB <| rs AA <| rn 1 Z <| sx Z (Kl h Z Z Z (fun d => ?_) (fun e => ?_))
 .refine rl Z <| RX Z <| rs AA <| rl Z <| AF <| AG ?_
  cases d
  exact er Z (Le.nil _)
 refine rl Z <| S8 Z <| AE <| AC <| rs AA <| rn 2 Z <| bq e fun f b c => sx Z (BV (enc := CD) (l := ([] : List Cy)) (m := a) b (fun _ => ⟨Z, Z⟩) Z Z Z Z Z Z <| rl Z <| AF ?_)
 have hr := Option.some.inj c; subst hr
 exact er (I6 Z (.one (.own (enc := CD) f Z Z))) Le.rfl
noncomputable def DT (a : (List C9)) : Option (List C9) :=
 Mq a (some []) ((Bq ([] : List C9) a).bind fun b => some b)
theorem My (a : (List C9)) (r : (List C9)) (h : DT a = some r) : Aw Tryz.prog 104 [.slice 4 (a.map Cx)] (· = .slice 4 (r.map Cx)) := by
 refine fn AA Tryz.func104 Z Z 8 Z [.tmp 2] Z [(0, .p (.slice 4 (a.map Cx)))] Z Z fun A hA => ?_
 unfold DT at h
 refine rs AA <| rl Z <| AB <| rs AA <| rn 1 Z <| sx Z (Kl h Z Z Z (fun d => ?_) (fun e => ?_))
 .refine rl Z <| RX Z <| rs AA <| rl Z <| AF <| AG ?_
  cases d
  exact er Z (Le.nil _)
 refine rl Z <| S8 Z <| AE <| AC <| rs AA <| rn 2 Z <| bq e fun f b c => sx Z (BV (enc := Cx) (l := ([] : List C9)) (m := a) b (fun _ => ⟨Z, Z⟩) Z Z Z Z Z Z <| rl Z <| AF ?_)
 have hr := Option.some.inj c; subst hr
 exact er (I6 Z (.one (.own (enc := Cx) f Z Z))) Le.rfl
noncomputable def C0 (a : (List Bv)) : Option (List Bv) :=
 Mq a (some []) ((Bq ([] : List Bv) a).bind fun b => some b)
theorem L3 (a : (List Bv)) (r : (List Bv)) (h : C0 a = some r) : Aw Tryz.prog 105 [.slice 4 (a.map BT)] (· = .slice 4 (r.map BT)) := by
 refine fn AA Tryz.func105 Z Z 8 Z [.tmp 2] Z [(0, .p (.slice 4 (a.map BT)))] Z Z fun A hA => ?_
 unfold C0 at h
 refine rs AA <| rl Z <| AB <| rs AA <| rn 1 Z <| sx Z (Kl h Z Z Z (fun d => ?_) (fun e => ?_))
 .refine rl Z <| RX Z <| rs AA <| rl Z <| AF <| AG ?_
  cases d
  exact er Z (Le.nil _)
 refine rl Z <| S8 Z <| AE <| AC <| rs AA <| rn 2 Z <| bq e fun f b c => sx Z (BV (enc := BT) (l := ([] : List Bv)) (m := a) b (fun _ => ⟨Z, Z⟩) Z Z Z Z Z Z <| rl Z <| AF ?_)
 have hr := Option.some.inj c; subst hr
 exact er (I6 Z (.one (.own (enc := BT) f Z Z))) Le.rfl
noncomputable def DU (a : (List DA)) : Option (List DA) :=
 Mq a (some []) ((Bq ([] : List DA) a).bind fun b => some b)
theorem ME (a : (List DA)) (r : (List DA)) (h : DU a = some r) : HG Tryz.prog 106 [.slice 2 (a.map Bf)] 147 2 (r.map Bf) := by
 refine fnN (enc := Bf) (fun _ => ⟨Z, Z⟩) Tryz.func106 Z Z 8 Z 2 Z [(0, .p (.slice 2 (a.map Bf)))] Z Z fun A hA => ?_
 unfold DU at h
 refine rs AA <| rl Z <| AB <| rs AA <| rn 1 Z <| sx Z (Kl h Z Z Z (fun d => ?_) (fun e => ?_))
 .refine rl Z <| RX Z <| rs AA <| rl Z <| AF <| AG ?_
  cases d
  exact ABG Z
 refine rl Z <| S8 Z <| AE <| AC <| rs AA <| rn 2 Z <| bq e fun f b c => sx Z (BV (enc := Bf) (l := ([] : List DA)) (m := a) b (fun _ => ⟨Z, Z⟩) Z Z Z Z Z Z <| rl Z <| AF ?_)
 have hr := Option.some.inj c; subst hr
 exact erN Z Z Z
noncomputable def Ex (a : (List Int)) : Option (List Int) :=
 Mq a (some []) ((Bq ([] : List Int) a).bind fun b => some b)
theorem PY (a : (List Int)) (r : (List Int)) (h : Ex a = some r) : Aw Tryz.prog 107 [.slice 1 (a.map Ae)] (· = .slice 1 (r.map Ae)) := by
 refine fn AA Tryz.func107 Z Z 8 Z [.tmp 2] Z [(0, .p (.slice 1 (a.map Ae)))] Z Z fun A hA => ?_
 unfold Ex at h
 refine rs AA <| rl Z <| AB <| rs AA <| rn 1 Z <| sx Z (Kl h Z Z Z (fun d => ?_) (fun e => ?_))
 .refine rl Z <| RX Z <| rs AA <| rl Z <| AF <| AG ?_
  cases d
  exact er Z (Le.nil _)
 refine rl Z <| S8 Z <| AE <| AC <| rs AA <| rn 2 Z <| bq e fun f b c => sx Z (BV (enc := Ae) (l := ([] : List Int)) (m := a) b (fun _ => ⟨Z, Z⟩) Z Z Z Z Z Z <| rl Z <| AF ?_)
 have hr := Option.some.inj c; subst hr
 exact er (I6 Z (.one (.own (enc := Ae) f Z Z))) Le.rfl
end Go.E
/- Plain functions, and walks in step with them. Written by a program (gen.py). No condition. -/
set_option maxRecDepth 100000
set_option maxHeartbeats 1000000
namespace Go.E
open Go Go.RowKit Go.Proofs
noncomputable def GY (b : AK) (h : (List Cy)) (i : (List C9)) (c : (List Bv)) (g : (List DA)) (a : Int × (List DA)) : Option ((Int × (List DA)) ⊕ AK) :=
 bif decide (a.1 < (g.length : Int)) then (Aa a.2 a.1).bind fun d => (Ex d.elems).bind fun e => (Aa a.2 a.1).bind fun f => some (.inl (AO (a.1 + 1), A7 a.2 a.1 (⟨f.name, e⟩ : DA))) else some (.inr (⟨h, i, c, a.2, b.top, b.brake, b.margin, b.throw, b.hard⟩ : AK))
noncomputable def H9 (a : AK) : Option AK :=
 (DS a.elems).bind fun d => (DT a.joins).bind fun e => (C0 a.signals).bind fun c => (DU a.lines).bind fun b => AR (GY a d e c b) (0, b)
theorem Rs (b : AK) (r : AK) (h : H9 b = some r) : Aw Tryz.prog 75 [.agg (AP b)] (· = .agg (AP r)) := by
 refine fn AA Tryz.func75 Z Z 40 Z [.cell 2 27] Z [(0, .p (.agg (AP b)))] Z Z fun A hA => ?_
 unfold H9 at h
 refine rs AA <| rl Z <| AB ?_
 refine By AA mixed [0, 1, 2, 3, 4, 5, 6, 7, 8, 9, 10, 11, 12, 13, 14] 15 (by kernel_rfl) Z Z Z ?_
 refine As 2 Z <| bq h fun ad k x => Au Z (A2 (Mx _ _ k) (.inr Z) Z Z Z <| As 2 Z <| bq x fun ae l m => Au Z (A2 (My _ _ l) (.inr Z) Z Z Z <| As 2 Z <| bq m fun y g t => Au Z (A2 (L3 _ _ g) (.inr Z) Z Z Z <| BF Z <| AC <| rs AA <| rn 2 Z <| bq t fun ac j w => sx Z (AAg (ME _ _ j) Z Z Z Z <| rl Z <| AB <| rs AA <| rl Z <| AH ?_))))
 apply lp (a := r) (fun c : (Int × (List DA)) => ⟨40, [(1, .lpb 0 0), (2, .lpb 1 0), (22, li (ac.length : Int)), (23, li c.1)], [(0, .box [ls 3 CD ad, ls 4 Cx ae, ls 4 BT y, .lsl 2 2 0 c.2.length, li b.top, li b.brake, li b.margin, li b.throw, lb b.hard]), (1, .box [.p (.nils), .p (.nils), .p (.nils), .p (.nils), li 0, li 0, li 0, li 0, lb false]), (2, .row 147 2 (c.2.map Bf))], 3⟩) w
 . exact wf hA [(0, 0), (1, 1), (2, 17)] Z Z Z
 intro c ag f
 unfold GY at f
 refine rs AA <| rl Z <| AB <| cd Z f (fun n => ?_) (fun u => ?_)
 .refine AE <| AC <| AB <| AH <| rs AA <| rl Z ?_
  refine By AA mixed [0, 1, 2, 3, 4, 5, 6, 7, 8, 9, 10, 11, 12] 13 (by kernel_rfl) Z Z Z ?_
  exact As 6 Z <| bq n fun ah d o => Au Z (Al Z (B2 d Z Z Z Z <| As 1 Z <| Au Z (HK Z (DC d Z Z Z <| bq o fun aa i q => Au Z (A2 (PY _ _ i) (.inr Z) Z Z Z <| bq q fun ab e s => Au Z (Al Z (B2 e Z Z Z Z <| As 1 Z <| Au Z (NJ Z (MN (z := (⟨ab.name, aa⟩ : DA)) e Z Z Z Z Z Z Z Z <| BF Z <| Ad <| AC <| rg AA <| rl Z <| Aq s (wk (gi 3 []) (free hA _) Z Z Z (.cons Z (.cons Z (.cons Z (.cons Z .nil)))) (.cons Z (by simp only [BL]; rfl) (.cons Z Z (.cons Z Z .nil)))))))))))))
 refine AU <| AX <| BH u fun af v => Am <| AC <| rs AA <| rl Z <| AF ?_
 cases v
 exact er (I6 Z (.agg (.cons (.p _) (.cons (.p _) (.cons (.p _) (.cons (.own (enc := Bf) c.2 Z Z) (.cons (.p _) (.cons (.p _) (.cons (.p _) (.cons (.p _) (.cons (.p _) .nil))))))))))) Le.rfl
noncomputable def Hb (e : (Int × (List (AI × AI)))) (c : (Int × (List (Int × B1)) × (List (Int × Int)))) (d : DA) (a : Int × Int × (List (Int × B1)) × (List (Int × Int))) : Option ((Int × Int × (List (Int × B1)) × (List (Int × Int))) ⊕ ((Int × (List (Int × B1)) × (List (Int × Int))) ⊕ ((Option A0) × Int))) :=
 bif decide (a.2.1 < (d.elems.length : Int)) then (Aa d.elems a.2.1).bind fun b => some (.inl (((An e.2 (⟨b, AO (1 - a.1)⟩ : AI)).getD (⟨0, 0⟩ : AI)).fin, AO (a.2.1 + 1), A3 b (⟨c.1, a.2.1⟩ : B1) a.2.2.1, A3 b a.1 a.2.2.2)) else some (.inr (.inl (AO (c.1 + 1), a.2.2.1, a.2.2.2)))
noncomputable def Fp (d : AK) (j : AK) (b : (Int × (List (AI × AI)))) (f : (Int × (List (AI × Int)))) (a : Int × (List (Int × B1)) × (List (Int × Int))) : Option ((Int × (List (Int × B1)) × (List (Int × Int))) ⊕ ((Option A0) × Int)) :=
 bif decide (a.1 < (d.lines.length : Int)) then (Aa d.lines a.1).bind fun c => ((bif decide (1 < (c.elems.length : Int)) then (Aa c.elems 0).bind fun e => ((bif (An b.2 (⟨e, 0⟩ : AI)).isSome then (Aa c.elems 1).bind fun i => some ((((An b.2 (⟨e, 0⟩ : AI)).getD (⟨0, 0⟩ : AI)).elem) == i) else some false : Option (Bool))).bind fun (h : Bool) => bif h then some 1 else some 0 else some 0 : Option (Int))).bind fun (g : Int) => AR (Hb b a c) (g, 0, a.2.1, a.2.2) else some (.inr (some (⟨j, b.2, f.2, a.2.1, a.2.2⟩ : A0), 0))
noncomputable def Hc (b : AK) (d : AK) (c : (Int × (List (AI × AI)))) (a : Int × (List (AI × Int))) : Option ((Int × (List (AI × Int))) ⊕ ((Option A0) × Int)) :=
 bif decide (a.1 < (b.signals.length : Int)) then (Aa b.signals a.1).bind fun e => some (.inl (AO (a.1 + 1), A3 e.at_ a.1 a.2)) else (AR (Fp b d c a) (0, [], [])).map .inr
noncomputable def Hd (e : AK) (f : AK) (c : Int × (List (AI × AI))) : Option ((Int × (List (AI × AI))) ⊕ ((Option A0) × Int)) :=
 bif decide (c.1 < (e.joins.length : Int)) then (Aa e.joins c.1).bind fun d => some (.inl (AO (c.1 + 1), A3 d.b d.a (A3 d.a d.b c.2))) else (AR (Hc e f c) (0, [])).map .inr
noncomputable def EA (a : AK) : Option ((Option A0) × Int) :=
 (Ha a).bind fun b => bif (b != 0) then some (none, b) else (H9 a).bind fun c => AR (Hd a c) (0, [])
theorem PW (d : AK) (r : ((Option A0) × Int)) (h : EA d = some r) : Aw Tryz.prog 56 [.agg (AP d)] (· = .tup [Zk Ar r.1, .int .i64 r.2]) := by
 refine fn AA Tryz.func56 Z Z 148 Z [.tmp 2, .tmp 3] Z [(0, .p (.agg (AP d)))] Z Z fun A hA => ?_
 unfold EA at h
 refine rs AA <| rl Z <| AB <| rs AA <| rn 1 Z <| bq h fun br ah aj => sx Z (AM (Ux _ _ ah) (.inl Z) Z Z Z <| rl Z <| rs AA <| rl Z <| cd Z aj (fun al => ?_) (fun ay => ?_))
 .refine rs AA <| rl Z <| AF <| AG ?_
  cases al
  exact er Z Le.rfl
 refine AE <| AC <| rs AA <| rn 1 Z <| bq ay fun c af a8 => sx Z (AM (Rs _ _ af) (.inr Z) Z Z Z <| rl Z <| AB <| rs AA <| rn 2 Z <| sx Z (Ac Z Z <| rl Z <| AH ?_))
 apply lp (a := r) (fun f : (Int × (List (AI × AI))) => ⟨148, [(1, .lpb 0 0), (5, .lpb 1 0), (31, ls 4 Cx d.joins), (32, li (d.joins.length : Int)), (33, li f.1)], [(0, bx (AP d)), (1, .box [ls 3 CD c.elems, ls 4 Cx c.joins, ls 4 BT c.signals, ls 2 Bf c.lines, li c.top, li c.brake, li c.margin, li c.throw, lb c.hard, .lmap 2, .lmap 3, .lmap 4, .lmap 5]), (2, .map (Ao (fun x => .agg (AV x)) (fun x => .agg (AV x)) f.2)), (3, .map (Ao (fun x => .agg (AV x)) (.int .i64) [])), (4, .map (Ao (.int .i64) (fun x => .agg (FD x)) [])), (5, .map (Ao (.int .i64) (.int .i64) []))], 6⟩) a8
 . exact wf hA [(0, 0), (1, 5), (2, 1), (3, 2), (4, 3), (5, 4)] Z Z Z
 intro f bo t
 unfold Hd at t
 refine rs AA <| rl Z <| AB <| cd Z t (fun be => ?_) (fun bg => ?_)
 .refine AE <| AC <| AB <| AH <| rs AA <| bq be fun i ai bf => sx Z (Ab ai Z Z Z <| rl Z ?_)
  refine By AA mixed [0, 1, 2, 3, 4, 5, 6, 7, 8, 9, 10, 11, 12, 13, 14, 15, 16, 17, 18, 19, 20, 21] 22 (by kernel_rfl) Z Z Z ?_
  exact As 16 Z <| Au Z (Al Z (Rf (et := 40) (ke := (fun x => .agg (AV x))) (ve := (fun x => .agg (AV x))) (mp := f.2) (y := i.a) (⟨0, 0⟩ : AI) CK Z Z Z Z Z Z <| As 1 Z <| Au Z (Al Z (Rg (ke := (fun x => .agg (AV x))) (ve := (fun x => .agg (AV x))) (mp := f.2) (y := i.a) (z := (⟨0, 0⟩ : AI)) (w := i.b) Z Z Z Z Z <| Au Z (Al Z (Rf (et := 40) (ke := (fun x => .agg (AV x))) (ve := (fun x => .agg (AV x))) (mp := A3 i.a i.b f.2) (y := i.b) (⟨0, 0⟩ : AI) CK Z Z Z Z Z Z <| As 1 Z <| Au Z (Al Z (Rg (ke := (fun x => .agg (AV x))) (ve := (fun x => .agg (AV x))) (mp := A3 i.a i.b f.2) (y := i.b) (z := (⟨0, 0⟩ : AI)) (w := i.a) Z Z Z Z Z <| BF Z <| Ad <| AC <| rg AA <| rl Z <| Aq bf (wf hA (gi 6 []) Z Z Z)))))))))
 refine AU <| AX <| CH bg fun v bh => Am <| AC <| AB <| rs AA <| rn 2 Z <| sx Z (Ac Z Z <| rl Z <| AH ?_)
 apply lp (a := v) (fun j : (Int × (List (AI × Int))) => ⟨148, [(1, .lpb 0 0), (5, .lpb 1 0), (59, ls 4 BT d.signals), (60, li (d.signals.length : Int)), (61, li j.1)], [(0, bx (AP d)), (1, .box [ls 3 CD c.elems, ls 4 Cx c.joins, ls 4 BT c.signals, ls 2 Bf c.lines, li c.top, li c.brake, li c.margin, li c.throw, lb c.hard, .lmap 2, .lmap 3, .lmap 4, .lmap 5]), (2, .map (Ao (fun x => .agg (AV x)) (fun x => .agg (AV x)) f.2)), (3, .map (Ao (fun x => .agg (AV x)) (.int .i64) j.2)), (4, .map (Ao (.int .i64) (fun x => .agg (FD x)) [])), (5, .map (Ao (.int .i64) (.int .i64) []))], 6⟩) bh
 . exact wf hA (gi 6 []) Z Z Z
 intro j bn s
 unfold Hc at s
 refine rs AA <| rl Z <| AB <| cd Z s (fun a9 => ?_) (fun bb => ?_)
 .refine AE <| AC <| AB <| AH <| rs AA <| rn 1 Z <| bq a9 fun bj ag ba => sx Z (Ab ag Z Z Z <| rl Z ?_)
  refine By AA mixed [0, 1, 2, 3, 4, 5, 6, 7] 8 (by kernel_rfl) Z Z Z ?_
  exact As 7 Z <| Au Z (Al Z (G0 (et := 3) (ke := (fun x => .agg (AV x))) (ve := (.int .i64)) (mp := j.2) (y := bj.at_) (z := j.1) CK Z Z Z Z Z Z <| BF Z <| Ad <| AC <| rg AA <| rl Z <| Aq ba (wf hA (gi 6 []) Z Z Z)))
 refine AU <| AX <| CH bb fun u bc => Am <| AC <| AB <| rs AA <| rn 2 Z <| sx Z (Ac Z Z <| rl Z <| AH ?_)
 apply lp (a := u) (fun e : (Int × (List (Int × B1)) × (List (Int × Int))) => ⟨148, [(5, .lpb 0 0), (75, ls 2 Bf d.lines), (76, li (d.lines.length : Int)), (77, li e.1)], [(0, .box [ls 3 CD c.elems, ls 4 Cx c.joins, ls 4 BT c.signals, ls 2 Bf c.lines, li c.top, li c.brake, li c.margin, li c.throw, lb c.hard, .lmap 1, .lmap 2, .lmap 3, .lmap 4]), (1, .map (Ao (fun x => .agg (AV x)) (fun x => .agg (AV x)) f.2)), (2, .map (Ao (fun x => .agg (AV x)) (.int .i64) j.2)), (3, .map (Ao (.int .i64) (fun x => .agg (FD x)) e.2.1)), (4, .map (Ao (.int .i64) (.int .i64) e.2.2))], 5⟩) bc
 . exact wf hA [(0, 1), (1, 2), (2, 3), (3, 4), (4, 5)] Z Z Z
 intro e aa o
 unfold Fp at o
 refine rs AA <| rl Z <| AB <| cd Z o (fun ak => ?_) (fun a6 => ?_)
 .refine AE <| AC <| AB <| AH <| rs AA <| rn 1 Z <| bq ak fun k ab am => sx Z (Ab ab Z Z Z <| rl Z <| rs AA <| rl Z <| jb (fun m : Int => ⟨148, [(5, .lpb 0 0), (10, li e.1), (11, .lpb 1 0), (12, li m), (75, ls 2 Bf d.lines), (76, li (d.lines.length : Int)), (77, li e.1)], [(0, .box [ls 3 CD c.elems, ls 4 Cx c.joins, ls 4 BT c.signals, ls 2 Bf c.lines, li c.top, li c.brake, li c.margin, li c.throw, lb c.hard, .lmap 2, .lmap 3, .lmap 4, .lmap 5]), (1, .box [.p (.str k.name), ls 1 Ae k.elems]), (2, .map (Ao (fun x => .agg (AV x)) (fun x => .agg (AV x)) f.2)), (3, .map (Ao (fun x => .agg (AV x)) (.int .i64) j.2)), (4, .map (Ao (.int .i64) (fun x => .agg (FD x)) e.2.1)), (5, .map (Ao (.int .i64) (.int .i64) e.2.2))], 6⟩) am (fun m an => ?_) (fun m a1 => ?_))
  .refine rs AA <| rn 2 Z <| sx Z (Ac Z Z <| rl Z <| cd Z an (fun ao => ?_) (fun a0 => ?_))
   .refine AB ?_
    refine By AA mixed [0, 1, 2, 3, 4, 5, 6, 7, 8, 9, 10, 11, 12, 13, 14, 15] 16 (by kernel_rfl) Z Z Z ?_
    refine As 6 Z <| bq ao fun bi ac ap => Au Z (Al Z (Ab ac Z Z Z <| As 2 Z <| Au Z (Al Z (KL (et := 40) (ke := (fun x => .agg (AV x))) (ve := (fun x => .agg (AV x))) (mp := f.2) (y := (⟨bi, 0⟩ : AI)) (⟨0, 0⟩ : AI) CK Z Z Z Z <| BF Z <| AC <| jb (fun n : Bool => ⟨148, [(5, .lpb 0 0), (10, li e.1), (11, .lpb 1 0), (12, li 0), (75, ls 2 Bf d.lines), (76, li (d.lines.length : Int)), (77, li e.1), (108, lb n)], [(0, .box [ls 3 CD c.elems, ls 4 Cx c.joins, ls 4 BT c.signals, ls 2 Bf c.lines, li c.top, li c.brake, li c.margin, li c.throw, lb c.hard, .lmap 2, .lmap 3, .lmap 4, .lmap 5]), (1, .box [.p (.str k.name), ls 1 Ae k.elems]), (2, .map (Ao (fun x => .agg (AV x)) (fun x => .agg (AV x)) f.2)), (3, .map (Ao (fun x => .agg (AV x)) (.int .i64) j.2)), (4, .map (Ao (.int .i64) (fun x => .agg (FD x)) e.2.1)), (5, .map (Ao (.int .i64) (.int .i64) e.2.2))], 6⟩) ap (fun n aq => ?_) (fun n aw => ?_)))))
    .refine By AA mixed [0, 1, 2, 3, 4, 5, 6, 7, 8, 9] 10 (by kernel_rfl) Z Z Z ?_
     refine As 2 Z <| Db 100 aq Z Z Z (fun ar => ?_) (fun av => ?_)
     .exact As 4 Z <| bq ar fun bp ad au => Au Z (Al Z (Ab ad Z Z Z <| BF Z <| AL au (wf hA [(0, 0), (1, 5), (2, 1), (3, 2), (4, 3), (5, 4)] Z Z Z)))
     exact BF Z <| AL av (wf hA [(0, 0), (1, 5), (2, 1), (3, 2), (4, 3), (5, 4)] Z Z Z)
    refine cd Z aw (fun ax => ?_) (fun az => ?_)
    .exact rg AA <| rl Z <| AL ax (wf hA (gi 6 []) Z Z Z)
    exact AE <| AL az (wf hA (gi 6 []) Z Z Z)
   exact AE <| AL a0 (wf hA [(0, 0), (1, 5), (2, 1), (3, 2), (4, 3), (5, 4)] Z Z Z)
  refine rs AA <| rn 2 Z <| sx Z (Ac Z Z <| rl Z <| AH ?_)
  apply lp (a := aa) (fun g : (Int × Int × (List (Int × B1)) × (List (Int × Int))) => ⟨148, [(5, .lpb 0 0), (10, li e.1), (12, li g.1), (75, ls 2 Bf d.lines), (76, li (d.lines.length : Int)), (77, li e.1), (110, ls 1 Ae k.elems), (111, li (k.elems.length : Int)), (112, li g.2.1)], [(0, .box [ls 3 CD c.elems, ls 4 Cx c.joins, ls 4 BT c.signals, ls 2 Bf c.lines, li c.top, li c.brake, li c.margin, li c.throw, lb c.hard, .lmap 1, .lmap 2, .lmap 3, .lmap 4]), (1, .map (Ao (fun x => .agg (AV x)) (fun x => .agg (AV x)) f.2)), (2, .map (Ao (fun x => .agg (AV x)) (.int .i64) j.2)), (3, .map (Ao (.int .i64) (fun x => .agg (FD x)) g.2.2.1)), (4, .map (Ao (.int .i64) (.int .i64) g.2.2.2))], 5⟩) a1
  . exact wf hA [(0, 0), (1, 2), (2, 3), (3, 4), (4, 5)] Z Z Z
  intro g bm q
  unfold Hb at q
  refine rs AA <| rl Z <| AB <| cd Z q (fun a2 => ?_) (fun a4 => ?_)
  .refine AE <| AC <| AB <| AH <| rs AA <| rn 1 Z <| bq a2 fun l ae a3 => sx Z (Ab ae Z Z Z <| rl Z <| AB ?_)
   refine By AA mixed [0, 1, 2, 3, 4, 5, 6, 7, 8, 9, 10, 11, 12, 13, 14, 15, 16, 17, 18, 19] 20 (by kernel_rfl) Z Z Z ?_
   exact As 14 Z <| Au Z (Al Z (Rf (et := 161) (ke := (.int .i64)) (ve := (fun x => .agg (FD x))) (mp := g.2.2.1) (y := l) (⟨0, 0⟩ : B1) GP Z Z Z Z Z Z <| As 1 Z <| Au Z (Al Z (Rg (ke := (.int .i64)) (ve := (fun x => .agg (FD x))) (mp := g.2.2.1) (y := l) (z := (⟨0, 0⟩ : B1)) (w := (⟨e.1, g.2.1⟩ : B1)) Z Z Z Z Z <| Au Z (Al Z (Rf (et := 3) (ke := (.int .i64)) (ve := (.int .i64)) (mp := g.2.2.2) (y := l) 0 GP Z Z Z Z Z Z <| As 1 Z <| Au Z (Al Z (Rg (ke := (.int .i64)) (ve := (.int .i64)) (mp := g.2.2.2) (y := l) (z := 0) (w := g.1) Z Z Z Z Z <| BF Z <| AC <| rg AA <| rn 8 Z <| sx Z (LL (et := 40) (ke := (fun x => .agg (AV x))) (ve := (fun x => .agg (AV x))) (mp := f.2) (y := (⟨l, AO (1 - g.1)⟩ : AI)) (⟨0, 0⟩ : AI) CK Z Z Z Z <| rl Z <| Ad <| AC <| rg AA <| rl Z <| Aq a3 (wf hA (gi 5 []) Z Z Z))))))))))
  exact AU <| AX <| BH a4 fun bk a5 => Am <| Ad <| AC <| rg AA <| rl Z <| Aq a5 (wf hA (gi 5 []) Z Z Z)
 refine AU <| AX <| BH a6 fun bl a7 => Am <| AC <| rs AA <| rl Z <| AF ?_
 cases a7
 exact er (Rb Z (.cons (.box Z (.cons (.p _) (.cons (.p _) (.cons (.p _) (.cons (.p _) (.cons (.p _) (.cons (.p _) (.cons (.p _) (.cons (.p _) (.cons (.p _) (.cons (.map Z) (.cons (.map Z) (.cons (.map Z) (.cons (.map Z) .nil)))))))))))))) (.cons (.one (.p _)) .nil))) Le.rfl
noncomputable def Dx (a : A0) : Option Int :=
 some (a.p.signals.length : Int)
theorem QL (a : A0) (r : Int) (h : Dx a = some r) : Aw Tryz.prog 111 [.place (Ar a) 0] (· = .int .i64 r) := by
 refine fn AA Tryz.func111 Z Z 9 Z [.tmp 2] Z [(0, .p (.place (Ar a) 0))] Z Z fun A hA => ?_
 unfold Dx at h
 refine rs AA <| rl Z <| rs AA <| rn 5 Z <| sx Z (Ac Z Z <| rl Z <| AF ?_)
 cases h
 exact er Z Le.rfl
noncomputable def Cd (b : A0) (a : Int) : Option (AI × Bool) :=
 ((bif decide (a < 0) then some true else some (decide ((b.p.signals.length : Int) <= a)) : Option (Bool))).bind fun (c : Bool) => bif c then some ((⟨0, 0⟩ : AI), false) else (Aa b.p.signals a).bind fun d => some (d.at_, true)
theorem HR (a : A0) (b : Int) (r : (AI × Bool)) (h : Cd a b = some r) : Aw Tryz.prog 37 [.place (Ar a) 0, .int .i64 b] (· = .tup [.agg (AV r.1), .bool r.2]) := by
 refine fn AA Tryz.func37 Z Z 28 Z [.cell 4 40, .tmp 5] Z [(0, .p (.place (Ar a) 0)), (1, .p (.int .i64 b))] Z Z fun A hA => ?_
 unfold Cd at h
 refine rs AA <| rl Z <| AB <| jb (fun c : Bool => ⟨28, [(0, lq (Ar a)), (1, li b), (4, .lpb 0 0), (17, lb c)], [(0, .box [li 0, li 0])], 1⟩) h (fun c e => ?_) (fun c i => ?_)
 .refine rg AA <| rn 3 Z <| gs 8 e Z Z Z (fun f => ?_) (fun g => ?_)
  .exact rl Z <| AL f (wf hA [(0, 0)] Z Z Z)
  exact rn 6 Z <| sx Z (Ac Z Z <| rl Z <| AL g (wf hA [(0, 0)] Z Z Z))
 refine cd Z i (fun j => ?_) (fun k => ?_)
 .refine rs AA <| rl Z <| AF <| AG ?_
  cases j
  exact er Z Le.rfl
 refine AE <| AC <| rs AA <| rn 6 Z <| bq k fun m d l => sx Z (Ab d Z Z Z <| rl Z <| AF ?_)
 cases l
 exact er Z Le.rfl
noncomputable def Bd (a : A0) (b : AI) : Option (AI × Bool) :=
 some (((An a.next b).getD (⟨0, 0⟩ : AI)), (An a.next b).isSome)
theorem CG (a : A0) (b : AI) (r : (AI × Bool)) (h : Bd a b = some r) : Aw Tryz.prog 72 [.place (Ar a) 0, .agg (AV b)] (· = .tup [.agg (AV r.1), .bool r.2]) := by
 refine fn AA Tryz.func72 Z Z 19 Z [.cell 4 40, .tmp 5] Z [(0, .p (.place (Ar a) 0)), (1, .p (.agg (AV b)))] Z Z fun A hA => ?_
 unfold Bd at h
 refine rs AA <| rl Z <| AB ?_
 refine By AA mixed [0, 1, 2, 3, 4, 5, 6, 7, 8, 9, 10, 11] 12 (by kernel_rfl) Z Z Z ?_
 refine As 5 Z <| Au Z (Al Z (KL (et := 40) (ke := (fun x => .agg (AV x))) (ve := (fun x => .agg (AV x))) (mp := a.next) (y := b) (⟨0, 0⟩ : AI) CK Z Z Z Z <| BF Z <| AC <| rs AA <| rl Z <| AF ?_))
 cases h
 exact er Z Le.rfl
noncomputable def Dy (a : Ag) (b : Int) : Option Bool :=
 some (a.elem == b)
theorem QM (a : Ag) (b : Int) (r : Bool) (h : Dy a b = some r) : Aw Tryz.prog 165 [.agg (Ay a), .place (Ae b) 0] (· = .bool r) := by
 refine fn AA Tryz.func165 Z Z 8 Z [.tmp 3] Z [(0, .p (.agg (Ay a))), (1, .p (.place (Ae b) 0))] Z Z fun A hA => ?_
 unfold Dy at h
 refine rs AA <| rl Z <| rs AA <| rl Z <| AF ?_
 cases h
 exact er Z Le.rfl
noncomputable def BP (b : (List Ag)) (x1_0 : Int) (a : Int) : Option (Int ⊕ Int) :=
 bif decide (a < (b.length : Int)) then (Aa b a).bind fun c => (Dy c x1_0).bind fun d => bif d then some (.inr a) else some (.inl (AO (a + 1))) else some (.inr (-1))
noncomputable def Bm (b : (List Ag)) (x1_0 : Int) : Option Bool :=
 ((AR (BP b x1_0) 0 : Option (Int))).bind fun (a : Int) => some (decide (0 <= a))
theorem IL (b : (List Ag)) (x1_0 : Int) (r : Bool) (h : Bm b x1_0 = some r) : Aw Tryz.prog 150 [.slice 3 (b.map Ay), .fn 165 [.place (Ae x1_0) 0]] (· = .bool r) := by
 refine fn AA Tryz.func150 Z Z 9 Z [.tmp 4] Z [(0, .p (.slice 3 (b.map Ay))), (1, .p (.fn 165 [.place (Ae x1_0) 0]))] Z Z fun A hA => ?_
 unfold Bm at h
 refine Nz (Zl 1 Z) <| rs AA <| rl Z <| rs AA <| rn 2 Z <| sx Z (CW AA (fun c : Int => li c) (fun c : Int => []) 0 h Tryz.func167 19 [.tmp 4] [(0, ls 3 Ay b), (1, .fn 165 [lq (Ae x1_0)])] Z Z Z Z Z Z Z Z (fun A hA c i => ?_) (fun c t => ?_))
 .refine rs AA <| rl Z <| AB <| rs AA <| rn 1 Z <| sx Z (Ac Z Z <| rl Z <| AH ?_)
  apply lp (a := c) (fun d : Int => ⟨19, [(0, ls 3 Ay b), (1, .fn 165 [lq (Ae x1_0)]), (7, li (b.length : Int)), (8, li d)], [], 0⟩) i
  . exact wj hA [] Z Z Z Z
  intro d w e
  unfold BP at e
  refine rs AA <| rl Z <| AB <| cd Z e (fun j => ?_) (fun q => ?_)
  .refine AE <| AC <| AB <| AH <| rs AA <| rl Z <| rs AA <| rn 3 Z <| bq j fun x f k => sx Z (Ab f Z Z Z <| rn 1 Z <| bq k fun y g l => sx Z (AM (QM _ _ _ g) (.inl Z) Z Z Z <| rl Z <| cd Z l (fun m => ?_) (fun o => ?_)))
   .refine rs AA <| rl Z <| AF <| AN <| AG <| Az m fun u n => AN <| AG ?_
    have hr := Option.some.inj n; subst hr
    exact CZ (nt := 19) (sl := [(4, li d)]) (wj hA [] Z Z Z Z) Z
   exact AE <| Ad <| AC <| rg AA <| rl Z <| Aq o (wj hA [] Z Z Z Z)
  refine AU <| AX <| BH q fun v s => Am <| AC <| rs AA <| rl Z <| AF ?_
  cases s
  exact CZ (nt := 19) (sl := [(4, li (-1))]) (wj hA [] Z Z Z Z) Z
 refine rl Z <| AF ?_
 cases t
 exact er Z Le.rfl
noncomputable def Ey (a : OK) (b : Int) : Option Bool :=
 ((bif decide ((a.steps.length : Int) < 12) then bif (b != a.berth) then (Bm a.steps b).bind fun d => some (!d) else some false else some false : Option (Bool))).bind fun (c : Bool) => some c
theorem Rt (b : OK) (c : Int) (r : Bool) (h : Ey b c = some r) : Aw Tryz.prog 146 [.place (TK b) 0, .int .i64 c] (· = .bool r) := by
 refine fn AA Tryz.func146 Z Z 28 Z [.tmp 4] Z [(0, .p (.place (TK b) 0)), (1, .p (.int .i64 c))] Z Z fun A hA => ?_
 unfold Ey at h
 refine rs AA <| rl Z <| jb (fun a : Bool => ⟨28, [(4, lb a)], [], 0⟩) h (fun a k => ?_) (fun a j => ?_)
 .refine By AA mixed [0, 1, 2, 3, 4, 5, 6, 7, 8, 9, 10, 11, 12, 13, 14, 15, 16, 17, 18, 19, 20, 21, 22, 23] 24 (by kernel_rfl) Z Z Z ?_
  refine As 4 Z <| Au Z (Kj Z Z <| As 2 Z <| Db 11 k Z Z Z (fun l => ?_) (fun i => ?_))
  .refine As 8 Z <| Db 19 l Z Z Z (fun e => ?_) (fun g => ?_)
   .exact As 5 Z <| bq e fun m d f => Au Z (A2 (IL _ _ _ d) (.inl Z) Z Z (Dm.eq (.cons (.one (.p _)) (.cons (.fn (.box Z (.cons (.p _) .nil) .nil)) .nil))) <| BF Z <| AL f (wf hA [] Z Z Z))
   exact BF Z <| AL g (wf hA [] Z Z Z)
  exact BF Z <| AL i (wf hA [] Z Z Z)
 refine AF ?_
 have hr := Option.some.inj j; subst hr
 exact er Z Le.rfl
noncomputable def EM (b : A0) (a : Int) : Option Cy :=
 ((bif decide (a < 0) then some true else some (decide ((b.p.elems.length : Int) <= a)) : Option (Bool))).bind fun (c : Bool) => bif c then some (⟨ByteArray.empty, 0, 0⟩ : Cy) else (Aa b.p.elems a).bind fun d => some d
theorem NY (a : A0) (b : Int) (r : Cy) (h : EM a b = some r) : Aw Tryz.prog 69 [.place (Ar a) 0, .int .i64 b] (· = .agg (CD r)) := by
 refine fn AA Tryz.func69 Z Z 26 Z [.cell 4 123] Z [(0, .p (.place (Ar a) 0)), (1, .p (.int .i64 b))] Z Z fun A hA => ?_
 unfold EM at h
 refine rs AA <| rl Z <| AB <| jb (fun c : Bool => ⟨26, [(0, lq (Ar a)), (1, li b), (4, .lpb 0 0), (16, lb c)], [(0, .box [.p (.str ByteArray.empty), li 0, li 0])], 1⟩) h (fun c e => ?_) (fun c i => ?_)
 .refine rg AA <| rn 3 Z <| gs 7 e Z Z Z (fun f => ?_) (fun g => ?_)
  .exact rl Z <| AL f (wf hA [(0, 0)] Z Z Z)
  exact rn 6 Z <| sx Z (Ac Z Z <| rl Z <| AL g (wf hA [(0, 0)] Z Z Z))
 refine cd Z i (fun j => ?_) (fun k => ?_)
 .refine rs AA <| rl Z <| AF <| AG ?_
  cases j
  exact er Z Le.rfl
 refine AE <| AC <| rs AA <| rn 6 Z <| bq k fun m d l => sx Z (Ab d Z Z Z <| rl Z <| AF ?_)
 have hr := Option.some.inj l; subst hr
 exact er Z Le.rfl
noncomputable def BU (a : A0) (b : Int) : Option Int :=
 (EM a b).bind fun c => some c.kind
theorem Br (a : A0) (b : Int) (r : Int) (h : BU a b = some r) : Aw Tryz.prog 38 [.place (Ar a) 0, .int .i64 b] (· = .int .i64 r) := by
 refine fn AA Tryz.func38 Z Z 9 Z [.tmp 4] Z [(0, .p (.place (Ar a) 0)), (1, .p (.int .i64 b))] Z Z fun A hA => ?_
 unfold BU at h
 refine rs AA <| rl Z <| rs AA <| rn 2 Z <| bq h fun e c d => sx Z (AM (NY _ _ _ c) (.inl Z) Z Z Z <| rl Z <| AF ?_)
 cases d
 exact er Z Le.rfl
noncomputable def EN (c : A0) (d : Int) (a : Int) : Option (List Bi) :=
 ((bif decide (a < 0) then some true else (BU c d).bind fun f => (FA f).bind fun g => some (decide (g <= a)) : Option (Bool))).bind fun (e : Bool) => bif e then some [] else (BU c d).bind fun b => bif (b == 1) then some [(⟨AO (1 - a), 0⟩ : Bi)] else bif (b == 3) then (Aa ([1, 0, 3, 2] : List Int) a).bind fun h => some [(⟨h, 0⟩ : Bi)] else bif (b == 2) then bif (a == 0) then some [(⟨1, 1⟩ : Bi), (⟨2, 2⟩ : Bi)] else (Aa ([0, 1, 2] : List Int) a).bind fun i => some [(⟨0, i⟩ : Bi)] else some []
theorem NZ (b : A0) (c : Int) (a : Int) (r : (List Bi)) (h : EN b c a = some r) : Aw Tryz.prog 166 [.place (Ar b) 0, .int .i64 c, .int .i64 a] (· = .slice 2 (r.map Dt)) := by
 refine fn AA Tryz.func166 Z Z 47 Z [.tmp 6] Z [(0, .p (.place (Ar b) 0)), (1, .p (.int .i64 c)), (2, .p (.int .i64 a))] Z Z fun A hA => ?_
 unfold EN at h
 refine rs AA <| rl Z <| AB <| jb (fun d : Bool => ⟨47, [(0, lq (Ar b)), (1, li c), (2, li a), (17, lb d)], [], 0⟩) h (fun d m => ?_) (fun d t => ?_)
 .refine rg AA <| rn 3 Z <| gs 10 m Z Z Z (fun n => ?_) (fun o => ?_)
  .exact rl Z <| AL n (wf hA [] Z Z Z)
  exact rn 3 Z <| bq o fun ak f q => sx Z (AM (Br _ _ _ f) (.inl Z) Z Z Z <| bq q fun al i s => sx Z (AM (KP _ _ i) (.inl Z) Z Z Z <| rl Z <| AL s (wf hA [] Z Z Z)))
 refine cd Z t (fun u => ?_) (fun v => ?_)
 .refine rs AA <| rl Z <| AF <| AG ?_
  cases u
  exact er Z (Le.nil _)
 refine AE <| AC <| AB <| rs AA <| rn 2 Z <| bq v fun am j w => sx Z (AM (Br _ _ _ j) (.inl Z) Z Z Z <| rl Z <| AH <| rs AA <| rl Z <| cd Z w (fun x => ?_) (fun z => ?_))
 .refine rs AA <| rl Z <| AF <| AN <| AG ?_
  cases x
  exact er (I6 Z (.one (.own (enc := Dt) ([(⟨AO (1 - a), 0⟩ : Bi)] : List Bi) Z Z))) Le.rfl
 refine rs AA <| rl Z <| cd Z z (fun aa => ?_) (fun ac => ?_)
 .refine rs AA <| rl Z <| rs AA <| rn 1 Z <| bq aa fun ai e ab => sx Z (XX (l := ([1, 0, 3, 2] : List Int)) e Z Z Z Z <| sx Z (XZ (g := fun y => .p (.int .i64 y)) e Z Z Z Z <| rl Z <| AF <| AN <| AG ?_))
  cases ab
  exact er (I6 Z (.one (.own (enc := Dt) ([(⟨ai, 0⟩ : Bi)] : List Bi) Z Z))) Le.rfl
 refine rs AA <| rl Z <| cd Z ac (fun ad => ?_) (fun ah => ?_)
 .refine AB <| rs AA <| rl Z <| cd Z ad (fun ae => ?_) (fun af => ?_)
  .refine rs AA <| rl Z <| AF <| AG <| AN <| AG ?_
   cases ae
   exact er (I6 Z (.one (.own (enc := Dt) ([(⟨1, 1⟩ : Bi), (⟨2, 2⟩ : Bi)] : List Bi) Z Z))) Le.rfl
  refine AE <| AC <| rs AA <| rn 2 Z <| bq af fun aj k ag => sx Z (ACA (l := ([0, 1, 2] : List Int)) (g := fun y => .int .i64 y) k Z Z Z Z <| rl Z <| AF <| AN <| AG ?_)
  cases ag
  exact er (I6 Z (.one (.own (enc := Dt) ([(⟨0, aj⟩ : Bi)] : List Bi) Z Z))) Le.rfl
 refine AE <| Ad <| AC <| rs AA <| rl Z <| AF ?_
 cases ah
 exact er Z (Le.nil _)
noncomputable def BX (a : (List Ag)) : Option (List Ag) :=
 Mq a (some []) ((Bq ([] : List Ag) a).bind fun b => some b)
theorem Mz (a : (List Ag)) (r : (List Ag)) (h : BX a = some r) : Aw Tryz.prog 113 [.slice 3 (a.map Ay)] (· = .slice 3 (r.map Ay)) := by
 refine fn AA Tryz.func113 Z Z 8 Z [.tmp 2] Z [(0, .p (.slice 3 (a.map Ay)))] Z Z fun A hA => ?_
 unfold BX at h
 refine rs AA <| rl Z <| AB <| rs AA <| rn 1 Z <| sx Z (Kl h Z Z Z (fun d => ?_) (fun e => ?_))
 .refine rl Z <| RX Z <| rs AA <| rl Z <| AF <| AG ?_
  cases d
  exact er Z (Le.nil _)
 refine rl Z <| S8 Z <| AE <| AC <| rs AA <| rn 2 Z <| bq e fun f b c => sx Z (BV (enc := Ay) (l := ([] : List Ag)) (m := a) b (fun _ => ⟨Z, Z⟩) Z Z Z Z Z Z <| rl Z <| AF ?_)
 have hr := Option.some.inj c; subst hr
 exact er (I6 Z (.one (.own (enc := Ay) f Z Z))) Le.rfl
theorem Ee (a : (List Ag)) (r : (List Ag)) (h : BX a = some r) : HG Tryz.prog 113 [.slice 3 (a.map Ay)] 76 3 (r.map Ay) := by
 refine fnN (enc := Ay) (fun _ => ⟨Z, Z⟩) Tryz.func113 Z Z 8 Z 2 Z [(0, .p (.slice 3 (a.map Ay)))] Z Z fun A hA => ?_
 unfold BX at h
 refine rs AA <| rl Z <| AB <| rs AA <| rn 1 Z <| sx Z (Kl h Z Z Z (fun d => ?_) (fun e => ?_))
 .refine rl Z <| RX Z <| rs AA <| rl Z <| AF <| AG ?_
  cases d
  exact ABG Z
 refine rl Z <| S8 Z <| AE <| AC <| rs AA <| rn 2 Z <| bq e fun f b c => sx Z (BV (enc := Ay) (l := ([] : List Ag)) (m := a) b (fun _ => ⟨Z, Z⟩) Z Z Z Z Z Z <| rl Z <| AF ?_)
 have hr := Option.some.inj c; subst hr
 exact erN Z Z Z
noncomputable def Ca (a : A0) (b : AI) : Option Int :=
 bif (An a.reads b).isSome then some ((An a.reads b).getD 0) else some (-1)
theorem G3 (a : A0) (b : AI) (r : Int) (h : Ca a b = some r) : Aw Tryz.prog 43 [.place (Ar a) 0, .agg (AV b)] (· = .int .i64 r) := by
 refine fn AA Tryz.func43 Z Z 18 Z [.tmp 4] Z [(0, .p (.place (Ar a) 0)), (1, .p (.agg (AV b)))] Z Z fun A hA => ?_
 unfold Ca at h
 refine rs AA <| rl Z <| AB <| AB ?_
 refine By AA mixed [0, 1, 2, 3, 4, 5, 6, 7, 8, 9, 10] 11 (by kernel_rfl) Z Z Z ?_
 refine As 5 Z <| Au Z (Al Z (KL (et := 3) (ke := (fun x => .agg (AV x))) (ve := (.int .i64)) (mp := a.reads) (y := b) 0 CK Z Z Z Z <| BF Z <| AC <| rs AA <| rl Z <| cd Z h (fun c => ?_) (fun d => ?_)))
 .refine rs AA <| rl Z <| AF <| AG ?_
  cases c
  exact er Z Le.rfl
 refine AE <| AC <| rs AA <| rl Z <| AF ?_
 cases d
 exact er Z Le.rfl
end Go.E
/- Plain functions, and walks in step with them. Written by a program (gen.py). No condition. -/
set_option maxRecDepth 100000
set_option maxHeartbeats 1000000
namespace Go.E
open Go Go.RowKit Go.Proofs
noncomputable def L4 (b : ((List Ag) × (List Int) × (List (List Bi)))) (d : (List Ag)) (a : Int × (List Ap)) : Option ((Int × (List Ap)) ⊕ ((List Ag) × (List Ap))) :=
 bif decide (a.1 < (b.1.length : Int)) then (((Aa b.1 a.1).bind fun e => (Aa b.2.1 a.1).bind fun f => bif (f != 0) then (Aa b.2.1 a.1).bind fun g => (Bq a.2 [(⟨e.elem, g⟩ : Ap)]).bind fun h => some h else some a.2 : Option ((List Ap)))).bind fun (c : (List Ap)) => some (.inl (AO (a.1 + 1), c)) else some (.inr (d, a.2))
noncomputable def L5 (a : ((List Aj) × (List Ag) × (List Int) × (List (List Bi)))) (c : Bi) (d : Ag) (f : (List Ag)) (b : Int × (List Ap)) : Option ((Int × (List Ap)) ⊕ ((List Ag) × (List Ap))) :=
 bif decide (b.1 < ((A7 a.2.1 (AO ((a.2.1.length : Int) - 1)) (⟨d.elem, d.in_, c.out⟩ : Ag)).length : Int)) then (((Aa (A7 a.2.1 (AO ((a.2.1.length : Int) - 1)) (⟨d.elem, d.in_, c.out⟩ : Ag)) b.1).bind fun g => (Aa (A7 a.2.2.1 (AO ((a.2.1.length : Int) - 1)) c.pos) b.1).bind fun h => bif (h != 0) then (Aa (A7 a.2.2.1 (AO ((a.2.1.length : Int) - 1)) c.pos) b.1).bind fun i => (Bq b.2 [(⟨g.elem, i⟩ : Ap)]).bind fun j => some j else some b.2 : Option ((List Ap)))).bind fun (e : (List Ap)) => some (.inl (AO (b.1 + 1), e)) else some (.inr (f, b.2))
noncomputable def L6 (a : ((List Aj) × (List Ag) × (List Int) × (List (List Bi)))) (c : Bi) (d : Ag) (f : (List Ag)) (b : Int × (List Ap)) : Option ((Int × (List Ap)) ⊕ ((List Ag) × (List Ap))) :=
 bif decide (b.1 < ((A7 a.2.1 (AO ((a.2.1.length : Int) - 1)) (⟨d.elem, d.in_, c.out⟩ : Ag)).length : Int)) then (((Aa (A7 a.2.1 (AO ((a.2.1.length : Int) - 1)) (⟨d.elem, d.in_, c.out⟩ : Ag)) b.1).bind fun g => (Aa (A7 a.2.2.1 (AO ((a.2.1.length : Int) - 1)) c.pos) b.1).bind fun h => bif (h != 0) then (Aa (A7 a.2.2.1 (AO ((a.2.1.length : Int) - 1)) c.pos) b.1).bind fun i => (Bq b.2 [(⟨g.elem, i⟩ : Ap)]).bind fun j => some j else some b.2 : Option ((List Ap)))).bind fun (e : (List Ap)) => some (.inl (AO (b.1 + 1), e)) else some (.inr (f, b.2))
noncomputable def CF (i : A0) (j : Int) (a : (List Aj) × (List Ag) × (List Int) × (List (List Bi))) : Option (((List Aj) × (List Ag) × (List Int) × (List (List Bi))) ⊕ ((Int × Int × (List Aj) × (List Ag) × (List Int) × (List (List Bi))) ⊕ (List Aj))) :=
 bif decide (0 < (a.2.1.length : Int)) then (Aa a.2.2.2 (AO ((a.2.1.length : Int) - 1))).bind fun n => bif ((n.length : Int) == 0) then (((MU a.2.1 0 (AO ((a.2.1.length : Int) - 1))).bind fun o => (MU a.2.2.1 0 (AO ((a.2.1.length : Int) - 1))).bind fun p => (MU a.2.2.2 0 (AO ((a.2.1.length : Int) - 1))).bind fun q => some (o, p, q) : Option ((List Ag) × (List Int) × (List (List Bi))))).bind fun (d : (List Ag) × (List Int) × (List (List Bi))) => some (.inl (a.1, d.1, d.2.1, d.2.2)) else (Aa a.2.2.2 (AO ((a.2.1.length : Int) - 1))).bind fun r => (Aa r 0).bind fun c => (Aa a.2.2.2 (AO ((a.2.1.length : Int) - 1))).bind fun k => (LC k 1 (k.length : Int)).bind fun e => (Aa a.2.2.2 (AO ((a.2.1.length : Int) - 1))).bind fun w => (Aa a.2.1 (AO ((a.2.1.length : Int) - 1))).bind fun b => (Aa a.2.2.1 (AO ((a.2.1.length : Int) - 1))).bind fun x => (Aa (A7 a.2.1 (AO ((a.2.1.length : Int) - 1)) (⟨b.elem, b.in_, c.out⟩ : Ag)) (AO ((a.2.1.length : Int) - 1))).bind fun l => (Ca i (⟨l.elem, c.out⟩ : AI)).bind fun m => bif decide (0 <= m) then (((BX (A7 a.2.1 (AO ((a.2.1.length : Int) - 1)) (⟨b.elem, b.in_, c.out⟩ : Ag))).bind fun s => AR (L5 a c b s) (0, ([] : List Ap)) : Option ((List Ag) × (List Ap)))).bind fun (g : (List Ag) × (List Ap)) => (Bq a.1 ([(⟨j, m, 1, g.1, g.2, ([] : List Ap), ([] : List Int), ([] : List Int), false⟩ : Aj)])).bind fun t => some (.inl (t, A7 a.2.1 (AO ((a.2.1.length : Int) - 1)) (⟨b.elem, b.in_, c.out⟩ : Ag), A7 a.2.2.1 (AO ((a.2.1.length : Int) - 1)) c.pos, A7 a.2.2.2 (AO ((a.2.1.length : Int) - 1)) e)) else (Bd i (⟨l.elem, c.out⟩ : AI)).bind fun f => bif (!f.2) then (((BX (A7 a.2.1 (AO ((a.2.1.length : Int) - 1)) (⟨b.elem, b.in_, c.out⟩ : Ag))).bind fun u => AR (L6 a c b u) (0, ([] : List Ap)) : Option ((List Ag) × (List Ap)))).bind fun (h : (List Ag) × (List Ap)) => (Bq a.1 ([(⟨j, (-1), 3, h.1, h.2, ([] : List Ap), ([] : List Int), ([] : List Int), false⟩ : Aj)])).bind fun v => some (.inl (v, A7 a.2.1 (AO ((a.2.1.length : Int) - 1)) (⟨b.elem, b.in_, c.out⟩ : Ag), A7 a.2.2.1 (AO ((a.2.1.length : Int) - 1)) c.pos, A7 a.2.2.2 (AO ((a.2.1.length : Int) - 1)) e)) else some (.inr (.inl (f.1.elem, f.1.fin, a.1, A7 a.2.1 (AO ((a.2.1.length : Int) - 1)) (⟨b.elem, b.in_, c.out⟩ : Ag), A7 a.2.2.1 (AO ((a.2.1.length : Int) - 1)) c.pos, A7 a.2.2.2 (AO ((a.2.1.length : Int) - 1)) e))) else some (.inr (.inr a.1))
noncomputable def CO (d : A0) (f : Int) (o : (AI × Bool)) (a : Int × Int × (List Aj) × (List Ag) × (List Int) × (List (List Bi))) : Option ((Int × Int × (List Aj) × (List Ag) × (List Int) × (List (List Bi))) ⊕ (List Aj)) :=
 (((Ey (⟨o.1.elem, a.2.2.2.1, a.2.2.2.2.1, a.2.2.2.2.2⟩ : OK) a.1).bind fun g => bif g then (((Bq a.2.2.2.1 [(⟨a.1, a.2.1, (-1)⟩ : Ag)]).bind fun h => (Bq a.2.2.2.2.1 [0]).bind fun i => (EN d a.1 a.2.1).bind fun j => (Bq a.2.2.2.2.2 [j]).bind fun k => some (h, i, k) : Option ((List Ag) × (List Int) × (List (List Bi))))).bind fun (b : (List Ag) × (List Int) × (List (List Bi))) => (BU d a.1).bind fun l => bif (l == 4) then (((BX b.1).bind fun m => AR (L4 b m) (0, ([] : List Ap)) : Option ((List Ag) × (List Ap)))).bind fun (e : (List Ag) × (List Ap)) => (Bq a.2.2.1 ([(⟨f, (-1), 2, e.1, e.2, ([] : List Ap), ([] : List Int), ([] : List Int), false⟩ : Aj)])).bind fun n => some (n, b.1, b.2.1, b.2.2) else some (a.2.2.1, b.1, b.2.1, b.2.2) else some (a.2.2.1, a.2.2.2.1, a.2.2.2.2.1, a.2.2.2.2.2) : Option ((List Aj) × (List Ag) × (List Int) × (List (List Bi))))).bind fun (c : (List Aj) × (List Ag) × (List Int) × (List (List Bi))) => AR (CF d f) (c.1, c.2.1, c.2.2.1, c.2.2.2)
noncomputable def Kt (a : A0) (d : Int) : Option (List Aj) :=
 (Cd a d).bind fun c => bif (!c.2) then some [] else (Bd a c.1).bind fun b => bif (!b.2) then some [] else AR (CO a d c) (b.1.elem, b.1.fin, ([] : List Aj), ([] : List Ag), ([] : List Int), ([] : List (List Bi)))
theorem Yn (t : A0) (g : Int) (r : (List Aj)) (h : Kt t g = some r) : Aw Tryz.prog 112 [.place (Ar t) 0, .int .i64 g] (· = .slice 9 (r.map A6)) := by
 refine fn AA Tryz.func112 Z Z 157 Z [.tmp 4] Z [(0, .p (.place (Ar t) 0)), (1, .p (.int .i64 g))] Z Z fun A hA => ?_
 unfold Kt at h
 refine rs AA <| rl Z <| sc <| rs AA <| rn 2 Z <| bq h fun j bu ef => sx Z (AM (HR _ _ _ bu) (.inl Z) Z Z Z <| rl Z <| AB <| rs AA <| rl Z <| cd Z ef (fun eg => ?_) (fun eh => ?_))
 .refine rs AA <| rl Z <| AF <| AG <| JL ?_
  cases eg
  exact er Z (Le.nil _)
 refine AE <| AC <| rs AA <| rn 2 Z <| bq eh fun e2 a8 bv => sx Z (AM (CG _ _ _ a8) (.inl Z) Z Z Z <| rl Z <| AB <| rs AA <| rl Z <| cd Z bv (fun bw => ?_) (fun bx => ?_))
 .refine rs AA <| rl Z <| AF <| AG <| JL ?_
  cases bw
  exact er Z (Le.nil _)
 refine AE <| AC <| rs AA <| rl Z <| rs AA <| rl Z <| AB <| KY <| AC <| AB <| AH ?_
 apply lp (a := r) (fun d : (Int × Int × (List Aj) × (List Ag) × (List Int) × (List (List Bi))) => ⟨157, [(0, lq (Ar t)), (1, li g), (7, .lpb 0 0), (8, .lsl 1 9 0 d.2.2.1.length), (9, .lpb 2 0)], [(0, .box [li d.1, li d.2.1]), (1, .row 72 9 (d.2.2.1.map A6)), (2, .box [li j.1.elem, .lsl 3 3 0 d.2.2.2.1.length, .lsl 4 1 0 d.2.2.2.2.1.length, .lsl 5 1 0 d.2.2.2.2.2.length]), (3, .row 76 3 (d.2.2.2.1.map Ay)), (4, .row 3 1 (d.2.2.2.2.1.map Ae)), (5, .row 215 1 (d.2.2.2.2.2.map (Dj 2 Dt)))], 6⟩) bx
 . exact A8.trans (CI 8 72 9 Z) (A8.trans (CQ 2 1 76 3 Z Z Z Z) (A8.trans (CQ 2 2 3 1 Z Z Z Z) (A8.trans (CQ 2 3 215 1 Z Z Z Z) (wf hA [(0, 1), (1, 3), (2, 2), (3, 4), (4, 5), (5, 6)] Z Z Z))))
 intro d a7 a2
 unfold CO at a2
 refine AH <| sc <| jb (fun k : ((List Aj) × (List Ag) × (List Int) × (List (List Bi))) => ⟨157, [(0, lq (Ar t)), (1, li g), (7, .lpb 0 0), (8, .lsl 1 9 0 k.1.length), (9, .lpb 2 0)], [(0, .box [li d.1, li d.2.1]), (1, .row 72 9 (k.1.map A6)), (2, .box [li j.1.elem, .lsl 3 3 0 k.2.1.length, .lsl 4 1 0 k.2.2.1.length, .lsl 5 1 0 k.2.2.2.length]), (3, .row 76 3 (k.2.1.map Ay)), (4, .row 3 1 (k.2.2.1.map Ae)), (5, .row 215 1 (k.2.2.2.map (Dj 2 Dt)))], 6⟩) a2 (fun k bz => ?_) (fun k cs => ?_)
 .refine rs AA <| rn 3 Z <| bq bz fun e3 a9 b0 => sx Z (AM (Rt _ _ _ a9) (.inl Z) Z Z (Dm.eq (.cons (.box Z (.cons (.p _) (.cons (.own (enc := Ay) d.2.2.2.1 Z Z) (.cons (.own (enc := Ae) d.2.2.2.2.1 Z Z) (.cons (.own (enc := (Dj 2 Dt)) d.2.2.2.2.2 Z Z) .nil))))) (.cons (.one (.p _)) .nil))) <| rl Z <| cd Z b0 (fun b1 => ?_) (fun cr => ?_))
  .refine rs AA <| rn 3 Z <| sx Z (CW AA (fun f : ((List Ag) × (List Int) × (List (List Bi))) => .tup []) (fun f : ((List Ag) × (List Int) × (List (List Bi))) => [(0, .box [li d.1, li d.2.1]), (1, .row 72 9 (d.2.2.1.map A6)), (2, .box [li j.1.elem, .lsl 6 3 0 f.1.length, .lsl 7 1 0 f.2.1.length, .lsl 8 1 0 f.2.2.length]), (6, .row 76 3 (f.1.map Ay)), (7, .row 3 1 (f.2.1.map Ae)), (8, .row 215 1 (f.2.2.map (Dj 2 Dt)))]) 9 b1 Tryz.func147 44 [] [(0, .lpb 2 0), (1, lq (Ar t)), (2, .p (.agg [.int .i64 d.1, .int .i64 d.2.1]))] Z Z Z Z Z Z Z Z (fun A hA f b2 => ?_) (fun f b7 => ?_))
   .refine rs AA <| rl Z <| AB ?_
    refine By AA mixed [0, 1, 2, 3, 4, 5, 6, 7, 8, 9, 10, 11, 12, 13, 14] 15 (by kernel_rfl) Z Z Z ?_
    refine As 11 Z <| bq b2 fun e4 ba b3 => Au Z (Jz Z (BV (enc := Ay) (l := d.2.2.2.1) (m := [(⟨d.1, d.2.1, (-1)⟩ : Ag)]) ba (fun _ => ⟨Z, Z⟩) Z Z Z Z Z Z <| BF Z <| AC <| rs AA <| rn 6 Z <| bq b3 fun e5 bb b4 => sx Z (BV (enc := Ae) (l := d.2.2.2.2.1) (m := [0]) bb (fun _ => ⟨Z, Z⟩) Z Z Z Z Z Z <| rl Z ?_)))
    refine By AA mixed [0, 1, 2, 3, 4, 5, 6, 7, 8, 9, 10, 11, 12, 13, 14, 15] 16 (by kernel_rfl) Z Z Z ?_
    refine As 10 Z <| bq b4 fun ei bc b5 => Au Z (A2 (NZ _ _ _ _ bc) (.inr Z) Z Z Z <| As 1 Z <| bq b5 fun e6 be b6 => Au Z (Jz Z (BV (enc := (Dj 2 Dt)) (l := d.2.2.2.2.2) (m := [ei]) be (fun _ => ⟨Z, Z⟩) Z Z Z Z Z Z <| BF Z ?_)))
    cases b6
    exact MP (nt := 44) (sl := []) (wj hA (gi 6 [(6, 18), (7, 23), (8, 36)]) Z Z Z Z) Z
   refine rl Z <| rs AA <| rn 3 Z <| bq b7 fun e7 bf b8 => sx Z (AM (Br _ _ _ bf) (.inl Z) Z Z Z <| rl Z <| cd Z b8 (fun b9 => ?_) (fun cq => ?_))
   .refine rg AA <| rn 3 Z <| sx Z (CW AA (fun n : ((List Ag) × (List Ap)) => .p (.agg [.int .i64 g, .int .i64 (-1), .int .i64 2, .slice 3 (n.1.map Ay), .slice 2 (n.2.map A1), .slice 2 (([] : List Ap).map A1), .slice 1 (([] : List Int).map Ae), .slice 1 (([] : List Int).map Ae), .bool false])) (fun n : ((List Ag) × (List Ap)) => [(0, .box [li d.1, li d.2.1]), (1, .row 72 9 (d.2.2.1.map A6)), (2, .box [li j.1.elem, .lsl 6 3 0 f.1.length, .lsl 7 1 0 f.2.1.length, .lsl 8 1 0 f.2.2.length]), (6, .row 76 3 (f.1.map Ay)), (7, .row 3 1 (f.2.1.map Ae)), (8, .row 215 1 (f.2.2.map (Dj 2 Dt))), (9, .box [li g, li (-1), li 2, ls 3 Ay n.1, ls 2 A1 n.2, ls 2 A1 ([] : List Ap), ls 1 Ae ([] : List Int), ls 1 Ae ([] : List Int), lb false])]) 10 b9 Tryz.func148 56 [.cell 8 72] [(0, .lpb 2 0), (1, li g), (2, li (-1)), (3, li 2)] Z Z Z Z Z Z Z Z (fun A hA n ca => ?_) (fun n co => ?_))
    .refine rs AA <| rl Z <| rs AA <| rn 7 Z <| bq ca fun ab bg cb => sx Z (OI (Ee _ _ bg) (fun _ => Z) Z Z (Dm.eq (.cons (.one (.own (enc := Ay) f.1 Z Z)) .nil)) <| rl Z <| AB <| rs AA <| rl Z <| AH ?_)
     apply lp (a := n) (fun u : (Int × (List Ap)) => ⟨56, [(0, .lpb 2 0), (8, .lpb 9 0), (9, .lpb 10 0), (24, .lsl 6 3 0 f.1.length), (25, li (f.1.length : Int)), (26, li u.1)], [(0, .box [li d.1, li d.2.1]), (1, .row 72 9 (d.2.2.1.map A6)), (2, .box [li j.1.elem, .lsl 6 3 0 f.1.length, .lsl 7 1 0 f.2.1.length, .lsl 8 1 0 f.2.2.length]), (6, .row 76 3 (f.1.map Ay)), (7, .row 3 1 (f.2.1.map Ae)), (8, .row 215 1 (f.2.2.map (Dj 2 Dt))), (9, .box [li 0, li 0, li 0, .p (.nils), .p (.nils), .p (.nils), .p (.nils), .p (.nils), lb false]), (10, .box [li g, li (-1), li 2, .lsl 11 3 0 ab.length, .lsl 12 2 0 u.2.length, .p (.nils), .p (.nils), .p (.nils), lb false]), (11, .row 76 3 (ab.map Ay)), (12, .row 185 2 (u.2.map A1))], 13⟩) cb
     . exact A8.trans (CQ 11 4 185 2 Z Z Z Z) (wj hA (gi 10 [(10, 11), (11, 10), (12, 12)]) Z Z Z Z)
     intro u ey a3
     unfold L4 at a3
     refine rs AA <| rl Z <| AB <| cd Z a3 (fun cc => ?_) (fun cm => ?_)
     .refine AE <| AC <| jb (fun af : (List Ap) => ⟨56, [(0, .lpb 2 0), (8, .lpb 9 0), (9, .lpb 10 0), (24, .lsl 6 3 0 f.1.length), (25, li (f.1.length : Int)), (26, li u.1)], [(0, .box [li d.1, li d.2.1]), (1, .row 72 9 (d.2.2.1.map A6)), (2, .box [li j.1.elem, .lsl 6 3 0 f.1.length, .lsl 7 1 0 f.2.1.length, .lsl 8 1 0 f.2.2.length]), (6, .row 76 3 (f.1.map Ay)), (7, .row 3 1 (f.2.1.map Ae)), (8, .row 215 1 (f.2.2.map (Dj 2 Dt))), (9, .box [li 0, li 0, li 0, .p (.nils), .p (.nils), .p (.nils), .p (.nils), .p (.nils), lb false]), (10, .box [li g, li (-1), li 2, .lsl 11 3 0 ab.length, .lsl 12 2 0 af.length, .p (.nils), .p (.nils), .p (.nils), lb false]), (11, .row 76 3 (ab.map Ay)), (12, .row 185 2 (af.map A1))], 13⟩) cc (fun af ce => ?_) (fun af cl => ?_)
      .refine AH <| rs AA <| rn 1 Z <| bq ce fun ej aj cf => sx Z (B2 aj Z Z Z Z <| sx Z (DC aj Z Z Z <| rl Z <| rs AA <| rn 5 Z <| bq cf fun e8 ak cg => sx Z (B2 ak Z Z Z Z <| sx Z (DC ak Z Z Z <| rl Z <| cd Z cg (fun ch => ?_) (fun ck => ?_)))))
       .refine By AA mixed [0, 1, 2, 3, 4, 5, 6, 7, 8, 9, 10, 11, 12, 13, 14, 15] 16 (by kernel_rfl) Z Z Z ?_
        exact As 9 Z <| bq ch fun ek al ci => Au Z (Al Z (B2 al Z Z Z Z <| Au Z (HK Z (DC al Z Z Z <| As 2 Z <| bq ci fun e9 bh cj => Au Z (Jz Z (BV (enc := A1) (l := u.2) (m := [(⟨ej.elem, ek⟩ : Ap)]) bh (fun _ => ⟨Z, Z⟩) Z Z Z Z Z Z <| BF Z <| Ad <| AL cj (wj hA (gi 12 [(12, 27)]) Z Z Z Z)))))))
       exact AE <| Ad <| AL ck (wj hA (gi 13 []) Z Z Z Z)
      exact rg AA <| rl Z <| Aq cl (wj hA (gi 13 []) Z Z Z Z)
     refine AU <| AX <| BH cm fun es cn => Am <| AC <| rs AA <| rl Z <| AF ?_
     cases cn
     exact CZ (nt := 56) (sl := [(8, .lpb 9 0)]) (A8.trans (J5 11 (Na (enc := Ay) (l := ab) Z) (.cons 8 (.same _) .nil) (.cons 0 Z Z (.same _) (.cons 1 Z Z (.same _) (.cons 2 Z Z (.same _) (.cons 6 Z Z (.same _) (.cons 7 Z Z (.same _) (.cons 8 Z Z (.same _) (.cons 9 Z Z (.box (.cons (.same _) (.cons (.same _) (.cons (.same _) (.cons .hit (.cons (.same _) (.cons (.same _) (.cons (.same _) (.cons (.same _) (.cons (.same _) .nil)))))))))) (.cons 10 Z Z (.box (.cons (.same _) (.cons (.same _) (.cons (.same _) (.cons .hit (.cons (.same _) (.cons (.same _) (.cons (.same _) (.cons (.same _) (.cons (.same _) .nil)))))))))) (.cons 12 Z Z (.same _) .nil)))))))))) (A8.trans (J5 12 (Na (enc := A1) (l := u.2) Z) (.cons 8 (.same _) .nil) (.cons 0 Z Z (.same _) (.cons 1 Z Z (.same _) (.cons 2 Z Z (.same _) (.cons 6 Z Z (.same _) (.cons 7 Z Z (.same _) (.cons 8 Z Z (.same _) (.cons 9 Z Z (.box (.cons (.same _) (.cons (.same _) (.cons (.same _) (.cons (.same _) (.cons .hit (.cons (.same _) (.cons (.same _) (.cons (.same _) (.cons (.same _) .nil)))))))))) (.cons 10 Z Z (.box (.cons (.same _) (.cons (.same _) (.cons (.same _) (.cons (.same _) (.cons .hit (.cons (.same _) (.cons (.same _) (.cons (.same _) (.cons (.same _) .nil)))))))))) .nil))))))))) (A8.trans (Ez (.cons 8 (.same _) .nil) (.cons 0 Z Z (.same _) (.cons 1 Z Z (.same _) (.cons 2 Z Z (.same _) (.cons 6 Z Z (.same _) (.cons 7 Z Z (.same _) (.cons 8 Z Z (.same _) (.cons 9 Z Z (.box (.cons (.same _) (.cons (.same _) (.cons (.same _) (.cons (.same _) (.cons (.same _) (.cons (.nil 2) (.cons (.same _) (.cons (.same _) (.cons (.same _) .nil)))))))))) (.cons 10 Z Z (.same _) .nil))))))))) (A8.trans (Ez (.cons 8 (.same _) .nil) (.cons 0 Z Z (.same _) (.cons 1 Z Z (.same _) (.cons 2 Z Z (.same _) (.cons 6 Z Z (.same _) (.cons 7 Z Z (.same _) (.cons 8 Z Z (.same _) (.cons 9 Z Z (.box (.cons (.same _) (.cons (.same _) (.cons (.same _) (.cons (.same _) (.cons (.same _) (.cons (.same _) (.cons (.nil 1) (.cons (.same _) (.cons (.same _) .nil)))))))))) (.cons 10 Z Z (.same _) .nil))))))))) (A8.trans (Ez (.cons 8 (.same _) .nil) (.cons 0 Z Z (.same _) (.cons 1 Z Z (.same _) (.cons 2 Z Z (.same _) (.cons 6 Z Z (.same _) (.cons 7 Z Z (.same _) (.cons 8 Z Z (.same _) (.cons 9 Z Z (.box (.cons (.same _) (.cons (.same _) (.cons (.same _) (.cons (.same _) (.cons (.same _) (.cons (.same _) (.cons (.same _) (.cons (.nil 1) (.cons (.same _) .nil)))))))))) (.cons 10 Z Z (.same _) .nil))))))))) (wj hA (gi 10 []) Z Z Z Z)))))) Z
    exact rn 1 Z <| bq co fun fa bi cp => sx Z (BV (enc := A6) (l := d.2.2.1) (m := [(⟨g, (-1), 2, n.1, n.2, ([] : List Ap), ([] : List Int), ([] : List Int), false⟩ : Aj)]) bi (fun _ => ⟨Z, Z⟩) Z Z Z Z Z Z <| rl Z <| AL cp (wf hA [(0, 0), (1, 11), (2, 2), (3, 6), (4, 7), (5, 8)] Z Z Z))
   exact AE <| AL cq (wf hA (gi 3 [(3, 6), (4, 7), (5, 8)]) Z Z Z)
  exact AE <| AL cr (wf hA (gi 6 []) Z Z Z)
 refine AB <| KY <| AC <| AB <| AH ?_
 apply lp (a := a7) (fun b : ((List Aj) × (List Ag) × (List Int) × (List (List Bi))) => ⟨157, [(0, lq (Ar t)), (1, li g), (7, .lpb 0 0), (8, .lsl 1 9 0 b.1.length), (9, .lpb 2 0)], [(0, .box [li d.1, li d.2.1]), (1, .row 72 9 (b.1.map A6)), (2, .box [li j.1.elem, .lsl 3 3 0 b.2.1.length, .lsl 4 1 0 b.2.2.1.length, .lsl 5 1 0 b.2.2.2.length]), (3, .row 76 3 (b.2.1.map Ay)), (4, .row 3 1 (b.2.2.1.map Ae)), (5, .row 215 1 (b.2.2.2.map (Dj 2 Dt)))], 6⟩) cs
 . exact wf hA (gi 6 []) Z Z Z
 intro b ez a4
 unfold CF at a4
 refine AB <| rs AA <| rl Z <| cd Z a4 (fun ct => ?_) (fun ec => ?_)
 .refine AE <| AC <| AH <| rs AA <| rl Z <| AB <| rs AA <| rn 5 Z <| bq ct fun fb am cu => sx Z (B2 am Z Z Z Z <| sx Z (DC am Z Z Z <| sx Z (Ac Z Z <| rl Z <| cd Z cu (fun cv => ?_) (fun c1 => ?_))))
  .refine rs AA <| rn 1 Z <| sx Z (CW AA (fun s : ((List Ag) × (List Int) × (List (List Bi))) => .tup []) (fun s : ((List Ag) × (List Int) × (List (List Bi))) => [(0, .box [li d.1, li d.2.1]), (1, .row 72 9 (b.1.map A6)), (2, .box [li j.1.elem, .lsl 3 3 0 s.1.length, .lsl 4 1 0 s.2.1.length, .lsl 5 1 0 s.2.2.length]), (3, .row 76 3 (s.1.map Ay)), (4, .row 3 1 (s.2.1.map Ae)), (5, .row 215 1 (s.2.2.map (Dj 2 Dt)))]) 6 cv Tryz.func149 36 [] [(0, .lpb 2 0)] Z Z Z Z Z Z Z Z (fun A hA s cw => ?_) (fun s c0 => ?_))
   .refine rs AA <| rl Z ?_
    refine By AA mixed [0, 1, 2, 3, 4, 5, 6, 7, 8, 9, 10, 11, 12, 13, 14, 15, 16, 17, 18, 19, 20, 21, 22, 23, 24, 25, 26, 27, 28, 29] 30 (by kernel_rfl) Z Z Z ?_
    refine As 8 Z <| bq cw fun fc an cx => Au Z (Al Z (Rm (l := b.2.1) an Z Z Z Z <| As 5 Z <| bq cx fun fd ao cy => Au Z (Al Z (Rm (l := b.2.2.1) ao Z Z Z Z <| As 5 Z <| bq cy fun fe ap cz => Au Z (Al Z (Rm (l := b.2.2.2) ap Z Z Z Z <| BF Z ?_))))))
    cases cz
    exact MP (nt := 36) (sl := []) (A8.trans (J2 3 an Z Z) (A8.trans (J2 4 ao Z Z) (A8.trans (J2 5 ap Z Z) (wj hA (gi 6 []) Z Z Z Z)))) Z
   exact rl Z <| AU <| AX <| Am <| Aq c0 (wf hA (gi 6 []) Z Z Z)
  refine AE <| AC <| rs AA <| rn 5 Z <| bq c1 fun ff aq c2 => sx Z (B2 aq Z Z Z Z <| sx Z (DC aq Z Z Z <| bq c2 fun c bj c3 => sx Z (Ab bj Z Z Z <| rl Z <| AB ?_)))
  refine By AA mixed [0, 1, 2, 3, 4, 5, 6, 7, 8, 9, 10, 11, 12, 13, 14] 15 (by kernel_rfl) Z Z Z ?_
  refine As 10 Z <| bq c3 fun fg ar c4 => Au Z (Al Z (B2 ar Z Z Z Z <| Au Z (HK Z (DC ar Z Z Z <| bq c4 fun i bk c5 => Au Z (Al Z (T6 bk Z Z Z Z <| bq c5 fun fh au c6 => Au Z (Al Z (B2 au Z Z Z Z <| Au Z (NJ Z (MN (z := i) au Z Z Z Z Z Z Z Z <| BF Z <| AC <| AB <| bq c6 fun e ai c7 => bq c7 fun fi ae c8 => ?_))))))))))
  refine ACh AA mixed (.picks [0, 1, 2, 3, 4, 5, 6, 7, 8, 9, 10, 11, 12, 14, 15] (.alt 13 [16, 17, 18] .done (.alt 16 [13, 17, 18] .done .nil))) 19 ⟨157, [(0, lq (Ar t)), (1, li g), (7, .lpb 0 0), (8, .lsl 1 9 0 b.1.length), (9, .lpb 2 0), (10, li (AO ((b.2.1.length : Int) - 1))), (11, .lpb 3 0)], [(0, .box [li d.1, li d.2.1]), (1, .row 72 9 (b.1.map A6)), (2, .box [li j.1.elem, .lsl 4 3 0 (A7 b.2.1 (AO ((b.2.1.length : Int) - 1)) (⟨e.elem, e.in_, c.out⟩ : Ag)).length, .lsl 5 1 0 (A7 b.2.2.1 (AO ((b.2.1.length : Int) - 1)) c.pos).length, .lsl 6 1 0 (A7 b.2.2.2 (AO ((b.2.1.length : Int) - 1)) i).length]), (3, .box [li c.out, li c.pos]), (4, .row 76 3 ((A7 b.2.1 (AO ((b.2.1.length : Int) - 1)) (⟨e.elem, e.in_, c.out⟩ : Ag)).map Ay)), (5, .row 3 1 ((A7 b.2.2.1 (AO ((b.2.1.length : Int) - 1)) c.pos).map Ae)), (6, .row 215 1 ((A7 b.2.2.2 (AO ((b.2.1.length : Int) - 1)) i).map (Dj 2 Dt)))], 7⟩ (by kernel_rfl) Z ?_ ?_
  .refine ACD <| As 13 Z <| Au Z (Al Z (B2 ai Z Z Z Z <| BF Z <| AAE ?_ ?_))
   .exact As 1 Z <| Au Z (NJ Z (MN (z := (⟨e.elem, e.in_, c.out⟩ : Ag)) ai Z Z Z Z Z Z Z Z <| Au Z (Al Z (B2 ae Z Z Z Z <| Au Z (NJ Z (MN (z := c.pos) ae Z Z Z Z Z Z Z Z <| BF Z <| AAF (wk (gi 3 [(3, 6), (4, 3), (5, 4), (6, 5)]) (free hA _) Z Z Z (.cons Z (.cons Z (.cons Z (.cons Z (.cons Z (.cons Z (.cons Z .nil))))))) (.cons Z Z (.cons Z Z (.cons Z (by simp only [BL]; rfl) (.cons Z Z (.cons Z Z (.cons Z Z (.cons Z Z .nil))))))))))))))
   refine AAE ?_ ?_
   .exact Au Z (NJ Z (MN (z := (⟨e.elem, e.in_, c.out⟩ : Ag)) ai Z Z Z Z Z Z Z Z <| As 1 Z <| Au Z (Al Z (B2 ae Z Z Z Z <| Au Z (NJ Z (MN (z := c.pos) ae Z Z Z Z Z Z Z Z <| BF Z <| AAF (wk (gi 3 [(3, 6), (4, 3), (5, 4), (6, 5)]) (free hA _) Z Z Z (.cons Z (.cons Z (.cons Z (.cons Z (.cons Z (.cons Z (.cons Z .nil))))))) (.cons Z Z (.cons Z Z (.cons Z (by simp only [BL]; rfl) (.cons Z Z (.cons Z Z (.cons Z Z (.cons Z Z .nil))))))))))))))
   exact ACE
  refine AC <| AB ?_
  refine By AA mixed [0, 1, 2, 3, 4, 5, 6, 7, 8, 9, 10, 11, 12] 13 (by kernel_rfl) Z Z Z ?_
  refine As 5 Z <| bq c8 fun x av c9 => Au Z (Al Z (B2 av Z Z Z (by simp only [BL]) <| As 1 Z <| Au Z (HK Z (DC av Z Z Z <| BF Z <| AC <| AB <| rs AA <| rn 2 Z <| bq c9 fun y bl da => sx Z (AM (G3 _ _ _ bl) (.inl Z) Z Z Z <| rl Z <| rs AA <| rl Z <| cd Z da (fun db => ?_) (fun ds => ?_))))))
  .refine rs AA <| rn 4 Z <| sx Z (CW AA (fun o : ((List Ag) × (List Ap)) => .p (.agg [.int .i64 g, .int .i64 y, .int .i64 1, .slice 3 (o.1.map Ay), .slice 2 (o.2.map A1), .slice 2 (([] : List Ap).map A1), .slice 1 (([] : List Int).map Ae), .slice 1 (([] : List Int).map Ae), .bool false])) (fun o : ((List Ag) × (List Ap)) => [(0, .box [li d.1, li d.2.1]), (1, .row 72 9 (b.1.map A6)), (2, .box [li j.1.elem, .lsl 4 3 0 (A7 b.2.1 (AO ((b.2.1.length : Int) - 1)) (⟨e.elem, e.in_, c.out⟩ : Ag)).length, .lsl 5 1 0 (A7 b.2.2.1 (AO ((b.2.1.length : Int) - 1)) c.pos).length, .lsl 6 1 0 (A7 b.2.2.2 (AO ((b.2.1.length : Int) - 1)) i).length]), (3, .box [li c.out, li c.pos]), (4, .row 76 3 ((A7 b.2.1 (AO ((b.2.1.length : Int) - 1)) (⟨e.elem, e.in_, c.out⟩ : Ag)).map Ay)), (5, .row 3 1 ((A7 b.2.2.1 (AO ((b.2.1.length : Int) - 1)) c.pos).map Ae)), (6, .row 215 1 ((A7 b.2.2.2 (AO ((b.2.1.length : Int) - 1)) i).map (Dj 2 Dt))), (18, .box [li x.elem, li c.out]), (20, .box [li g, li y, li 1, ls 3 Ay o.1, ls 2 A1 o.2, ls 2 A1 ([] : List Ap), ls 1 Ae ([] : List Int), ls 1 Ae ([] : List Int), lb false])]) 21 db Tryz.func148 56 [.cell 8 72] [(0, .lpb 2 0), (1, li g), (2, li y), (3, li 1)] Z Z Z Z Z Z Z Z (fun A hA o dc => ?_) (fun o dq => ?_))
   .refine rs AA <| rl Z <| rs AA <| rn 7 Z <| bq dc fun ac bm dd => sx Z (OI (Ee _ _ bm) (fun _ => Z) Z Z (Dm.eq (.cons (.one (.own (enc := Ay) (A7 b.2.1 (AO ((b.2.1.length : Int) - 1)) (⟨e.elem, e.in_, c.out⟩ : Ag)) Z (by simp only [BL]))) .nil)) <| rl Z <| AB <| rs AA <| rl Z <| AH ?_)
    apply lp (a := o) (fun v : (Int × (List Ap)) => ⟨56, [(0, .lpb 2 0), (8, .lpb 20 0), (9, .lpb 21 0), (24, .lsl 4 3 0 (A7 b.2.1 (AO ((b.2.1.length : Int) - 1)) (⟨e.elem, e.in_, c.out⟩ : Ag)).length), (25, li ((A7 b.2.1 (AO ((b.2.1.length : Int) - 1)) (⟨e.elem, e.in_, c.out⟩ : Ag)).length : Int)), (26, li v.1)], [(0, .box [li d.1, li d.2.1]), (1, .row 72 9 (b.1.map A6)), (2, .box [li j.1.elem, .lsl 4 3 0 (A7 b.2.1 (AO ((b.2.1.length : Int) - 1)) (⟨e.elem, e.in_, c.out⟩ : Ag)).length, .lsl 5 1 0 (A7 b.2.2.1 (AO ((b.2.1.length : Int) - 1)) c.pos).length, .lsl 6 1 0 (A7 b.2.2.2 (AO ((b.2.1.length : Int) - 1)) i).length]), (3, .box [li c.out, li c.pos]), (4, .row 76 3 ((A7 b.2.1 (AO ((b.2.1.length : Int) - 1)) (⟨e.elem, e.in_, c.out⟩ : Ag)).map Ay)), (5, .row 3 1 ((A7 b.2.2.1 (AO ((b.2.1.length : Int) - 1)) c.pos).map Ae)), (6, .row 215 1 ((A7 b.2.2.2 (AO ((b.2.1.length : Int) - 1)) i).map (Dj 2 Dt))), (18, .box [li x.elem, li c.out]), (20, .box [li 0, li 0, li 0, .p (.nils), .p (.nils), .p (.nils), .p (.nils), .p (.nils), lb false]), (21, .box [li g, li y, li 1, .lsl 22 3 0 ac.length, .lsl 23 2 0 v.2.length, .p (.nils), .p (.nils), .p (.nils), lb false]), (22, .row 76 3 (ac.map Ay)), (23, .row 185 2 (v.2.map A1))], 24⟩) dd
    . exact A8.trans (CQ 22 4 185 2 Z Z Z Z) (wk (gi 21 [(21, 22), (22, 21), (23, 23)]) (K3 hA _ Z) Z Z Z (.cons Z (.cons Z (.cons Z (.cons (by simp only [BL]; rfl) (.cons Z (.cons Z .nil)))))) (.cons Z Z (.cons Z Z (.cons Z (by simp only [BL]; rfl) (.cons Z Z (.cons Z Z (.cons Z Z (.cons Z Z (.cons Z Z (.cons Z Z (.cons Z Z (.cons Z Z (.cons Z Z .nil)))))))))))))
    intro v e0 a5
    unfold L5 at a5
    refine rs AA <| rl Z <| AB <| cd Z a5 (fun de => ?_) (fun dn => ?_)
    .refine AE <| AC <| jb (fun ag : (List Ap) => ⟨56, [(0, .lpb 2 0), (8, .lpb 20 0), (9, .lpb 21 0), (24, .lsl 4 3 0 (A7 b.2.1 (AO ((b.2.1.length : Int) - 1)) (⟨e.elem, e.in_, c.out⟩ : Ag)).length), (25, li ((A7 b.2.1 (AO ((b.2.1.length : Int) - 1)) (⟨e.elem, e.in_, c.out⟩ : Ag)).length : Int)), (26, li v.1)], [(0, .box [li d.1, li d.2.1]), (1, .row 72 9 (b.1.map A6)), (2, .box [li j.1.elem, .lsl 4 3 0 (A7 b.2.1 (AO ((b.2.1.length : Int) - 1)) (⟨e.elem, e.in_, c.out⟩ : Ag)).length, .lsl 5 1 0 (A7 b.2.2.1 (AO ((b.2.1.length : Int) - 1)) c.pos).length, .lsl 6 1 0 (A7 b.2.2.2 (AO ((b.2.1.length : Int) - 1)) i).length]), (3, .box [li c.out, li c.pos]), (4, .row 76 3 ((A7 b.2.1 (AO ((b.2.1.length : Int) - 1)) (⟨e.elem, e.in_, c.out⟩ : Ag)).map Ay)), (5, .row 3 1 ((A7 b.2.2.1 (AO ((b.2.1.length : Int) - 1)) c.pos).map Ae)), (6, .row 215 1 ((A7 b.2.2.2 (AO ((b.2.1.length : Int) - 1)) i).map (Dj 2 Dt))), (18, .box [li x.elem, li c.out]), (20, .box [li 0, li 0, li 0, .p (.nils), .p (.nils), .p (.nils), .p (.nils), .p (.nils), lb false]), (21, .box [li g, li y, li 1, .lsl 22 3 0 ac.length, .lsl 23 2 0 ag.length, .p (.nils), .p (.nils), .p (.nils), lb false]), (22, .row 76 3 (ac.map Ay)), (23, .row 185 2 (ag.map A1))], 24⟩) de (fun ag df => ?_) (fun ag dm => ?_)
     .refine AH <| rs AA <| rn 1 Z <| bq df fun el aw dg => sx Z (B2 aw Z Z Z (by simp only [BL]) <| sx Z (DC aw Z Z Z <| rl Z <| rs AA <| rn 5 Z <| bq dg fun fj ax dh => sx Z (B2 ax Z Z Z (by simp only [BL]) <| sx Z (DC ax Z Z Z <| rl Z <| cd Z dh (fun di => ?_) (fun dl => ?_)))))
      .refine By AA mixed [0, 1, 2, 3, 4, 5, 6, 7, 8, 9, 10, 11, 12, 13, 14, 15] 16 (by kernel_rfl) Z Z Z ?_
       exact As 9 Z <| bq di fun em ay dj => Au Z (Al Z (B2 ay Z Z Z (by simp only [BL]) <| Au Z (HK Z (DC ay Z Z Z <| As 2 Z <| bq dj fun fk bn dk => Au Z (Jz Z (BV (enc := A1) (l := v.2) (m := [(⟨el.elem, em⟩ : Ap)]) bn (fun _ => ⟨Z, Z⟩) Z Z Z Z Z Z <| BF Z <| Ad <| AL dk (wk (gi 23 [(23, 38)]) (K3 hA _ Z) Z Z Z (.cons Z (.cons Z (.cons Z (.cons (by simp only [BL]; rfl) (.cons Z (.cons Z .nil)))))) (.cons Z Z (.cons Z Z (.cons Z (by simp only [BL]; rfl) (.cons Z Z (.cons Z Z (.cons Z Z (.cons Z Z (.cons Z Z (.cons Z Z (.cons Z Z (.cons Z Z (.cons Z Z .nil)))))))))))))))))))
      exact AE <| Ad <| AL dl (wk (gi 24 []) (K3 hA _ Z) Z Z Z (.cons Z (.cons Z (.cons Z (.cons (by simp only [BL]; rfl) (.cons Z (.cons Z .nil)))))) (.cons Z Z (.cons Z Z (.cons Z (by simp only [BL]; rfl) (.cons Z Z (.cons Z Z (.cons Z Z (.cons Z Z (.cons Z Z (.cons Z Z (.cons Z Z (.cons Z Z (.cons Z Z .nil)))))))))))))
     exact rg AA <| rl Z <| Aq dm (wk (gi 24 []) (K3 hA _ Z) Z Z Z (.cons Z (.cons Z (.cons Z (.cons (by simp only [BL]; rfl) (.cons Z (.cons Z .nil)))))) (.cons Z Z (.cons Z Z (.cons Z (by simp only [BL]; rfl) (.cons Z Z (.cons Z Z (.cons Z Z (.cons Z Z (.cons Z Z (.cons Z Z (.cons Z Z (.cons Z Z (.cons Z Z .nil)))))))))))))
    refine AU <| AX <| BH dn fun et dp => Am <| AC <| rs AA <| rl Z <| AF ?_
    cases dp
    exact CZ (nt := 56) (sl := [(8, .lpb 20 0)]) (A8.trans (J5 22 (Na (enc := Ay) (l := ac) Z) (.cons 8 (.same _) .nil) (.cons 0 Z Z (.same _) (.cons 1 Z Z (.same _) (.cons 2 Z Z (.same _) (.cons 3 Z Z (.same _) (.cons 4 Z Z (.same _) (.cons 5 Z Z (.same _) (.cons 6 Z Z (.same _) (.cons 18 Z Z (.same _) (.cons 20 Z Z (.box (.cons (.same _) (.cons (.same _) (.cons (.same _) (.cons .hit (.cons (.same _) (.cons (.same _) (.cons (.same _) (.cons (.same _) (.cons (.same _) .nil)))))))))) (.cons 21 Z Z (.box (.cons (.same _) (.cons (.same _) (.cons (.same _) (.cons .hit (.cons (.same _) (.cons (.same _) (.cons (.same _) (.cons (.same _) (.cons (.same _) .nil)))))))))) (.cons 23 Z Z (.same _) .nil)))))))))))) (A8.trans (J5 23 (Na (enc := A1) (l := v.2) Z) (.cons 8 (.same _) .nil) (.cons 0 Z Z (.same _) (.cons 1 Z Z (.same _) (.cons 2 Z Z (.same _) (.cons 3 Z Z (.same _) (.cons 4 Z Z (.same _) (.cons 5 Z Z (.same _) (.cons 6 Z Z (.same _) (.cons 18 Z Z (.same _) (.cons 20 Z Z (.box (.cons (.same _) (.cons (.same _) (.cons (.same _) (.cons (.same _) (.cons .hit (.cons (.same _) (.cons (.same _) (.cons (.same _) (.cons (.same _) .nil)))))))))) (.cons 21 Z Z (.box (.cons (.same _) (.cons (.same _) (.cons (.same _) (.cons (.same _) (.cons .hit (.cons (.same _) (.cons (.same _) (.cons (.same _) (.cons (.same _) .nil)))))))))) .nil))))))))))) (A8.trans (Ez (.cons 8 (.same _) .nil) (.cons 0 Z Z (.same _) (.cons 1 Z Z (.same _) (.cons 2 Z Z (.same _) (.cons 3 Z Z (.same _) (.cons 4 Z Z (.same _) (.cons 5 Z Z (.same _) (.cons 6 Z Z (.same _) (.cons 18 Z Z (.same _) (.cons 20 Z Z (.box (.cons (.same _) (.cons (.same _) (.cons (.same _) (.cons (.same _) (.cons (.same _) (.cons (.nil 2) (.cons (.same _) (.cons (.same _) (.cons (.same _) .nil)))))))))) (.cons 21 Z Z (.same _) .nil))))))))))) (A8.trans (Ez (.cons 8 (.same _) .nil) (.cons 0 Z Z (.same _) (.cons 1 Z Z (.same _) (.cons 2 Z Z (.same _) (.cons 3 Z Z (.same _) (.cons 4 Z Z (.same _) (.cons 5 Z Z (.same _) (.cons 6 Z Z (.same _) (.cons 18 Z Z (.same _) (.cons 20 Z Z (.box (.cons (.same _) (.cons (.same _) (.cons (.same _) (.cons (.same _) (.cons (.same _) (.cons (.same _) (.cons (.nil 1) (.cons (.same _) (.cons (.same _) .nil)))))))))) (.cons 21 Z Z (.same _) .nil))))))))))) (A8.trans (Ez (.cons 8 (.same _) .nil) (.cons 0 Z Z (.same _) (.cons 1 Z Z (.same _) (.cons 2 Z Z (.same _) (.cons 3 Z Z (.same _) (.cons 4 Z Z (.same _) (.cons 5 Z Z (.same _) (.cons 6 Z Z (.same _) (.cons 18 Z Z (.same _) (.cons 20 Z Z (.box (.cons (.same _) (.cons (.same _) (.cons (.same _) (.cons (.same _) (.cons (.same _) (.cons (.same _) (.cons (.same _) (.cons (.nil 1) (.cons (.same _) .nil)))))))))) (.cons 21 Z Z (.same _) .nil))))))))))) (wk (gi 21 []) (K3 hA _ Z) Z Z Z (.cons Z .nil) (.cons Z Z (.cons Z Z (.cons Z (by simp only [BL]; rfl) (.cons Z Z (.cons Z Z (.cons Z Z (.cons Z Z (.cons Z Z (.cons Z Z .nil))))))))))))))) Z
   exact rn 1 Z <| bq dq fun fl bo dr => sx Z (BV (enc := A6) (l := b.1) (m := [(⟨g, y, 1, o.1, o.2, ([] : List Ap), ([] : List Int), ([] : List Int), false⟩ : Aj)]) bo (fun _ => ⟨Z, Z⟩) Z Z Z Z Z Z <| rl Z <| AU <| AX <| Am <| Aq dr (wk [(0, 0), (1, 22), (2, 2), (3, 4), (4, 5), (5, 6)] (free hA _) Z Z Z (.cons Z (.cons Z (.cons Z (.cons Z (.cons Z .nil))))) (.cons Z Z (.cons Z Z (.cons Z (by simp only [BL]; rfl) (.cons Z Z (.cons Z Z (.cons Z Z .nil))))))))
  refine AE <| AC <| rs AA <| rn 2 Z <| bq ds fun aa bp dt => sx Z (AM (CG _ _ _ bp) (.inl Z) Z Z Z <| rl Z <| AB <| rs AA <| rl Z <| cd Z dt (fun du => ?_) (fun ea => ?_))
  .refine rs AA <| rn 3 Z <| sx Z (CW AA (fun q : ((List Ag) × (List Ap)) => .p (.agg [.int .i64 g, .int .i64 (-1), .int .i64 3, .slice 3 (q.1.map Ay), .slice 2 (q.2.map A1), .slice 2 (([] : List Ap).map A1), .slice 1 (([] : List Int).map Ae), .slice 1 (([] : List Int).map Ae), .bool false])) (fun q : ((List Ag) × (List Ap)) => [(0, .box [li d.1, li d.2.1]), (1, .row 72 9 (b.1.map A6)), (2, .box [li j.1.elem, .lsl 4 3 0 (A7 b.2.1 (AO ((b.2.1.length : Int) - 1)) (⟨e.elem, e.in_, c.out⟩ : Ag)).length, .lsl 5 1 0 (A7 b.2.2.1 (AO ((b.2.1.length : Int) - 1)) c.pos).length, .lsl 6 1 0 (A7 b.2.2.2 (AO ((b.2.1.length : Int) - 1)) i).length]), (3, .box [li c.out, li c.pos]), (4, .row 76 3 ((A7 b.2.1 (AO ((b.2.1.length : Int) - 1)) (⟨e.elem, e.in_, c.out⟩ : Ag)).map Ay)), (5, .row 3 1 ((A7 b.2.2.1 (AO ((b.2.1.length : Int) - 1)) c.pos).map Ae)), (6, .row 215 1 ((A7 b.2.2.2 (AO ((b.2.1.length : Int) - 1)) i).map (Dj 2 Dt))), (18, .box [li x.elem, li c.out]), (20, .box [li aa.1.elem, li aa.1.fin]), (21, .box [li g, li (-1), li 3, ls 3 Ay q.1, ls 2 A1 q.2, ls 2 A1 ([] : List Ap), ls 1 Ae ([] : List Int), ls 1 Ae ([] : List Int), lb false])]) 22 du Tryz.func148 56 [.cell 8 72] [(0, .lpb 2 0), (1, li g), (2, li (-1)), (3, li 3)] Z Z Z Z Z Z Z Z (fun A hA q dv => ?_) (fun q d8 => ?_))
   .refine rs AA <| rl Z <| rs AA <| rn 7 Z <| bq dv fun ad br dw => sx Z (OI (Ee _ _ br) (fun _ => Z) Z Z (Dm.eq (.cons (.one (.own (enc := Ay) (A7 b.2.1 (AO ((b.2.1.length : Int) - 1)) (⟨e.elem, e.in_, c.out⟩ : Ag)) Z (by simp only [BL]))) .nil)) <| rl Z <| AB <| rs AA <| rl Z <| AH ?_)
    apply lp (a := q) (fun w : (Int × (List Ap)) => ⟨56, [(0, .lpb 2 0), (8, .lpb 21 0), (9, .lpb 22 0), (24, .lsl 4 3 0 (A7 b.2.1 (AO ((b.2.1.length : Int) - 1)) (⟨e.elem, e.in_, c.out⟩ : Ag)).length), (25, li ((A7 b.2.1 (AO ((b.2.1.length : Int) - 1)) (⟨e.elem, e.in_, c.out⟩ : Ag)).length : Int)), (26, li w.1)], [(0, .box [li d.1, li d.2.1]), (1, .row 72 9 (b.1.map A6)), (2, .box [li j.1.elem, .lsl 4 3 0 (A7 b.2.1 (AO ((b.2.1.length : Int) - 1)) (⟨e.elem, e.in_, c.out⟩ : Ag)).length, .lsl 5 1 0 (A7 b.2.2.1 (AO ((b.2.1.length : Int) - 1)) c.pos).length, .lsl 6 1 0 (A7 b.2.2.2 (AO ((b.2.1.length : Int) - 1)) i).length]), (3, .box [li c.out, li c.pos]), (4, .row 76 3 ((A7 b.2.1 (AO ((b.2.1.length : Int) - 1)) (⟨e.elem, e.in_, c.out⟩ : Ag)).map Ay)), (5, .row 3 1 ((A7 b.2.2.1 (AO ((b.2.1.length : Int) - 1)) c.pos).map Ae)), (6, .row 215 1 ((A7 b.2.2.2 (AO ((b.2.1.length : Int) - 1)) i).map (Dj 2 Dt))), (18, .box [li x.elem, li c.out]), (20, .box [li aa.1.elem, li aa.1.fin]), (21, .box [li 0, li 0, li 0, .p (.nils), .p (.nils), .p (.nils), .p (.nils), .p (.nils), lb false]), (22, .box [li g, li (-1), li 3, .lsl 23 3 0 ad.length, .lsl 24 2 0 w.2.length, .p (.nils), .p (.nils), .p (.nils), lb false]), (23, .row 76 3 (ad.map Ay)), (24, .row 185 2 (w.2.map A1))], 25⟩) dw
    . exact A8.trans (CQ 23 4 185 2 Z Z Z Z) (wk (gi 22 [(22, 23), (23, 22), (24, 24)]) (K3 hA _ Z) Z Z Z (.cons Z (.cons Z (.cons Z (.cons (by simp only [BL]; rfl) (.cons Z (.cons Z .nil)))))) (.cons Z Z (.cons Z Z (.cons Z (by simp only [BL]; rfl) (.cons Z Z (.cons Z Z (.cons Z Z (.cons Z Z (.cons Z Z (.cons Z Z (.cons Z Z (.cons Z Z (.cons Z Z (.cons Z Z .nil))))))))))))))
    intro w e1 a6
    unfold L6 at a6
    refine rs AA <| rl Z <| AB <| cd Z a6 (fun dx => ?_) (fun d6 => ?_)
    .refine AE <| AC <| jb (fun ah : (List Ap) => ⟨56, [(0, .lpb 2 0), (8, .lpb 21 0), (9, .lpb 22 0), (24, .lsl 4 3 0 (A7 b.2.1 (AO ((b.2.1.length : Int) - 1)) (⟨e.elem, e.in_, c.out⟩ : Ag)).length), (25, li ((A7 b.2.1 (AO ((b.2.1.length : Int) - 1)) (⟨e.elem, e.in_, c.out⟩ : Ag)).length : Int)), (26, li w.1)], [(0, .box [li d.1, li d.2.1]), (1, .row 72 9 (b.1.map A6)), (2, .box [li j.1.elem, .lsl 4 3 0 (A7 b.2.1 (AO ((b.2.1.length : Int) - 1)) (⟨e.elem, e.in_, c.out⟩ : Ag)).length, .lsl 5 1 0 (A7 b.2.2.1 (AO ((b.2.1.length : Int) - 1)) c.pos).length, .lsl 6 1 0 (A7 b.2.2.2 (AO ((b.2.1.length : Int) - 1)) i).length]), (3, .box [li c.out, li c.pos]), (4, .row 76 3 ((A7 b.2.1 (AO ((b.2.1.length : Int) - 1)) (⟨e.elem, e.in_, c.out⟩ : Ag)).map Ay)), (5, .row 3 1 ((A7 b.2.2.1 (AO ((b.2.1.length : Int) - 1)) c.pos).map Ae)), (6, .row 215 1 ((A7 b.2.2.2 (AO ((b.2.1.length : Int) - 1)) i).map (Dj 2 Dt))), (18, .box [li x.elem, li c.out]), (20, .box [li aa.1.elem, li aa.1.fin]), (21, .box [li 0, li 0, li 0, .p (.nils), .p (.nils), .p (.nils), .p (.nils), .p (.nils), lb false]), (22, .box [li g, li (-1), li 3, .lsl 23 3 0 ad.length, .lsl 24 2 0 ah.length, .p (.nils), .p (.nils), .p (.nils), lb false]), (23, .row 76 3 (ad.map Ay)), (24, .row 185 2 (ah.map A1))], 25⟩) dx (fun ah dy => ?_) (fun ah d5 => ?_)
     .refine AH <| rs AA <| rn 1 Z <| bq dy fun eo az dz => sx Z (B2 az Z Z Z (by simp only [BL]) <| sx Z (DC az Z Z Z <| rl Z <| rs AA <| rn 5 Z <| bq dz fun fm a0 d0 => sx Z (B2 a0 Z Z Z (by simp only [BL]) <| sx Z (DC a0 Z Z Z <| rl Z <| cd Z d0 (fun d1 => ?_) (fun d4 => ?_)))))
      .refine By AA mixed [0, 1, 2, 3, 4, 5, 6, 7, 8, 9, 10, 11, 12, 13, 14, 15] 16 (by kernel_rfl) Z Z Z ?_
       exact As 9 Z <| bq d1 fun ep a1 d2 => Au Z (Al Z (B2 a1 Z Z Z (by simp only [BL]) <| Au Z (HK Z (DC a1 Z Z Z <| As 2 Z <| bq d2 fun fo bs d3 => Au Z (Jz Z (BV (enc := A1) (l := w.2) (m := [(⟨eo.elem, ep⟩ : Ap)]) bs (fun _ => ⟨Z, Z⟩) Z Z Z Z Z Z <| BF Z <| Ad <| AL d3 (wk (gi 24 [(24, 39)]) (K3 hA _ Z) Z Z Z (.cons Z (.cons Z (.cons Z (.cons (by simp only [BL]; rfl) (.cons Z (.cons Z .nil)))))) (.cons Z Z (.cons Z Z (.cons Z (by simp only [BL]; rfl) (.cons Z Z (.cons Z Z (.cons Z Z (.cons Z Z (.cons Z Z (.cons Z Z (.cons Z Z (.cons Z Z (.cons Z Z (.cons Z Z .nil))))))))))))))))))))
      exact AE <| Ad <| AL d4 (wk (gi 25 []) (K3 hA _ Z) Z Z Z (.cons Z (.cons Z (.cons Z (.cons (by simp only [BL]; rfl) (.cons Z (.cons Z .nil)))))) (.cons Z Z (.cons Z Z (.cons Z (by simp only [BL]; rfl) (.cons Z Z (.cons Z Z (.cons Z Z (.cons Z Z (.cons Z Z (.cons Z Z (.cons Z Z (.cons Z Z (.cons Z Z (.cons Z Z .nil))))))))))))))
     exact rg AA <| rl Z <| Aq d5 (wk (gi 25 []) (K3 hA _ Z) Z Z Z (.cons Z (.cons Z (.cons Z (.cons (by simp only [BL]; rfl) (.cons Z (.cons Z .nil)))))) (.cons Z Z (.cons Z Z (.cons Z (by simp only [BL]; rfl) (.cons Z Z (.cons Z Z (.cons Z Z (.cons Z Z (.cons Z Z (.cons Z Z (.cons Z Z (.cons Z Z (.cons Z Z (.cons Z Z .nil))))))))))))))
    refine AU <| AX <| BH d6 fun eu d7 => Am <| AC <| rs AA <| rl Z <| AF ?_
    cases d7
    exact CZ (nt := 56) (sl := [(8, .lpb 21 0)]) (A8.trans (J5 23 (Na (enc := Ay) (l := ad) Z) (.cons 8 (.same _) .nil) (.cons 0 Z Z (.same _) (.cons 1 Z Z (.same _) (.cons 2 Z Z (.same _) (.cons 3 Z Z (.same _) (.cons 4 Z Z (.same _) (.cons 5 Z Z (.same _) (.cons 6 Z Z (.same _) (.cons 18 Z Z (.same _) (.cons 20 Z Z (.same _) (.cons 21 Z Z (.box (.cons (.same _) (.cons (.same _) (.cons (.same _) (.cons .hit (.cons (.same _) (.cons (.same _) (.cons (.same _) (.cons (.same _) (.cons (.same _) .nil)))))))))) (.cons 22 Z Z (.box (.cons (.same _) (.cons (.same _) (.cons (.same _) (.cons .hit (.cons (.same _) (.cons (.same _) (.cons (.same _) (.cons (.same _) (.cons (.same _) .nil)))))))))) (.cons 24 Z Z (.same _) .nil))))))))))))) (A8.trans (J5 24 (Na (enc := A1) (l := w.2) Z) (.cons 8 (.same _) .nil) (.cons 0 Z Z (.same _) (.cons 1 Z Z (.same _) (.cons 2 Z Z (.same _) (.cons 3 Z Z (.same _) (.cons 4 Z Z (.same _) (.cons 5 Z Z (.same _) (.cons 6 Z Z (.same _) (.cons 18 Z Z (.same _) (.cons 20 Z Z (.same _) (.cons 21 Z Z (.box (.cons (.same _) (.cons (.same _) (.cons (.same _) (.cons (.same _) (.cons .hit (.cons (.same _) (.cons (.same _) (.cons (.same _) (.cons (.same _) .nil)))))))))) (.cons 22 Z Z (.box (.cons (.same _) (.cons (.same _) (.cons (.same _) (.cons (.same _) (.cons .hit (.cons (.same _) (.cons (.same _) (.cons (.same _) (.cons (.same _) .nil)))))))))) .nil)))))))))))) (A8.trans (Ez (.cons 8 (.same _) .nil) (.cons 0 Z Z (.same _) (.cons 1 Z Z (.same _) (.cons 2 Z Z (.same _) (.cons 3 Z Z (.same _) (.cons 4 Z Z (.same _) (.cons 5 Z Z (.same _) (.cons 6 Z Z (.same _) (.cons 18 Z Z (.same _) (.cons 20 Z Z (.same _) (.cons 21 Z Z (.box (.cons (.same _) (.cons (.same _) (.cons (.same _) (.cons (.same _) (.cons (.same _) (.cons (.nil 2) (.cons (.same _) (.cons (.same _) (.cons (.same _) .nil)))))))))) (.cons 22 Z Z (.same _) .nil)))))))))))) (A8.trans (Ez (.cons 8 (.same _) .nil) (.cons 0 Z Z (.same _) (.cons 1 Z Z (.same _) (.cons 2 Z Z (.same _) (.cons 3 Z Z (.same _) (.cons 4 Z Z (.same _) (.cons 5 Z Z (.same _) (.cons 6 Z Z (.same _) (.cons 18 Z Z (.same _) (.cons 20 Z Z (.same _) (.cons 21 Z Z (.box (.cons (.same _) (.cons (.same _) (.cons (.same _) (.cons (.same _) (.cons (.same _) (.cons (.same _) (.cons (.nil 1) (.cons (.same _) (.cons (.same _) .nil)))))))))) (.cons 22 Z Z (.same _) .nil)))))))))))) (A8.trans (Ez (.cons 8 (.same _) .nil) (.cons 0 Z Z (.same _) (.cons 1 Z Z (.same _) (.cons 2 Z Z (.same _) (.cons 3 Z Z (.same _) (.cons 4 Z Z (.same _) (.cons 5 Z Z (.same _) (.cons 6 Z Z (.same _) (.cons 18 Z Z (.same _) (.cons 20 Z Z (.same _) (.cons 21 Z Z (.box (.cons (.same _) (.cons (.same _) (.cons (.same _) (.cons (.same _) (.cons (.same _) (.cons (.same _) (.cons (.same _) (.cons (.nil 1) (.cons (.same _) .nil)))))))))) (.cons 22 Z Z (.same _) .nil)))))))))))) (wk (gi 22 []) (K3 hA _ Z) Z Z Z (.cons Z .nil) (.cons Z Z (.cons Z Z (.cons Z (by simp only [BL]; rfl) (.cons Z Z (.cons Z Z (.cons Z Z (.cons Z Z (.cons Z Z (.cons Z Z (.cons Z Z .nil)))))))))))))))) Z
   exact rn 1 Z <| bq d8 fun fp bt d9 => sx Z (BV (enc := A6) (l := b.1) (m := [(⟨g, (-1), 3, q.1, q.2, ([] : List Ap), ([] : List Int), ([] : List Int), false⟩ : Aj)]) bt (fun _ => ⟨Z, Z⟩) Z Z Z Z Z Z <| rl Z <| AU <| AX <| Am <| Aq d9 (wk [(0, 0), (1, 23), (2, 2), (3, 4), (4, 5), (5, 6)] (free hA _) Z Z Z (.cons Z (.cons Z (.cons Z (.cons Z (.cons Z .nil))))) (.cons Z Z (.cons Z Z (.cons Z (by simp only [BL]; rfl) (.cons Z Z (.cons Z Z (.cons Z Z .nil))))))))
  exact AE <| AC <| rs AA <| rl Z <| AU <| MK Z <| BH ea fun ev eb => MK Z <| AX <| ABF <| Am <| Aq eb (wk (gi 3 [(3, 4), (4, 5), (5, 6)]) (free hA _) Z Z Z (.cons Z (.cons Z (.cons Z (.cons Z (.cons Z .nil))))) (.cons Z Z (.cons Z Z (.cons Z (by simp only [BL]; rfl) (.cons Z Z (.cons Z Z (.cons Z Z .nil)))))))
 refine AU <| AX <| BH ec fun ew ed => Am <| AC <| AU <| ABF <| MK Z <| BH ed fun ex ee => Am <| AC <| rs AA <| rl Z <| AF <| JL ?_
 cases ee
 exact er (I6 Z (.one (.own (enc := A6) b.1 Z Z))) Le.rfl
end Go.E
/- Plain functions, and walks in step with them. Written by a program (gen.py). No condition. -/
set_option maxRecDepth 100000
set_option maxHeartbeats 1000000
namespace Go.E
open Go Go.RowKit Go.Proofs
noncomputable def Ej (b : A0) (e : Int) (a : Int × (List Aj)) : Option ((Int × (List Aj)) ⊕ ((List Aj) × Int)) :=
 bif decide (a.1 < e) then (Kt b a.1).bind fun c => (Bq a.2 c).bind fun d => some (.inl (AO (a.1 + 1), d)) else (bif decide (64 < (a.2.length : Int)) then some (([] : List Aj), 3) else some (a.2, 0)).map .inr
noncomputable def Jd (a : A0) : Option ((List Aj) × Int) :=
 (Dx a).bind fun b => AR (Ej a b) (0, ([] : List Aj))
theorem Xm (c : A0) (r : ((List Aj) × Int)) (h : Jd c = some r) : Zm Tryz.prog 81 [] 0 [lq (Ar c)] (.tup [.lsl 0 9 0 r.1.length, li r.2]) [(0, .row 72 9 (r.1.map A6))] 1 := by
 refine fnM AA Tryz.func81 21 [.tmp 2, .tmp 3] [(0, lq (Ar c))] Z Z Z Z Z Z (fun A hA => ?_)
 unfold Jd at h
 refine rs AA <| rl Z <| rs AA <| rl Z <| AB <| rs AA <| rn 1 Z <| bq h fun u g s => sx Z (AM (QL _ _ g) (.inl Z) Z Z Z <| rl Z <| AH ?_)
 apply lp (a := r) (fun b : (Int × (List Aj)) => ⟨21, [(0, lq (Ar c)), (4, .lsl 0 9 0 b.2.length), (7, li u), (8, li b.1)], [(0, .row 72 9 (b.2.map A6))], 1⟩) s
 . exact A8.trans (CI 4 72 9 Z) (wj hA [(0, 0)] Z Z Z Z)
 intro b w d
 unfold Ej at d
 refine rs AA <| rl Z <| AB <| cd Z d (fun i => ?_) (fun n => ?_)
 .exact AE <| AC <| AB <| AH <| rs AA <| rl Z <| rg AA <| rn 3 Z <| bq i fun t e j => sx Z (AM (Yn _ _ _ e) (.inr Z) Z Z Z <| bq j fun x f k => sx Z (BV (enc := A6) (l := b.2) (m := t) f (fun _ => ⟨Z, Z⟩) Z Z Z Z Z Z <| rl Z <| Ad <| AC <| rg AA <| rl Z <| Aq k (wj hA [(0, 1)] Z Z Z Z)))
 refine AU <| AX <| CH n fun v o => Am <| AC <| AB <| rs AA <| rl Z <| cd Z o (fun p => ?_) (fun q => ?_)
 .refine rs AA <| rl Z <| AF <| AG ?_
  cases p
  exact CZ (nt := 21) (sl := [(2, .lsl 0 9 0 ([] : List Aj).length), (3, li 3)]) (A8.trans (CI 2 72 9 Z) (wj hA [(0, 1)] Z Z Z Z)) Z
 refine AE <| AC <| rs AA <| rl Z <| AF ?_
 cases q
 exact CZ (nt := 21) (sl := [(2, .lsl 0 9 0 b.2.length), (3, li 0)]) (wj hA [(0, 0)] Z Z Z Z) Z
noncomputable def DW (a : (List Ap)) : Option (List Ap) :=
 Mq a (some []) ((Bq ([] : List Ap) a).bind fun b => some b)
theorem M0 (a : (List Ap)) (r : (List Ap)) (h : DW a = some r) : Aw Tryz.prog 114 [.slice 2 (a.map A1)] (· = .slice 2 (r.map A1)) := by
 refine fn AA Tryz.func114 Z Z 8 Z [.tmp 2] Z [(0, .p (.slice 2 (a.map A1)))] Z Z fun A hA => ?_
 unfold DW at h
 refine rs AA <| rl Z <| AB <| rs AA <| rn 1 Z <| sx Z (Kl h Z Z Z (fun d => ?_) (fun e => ?_))
 .refine rl Z <| RX Z <| rs AA <| rl Z <| AF <| AG ?_
  cases d
  exact er Z (Le.nil _)
 refine rl Z <| S8 Z <| AE <| AC <| rs AA <| rn 2 Z <| bq e fun f b c => sx Z (BV (enc := A1) (l := ([] : List Ap)) (m := a) b (fun _ => ⟨Z, Z⟩) Z Z Z Z Z Z <| rl Z <| AF ?_)
 have hr := Option.some.inj c; subst hr
 exact er (I6 Z (.one (.own (enc := A1) f Z Z))) Le.rfl
noncomputable def B0 (a : A0) : Option AK :=
 (H9 a.p).bind fun b => some b
theorem Ht (a : A0) (r : AK) (h : B0 a = some r) : Aw Tryz.prog 49 [.place (Ar a) 0] (· = .agg (AP r)) := by
 refine fn AA Tryz.func49 Z Z 8 Z [.cell 2 27] Z [(0, .p (.place (Ar a) 0))] Z Z fun A hA => ?_
 unfold B0 at h
 refine rs AA <| rl Z <| rs AA <| rn 4 Z <| bq h fun d b c => sx Z (AM (Rs _ _ b) (.inr Z) Z Z Z <| rl Z <| AF ?_)
 have hr := Option.some.inj c; subst hr
 exact er Z Le.rfl
noncomputable def E0 (g : A0) (e : (Int × (List AI))) (c : Ag) (b : (List Int)) (a : Int × (List AI)) : Option ((Int × (List AI)) ⊕ ((Int × (List AI)) ⊕ (List AI))) :=
 bif decide (a.1 < (b.length : Int)) then (((Aa b a.1).bind fun d => (Bd g (⟨c.elem, d⟩ : AI)).bind fun h => bif h.2 then (Bq a.2 [(⟨c.elem, d⟩ : AI)]).bind fun i => some i else some a.2 : Option ((List AI)))).bind fun (f : (List AI)) => some (.inl (AO (a.1 + 1), f)) else some (.inr (.inl (AO (e.1 + 1), a.2)))
noncomputable def G6 (c : A0) (d : Aj) (b : Int × (List AI)) : Option ((Int × (List AI)) ⊕ (List AI)) :=
 bif decide (b.1 < (d.steps.length : Int)) then (Aa d.steps b.1).bind fun a => (((BU c a.elem).bind fun e => bif (e == 2) then some [AO (3 - (if a.out > a.in_ then a.out else a.in_))] else bif (e == 3) then bif decide (1 < a.in_) then some [0, 1] else some [2, 3] else some ([] : List Int) : Option ((List Int)))).bind fun (f : (List Int)) => AR (E0 c b a f) (0, b.2) else some (.inr b.2)
noncomputable def Hf (a : A0) (b : Aj) : Option (List AI) :=
 AR (G6 a b) (0, ([] : List AI))
theorem Uy (e : A0) (b : Aj) (r : (List AI)) (h : Hf e b = some r) : Aw Tryz.prog 115 [.place (Ar e) 0, .agg (A6 b)] (· = .slice 2 (r.map AV)) := by
 refine fn AA Tryz.func115 Z Z 67 Z [.tmp 4] Z [(0, .p (.place (Ar e) 0)), (1, .p (.agg (A6 b)))] Z Z fun A hA => ?_
 unfold Hf at h
 refine rs AA <| rl Z <| rs AA <| rl Z <| AB <| rs AA <| rn 2 Z <| sx Z (Ac Z Z <| rl Z <| AH ?_)
 apply lp (a := r) (fun c : (Int × (List AI)) => ⟨67, [(0, lq (Ar e)), (5, .lsl 0 2 0 c.2.length), (16, ls 3 Ay b.steps), (17, li (b.steps.length : Int)), (18, li c.1)], [(0, .row 40 2 (c.2.map AV))], 1⟩) h
 . exact A8.trans (CI 5 40 2 Z) (wf hA [(0, 1)] Z Z Z)
 intro c o k
 unfold G6 at k
 refine rs AA <| rl Z <| AB <| cd Z k (fun v => ?_) (fun aq => ?_)
 .refine AE <| AC <| AB <| AH <| rs AA <| bq v fun i q w => sx Z (Ab q Z Z Z <| rl Z <| rs AA <| rl Z <| jb (fun d : (List Int) => ⟨67, [(0, lq (Ar e)), (5, .lsl 0 2 0 c.2.length), (7, .lpb 1 0), (8, .lsl 2 1 0 d.length), (16, ls 3 Ay b.steps), (17, li (b.steps.length : Int)), (18, li c.1)], [(0, .row 40 2 (c.2.map AV)), (1, bx (Ay i)), (2, .row 3 1 (d.map Ae))], 3⟩) w (fun d x => ?_) (fun d af => ?_))
  .refine rs AA <| rn 3 Z <| bq x fun ay s y => sx Z (AM (Br _ _ _ s) (.inl Z) Z Z Z <| rl Z <| AH <| rs AA <| rl Z <| cd Z y (fun z => ?_) (fun aa => ?_))
   .exact rs AA <| rl Z <| rg AA <| rl Z <| Ad <| AL z (wf hA (gi 3 []) Z Z Z)
   refine rs AA <| rl Z <| cd Z aa (fun ab => ?_) (fun ae => ?_)
   .refine rs AA <| rl Z <| rs AA <| rl Z <| cd Z ab (fun ac => ?_) (fun ad => ?_)
    .exact rg AA <| rl Z <| Ad <| AL ac (wf hA [(0, 0), (1, 1), (2, 3)] Z Z Z)
    exact AE <| Ad <| AL ad (wf hA (gi 3 []) Z Z Z)
   exact AE <| Ad <| AL ae (A8.trans (CI 8 3 1 Z) (wf hA (gi 3 []) Z Z Z))
  refine rs AA <| rl Z <| AH ?_
  apply lp (a := o) (fun f : (Int × (List AI)) => ⟨67, [(0, lq (Ar e)), (5, .lsl 0 2 0 f.2.length), (7, .lpb 1 0), (16, ls 3 Ay b.steps), (17, li (b.steps.length : Int)), (18, li c.1), (43, .lsl 2 1 0 d.length), (44, li (d.length : Int)), (45, li f.1)], [(0, .row 40 2 (f.2.map AV)), (1, bx (Ay i)), (2, .row 3 1 (d.map Ae))], 3⟩) af
  . exact wf hA (gi 3 []) Z Z Z
  intro f ax n
  unfold E0 at n
  refine rs AA <| rl Z <| AB <| cd Z n (fun ag => ?_) (fun ao => ?_)
  .refine AE <| AC <| jb (fun g : (List AI) => ⟨67, [(0, lq (Ar e)), (5, .lsl 0 2 0 g.length), (7, .lpb 1 0), (16, ls 3 Ay b.steps), (17, li (b.steps.length : Int)), (18, li c.1), (43, .lsl 2 1 0 d.length), (44, li (d.length : Int)), (45, li f.1)], [(0, .row 40 2 (g.map AV)), (1, bx (Ay i)), (2, .row 3 1 (d.map Ae))], 3⟩) ag (fun g ah => ?_) (fun g an => ?_)
   .refine AH <| rs AA <| bq ah fun au j ai => sx Z (B2 j Z Z Z Z <| sx Z (DC j Z Z Z <| rl Z <| rs AA <| rl Z <| rs AA <| rn 2 Z <| bq ai fun az t aj => sx Z (AM (CG _ _ _ t) (.inl Z) Z Z Z <| rl Z <| rs AA <| rl Z <| cd Z aj (fun ak => ?_) (fun am => ?_))))
    .exact rg AA <| rn 3 Z <| bq ak fun a0 u al => sx Z (BV (enc := AV) (l := f.2) (m := [(⟨i.elem, au⟩ : AI)]) u (fun _ => ⟨Z, Z⟩) Z Z Z Z Z Z <| rl Z <| Ad <| AL al (wf hA [(0, 6), (1, 1), (2, 2)] Z Z Z))
    exact AE <| Ad <| AL am (wf hA (gi 3 []) Z Z Z)
   exact rg AA <| rl Z <| Aq an (wf hA (gi 3 []) Z Z Z)
  exact AU <| AX <| BH ao fun av ap => Am <| Ad <| AC <| rg AA <| rl Z <| Aq ap (wf hA [(0, 0)] Z Z Z)
 refine AU <| AX <| BH aq fun aw ar => Am <| AC <| rs AA <| rl Z <| AF ?_
 cases ar
 exact er (I6 Z (.one (.own (enc := AV) c.2 Z Z))) Le.rfl
noncomputable def Je (a : Ag) (b : Int) : Option Bool :=
 some (a.elem == b)
theorem Uz (a : Ag) (b : Int) (r : Bool) (h : Je a b = some r) : Aw Tryz.prog 151 [.agg (Ay a), .place (Ae b) 0] (· = .bool r) := by
 refine fn AA Tryz.func151 Z Z 8 Z [.tmp 3] Z [(0, .p (.agg (Ay a))), (1, .p (.place (Ae b) 0))] Z Z fun A hA => ?_
 unfold Je at h
 refine rs AA <| rl Z <| rs AA <| rl Z <| AF ?_
 cases h
 exact er Z Le.rfl
noncomputable def GZ (b : Aj) (c : Int) (a : Int) : Option (Int ⊕ Int) :=
 bif decide (a < (b.steps.length : Int)) then (Aa b.steps a).bind fun d => (Je d c).bind fun e => bif e then some (.inr a) else some (.inl (AO (a + 1))) else some (.inr (-1))
noncomputable def Jf (c : Aj) (d : Int) : Option Bool :=
 ((((AR (GZ c d) 0 : Option (Int))).bind fun (b : Int) => some (decide (0 <= b)) : Option (Bool))).bind fun (a : Bool) => some a
theorem Xn (b : Aj) (d : Int) (r : Bool) (h : Jf b d = some r) : Aw Tryz.prog 117 [.agg (A6 b), .int .i64 d] (· = .bool r) := by
 refine fn AA Tryz.func117 Z Z 9 Z [.tmp 4] Z [(0, .p (.agg (A6 b))), (1, .p (.int .i64 d))] Z Z fun A hA => ?_
 unfold Jf at h
 refine rs AA <| rl Z <| rs AA <| rn 3 Z <| sx Z (CW AA (fun e : Bool => lb e) (fun e : Bool => [(0, bx (A6 b)), (1, .box [li d])]) 2 h Tryz.func150 9 [.tmp 4] [(0, ls 3 Ay b.steps), (1, .fn 151 [.lpb 1 0])] Z Z Z Z Z Z Z Z (fun A hA e k => ?_) (fun e x => ?_))
 .refine rs AA <| rl Z <| rs AA <| rn 2 Z <| sx Z (CW AA (fun c : Int => li c) (fun c : Int => [(0, bx (A6 b)), (1, .box [li d])]) 2 k Tryz.func167 19 [.tmp 4] [(0, ls 3 Ay b.steps), (1, .fn 151 [.lpb 1 0])] Z Z Z Z Z Z Z Z (fun A hA c l => ?_) (fun c w => ?_))
  .refine rs AA <| rl Z <| AB <| rs AA <| rn 1 Z <| sx Z (Ac Z Z <| rl Z <| AH ?_)
   apply lp (a := c) (fun f : Int => ⟨19, [(0, ls 3 Ay b.steps), (1, .fn 151 [.lpb 1 0]), (7, li (b.steps.length : Int)), (8, li f)], [(0, bx (A6 b)), (1, .box [li d])], 2⟩) l
   . exact wj hA [(0, 0), (1, 1)] Z Z Z Z
   intro f aa g
   unfold GZ at g
   refine rs AA <| rl Z <| AB <| cd Z g (fun m => ?_) (fun u => ?_)
   .refine AE <| AC <| AB <| AH <| rs AA <| rl Z <| rs AA <| rn 3 Z <| bq m fun ab i n => sx Z (Ab i Z Z Z <| rn 1 Z <| bq n fun ac j o => sx Z (AM (Uz _ _ _ j) (.inl Z) Z Z (Dm.eq (.cons (.one (.p _)) (.cons (.box Z (.cons (.p _) .nil)) .nil))) <| rl Z <| cd Z o (fun q => ?_) (fun t => ?_)))
    .refine rs AA <| rl Z <| AF <| AN <| AG <| Az q fun y s => AN <| AG ?_
     have hr := Option.some.inj s; subst hr
     exact CZ (nt := 19) (sl := [(4, li f)]) (wj hA [(0, 0), (1, 1)] Z Z Z Z) Z
    exact AE <| Ad <| AC <| rg AA <| rl Z <| Aq t (wj hA [(0, 0), (1, 1)] Z Z Z Z)
   refine AU <| AX <| BH u fun z v => Am <| AC <| rs AA <| rl Z <| AF ?_
   cases v
   exact CZ (nt := 19) (sl := [(4, li (-1))]) (wj hA [(0, 0), (1, 1)] Z Z Z Z) Z
  refine rl Z <| AF ?_
  cases w
  exact CZ (nt := 9) (sl := [(4, lb (decide (0 <= c)))]) (wj hA [(0, 0), (1, 1)] Z Z Z Z) Z
 refine rl Z <| AF ?_
 have hr := Option.some.inj x; subst hr
 exact er Z Le.rfl
noncomputable def Cp (b : (List Int)) (c : Int) (a : Int) : Option (Int ⊕ Int) :=
 bif decide (a < (b.length : Int)) then (Aa b a).bind fun d => bif (c == d) then some (.inr a) else some (.inl (AO (a + 1))) else some (.inr (-1))
noncomputable def E1 (a : (List Int)) (b : Int) : Option Int :=
 AR (Cp a b) 0
theorem PZ (b : (List Int)) (c : Int) (r : Int) (h : E1 b c = some r) : Aw Tryz.prog 73 [.slice 1 (b.map Ae), .int .i64 c] (· = .int .i64 r) := by
 refine fn AA Tryz.func73 Z Z 19 Z [.tmp 4] Z [(0, .p (.slice 1 (b.map Ae))), (1, .p (.int .i64 c))] Z Z fun A hA => ?_
 unfold E1 at h
 refine rs AA <| rl Z <| AB <| rs AA <| rn 1 Z <| sx Z (Ac Z Z <| rl Z <| AH ?_)
 apply lp (a := r) (fun e : Int => ⟨19, [(0, ls 1 Ae b), (1, li c), (7, li (b.length : Int)), (8, li e)], [], 0⟩) h
 . exact wf hA [] Z Z Z
 intro e s d
 unfold Cp at d
 refine rs AA <| rl Z <| AB <| cd Z d (fun n => ?_) (fun l => ?_)
 .refine AE <| AC <| AB <| AH <| rs AA <| rl Z <| rs AA <| rn 3 Z <| bq n fun t f g => sx Z (Ab f Z Z Z <| rl Z <| cd Z g (fun i => ?_) (fun k => ?_))
  .refine rs AA <| rl Z <| AF <| AN <| AG <| Az i fun o j => AN <| AG ?_
   have hr := Option.some.inj j; subst hr
   exact er Z Le.rfl
  exact AE <| Ad <| AC <| rg AA <| rl Z <| Aq k (wf hA [] Z Z Z)
 refine AU <| AX <| BH l fun q m => Am <| AC <| rs AA <| rl Z <| AF ?_
 cases m
 exact er Z Le.rfl
noncomputable def Bb (a : (List Int)) (b : Int) : Option Bool :=
 (E1 a b).bind fun c => some (decide (0 <= c))
theorem Cq (a : (List Int)) (b : Int) (r : Bool) (h : Bb a b = some r) : Aw Tryz.prog 46 [.slice 1 (a.map Ae), .int .i64 b] (· = .bool r) := by
 refine fn AA Tryz.func46 Z Z 9 Z [.tmp 4] Z [(0, .p (.slice 1 (a.map Ae))), (1, .p (.int .i64 b))] Z Z fun A hA => ?_
 unfold Bb at h
 refine rs AA <| rl Z <| rs AA <| rn 2 Z <| bq h fun e c d => sx Z (AM (PZ _ _ _ c) (.inl Z) Z Z Z <| rl Z <| AF ?_)
 cases d
 exact er Z Le.rfl
noncomputable def CJ (b : (List Ap)) (c : Ap) (a : Int) : Option (Int ⊕ Int) :=
 bif decide (a < (b.length : Int)) then (Aa b a).bind fun d => bif (c == d) then some (.inr a) else some (.inl (AO (a + 1))) else some (.inr (-1))
noncomputable def DX (a : (List Ap)) (b : Ap) : Option Int :=
 AR (CJ a b) 0
theorem M1 (c : (List Ap)) (b : Ap) (r : Int) (h : DX c b = some r) : Aw Tryz.prog 152 [.slice 2 (c.map A1), .agg (A1 b)] (· = .int .i64 r) := by
 refine fn AA Tryz.func152 Z Z 19 Z [.tmp 4] Z [(0, .p (.slice 2 (c.map A1))), (1, .p (.agg (A1 b)))] Z Z fun A hA => ?_
 unfold DX at h
 refine rs AA <| rl Z <| AB <| rs AA <| rn 1 Z <| sx Z (Ac Z Z <| rl Z <| AH ?_)
 apply lp (a := r) (fun e : Int => ⟨19, [(0, ls 2 A1 c), (3, .lpb 0 0), (7, li (c.length : Int)), (8, li e)], [(0, .box [li b.elem, li b.pos])], 1⟩) h
 . exact wf hA [(0, 0)] Z Z Z
 intro e t d
 unfold CJ at d
 refine rs AA <| rl Z <| AB <| cd Z d (fun n => ?_) (fun l => ?_)
 .refine AE <| AC <| AB <| AH <| rs AA <| rl Z <| AB ?_
  refine By AA mixed [0, 1, 2, 3, 4, 5] 6 (by kernel_rfl) Z Z Z ?_
  refine As 3 Z <| bq n fun o f g => Au Z (Al Z (Ab f Z Z Z <| As 1 Z <| Au Z (PN (Zn b o) Z Z Z Z Z <| BF Z <| AC <| cd Z g (fun i => ?_) (fun k => ?_))))
  .refine rs AA <| rl Z <| AF <| AN <| AG <| Az i fun q j => AN <| AG ?_
   have hr := Option.some.inj j; subst hr
   exact er Z Le.rfl
  exact AE <| Ad <| AC <| rg AA <| rl Z <| Aq k (wf hA [(0, 0)] Z Z Z)
 refine AU <| AX <| BH l fun s m => Am <| AC <| rs AA <| rl Z <| AF ?_
 cases m
 exact er Z Le.rfl
noncomputable def Bp (a : (List Ap)) (b : Ap) : Option Bool :=
 (DX a b).bind fun c => some (decide (0 <= c))
theorem D4 (a : (List Ap)) (b : Ap) (r : Bool) (h : Bp a b = some r) : Aw Tryz.prog 119 [.slice 2 (a.map A1), .agg (A1 b)] (· = .bool r) := by
 refine fn AA Tryz.func119 Z Z 9 Z [.tmp 4] Z [(0, .p (.slice 2 (a.map A1))), (1, .p (.agg (A1 b)))] Z Z fun A hA => ?_
 unfold Bp at h
 refine rs AA <| rl Z <| rs AA <| rn 2 Z <| bq h fun e c d => sx Z (AM (M1 _ _ _ c) (.inl Z) Z Z Z <| rl Z <| AF ?_)
 cases d
 exact er Z Le.rfl
noncomputable def D5 (e : Int) (c : (List Bi)) (a : Int) : Option (Int ⊕ (Int × Bool)) :=
 bif decide (a < (c.length : Int)) then (Aa c a).bind fun b => ((bif (b.pos == 0) then some true else some (b.pos == e) : Option (Bool))).bind fun (d : Bool) => bif d then some (.inr (b.out, true)) else some (.inl (AO (a + 1))) else some (.inr (0, false))
noncomputable def Dz (a : A0) (b : Int) (c : Int) (d : Int) : Option (Int × Bool) :=
 (EN a b c).bind fun e => AR (D5 d e) 0
theorem QN (f : A0) (g : Int) (i : Int) (b : Int) (r : (Int × Bool)) (h : Dz f g i b = some r) : Aw Tryz.prog 153 [.place (Ar f) 0, .int .i64 g, .int .i64 i, .int .i64 b] (· = .tup [.int .i64 r.1, .bool r.2]) := by
 refine fn AA Tryz.func153 Z Z 33 Z [.tmp 8, .tmp 9] Z [(0, .p (.place (Ar f) 0)), (1, .p (.int .i64 g)), (2, .p (.int .i64 i)), (3, .p (.int .i64 b))] Z Z fun A hA => ?_
 unfold Dz at h
 refine rs AA <| rl Z <| AB <| rs AA <| rn 3 Z <| bq h fun c l n => sx Z (AM (NZ _ _ _ _ l) (.inr Z) Z Z Z <| sx Z (Ac Z Z <| rl Z <| AH ?_))
 apply lp (a := r) (fun d : Int => ⟨33, [(3, li b), (15, ls 2 Dt c), (16, li (c.length : Int)), (17, li d)], [], 0⟩) n
 . exact wf hA [] Z Z Z
 intro d ad j
 unfold D5 at j
 refine rs AA <| rl Z <| AB <| cd Z j (fun o => ?_) (fun z => ?_)
 .refine AE <| AC <| AB <| AH <| rs AA <| bq o fun k m q => sx Z (Ab m Z Z Z <| rl Z <| jb (fun e : Bool => ⟨33, [(3, li b), (11, .lpb 0 0), (15, ls 2 Dt c), (16, li (c.length : Int)), (17, li d), (29, lb e)], [(0, .box [li k.out, li k.pos])], 1⟩) q (fun e s => ?_) (fun e v => ?_))
  .refine rg AA <| rn 4 Z <| gs 24 s Z Z Z (fun t => ?_) (fun u => ?_)
   .exact rl Z <| AL t (wf hA [(0, 0)] Z Z Z)
   exact rl Z <| AL u (wf hA [(0, 0)] Z Z Z)
  refine cd Z v (fun w => ?_) (fun y => ?_)
  .refine rs AA <| rl Z <| AF <| AN <| AG <| Az w fun ab x => AN <| AG ?_
   cases x
   exact er Z Le.rfl
  exact AE <| Ad <| AC <| rg AA <| rl Z <| Aq y (wf hA [] Z Z Z)
 refine AU <| AX <| BH z fun ac aa => Am <| AC <| rs AA <| rl Z <| AF ?_
 cases aa
 exact er Z Le.rfl
noncomputable def IA (b : A0) (c : Int) (d : Int) (e : Int) : Option (Int × Bool) :=
 (Dz b c d e).bind fun a => some (a.1, a.2)
theorem Sn (a : A0) (b : Int) (c : Int) (d : Int) (r : (Int × Bool)) (h : IA a b c d = some r) : Aw Tryz.prog 120 [.place (Ar a) 0, .int .i64 b, .int .i64 c, .int .i64 d] (· = .tup [.int .i64 r.1, .bool r.2]) := by
 refine fn AA Tryz.func120 Z Z 17 Z [.tmp 8, .tmp 9] Z [(0, .p (.place (Ar a) 0)), (1, .p (.int .i64 b)), (2, .p (.int .i64 c)), (3, .p (.int .i64 d))] Z Z fun A hA => ?_
 unfold IA at h
 refine rs AA <| rl Z <| rs AA <| rn 4 Z <| bq h fun g e f => sx Z (AM (QN _ _ _ _ _ e) (.inl Z) Z Z Z <| rl Z <| AF ?_)
 cases f
 exact er Z Le.rfl
noncomputable def C7 (d : A0) (e : Aj) (r : (List Ag)) (l : (List Ap)) (am : AK) (a : Bool × (List (AI × Bool)) × (List Ap) × (List Int) × (List Int) × (List AI)) : Option ((Bool × (List (AI × Bool)) × (List Ap) × (List Int) × (List Int) × (List AI)) ⊕ Aj) :=
 bif decide (0 < (a.2.2.2.2.2.length : Int)) then (Aa a.2.2.2.2.2 (AO ((a.2.2.2.2.2.length : Int) - 1))).bind fun b => (MU a.2.2.2.2.2 0 (AO ((a.2.2.2.2.2.length : Int) - 1))).bind fun c => (((Jf (⟨e.frm, e.to, e.fin, r, l, a.2.2.1, a.2.2.2.1, a.2.2.2.2.1, a.1⟩ : Aj) b.elem).bind fun an => bif an then some true else some ((An a.2.1 b).getD false) : Option (Bool))).bind fun (y : Bool) => bif y then some (.inl (a.1, a.2.1, a.2.2.1, a.2.2.2.1, a.2.2.2.2.1, c)) else (Ca d b).bind fun m => ((bif decide (0 <= m) then some (!am.hard) else some false : Option (Bool))).bind fun (z : Bool) => bif z then (((Bb a.2.2.2.2.1 m).bind fun ao => bif (!ao) then (Bq a.2.2.2.2.1 [m]).bind fun ap => some ap else some a.2.2.2.2.1 : Option ((List Int)))).bind fun (aa : (List Int)) => some (.inl (a.1, A3 b true a.2.1, a.2.2.1, a.2.2.2.1, aa, c)) else (BU d b.elem).bind fun s => bif (s == 4) then some (.inl (true, A3 b true a.2.1, a.2.2.1, a.2.2.2.1, a.2.2.2.2.1, c)) else bif (s == 2) then bif (b.fin == 0) then (((((Bb a.2.2.2.1 b.elem).bind fun aq => bif aq then some (true, a.1, a.2.2.2.1) else bif decide (12 <= (a.2.2.2.1.length : Int)) then some (false, true, a.2.2.2.1) else (Bq a.2.2.2.1 [b.elem]).bind fun ar => some (true, a.1, ar) : Option (Bool × Bool × (List Int)))).bind fun (h : Bool × Bool × (List Int)) => bif h.1 then (((Bd d (⟨b.elem, 2⟩ : AI)).bind fun t => bif t.2 then (Bq c [t.1]).bind fun au => some au else some c : Option ((List AI)))).bind fun (n : (List AI)) => (((Bd d (⟨b.elem, 1⟩ : AI)).bind fun u => bif u.2 then (Bq n [u.1]).bind fun av => some av else some n : Option ((List AI)))).bind fun (ab : (List AI)) => some (h.2.1, h.2.2, ab) else some (h.2.1, h.2.2, c) : Option (Bool × (List Int) × (List AI)))).bind fun (k : Bool × (List Int) × (List AI)) => some (.inl (k.1, A3 b true a.2.1, a.2.2.1, k.2.1, a.2.2.2.2.1, k.2.2)) else (((Bp l (⟨b.elem, b.fin⟩ : Ap)).bind fun ac => bif ac then some true else (Bp a.2.2.1 (⟨b.elem, b.fin⟩ : Ap)).bind fun ad => some ad : Option (Bool))).bind fun (v : Bool) => bif v then (((((Bb a.2.2.2.1 b.elem).bind fun ae => bif ae then some (true, a.1, a.2.2.2.1) else bif decide (12 <= (a.2.2.2.1.length : Int)) then some (false, true, a.2.2.2.1) else (Bq a.2.2.2.1 [b.elem]).bind fun af => some (true, a.1, af) : Option (Bool × Bool × (List Int)))).bind fun (f : Bool × Bool × (List Int)) => bif f.1 then (((Bd d (⟨b.elem, 0⟩ : AI)).bind fun o => bif o.2 then (Bq c [o.1]).bind fun ag => some ag else some c : Option ((List AI)))).bind fun (w : (List AI)) => some (f.2.1, f.2.2, w) else some (f.2.1, f.2.2, c) : Option (Bool × (List Int) × (List AI)))).bind fun (i : Bool × (List Int) × (List AI)) => some (.inl (i.1, A3 b true a.2.1, a.2.2.1, i.2.1, a.2.2.2.2.1, i.2.2)) else (Bp a.2.2.1 (⟨b.elem, AO (3 - b.fin)⟩ : Ap)).bind fun ah => bif (!ah) then (Bq a.2.2.1 [(⟨b.elem, AO (3 - b.fin)⟩ : Ap)]).bind fun ai => some (.inl (a.1, A3 b true a.2.1, ai, a.2.2.2.1, a.2.2.2.2.1, c)) else some (.inl (a.1, A3 b true a.2.1, a.2.2.1, a.2.2.2.1, a.2.2.2.2.1, c)) else (IA d b.elem b.fin 0).bind fun p => ((bif p.2 then (((Bb a.2.2.2.1 b.elem).bind fun aj => bif aj then some (true, a.1, a.2.2.2.1) else bif decide (12 <= (a.2.2.2.1.length : Int)) then some (false, true, a.2.2.2.1) else (Bq a.2.2.2.1 [b.elem]).bind fun ak => some (true, a.1, ak) : Option (Bool × Bool × (List Int)))).bind fun (j : Bool × Bool × (List Int)) => some (j.1, j.2.1, j.2.2) else some (false, a.1, a.2.2.2.1) : Option (Bool × Bool × (List Int)))).bind fun (g : Bool × Bool × (List Int)) => bif g.1 then (((Bd d (⟨b.elem, p.1⟩ : AI)).bind fun q => bif q.2 then (Bq c [q.1]).bind fun al => some al else some c : Option ((List AI)))).bind fun (x : (List AI)) => some (.inl (g.2.1, A3 b true a.2.1, a.2.2.1, g.2.2, a.2.2.2.2.1, x)) else some (.inl (g.2.1, A3 b true a.2.1, a.2.2.1, g.2.2, a.2.2.2.2.1, c)) else some (.inr (⟨e.frm, e.to, e.fin, r, l, a.2.2.1, a.2.2.2.1, a.2.2.2.2.1, a.1⟩ : Aj))
noncomputable def Ek (b : A0) (c : Aj) (i : (List Ag)) (j : (List Ap)) (d : AK) (e : (List AI)) (a : Int × (List AI)) : Option ((Int × (List AI)) ⊕ Aj) :=
 bif decide (0 <= a.1) then (Aa e a.1).bind fun f => (Bd b f).bind fun g => (Bq a.2 [g.1]).bind fun h => some (.inl (AO (a.1 - 1), h)) else (AR (C7 b c i j d) (false, [], ([] : List Ap), ([] : List Int), ([] : List Int), a.2)).map .inr
noncomputable def E2 (b : A0) (a : Aj) : Option Aj :=
 (BX a.steps).bind fun d => (DW a.needs).bind fun e => (B0 b).bind fun f => (Hf b (⟨a.frm, a.to, a.fin, d, e, [], [], [], false⟩ : Aj)).bind fun c => AR (Ek b a d e f c) (AO ((c.length : Int) - 1), ([] : List AI))
theorem Xo (e : A0) (c : Aj) (r : Aj) (h : E2 e c = some r) : Aw Tryz.prog 82 [.place (Ar e) 0, .agg (A6 c)] (· = .agg (A6 r)) := by
 refine fn AA Tryz.func82 Z Z 187 Z [.cell 4 72] Z [(0, .p (.place (Ar e) 0)), (1, .p (.agg (A6 c)))] Z Z fun A hA => ?_
 unfold E2 at h
 refine rs AA <| rl Z <| sc <| AB ?_
 refine By AA mixed [0, 1, 2, 3, 4, 5, 6, 7, 8, 9] 10 (by kernel_rfl) Z Z Z ?_
 refine As 2 Z <| bq h fun g a7 de => Au Z (A2 (Mz _ _ a7) (.inr Z) Z Z Z <| As 2 Z <| bq de fun i a8 df => Au Z (A2 (M0 _ _ a8) (.inr Z) Z Z Z <| BF Z <| AC <| rs AA <| rl Z <| rs AA <| rn 1 Z <| bq df fun o a2 c6 => sx Z (AM (Ht _ _ a2) (.inr Z) Z Z Z <| rl Z <| rs AA <| rl Z <| rs AA <| rl Z <| rs AA <| rn 2 Z <| bq c6 fun e4 a3 c7 => sx Z (AM (Aw.le (Uy _ _ _ a3) (.cons Le.rfl (.cons (Le.agg' (.cons Le.rfl (.cons Le.rfl (.cons Le.rfl (.cons Le.rfl (.cons Le.rfl (.cons (Le.nil _) (.cons (Le.nil _) (.cons (Le.nil _) (.cons Le.rfl .nil)))))))))) .nil))) (.inr Z) Z Z Z <| rl Z <| AB <| rs AA <| rn 1 Z <| sx Z (Ac Z Z <| rl Z <| AH ?_)))))
 apply lp (a := r) (fun v : (Int × (List AI)) => ⟨187, [(2, .lpb 0 0), (3, .lpb 1 0), (4, .lpb 2 0), (5, lb o.hard), (6, .lmap 3), (7, .lpb 4 0), (8, ls 2 AV e4), (9, li v.1)], [(0, .box [lq (Ar e)]), (1, .box [li c.frm, li c.to, li c.fin, ls 3 Ay g, ls 2 A1 i, .p (.nils), .p (.nils), .p (.nils), lb false]), (2, .box [li 0, li 0, li 0, .p (.nils), .p (.nils), .p (.nils), .p (.nils), .p (.nils), lb false]), (3, .map (Ao (fun x => .agg (AV x)) .bool [])), (4, .box [.lsl 5 2 0 v.2.length]), (5, .row 40 2 (v.2.map AV))], 6⟩) c7
 . exact A8.trans (CQ 14 0 40 2 Z Z Z Z) (wf hA (gi 3 [(3, 13), (4, 14), (5, 15)]) Z Z Z)
 intro v e9 ai
 unfold Ek at ai
 refine AB <| rs AA <| rl Z <| cd Z ai (fun c8 => ?_) (fun dc => ?_)
 .refine AE <| AC <| AB <| AH <| AB ?_
  refine By AA mixed [0, 1, 2, 3, 4, 5, 6, 7, 8, 9, 10, 11] 12 (by kernel_rfl) Z Z Z ?_
  exact As 3 Z <| bq c8 fun fl a4 c9 => Au Z (Al Z (Ab a4 Z Z Z <| As 1 Z <| bq c9 fun e5 a5 da => Au Z (A2 (CG _ _ _ a5) (.inl Z) Z Z Z <| BF Z <| AC <| rg AA <| rn 3 Z <| bq da fun fm a6 db => sx Z (BV (enc := AV) (l := v.2) (m := [e5.1]) a6 (fun _ => ⟨Z, Z⟩) Z Z Z Z Z Z <| rl Z <| Ad <| AC <| rg AA <| rl Z <| Aq db (wf hA (gi 5 [(5, 19)]) Z Z Z)))))
 refine AU <| AX <| CH dc fun am dd => Am <| AC <| rs AA <| rl Z <| AB <| KY <| AC <| AB <| AH ?_
 apply lp (a := am) (fun b : (Bool × (List (AI × Bool)) × (List Ap) × (List Int) × (List Int) × (List AI)) => ⟨187, [(2, .lpb 0 0), (3, .lpb 1 0), (4, .lpb 2 0), (5, lb o.hard), (6, .lmap 3), (7, .lpb 4 0), (12, .fn 116 [.lpb 0 0, .lpb 4 0])], [(0, .box [lq (Ar e)]), (1, .box [li c.frm, li c.to, li c.fin, ls 3 Ay g, ls 2 A1 i, .lsl 5 2 0 b.2.2.1.length, .lsl 6 1 0 b.2.2.2.1.length, .lsl 7 1 0 b.2.2.2.2.1.length, lb b.1]), (2, .box [li 0, li 0, li 0, .p (.nils), .p (.nils), .p (.nils), .p (.nils), .p (.nils), lb false]), (3, .map (Ao (fun x => .agg (AV x)) .bool b.2.1)), (4, .box [.lsl 8 2 0 b.2.2.2.2.2.length]), (5, .row 185 2 (b.2.2.1.map A1)), (6, .row 3 1 (b.2.2.2.1.map Ae)), (7, .row 3 1 (b.2.2.2.2.1.map Ae)), (8, .row 40 2 (b.2.2.2.2.2.map AV))], 9⟩) dd
 . exact A8.trans (CQ 1 5 185 2 Z Z Z Z) (A8.trans (CQ 1 6 3 1 Z Z Z Z) (A8.trans (CQ 1 7 3 1 Z Z Z Z) (wf hA (gi 5 [(5, 6), (6, 7), (7, 8), (8, 5)]) Z Z Z)))
 intro b fa aj
 unfold C7 at aj
 refine AB <| rs AA <| rl Z <| cd Z aj (fun dg => ?_) (fun c4 => ?_)
 .refine AE <| AC <| AH <| rs AA <| rn 4 Z <| bq dg fun d ah dh => sx Z (B2 ah Z Z Z Z <| sx Z (DC ah Z Z Z <| rl Z <| rs AA <| rn 4 Z <| bq dh fun f ad di => sx Z (Rm (l := b.2.2.2.2.2) ad Z Z Z Z <| rl Z <| AB <| jb (fun af : Bool => ⟨187, [(2, .lpb 0 0), (3, .lpb 1 0), (4, .lpb 2 0), (5, lb o.hard), (6, .lmap 3), (7, .lpb 4 0), (12, .fn 116 [.lpb 0 0, .lpb 4 0]), (13, .lpb 5 0), (81, lb af)], [(0, .box [lq (Ar e)]), (1, .box [li c.frm, li c.to, li c.fin, ls 3 Ay g, ls 2 A1 i, .lsl 6 2 0 b.2.2.1.length, .lsl 7 1 0 b.2.2.2.1.length, .lsl 8 1 0 b.2.2.2.2.1.length, lb b.1]), (2, .box [li 0, li 0, li 0, .p (.nils), .p (.nils), .p (.nils), .p (.nils), .p (.nils), lb false]), (3, .map (Ao (fun x => .agg (AV x)) .bool b.2.1)), (4, .box [.lsl 9 2 0 f.length]), (5, .box [li d.elem, li d.fin]), (6, .row 185 2 (b.2.2.1.map A1)), (7, .row 3 1 (b.2.2.2.1.map Ae)), (8, .row 3 1 (b.2.2.2.2.1.map Ae)), (9, .row 40 2 (f.map AV))], 10⟩) di (fun af dj => ?_) (fun af dn => ?_))))
  .refine rg AA <| rn 3 Z <| bq dj fun fo a9 dk => sx Z (AM (Xn _ _ _ a9) (.inl Z) Z Z (Dm.eq (.cons (.agg (.cons (.p _) (.cons (.p _) (.cons (.p _) (.cons (.p _) (.cons (.p _) (.cons (.own (enc := A1) b.2.2.1 Z Z) (.cons (.own (enc := Ae) b.2.2.2.1 Z Z) (.cons (.own (enc := Ae) b.2.2.2.2.1 Z Z) (.cons (.p _) .nil)))))))))) (.cons (.one (.p _)) .nil))) <| rn 1 Z <| gs 77 dk Z Z Z (fun dl => ?_) (fun dm => ?_))
   .exact rl Z <| AL dl (A8.trans (J2 8 ad Z Z) (wf hA (gi 5 [(5, 9), (6, 5), (7, 6), (8, 7), (9, 8)]) Z Z Z))
   exact rn 2 Z <| sx Z (LL (et := 4) (ke := (fun x => .agg (AV x))) (ve := .bool) (mp := b.2.1) (y := d) false CK Z Z Z Z <| rl Z <| AL dm (A8.trans (J2 8 ad Z Z) (wf hA (gi 5 [(5, 9), (6, 5), (7, 6), (8, 7), (9, 8)]) Z Z Z)))
  refine cd Z dn (fun dp => ?_) (fun dq => ?_)
  .exact AU <| AX <| Am <| Aq dp (wf hA (gi 5 [(5, 6), (6, 7), (7, 8), (8, 9)]) Z Z Z)
  refine AE <| AC <| rs AA <| rn 2 Z <| sx Z (G0 (et := 4) (ke := (fun x => .agg (AV x))) (ve := .bool) (mp := b.2.1) (y := d) (z := true) CK Z Z Z Z Z Z <| rl Z <| AB <| rs AA <| rn 2 Z <| bq dq fun al ba dr => sx Z (AM (G3 _ _ _ ba) (.inl Z) Z Z Z <| rl Z <| jb (fun ag : Bool => ⟨187, [(2, .lpb 0 0), (3, .lpb 1 0), (4, .lpb 2 0), (5, lb o.hard), (6, .lmap 3), (7, .lpb 4 0), (12, .fn 116 [.lpb 0 0, .lpb 4 0]), (13, .lpb 5 0), (14, li al), (92, lb ag)], [(0, .box [lq (Ar e)]), (1, .box [li c.frm, li c.to, li c.fin, ls 3 Ay g, ls 2 A1 i, .lsl 6 2 0 b.2.2.1.length, .lsl 7 1 0 b.2.2.2.1.length, .lsl 8 1 0 b.2.2.2.2.1.length, lb b.1]), (2, .box [li 0, li 0, li 0, .p (.nils), .p (.nils), .p (.nils), .p (.nils), .p (.nils), lb false]), (3, .map (Ao (fun x => .agg (AV x)) .bool (A3 d true b.2.1))), (4, .box [.lsl 9 2 0 f.length]), (5, .box [li d.elem, li d.fin]), (6, .row 185 2 (b.2.2.1.map A1)), (7, .row 3 1 (b.2.2.2.1.map Ae)), (8, .row 3 1 (b.2.2.2.2.1.map Ae)), (9, .row 40 2 (f.map AV))], 10⟩) dr (fun ag ds => ?_) (fun ag dv => ?_)))
  .refine rg AA <| rn 3 Z <| gs 89 ds Z Z Z (fun dt => ?_) (fun du => ?_)
   .exact rl Z <| AL dt (wf hA (gi 10 []) Z Z Z)
   exact rl Z <| AL du (wf hA (gi 10 []) Z Z Z)
  refine cd Z dv (fun dw => ?_) (fun d3 => ?_)
  .refine jb (fun ac : (List Int) => ⟨187, [(2, .lpb 0 0), (3, .lpb 1 0), (4, .lpb 2 0), (5, lb o.hard), (6, .lmap 3), (7, .lpb 4 0), (12, .fn 116 [.lpb 0 0, .lpb 4 0])], [(0, .box [lq (Ar e)]), (1, .box [li c.frm, li c.to, li c.fin, ls 3 Ay g, ls 2 A1 i, .lsl 5 2 0 b.2.2.1.length, .lsl 6 1 0 b.2.2.2.1.length, .lsl 7 1 0 ac.length, lb b.1]), (2, .box [li 0, li 0, li 0, .p (.nils), .p (.nils), .p (.nils), .p (.nils), .p (.nils), lb false]), (3, .map (Ao (fun x => .agg (AV x)) .bool (A3 d true b.2.1))), (4, .box [.lsl 8 2 0 f.length]), (5, .row 185 2 (b.2.2.1.map A1)), (6, .row 3 1 (b.2.2.2.1.map Ae)), (7, .row 3 1 (ac.map Ae)), (8, .row 40 2 (f.map AV))], 9⟩) dw (fun ac dx => ?_) (fun ac d2 => ?_)
   .refine rs AA <| rn 3 Z <| bq dx fun fp bb dy => sx Z (AM (Cq _ _ _ bb) (.inl Z) Z Z (Dm.eq (.cons (.one (.own (enc := Ae) b.2.2.2.2.1 Z Z)) (.cons (.one (.p _)) .nil))) <| rl Z <| cd Z dy (fun dz => ?_) (fun d1 => ?_))
    .exact rg AA <| rn 4 Z <| bq dz fun fq bc d0 => sx Z (BV (enc := Ae) (l := b.2.2.2.2.1) (m := [al]) bc (fun _ => ⟨Z, Z⟩) Z Z Z Z Z Z <| rl Z <| AL d0 (wf hA (gi 5 [(5, 6), (6, 7), (7, 11), (8, 9)]) Z Z Z))
    exact AE <| AL d1 (wf hA (gi 5 [(5, 6), (6, 7), (7, 8), (8, 9)]) Z Z Z)
   exact AU <| AX <| Am <| Aq d2 (wf hA (gi 9 []) Z Z Z)
  refine AE <| AC <| rs AA <| rn 3 Z <| bq d3 fun fr be d4 => sx Z (AM (Br _ _ _ be) (.inl Z) Z Z Z <| rl Z <| AH <| rs AA <| rl Z <| cd Z d4 (fun d5 => ?_) (fun d6 => ?_))
  .exact rg AA <| rl Z <| Ad <| Ad <| Aq d5 (wf hA (gi 5 [(5, 6), (6, 7), (7, 8), (8, 9)]) Z Z Z)
  refine rs AA <| rl Z <| cd Z d6 (fun d7 => ?_) (fun ci => ?_)
  .refine AB <| rs AA <| rl Z <| cd Z d7 (fun d8 => ?_) (fun e1 => ?_)
   .refine jb (fun t : (Bool × (List Int) × (List AI)) => ⟨187, [(2, .lpb 0 0), (3, .lpb 1 0), (4, .lpb 2 0), (5, lb o.hard), (6, .lmap 3), (7, .lpb 4 0), (12, .fn 116 [.lpb 0 0, .lpb 4 0])], [(0, .box [lq (Ar e)]), (1, .box [li c.frm, li c.to, li c.fin, ls 3 Ay g, ls 2 A1 i, .lsl 5 2 0 b.2.2.1.length, .lsl 6 1 0 t.2.1.length, .lsl 7 1 0 b.2.2.2.2.1.length, lb t.1]), (2, .box [li 0, li 0, li 0, .p (.nils), .p (.nils), .p (.nils), .p (.nils), .p (.nils), lb false]), (3, .map (Ao (fun x => .agg (AV x)) .bool (A3 d true b.2.1))), (4, .box [.lsl 8 2 0 t.2.2.length]), (5, .row 185 2 (b.2.2.1.map A1)), (6, .row 3 1 (t.2.1.map Ae)), (7, .row 3 1 (b.2.2.2.2.1.map Ae)), (8, .row 40 2 (t.2.2.map AV))], 9⟩) d8 (fun t d9 => ?_) (fun t e0 => ?_)
    .refine rs AA <| rn 2 Z <| sx Z (CW AA (fun j : (Bool × Bool × (List Int)) => lb j.1) (fun j : (Bool × Bool × (List Int)) => [(0, .box [lq (Ar e)]), (1, .box [li c.frm, li c.to, li c.fin, ls 3 Ay g, ls 2 A1 i, .lsl 6 2 0 b.2.2.1.length, .lsl 10 1 0 j.2.2.length, .lsl 8 1 0 b.2.2.2.2.1.length, lb j.2.1]), (2, .box [li 0, li 0, li 0, .p (.nils), .p (.nils), .p (.nils), .p (.nils), .p (.nils), lb false]), (3, .map (Ao (fun x => .agg (AV x)) .bool (A3 d true b.2.1))), (4, .box [.lsl 9 2 0 f.length]), (5, .box [li d.elem, li d.fin]), (6, .row 185 2 (b.2.2.1.map A1)), (8, .row 3 1 (b.2.2.2.2.1.map Ae)), (9, .row 40 2 (f.map AV)), (10, .row 3 1 (j.2.2.map Ae))]) 11 d9 Tryz.func118 30 [.tmp 4] [(0, .lpb 1 0), (1, li d.elem)] Z Z Z Z Z Z Z Z (fun A hA j ea => ?_) (fun j eh => ?_))
     .refine rs AA <| rl Z <| AB <| rs AA <| rn 5 Z <| bq ea fun fs bf eb => sx Z (AM (Cq _ _ _ bf) (.inl Z) Z Z (Dm.eq (.cons (.one (.own (enc := Ae) b.2.2.2.1 Z Z)) (.cons (.one (.p _)) .nil))) <| rl Z <| cd Z eb (fun ec => ?_) (fun ed => ?_))
      .refine rs AA <| rl Z <| AF <| AG ?_
       cases ec
       exact CZ (nt := 30) (sl := [(4, lb true)]) (wj hA (gi 7 [(8, 8), (9, 9), (10, 7), (7, 7)]) Z Z Z Z) Z
      refine AE <| AC <| AB <| rs AA <| rl Z <| cd Z ed (fun ee => ?_) (fun ef => ?_)
      .refine rs AA <| rl Z <| rs AA <| rl Z <| AF <| AG ?_
       cases ee
       exact CZ (nt := 30) (sl := [(4, lb false)]) (wj hA (gi 7 [(8, 8), (9, 9), (10, 7), (7, 7)]) Z Z Z Z) Z
      refine AE <| AC <| rs AA <| rn 7 Z <| bq ef fun ft bg eg => sx Z (BV (enc := Ae) (l := b.2.2.2.1) (m := [d.elem]) bg (fun _ => ⟨Z, Z⟩) Z Z Z Z Z Z <| rl Z <| rs AA <| rl Z <| AF ?_)
      cases eg
      exact CZ (nt := 30) (sl := [(4, lb true)]) (wj hA (gi 7 [(8, 8), (9, 9), (10, 11), (7, 7)]) Z Z Z Z) Z
     refine rl Z <| cd Z eh (fun ei => ?_) (fun ez => ?_)
     .refine rs AA <| rn 3 Z <| sx Z (CW AA (fun u : (List AI) => .tup []) (fun u : (List AI) => [(0, .box [lq (Ar e)]), (1, .box [li c.frm, li c.to, li c.fin, ls 3 Ay g, ls 2 A1 i, .lsl 6 2 0 b.2.2.1.length, .lsl 10 1 0 j.2.2.length, .lsl 8 1 0 b.2.2.2.2.1.length, lb j.2.1]), (2, .box [li 0, li 0, li 0, .p (.nils), .p (.nils), .p (.nils), .p (.nils), .p (.nils), lb false]), (3, .map (Ao (fun x => .agg (AV x)) .bool (A3 d true b.2.1))), (4, .box [.lsl 11 2 0 u.length]), (5, .box [li d.elem, li d.fin]), (6, .row 185 2 (b.2.2.1.map A1)), (8, .row 3 1 (b.2.2.2.2.1.map Ae)), (10, .row 3 1 (j.2.2.map Ae)), (11, .row 40 2 (u.map AV))]) 12 ei Tryz.func116 21 [] [(0, li d.elem), (1, li 2), (2, .lpb 0 0), (3, .lpb 4 0)] Z Z Z Z Z Z Z Z (fun A hA u ej => ?_) (fun u ep => ?_))
      .refine rs AA <| rn 4 Z <| bq ej fun e6 bh ek => sx Z (AM (CG _ _ _ bh) (.inl Z) Z Z Z <| rl Z <| rs AA <| rl Z <| cd Z ek (fun el => ?_) (fun eo => ?_))
       .refine rg AA <| rn 3 Z <| bq el fun fu bi em => sx Z (BV (enc := AV) (l := f) (m := [e6.1]) bi (fun _ => ⟨Z, Z⟩) Z Z Z Z Z Z <| rl Z ?_)
        have hr := Option.some.inj em; subst hr
        exact MP (nt := 21) (sl := []) (wj hA (gi 9 [(10, 10), (11, 13), (9, 9)]) Z Z Z Z) Z
       refine AE ?_
       have hr := Option.some.inj eo; subst hr
       exact MP (nt := 21) (sl := []) (wj hA (gi 9 [(10, 10), (11, 9), (9, 9)]) Z Z Z Z) Z
      refine rl Z <| rg AA <| rn 3 Z <| sx Z (CW AA (fun ab : (List AI) => .tup []) (fun ab : (List AI) => [(0, .box [lq (Ar e)]), (1, .box [li c.frm, li c.to, li c.fin, ls 3 Ay g, ls 2 A1 i, .lsl 6 2 0 b.2.2.1.length, .lsl 10 1 0 j.2.2.length, .lsl 8 1 0 b.2.2.2.2.1.length, lb j.2.1]), (2, .box [li 0, li 0, li 0, .p (.nils), .p (.nils), .p (.nils), .p (.nils), .p (.nils), lb false]), (3, .map (Ao (fun x => .agg (AV x)) .bool (A3 d true b.2.1))), (4, .box [.lsl 12 2 0 ab.length]), (5, .box [li d.elem, li d.fin]), (6, .row 185 2 (b.2.2.1.map A1)), (8, .row 3 1 (b.2.2.2.2.1.map Ae)), (10, .row 3 1 (j.2.2.map Ae)), (12, .row 40 2 (ab.map AV))]) 13 ep Tryz.func116 21 [] [(0, li d.elem), (1, li 1), (2, .lpb 0 0), (3, .lpb 4 0)] Z Z Z Z Z Z Z Z (fun A hA ab es => ?_) (fun ab ey => ?_))
      .refine rs AA <| rn 4 Z <| bq es fun e7 bj eu => sx Z (AM (CG _ _ _ bj) (.inl Z) Z Z Z <| rl Z <| rs AA <| rl Z <| cd Z eu (fun ev => ?_) (fun ex => ?_))
       .refine rg AA <| rn 3 Z <| bq ev fun fv bk ew => sx Z (BV (enc := AV) (l := u) (m := [e7.1]) bk (fun _ => ⟨Z, Z⟩) Z Z Z Z Z Z <| rl Z ?_)
        have hr := Option.some.inj ew; subst hr
        exact MP (nt := 21) (sl := []) (wj hA (gi 11 [(12, 14), (11, 11)]) Z Z Z Z) Z
       refine AE ?_
       have hr := Option.some.inj ex; subst hr
       exact MP (nt := 21) (sl := []) (wj hA (gi 11 [(12, 11), (11, 11)]) Z Z Z Z) Z
      exact rl Z <| AL ey (wf hA (gi 5 [(5, 6), (6, 10), (7, 8), (8, 12)]) Z Z Z)
     exact AE <| AL ez (wf hA (gi 5 [(5, 6), (6, 10), (7, 8), (8, 9)]) Z Z Z)
    exact AU <| AX <| MK Z <| Am <| Aq e0 (wf hA (gi 9 []) Z Z Z)
   refine AE <| AC <| rs AA <| rl Z <| AB <| jb (fun ae : Bool => ⟨187, [(2, .lpb 0 0), (3, .lpb 1 0), (4, .lpb 2 0), (5, lb o.hard), (6, .lmap 3), (7, .lpb 4 0), (12, .fn 116 [.lpb 0 0, .lpb 4 0]), (13, .lpb 5 0), (161, lb ae)], [(0, .box [lq (Ar e)]), (1, .box [li c.frm, li c.to, li c.fin, ls 3 Ay g, ls 2 A1 i, .lsl 6 2 0 b.2.2.1.length, .lsl 7 1 0 b.2.2.2.1.length, .lsl 8 1 0 b.2.2.2.2.1.length, lb b.1]), (2, .box [li 0, li 0, li 0, .p (.nils), .p (.nils), .p (.nils), .p (.nils), .p (.nils), lb false]), (3, .map (Ao (fun x => .agg (AV x)) .bool (A3 d true b.2.1))), (4, .box [.lsl 9 2 0 f.length]), (5, .box [li d.elem, li d.fin]), (6, .row 185 2 (b.2.2.1.map A1)), (7, .row 3 1 (b.2.2.2.1.map Ae)), (8, .row 3 1 (b.2.2.2.2.1.map Ae)), (9, .row 40 2 (f.map AV))], 10⟩) e1 (fun ae bl => ?_) (fun ae br => ?_)
   .refine rg AA <| rn 3 Z <| bq bl fun fb an bm => sx Z (AM (D4 _ _ _ an) (.inl Z) Z Z Z <| rn 1 Z <| gs 156 bm Z Z Z (fun bn => ?_) (fun bo => ?_))
    .exact rl Z <| AL bn (wf hA (gi 10 []) Z Z Z)
    exact rn 3 Z <| bq bo fun fc ao bp => sx Z (AM (D4 _ _ _ ao) (.inl Z) Z Z (Dm.eq (.cons (.one (.own (enc := A1) b.2.2.1 Z Z)) (.cons (.one (.p _)) .nil))) <| rl Z <| AL bp (wf hA (gi 10 []) Z Z Z))
   refine cd Z br (fun bs => ?_) (fun cc => ?_)
   .refine jb (fun q : (Bool × (List Int) × (List AI)) => ⟨187, [(2, .lpb 0 0), (3, .lpb 1 0), (4, .lpb 2 0), (5, lb o.hard), (6, .lmap 3), (7, .lpb 4 0), (12, .fn 116 [.lpb 0 0, .lpb 4 0])], [(0, .box [lq (Ar e)]), (1, .box [li c.frm, li c.to, li c.fin, ls 3 Ay g, ls 2 A1 i, .lsl 5 2 0 b.2.2.1.length, .lsl 6 1 0 q.2.1.length, .lsl 7 1 0 b.2.2.2.2.1.length, lb q.1]), (2, .box [li 0, li 0, li 0, .p (.nils), .p (.nils), .p (.nils), .p (.nils), .p (.nils), lb false]), (3, .map (Ao (fun x => .agg (AV x)) .bool (A3 d true b.2.1))), (4, .box [.lsl 8 2 0 q.2.2.length]), (5, .row 185 2 (b.2.2.1.map A1)), (6, .row 3 1 (q.2.1.map Ae)), (7, .row 3 1 (b.2.2.2.2.1.map Ae)), (8, .row 40 2 (q.2.2.map AV))], 9⟩) bs (fun q bt => ?_) (fun q cb => ?_)
    .refine rs AA <| rn 2 Z <| sx Z (CW AA (fun k : (Bool × Bool × (List Int)) => lb k.1) (fun k : (Bool × Bool × (List Int)) => [(0, .box [lq (Ar e)]), (1, .box [li c.frm, li c.to, li c.fin, ls 3 Ay g, ls 2 A1 i, .lsl 6 2 0 b.2.2.1.length, .lsl 10 1 0 k.2.2.length, .lsl 8 1 0 b.2.2.2.2.1.length, lb k.2.1]), (2, .box [li 0, li 0, li 0, .p (.nils), .p (.nils), .p (.nils), .p (.nils), .p (.nils), lb false]), (3, .map (Ao (fun x => .agg (AV x)) .bool (A3 d true b.2.1))), (4, .box [.lsl 9 2 0 f.length]), (5, .box [li d.elem, li d.fin]), (6, .row 185 2 (b.2.2.1.map A1)), (8, .row 3 1 (b.2.2.2.2.1.map Ae)), (9, .row 40 2 (f.map AV)), (10, .row 3 1 (k.2.2.map Ae))]) 11 bt Tryz.func118 30 [.tmp 4] [(0, .lpb 1 0), (1, li d.elem)] Z Z Z Z Z Z Z Z (fun A hA k bu => ?_) (fun k b2 => ?_))
     .refine rs AA <| rl Z <| AB <| rs AA <| rn 5 Z <| bq bu fun fd ap bv => sx Z (AM (Cq _ _ _ ap) (.inl Z) Z Z (Dm.eq (.cons (.one (.own (enc := Ae) b.2.2.2.1 Z Z)) (.cons (.one (.p _)) .nil))) <| rl Z <| cd Z bv (fun bw => ?_) (fun bx => ?_))
      .refine rs AA <| rl Z <| AF <| AG ?_
       cases bw
       exact CZ (nt := 30) (sl := [(4, lb true)]) (wj hA (gi 7 [(8, 8), (9, 9), (10, 7), (7, 7)]) Z Z Z Z) Z
      refine AE <| AC <| AB <| rs AA <| rl Z <| cd Z bx (fun bz => ?_) (fun b0 => ?_)
      .refine rs AA <| rl Z <| rs AA <| rl Z <| AF <| AG ?_
       cases bz
       exact CZ (nt := 30) (sl := [(4, lb false)]) (wj hA (gi 7 [(8, 8), (9, 9), (10, 7), (7, 7)]) Z Z Z Z) Z
      refine AE <| AC <| rs AA <| rn 7 Z <| bq b0 fun fe aq b1 => sx Z (BV (enc := Ae) (l := b.2.2.2.1) (m := [d.elem]) aq (fun _ => ⟨Z, Z⟩) Z Z Z Z Z Z <| rl Z <| rs AA <| rl Z <| AF ?_)
      cases b1
      exact CZ (nt := 30) (sl := [(4, lb true)]) (wj hA (gi 7 [(8, 8), (9, 9), (10, 11), (7, 7)]) Z Z Z Z) Z
     refine rl Z <| cd Z b2 (fun b3 => ?_) (fun ca => ?_)
     .refine rg AA <| rn 3 Z <| sx Z (CW AA (fun w : (List AI) => .tup []) (fun w : (List AI) => [(0, .box [lq (Ar e)]), (1, .box [li c.frm, li c.to, li c.fin, ls 3 Ay g, ls 2 A1 i, .lsl 6 2 0 b.2.2.1.length, .lsl 10 1 0 k.2.2.length, .lsl 8 1 0 b.2.2.2.2.1.length, lb k.2.1]), (2, .box [li 0, li 0, li 0, .p (.nils), .p (.nils), .p (.nils), .p (.nils), .p (.nils), lb false]), (3, .map (Ao (fun x => .agg (AV x)) .bool (A3 d true b.2.1))), (4, .box [.lsl 11 2 0 w.length]), (5, .box [li d.elem, li d.fin]), (6, .row 185 2 (b.2.2.1.map A1)), (8, .row 3 1 (b.2.2.2.2.1.map Ae)), (10, .row 3 1 (k.2.2.map Ae)), (11, .row 40 2 (w.map AV))]) 12 b3 Tryz.func116 21 [] [(0, li d.elem), (1, li 0), (2, .lpb 0 0), (3, .lpb 4 0)] Z Z Z Z Z Z Z Z (fun A hA w b4 => ?_) (fun w b9 => ?_))
      .refine rs AA <| rn 4 Z <| bq b4 fun e2 ar b5 => sx Z (AM (CG _ _ _ ar) (.inl Z) Z Z Z <| rl Z <| rs AA <| rl Z <| cd Z b5 (fun b6 => ?_) (fun b8 => ?_))
       .refine rg AA <| rn 3 Z <| bq b6 fun ff au b7 => sx Z (BV (enc := AV) (l := f) (m := [e2.1]) au (fun _ => ⟨Z, Z⟩) Z Z Z Z Z Z <| rl Z ?_)
        have hr := Option.some.inj b7; subst hr
        exact MP (nt := 21) (sl := []) (wj hA (gi 9 [(10, 10), (11, 13), (9, 9)]) Z Z Z Z) Z
       refine AE ?_
       have hr := Option.some.inj b8; subst hr
       exact MP (nt := 21) (sl := []) (wj hA (gi 9 [(10, 10), (11, 9), (9, 9)]) Z Z Z Z) Z
      exact rl Z <| AL b9 (wf hA (gi 5 [(5, 6), (6, 10), (7, 8), (8, 11)]) Z Z Z)
     exact AE <| AL ca (wf hA (gi 5 [(5, 6), (6, 10), (7, 8), (8, 9)]) Z Z Z)
    exact AU <| AX <| MK Z <| Am <| Aq cb (wf hA (gi 9 []) Z Z Z)
   refine AE <| AC <| rs AA <| rl Z <| rs AA <| rn 3 Z <| bq cc fun fg av ce => sx Z (AM (D4 _ _ _ av) (.inl Z) Z Z (Dm.eq (.cons (.one (.own (enc := A1) b.2.2.1 Z Z)) (.cons (.one (.p _)) .nil))) <| rl Z <| cd Z ce (fun cf => ?_) (fun ch => ?_))
   .exact rg AA <| rn 4 Z <| bq cf fun fh aw cg => sx Z (BV (enc := A1) (l := b.2.2.1) (m := [(⟨d.elem, AO (3 - d.fin)⟩ : Ap)]) aw (fun _ => ⟨Z, Z⟩) Z Z Z Z Z Z <| rl Z <| Ad <| Ad <| Aq cg (wf hA (gi 5 [(5, 12), (6, 7), (7, 8), (8, 9)]) Z Z Z))
   exact AE <| Ad <| Ad <| Aq ch (wf hA (gi 5 [(5, 6), (6, 7), (7, 8), (8, 9)]) Z Z Z)
  refine rs AA <| rn 5 Z <| bq ci fun ak ax cj => sx Z (AM (Sn _ _ _ _ _ ax) (.inl Z) Z Z Z <| rl Z <| jb (fun n : (Bool × Bool × (List Int)) => ⟨187, [(2, .lpb 0 0), (3, .lpb 1 0), (4, .lpb 2 0), (5, lb o.hard), (6, .lmap 3), (7, .lpb 4 0), (12, .fn 116 [.lpb 0 0, .lpb 4 0]), (13, .lpb 5 0), (17, li ak.1), (122, lb n.1)], [(0, .box [lq (Ar e)]), (1, .box [li c.frm, li c.to, li c.fin, ls 3 Ay g, ls 2 A1 i, .lsl 6 2 0 b.2.2.1.length, .lsl 7 1 0 n.2.2.length, .lsl 8 1 0 b.2.2.2.2.1.length, lb n.2.1]), (2, .box [li 0, li 0, li 0, .p (.nils), .p (.nils), .p (.nils), .p (.nils), .p (.nils), lb false]), (3, .map (Ao (fun x => .agg (AV x)) .bool (A3 d true b.2.1))), (4, .box [.lsl 9 2 0 f.length]), (5, .box [li d.elem, li d.fin]), (6, .row 185 2 (b.2.2.1.map A1)), (7, .row 3 1 (n.2.2.map Ae)), (8, .row 3 1 (b.2.2.2.2.1.map Ae)), (9, .row 40 2 (f.map AV))], 10⟩) cj (fun n ck => ?_) (fun n cv => ?_))
  .refine rg AA <| rn 2 Z <| gs 118 ck Z Z Z (fun cl => ?_) (fun cu => ?_)
   .refine rn 2 Z <| sx Z (CW AA (fun s : (Bool × Bool × (List Int)) => lb s.1) (fun s : (Bool × Bool × (List Int)) => [(0, .box [lq (Ar e)]), (1, .box [li c.frm, li c.to, li c.fin, ls 3 Ay g, ls 2 A1 i, .lsl 6 2 0 b.2.2.1.length, .lsl 10 1 0 s.2.2.length, .lsl 8 1 0 b.2.2.2.2.1.length, lb s.2.1]), (2, .box [li 0, li 0, li 0, .p (.nils), .p (.nils), .p (.nils), .p (.nils), .p (.nils), lb false]), (3, .map (Ao (fun x => .agg (AV x)) .bool (A3 d true b.2.1))), (4, .box [.lsl 9 2 0 f.length]), (5, .box [li d.elem, li d.fin]), (6, .row 185 2 (b.2.2.1.map A1)), (8, .row 3 1 (b.2.2.2.2.1.map Ae)), (9, .row 40 2 (f.map AV)), (10, .row 3 1 (s.2.2.map Ae))]) 11 cl Tryz.func118 30 [.tmp 4] [(0, .lpb 1 0), (1, li d.elem)] Z Z Z Z Z Z Z Z (fun A hA s cm => ?_) (fun s ct => ?_))
    .refine rs AA <| rl Z <| AB <| rs AA <| rn 5 Z <| bq cm fun fi ay cn => sx Z (AM (Cq _ _ _ ay) (.inl Z) Z Z (Dm.eq (.cons (.one (.own (enc := Ae) b.2.2.2.1 Z Z)) (.cons (.one (.p _)) .nil))) <| rl Z <| cd Z cn (fun co => ?_) (fun cp => ?_))
     .refine rs AA <| rl Z <| AF <| AG ?_
      cases co
      exact CZ (nt := 30) (sl := [(4, lb true)]) (wj hA (gi 7 [(8, 8), (9, 9), (10, 7), (7, 7)]) Z Z Z Z) Z
     refine AE <| AC <| AB <| rs AA <| rl Z <| cd Z cp (fun cq => ?_) (fun cr => ?_)
     .refine rs AA <| rl Z <| rs AA <| rl Z <| AF <| AG ?_
      cases cq
      exact CZ (nt := 30) (sl := [(4, lb false)]) (wj hA (gi 7 [(8, 8), (9, 9), (10, 7), (7, 7)]) Z Z Z Z) Z
     refine AE <| AC <| rs AA <| rn 7 Z <| bq cr fun fj az cs => sx Z (BV (enc := Ae) (l := b.2.2.2.1) (m := [d.elem]) az (fun _ => ⟨Z, Z⟩) Z Z Z Z Z Z <| rl Z <| rs AA <| rl Z <| AF ?_)
     cases cs
     exact CZ (nt := 30) (sl := [(4, lb true)]) (wj hA (gi 7 [(8, 8), (9, 9), (10, 11), (7, 7)]) Z Z Z Z) Z
    exact rl Z <| AL ct (wf hA (gi 7 [(7, 10), (8, 8), (9, 9)]) Z Z Z)
   exact rl Z <| AL cu (wf hA (gi 10 []) Z Z Z)
  refine cd Z cv (fun cw => ?_) (fun c3 => ?_)
  .refine rg AA <| rn 4 Z <| sx Z (CW AA (fun aa : (List AI) => .tup []) (fun aa : (List AI) => [(0, .box [lq (Ar e)]), (1, .box [li c.frm, li c.to, li c.fin, ls 3 Ay g, ls 2 A1 i, .lsl 6 2 0 b.2.2.1.length, .lsl 7 1 0 n.2.2.length, .lsl 8 1 0 b.2.2.2.2.1.length, lb n.2.1]), (2, .box [li 0, li 0, li 0, .p (.nils), .p (.nils), .p (.nils), .p (.nils), .p (.nils), lb false]), (3, .map (Ao (fun x => .agg (AV x)) .bool (A3 d true b.2.1))), (4, .box [.lsl 10 2 0 aa.length]), (5, .box [li d.elem, li d.fin]), (6, .row 185 2 (b.2.2.1.map A1)), (7, .row 3 1 (n.2.2.map Ae)), (8, .row 3 1 (b.2.2.2.2.1.map Ae)), (10, .row 40 2 (aa.map AV))]) 11 cw Tryz.func116 21 [] [(0, li d.elem), (1, li ak.1), (2, .lpb 0 0), (3, .lpb 4 0)] Z Z Z Z Z Z Z Z (fun A hA aa cx => ?_) (fun aa c2 => ?_))
   .refine rs AA <| rn 4 Z <| bq cx fun e3 a0 cy => sx Z (AM (CG _ _ _ a0) (.inl Z) Z Z Z <| rl Z <| rs AA <| rl Z <| cd Z cy (fun cz => ?_) (fun c1 => ?_))
    .refine rg AA <| rn 3 Z <| bq cz fun fk a1 c0 => sx Z (BV (enc := AV) (l := f) (m := [e3.1]) a1 (fun _ => ⟨Z, Z⟩) Z Z Z Z Z Z <| rl Z ?_)
     have hr := Option.some.inj c0; subst hr
     exact MP (nt := 21) (sl := []) (wj hA (gi 9 [(10, 12), (9, 9)]) Z Z Z Z) Z
    refine AE ?_
    have hr := Option.some.inj c1; subst hr
    exact MP (nt := 21) (sl := []) (wj hA (gi 9 [(10, 9), (9, 9)]) Z Z Z Z) Z
   exact rl Z <| Ad <| Ad <| Aq c2 (wf hA (gi 5 [(5, 6), (6, 7), (7, 8), (8, 10)]) Z Z Z)
  exact AE <| Ad <| Ad <| Aq c3 (wf hA (gi 5 [(5, 6), (6, 7), (7, 8), (8, 9)]) Z Z Z)
 refine AU <| AX <| BH c4 fun e8 c5 => Am <| AC <| rs AA <| rl Z <| AF <| JL ?_
 cases c5
 exact er (I6 Z (.agg (.cons (.p _) (.cons (.p _) (.cons (.p _) (.cons (.p _) (.cons (.p _) (.cons (.own (enc := A1) b.2.2.1 Z Z) (.cons (.own (enc := Ae) b.2.2.2.1 Z Z) (.cons (.own (enc := Ae) b.2.2.2.2.1 Z Z) (.cons (.p _) .nil))))))))))) Le.rfl
end Go.E
/- Plain functions, and walks in step with them. Written by a program (gen.py). No condition. -/
set_option maxRecDepth 100000
set_option maxHeartbeats 1000000
namespace Go.E
open Go Go.RowKit Go.Proofs
noncomputable def EX (b : A0) (f : ((List Aj) × Int)) (a : Int × (List Aj)) : Option ((Int × (List Aj)) ⊕ (Es × Int)) :=
 bif decide (a.1 < (f.1.length : Int)) then (Aa a.2 a.1).bind fun c => (E2 b c).bind fun d => (Aa a.2 a.1).bind fun g => some (.inl (AO (a.1 + 1), A7 a.2 a.1 d)) else ((B0 b).bind fun e => some ((⟨e, a.2⟩ : Es), 0)).map .inr
noncomputable def Ga (d : AK) : Option (Es × Int) :=
 (EA d).bind fun a => N7 a.1 (bif (a.2 != 0) then some ((⟨(⟨[], [], [], [], 0, 0, 0, 0, false⟩ : AK), []⟩ : Es), a.2) else none) fun c => bif (a.2 != 0) then some ((⟨(⟨[], [], [], [], 0, 0, 0, 0, false⟩ : AK), []⟩ : Es), a.2) else (Jd c).bind fun b => bif (b.2 != 0) then some ((⟨(⟨[], [], [], [], 0, 0, 0, 0, false⟩ : AK), []⟩ : Es), b.2) else AR (EX c b) (0, b.1)
theorem Tq (d : AK) (r : (Es × Int)) (h : Ga d = some r) : Aw Tryz.prog 52 [.agg (AP d)] (· = .tup [.agg (GU r.1), .int .i64 r.2]) := by
 refine fn AA Tryz.func52 Z Z 45 Z [.cell 2 35, .tmp 3] Z [(0, .p (.agg (AP d)))] Z Z fun A hA => ?_
 unfold Ga at h
 refine rs AA <| rl Z <| rs AA <| rn 1 Z <| bq h fun af l b => sx Z (AM (PW _ _ l) (.inr Z) Z Z Z ?_)
 revert b; rcases aj : af.1 with _ | ag <;> intro b
 .replace b := YW b
  refine rl Z <| AB <| rs AA <| rl Z <| cd Z b (fun ac => ?_) (fun m => ?_)
  .refine rs AA <| rl Z <| AF <| AG ?_
   cases ac
   exact er Z (Le.tup' (.cons (Le.agg' (.cons (Le.nil _) (.cons (Le.nil _) (.cons (Le.nil _) (.cons (Le.nil _) (.cons Le.rfl (.cons Le.rfl (.cons Le.rfl (.cons Le.rfl (.cons Le.rfl (.cons (Le.nil _) .nil))))))))))) (.cons Le.rfl .nil)))
  refine AE <| AC <| rs AA <| rn 1 Z ?_
  cases m
 replace b := YX b
 refine rl Z <| AB <| rs AA <| rl Z <| cd Z b (fun v => ?_) (fun x => ?_)
 .refine rs AA <| rl Z <| AF <| AG ?_
  cases v
  exact er Z (Le.tup' (.cons (Le.agg' (.cons (Le.nil _) (.cons (Le.nil _) (.cons (Le.nil _) (.cons (Le.nil _) (.cons Le.rfl (.cons Le.rfl (.cons Le.rfl (.cons Le.rfl (.cons Le.rfl (.cons (Le.nil _) .nil))))))))))) (.cons Le.rfl .nil)))
 refine AE <| AC <| rs AA <| rn 1 Z <| bq x fun ae k y => sx Z (Ws (c' := 3) (Xm _ _ k) [] Z trivial Z Z Z Z Z Z Z <| rl Z <| AB <| rs AA <| rl Z <| cd Z y (fun aa => ?_) (fun ab => ?_))
 .refine rs AA <| rl Z <| AF <| AG ?_
  cases aa
  exact er Z (Le.tup' (.cons (Le.agg' (.cons (Le.nil _) (.cons (Le.nil _) (.cons (Le.nil _) (.cons (Le.nil _) (.cons Le.rfl (.cons Le.rfl (.cons Le.rfl (.cons Le.rfl (.cons Le.rfl (.cons (Le.nil _) .nil))))))))))) (.cons Le.rfl .nil)))
 refine AE <| AC <| AB <| rs AA <| rl Z <| AH ?_
 apply lp (a := r) (fun c : (Int × (List Aj)) => ⟨45, [(2, .lpb 0 0), (4, lq (Ar ag)), (6, .lsl 1 9 0 c.2.length), (27, li (ae.1.length : Int)), (28, li c.1)], [(0, .box [.p (.nils), .p (.nils), .p (.nils), .p (.nils), li 0, li 0, li 0, li 0, lb false, .p (.nils)]), (1, .row 72 9 (c.2.map A6))], 2⟩) ab
 . exact wf hA [(0, 1), (1, 2)] Z Z Z
 intro c ai g
 unfold EX at g
 refine rs AA <| rl Z <| AB <| cd Z g (fun n => ?_) (fun t => ?_)
 .exact AE <| AC <| AB <| AH <| rs AA <| rl Z <| rg AA <| rn 5 Z <| bq n fun ak e o => sx Z (B2 e Z Z Z Z <| sx Z (DC e Z Z Z <| bq o fun ad i q => sx Z (AM (Xo _ _ _ i) (.inr Z) Z Z Z <| bq q fun al f s => sx Z (B2 f Z Z Z Z <| sx Z (MN (z := ad) f Z Z Z Z Z Z Z Z <| rl Z <| Ad <| AC <| rg AA <| rl Z <| Aq s (wk [(0, 0), (1, 1)] (free hA _) Z Z Z (.cons Z (.cons Z (.cons (by simp only [BL]; rfl) (.cons Z (.cons Z .nil))))) (.cons Z Z (.cons Z Z .nil))))))))
 refine AU <| AX <| CH t fun ah u => Am <| AC <| rs AA <| rn 1 Z <| bq u fun am j w => sx Z (AM (Ht _ _ j) (.inr Z) Z Z Z <| rl Z <| AF ?_)
 cases w
 exact er (Rb Z (.cons (.agg (.cons (.p _) (.cons (.p _) (.cons (.p _) (.cons (.p _) (.cons (.p _) (.cons (.p _) (.cons (.p _) (.cons (.p _) (.cons (.p _) (.cons (.own (enc := A6) c.2 Z Z) .nil))))))))))) (.cons (.one (.p _)) .nil))) Le.rfl
noncomputable def Gp (a : AK) : Option (Es × Bool) :=
 (JA a).bind fun c => bif (!c) then some ((⟨(⟨[], [], [], [], 0, 0, 0, 0, false⟩ : AK), []⟩ : Es), false) else (Ga a).bind fun b => some (b.1, (b.2 == 0))
theorem QW (a : AK) (r : (Es × Bool)) (h : Gp a = some r) : Aw Tryz.prog 24 [.agg (AP a)] (· = .tup [.agg (GU r.1), .bool r.2]) := by
 refine fn AA Tryz.func24 Z Z 18 Z [.cell 2 35, .tmp 3] Z [(0, .p (.agg (AP a)))] Z Z fun A hA => ?_
 unfold Gp at h
 refine rs AA <| rl Z <| AB <| rs AA <| rn 1 Z <| bq h fun j c d => sx Z (AM (TJ _ _ c) (.inl Z) Z Z Z <| rl Z <| cd Z d (fun e => ?_) (fun f => ?_))
 .refine rs AA <| rl Z <| AF <| AG ?_
  cases e
  exact er Z (Le.tup' (.cons (Le.agg' (.cons (Le.nil _) (.cons (Le.nil _) (.cons (Le.nil _) (.cons (Le.nil _) (.cons Le.rfl (.cons Le.rfl (.cons Le.rfl (.cons Le.rfl (.cons Le.rfl (.cons (Le.nil _) .nil))))))))))) (.cons Le.rfl .nil)))
 refine AE <| AC <| rs AA <| rn 1 Z <| bq f fun i b g => sx Z (AM (Tq _ _ b) (.inr Z) Z Z Z <| rl Z <| rs AA <| rl Z <| AF ?_)
 cases g
 exact er Z Le.rfl
noncomputable def PX (b : AK) : Option (Option A0) :=
 (JA b).bind fun c => bif (!c) then some none else (EA b).bind fun a => N7 a.1 (bif (a.2 != 0) then some none else some none) fun d => bif (a.2 != 0) then some none else some (some d)
theorem Yi (b : AK) (r : (Option A0)) (h : PX b = some r) : Aw Tryz.prog 33 [.agg (AP b)] (· = Zk Ar r) := by
 refine fn AA Tryz.func33 Z Z 16 Z [.tmp 2] Z [(0, .p (.agg (AP b)))] Z Z fun A hA => ?_
 unfold PX at h
 refine rs AA <| rl Z <| AB <| rs AA <| rn 1 Z <| bq h fun o d e => sx Z (AM (TJ _ _ d) (.inl Z) Z Z Z <| rl Z <| cd Z e (fun f => ?_) (fun g => ?_))
 .refine rs AA <| rl Z <| AF <| AG ?_
  cases f
  exact er Z Le.rfl
 refine AE <| AC <| rs AA <| rn 1 Z <| bq g fun m c a => sx Z (AM (PW _ _ c) (.inr Z) Z Z Z ?_)
 revert a; rcases n : m.1 with _ | q <;> intro a
 .replace a := YW a
  refine rl Z <| AB <| rs AA <| rl Z <| cd Z a (fun i => ?_) (fun j => ?_)
  .refine rs AA <| rl Z <| AF <| AG ?_
   cases i
   exact er Z Le.rfl
  refine AE <| AC <| rs AA <| rl Z <| AF ?_
  cases j
  exact er Z Le.rfl
 replace a := YX a
 refine rl Z <| AB <| rs AA <| rl Z <| cd Z a (fun k => ?_) (fun l => ?_)
 .refine rs AA <| rl Z <| AF <| AG ?_
  cases k
  exact er Z Le.rfl
 refine AE <| AC <| rs AA <| rl Z <| AF ?_
 cases l
 exact er Z Le.rfl
noncomputable def HT : Option AZ :=
 some (⟨0, ([(⟨(⟨#[120]⟩ : ByteArray), 5, 10, 10, 5⟩ : BI)] : List BI), ([(⟨(⟨#[116]⟩ : ByteArray), 0, 0, 0, ([(⟨false, 0, 1, 1⟩ : Cm), (⟨false, 0, 3, 4⟩ : Cm), (⟨true, 0, 2, 0⟩ : Cm)] : List Cm)⟩ : CU)] : List CU)⟩ : AZ)
theorem Kp (r : AZ) (h : HT = some r) : Aw Tryz.prog 34 [] (· = .agg (AW r)) := by
 refine fn AA Tryz.func34 Z Z 10 Z [.cell 0 31] Z [] Z Z fun A hA => ?_
 unfold HT at h
 refine rs AA <| rl Z <| rs AA <| rn 1 Z <| sx Z (Xa (sz := 5) (l := List.map BM ([(⟨(⟨#[120]⟩ : ByteArray), 5, 10, 10, 5⟩ : BI)] : List BI)) Z <| rn 3 Z <| sx Z (Xa (sz := 4) (l := List.map DB ([(⟨false, 0, 1, 1⟩ : Cm), (⟨false, 0, 3, 4⟩ : Cm), (⟨true, 0, 2, 0⟩ : Cm)] : List Cm)) Z <| rn 1 Z <| sx Z (Xa (sz := 5) (l := List.map Bs ([(⟨(⟨#[116]⟩ : ByteArray), 0, 0, 0, ([(⟨false, 0, 1, 1⟩ : Cm), (⟨false, 0, 3, 4⟩ : Cm), (⟨true, 0, 2, 0⟩ : Cm)] : List Cm)⟩ : CU)] : List CU)) Z <| rl Z <| AF ?_)))
 cases h
 exact er Z Le.rfl
noncomputable def F7 (b : AZ) (a : Int) (c : Int) : Option ((List Cm) × Bool) :=
 ((bif decide (a < 0) then some true else bif decide ((b.runs.length : Int) <= a) then some true else bif decide (c < 0) then some true else (Aa b.runs a).bind fun e => some (decide ((e.legs.length : Int) < c)) : Option (Bool))).bind fun (d : Bool) => bif d then some ([], false) else (Aa b.runs a).bind fun f => some (f.legs, true)
theorem OJ (a : AZ) (b : Int) (d : Int) (r : ((List Cm) × Bool)) (h : F7 a b d = some r) : Aw Tryz.prog 39 [.agg (AW a), .int .i64 b, .int .i64 d] (· = .tup [.slice 4 (r.1.map DB), .bool r.2]) := by
 refine fn AA Tryz.func39 Z Z 38 Z [.tmp 6, .tmp 7] Z [(0, .p (.agg (AW a))), (1, .p (.int .i64 b)), (2, .p (.int .i64 d))] Z Z fun A hA => ?_
 unfold F7 at h
 refine rs AA <| rl Z <| AB <| jb (fun c : Bool => ⟨38, [(1, li b), (3, .lpb 0 0), (31, lb c)], [(0, bx (AW a))], 1⟩) h (fun c g => ?_) (fun c q => ?_)
 .refine rg AA <| rn 3 Z <| gs 10 g Z Z Z (fun i => ?_) (fun j => ?_)
  .exact rl Z <| AL i (wf hA [(0, 0)] Z Z Z)
  refine rn 3 Z <| sx Z (Ac Z Z <| rn 3 Z <| gs 17 j Z Z Z (fun k => ?_) (fun l => ?_))
  .exact rl Z <| AL k (wf hA [(0, 0)] Z Z Z)
  refine rn 4 Z <| gs 21 l Z Z Z (fun m => ?_) (fun n => ?_)
  .exact rl Z <| AL m (wf hA [(0, 0)] Z Z Z)
  exact rn 4 Z <| bq n fun v e o => sx Z (Ab e Z Z Z <| rn 2 Z <| sx Z (Ac Z Z <| rl Z <| AL o (wf hA [(0, 0)] Z Z Z)))
 refine cd Z q (fun s => ?_) (fun t => ?_)
 .refine rs AA <| rl Z <| AF <| AG ?_
  cases s
  exact er Z (Le.tup' (.cons (Le.nil _) (.cons Le.rfl .nil)))
 refine AE <| AC <| rs AA <| rn 3 Z <| bq t fun w f u => sx Z (Ab f Z Z Z <| rl Z <| AF ?_)
 cases u
 exact er Z Le.rfl
noncomputable def Ix (b : A0) (c : Int) : Option (Int × Bool) :=
 (Cd b c).bind fun a => some (a.1.elem, a.2)
theorem Tr (a : A0) (b : Int) (r : (Int × Bool)) (h : Ix a b = some r) : Aw Tryz.prog 70 [.place (Ar a) 0, .int .i64 b] (· = .tup [.int .i64 r.1, .bool r.2]) := by
 refine fn AA Tryz.func70 Z Z 17 Z [.tmp 4, .tmp 5] Z [(0, .p (.place (Ar a) 0)), (1, .p (.int .i64 b))] Z Z fun A hA => ?_
 unfold Ix at h
 refine rs AA <| rl Z <| rs AA <| rn 2 Z <| bq h fun e c d => sx Z (AM (HR _ _ _ c) (.inl Z) Z Z Z <| rl Z <| rs AA <| rl Z <| AF ?_)
 cases d
 exact er Z Le.rfl
noncomputable def Gt (b : A0) (c : Int) : Option Int :=
 (Ix b c).bind fun a => bif (!a.2) then some (-1) else some a.1
theorem QZ (a : A0) (b : Int) (r : Int) (h : Gt a b = some r) : Aw Tryz.prog 40 [.place (Ar a) 0, .int .i64 b] (· = .int .i64 r) := by
 refine fn AA Tryz.func40 Z Z 16 Z [.tmp 4] Z [(0, .p (.place (Ar a) 0)), (1, .p (.int .i64 b))] Z Z fun A hA => ?_
 unfold Gt at h
 refine rs AA <| rl Z <| rs AA <| rn 2 Z <| bq h fun g c d => sx Z (AM (Tr _ _ _ c) (.inl Z) Z Z Z <| rl Z <| AB <| rs AA <| rl Z <| cd Z d (fun e => ?_) (fun f => ?_))
 .refine rs AA <| rl Z <| AF <| AG ?_
  cases e
  exact er Z Le.rfl
 refine AE <| AC <| rs AA <| rl Z <| AF ?_
 cases f
 exact er Z Le.rfl
noncomputable def Cz (c : A0) (d : AZ) (e : Int) (b : Int) : Option Int :=
 (F7 d e b).bind fun f => bif (!f.2) then some (-1) else bif (b == 0) then (Aa d.runs e).bind fun g => (Gt c g.frm).bind fun h => some h else (Aa f.1 (AO (b - 1))).bind fun a => bif (a.fin == 1) then (Gt c a.to).bind fun i => some i else bif (a.fin == 3) then some a.to else some (-1)
theorem HP (a : A0) (b : AZ) (c : Int) (d : Int) (r : Int) (h : Cz a b c d = some r) : Aw Tryz.prog 13 [.place (Ar a) 0, .agg (AW b), .int .i64 c, .int .i64 d] (· = .int .i64 r) := by
 refine fn AA Tryz.func13 Z Z 48 Z [.tmp 8] Z [(0, .p (.place (Ar a) 0)), (1, .p (.agg (AW b))), (2, .p (.int .i64 c)), (3, .p (.int .i64 d))] Z Z fun A hA => ?_
 unfold Cz at h
 refine rs AA <| rl Z <| rs AA <| rn 3 Z <| bq h fun ab g o => sx Z (AM (OJ _ _ _ _ g) (.inr Z) Z Z Z <| rl Z <| AB <| rs AA <| rl Z <| cd Z o (fun x => ?_) (fun y => ?_))
 .refine rs AA <| rl Z <| AF <| AG ?_
  cases x
  exact er Z Le.rfl
 refine AE <| AC <| AB <| rs AA <| rl Z <| cd Z y (fun k => ?_) (fun n => ?_)
 .refine rs AA <| rn 4 Z <| bq k fun z e l => sx Z (Ab e Z Z Z <| rn 2 Z <| bq l fun aa f m => sx Z (AM (QZ _ _ _ f) (.inl Z) Z Z Z <| rl Z <| AF <| AG ?_))
  have hr := Option.some.inj m; subst hr
  exact er Z Le.rfl
 refine AE <| AC <| AB <| rs AA <| rn 3 Z <| bq n fun ac i q => sx Z (Ab i Z Z Z <| rl Z <| rs AA <| rl Z <| AH <| rs AA <| rl Z <| cd Z q (fun s => ?_) (fun u => ?_))
 .refine rs AA <| rn 3 Z <| bq s fun ad j t => sx Z (AM (QZ _ _ _ j) (.inl Z) Z Z Z <| rl Z <| AF <| AN <| AG ?_)
  have hr := Option.some.inj t; subst hr
  exact er Z Le.rfl
 refine rs AA <| rl Z <| cd Z u (fun v => ?_) (fun w => ?_)
 .refine rs AA <| rl Z <| AF <| AN <| AG ?_
  cases v
  exact er Z Le.rfl
 refine AE <| Ad <| AC <| rs AA <| rl Z <| AF ?_
 cases w
 exact er Z Le.rfl
noncomputable def KN (b : A0) (a : Int) : Option Int :=
 (BU b a).bind fun c => bif (c == 4) then some (-1) else some a
theorem QT (a : A0) (b : Int) (r : Int) (h : KN a b = some r) : Aw Tryz.prog 48 [.place (Ar a) 0, .int .i64 b] (· = .int .i64 r) := by
 refine fn AA Tryz.func48 Z Z 10 Z [.tmp 4] Z [(0, .p (.place (Ar a) 0)), (1, .p (.int .i64 b))] Z Z fun A hA => ?_
 unfold KN at h
 refine rs AA <| rl Z <| AB <| rs AA <| rn 2 Z <| bq h fun g c d => sx Z (AM (Br _ _ _ c) (.inl Z) Z Z Z <| rl Z <| cd Z d (fun e => ?_) (fun f => ?_))
 .refine rs AA <| rl Z <| AF <| AG ?_
  cases e
  exact er Z Le.rfl
 refine AE <| AC <| rs AA <| rl Z <| AF ?_
 have hr := Option.some.inj f; subst hr
 exact er Z Le.rfl
noncomputable def Hs (a : A0) (b : Int) : Option (Int × Int) :=
 bif (An a.line b).isSome then (Aa ([((An a.line b).getD (⟨0, 0⟩ : B1)).a0, ((An a.line b).getD (⟨0, 0⟩ : B1)).a1] : List Int) 0).bind fun c => (Aa ([((An a.line b).getD (⟨0, 0⟩ : B1)).a0, ((An a.line b).getD (⟨0, 0⟩ : B1)).a1] : List Int) 1).bind fun d => some (c, d) else some ((-1), (-1))
theorem NQ (a : A0) (b : Int) (r : (Int × Int)) (h : Hs a b = some r) : Aw Tryz.prog 77 [.place (Ar a) 0, .int .i64 b] (· = .tup [.int .i64 r.1, .int .i64 r.2]) := by
 refine fn AA Tryz.func77 Z Z 22 Z [.tmp 4, .tmp 5] Z [(0, .p (.place (Ar a) 0)), (1, .p (.int .i64 b))] Z Z fun A hA => ?_
 unfold Hs at h
 refine rs AA <| rl Z <| AB <| rs AA <| rn 5 Z <| sx Z (KL (et := 161) (ke := (.int .i64)) (ve := (fun x => .agg (FD x))) (mp := a.line) (y := b) (⟨0, 0⟩ : B1) GP Z Z Z Z <| rl Z <| rs AA <| rl Z <| cd Z h (fun e => ?_) (fun j => ?_))
 .refine AB ?_
  refine By AA mixed [0, 1, 2, 3, 4, 5] 6 (by kernel_rfl) Z Z Z ?_
  refine bq e fun k c f => Au Z (Al Z (XX (l := ([((An a.line b).getD (⟨0, 0⟩ : B1)).a0, ((An a.line b).getD (⟨0, 0⟩ : B1)).a1] : List Int)) c Z Z Z Z <| Au Z (HK Z (XZ (g := fun y => .p (.int .i64 y)) c Z Z Z Z <| bq f fun m d i => Au Z (Al Z (XX (l := ([((An a.line b).getD (⟨0, 0⟩ : B1)).a0, ((An a.line b).getD (⟨0, 0⟩ : B1)).a1] : List Int)) d Z Z Z Z <| Au Z (HK Z (XZ (g := fun y => .p (.int .i64 y)) d Z Z Z Z <| BF Z <| AC <| AF <| AG ?_))))))))
  cases i
  exact er Z Le.rfl
 refine AE <| AC <| rs AA <| rl Z <| AF ?_
 cases j
 exact er Z Le.rfl
noncomputable def Ij (b : A0) (c : AZ) (d : Int) (e : Int) : Option (AI × Bool) :=
 bif (e == 0) then (Aa c.runs d).bind fun l => (Cd b l.frm).bind fun f => some (f.1, f.2) else (Aa c.runs d).bind fun m => (Aa m.legs (AO (e - 1))).bind fun a => bif (a.fin == 1) then (Cd b a.to).bind fun g => some (g.1, g.2) else bif (a.fin == 3) then (Bd b (⟨a.to, 0⟩ : AI)).bind fun h => (Bd b (⟨a.to, 1⟩ : AI)).bind fun i => ((bif (!h.2) then some i.2 else some false : Option (Bool))).bind fun (j : Bool) => bif j then some ((⟨a.to, 0⟩ : AI), true) else ((bif h.2 then some (!i.2) else some false : Option (Bool))).bind fun (k : Bool) => some ((⟨a.to, 1⟩ : AI), k) else some ((⟨0, 0⟩ : AI), false)
theorem WG (c : A0) (d : AZ) (e : Int) (f : Int) (r : (AI × Bool)) (h : Ij c d e f = some r) : Aw Tryz.prog 42 [.place (Ar c) 0, .agg (AW d), .int .i64 e, .int .i64 f] (· = .tup [.agg (AV r.1), .bool r.2]) := by
 refine fn AA Tryz.func42 Z Z 82 Z [.cell 8 40, .tmp 9] Z [(0, .p (.place (Ar c) 0)), (1, .p (.agg (AW d))), (2, .p (.int .i64 e)), (3, .p (.int .i64 f))] Z Z fun A hA => ?_
 unfold Ij at h
 refine rs AA <| rl Z <| AB <| rs AA <| rl Z <| cd Z h (fun w => ?_) (fun af => ?_)
 .refine rs AA <| rn 4 Z <| bq w fun aq i ad => sx Z (Ab i Z Z Z <| rn 2 Z <| bq ad fun ar j ae => sx Z (AM (HR _ _ _ j) (.inl Z) Z Z Z <| rl Z <| AF <| AG ?_))
  cases ae
  exact er Z Le.rfl
 refine AE <| AC <| AB <| rs AA <| rn 3 Z <| bq af fun au k ag => sx Z (Ab k Z Z Z <| rn 4 Z <| bq ag fun g l ah => sx Z (Ab l Z Z Z <| rl Z <| rs AA <| rl Z <| AH <| rs AA <| rl Z <| cd Z ah (fun ai => ?_) (fun ak => ?_)))
 .refine rs AA <| rn 3 Z <| bq ai fun av m aj => sx Z (AM (HR _ _ _ m) (.inl Z) Z Z Z <| rl Z <| AF <| AN <| AG ?_)
  cases aj
  exact er Z Le.rfl
 refine rs AA <| rl Z <| cd Z ak (fun al => ?_) (fun ac => ?_)
 .refine rs AA <| rn 4 Z <| bq al fun ao n am => sx Z (AM (CG _ _ _ n) (.inl Z) Z Z Z <| rl Z <| rs AA <| rn 4 Z <| bq am fun ap o an => sx Z (AM (CG _ _ _ o) (.inl Z) Z Z Z <| rl Z <| AB <| jb (fun a : Bool => ⟨82, [(8, .lpb 0 0), (10, .lpb 1 0), (12, lb ao.2), (14, lb ap.2), (69, lb a)], [(0, .box [li 0, li 0]), (1, bx (DB g))], 2⟩) an (fun a q => ?_) (fun a u => ?_)))
  .refine rg AA <| rn 3 Z <| gs 67 q Z Z Z (fun s => ?_) (fun t => ?_)
   .exact rl Z <| AL s (wf hA [(0, 1), (1, 2)] Z Z Z)
   exact rl Z <| AL t (wf hA [(0, 1), (1, 2)] Z Z Z)
  refine cd Z u (fun v => ?_) (fun x => ?_)
  .refine rs AA <| rl Z <| AF <| AG <| AN <| AG ?_
   cases v
   exact er Z Le.rfl
  refine AE <| AC <| jb (fun b : Bool => ⟨82, [(8, .lpb 0 0), (9, lb b)], [(0, .box [li g.to, li 1])], 1⟩) x (fun b y => ?_) (fun b ab => ?_)
  .refine rg AA <| rn 5 Z <| gs 77 y Z Z Z (fun z => ?_) (fun aa => ?_)
   .exact rl Z <| AL z (wf hA [(0, 0)] Z Z Z)
   exact rl Z <| AL aa (wf hA [(0, 0)] Z Z Z)
  refine AF <| AN <| AG ?_
  cases ab
  exact er Z Le.rfl
 refine AE <| Ad <| AC <| rs AA <| rl Z <| AF ?_
 cases ac
 exact er Z Le.rfl
noncomputable def Hv (d : A0) (e : AZ) (f : Int) (a : Int) : Option Int :=
 (F7 e f a).bind fun c => ((bif (!c.2) then some true else some (a == (c.1.length : Int)) : Option (Bool))).bind fun (g : Bool) => bif g then some (-1) else (Ij d e f a).bind fun b => ((bif (!b.2) then some true else (Aa c.1 a).bind fun j => bif j.turn then (BU d b.1.elem).bind fun k => some (k != 1) else some false : Option (Bool))).bind fun (h : Bool) => bif h then some (-1) else (((Aa c.1 a).bind fun l => bif l.turn then some (AO (1 - b.1.fin)) else some b.1.fin : Option (Int))).bind fun (i : Int) => (Ca d (⟨b.1.elem, i⟩ : AI)).bind fun m => some m
theorem Rq (a : A0) (c : AZ) (d : Int) (b : Int) (r : Int) (h : Hv a c d b = some r) : Aw Tryz.prog 15 [.place (Ar a) 0, .agg (AW c), .int .i64 d, .int .i64 b] (· = .int .i64 r) := by
 refine fn AA Tryz.func15 Z Z 63 Z [.tmp 8] Z [(0, .p (.place (Ar a) 0)), (1, .p (.agg (AW c))), (2, .p (.int .i64 d)), (3, .p (.int .i64 b))] Z Z fun A hA => ?_
 unfold Hv at h
 refine rs AA <| rl Z <| rs AA <| rn 3 Z <| bq h fun j l z => sx Z (AM (OJ _ _ _ _ l) (.inr Z) Z Z Z <| rl Z <| AB <| jb (fun e : Bool => ⟨63, [(0, lq (Ar a)), (2, li d), (3, li b), (5, .lpb 0 0), (9, ls 4 DB j.1), (26, lb e)], [(0, bx (AW c))], 1⟩) z (fun e s => ?_) (fun e v => ?_))
 .refine rg AA <| rn 3 Z <| gs 21 s Z Z Z (fun t => ?_) (fun u => ?_)
  .exact rl Z <| AL t (wf hA [(0, 0)] Z Z Z)
  exact rn 2 Z <| sx Z (Ac Z Z <| rl Z <| AL u (wf hA [(0, 0)] Z Z Z))
 refine cd Z v (fun w => ?_) (fun x => ?_)
 .refine rs AA <| rl Z <| AF <| AG ?_
  cases w
  exact er Z Le.rfl
 refine AE <| AC <| rs AA <| rn 4 Z <| bq x fun i k y => sx Z (AM (WG _ _ _ _ _ k) (.inl Z) Z Z Z <| rl Z <| AB <| jb (fun f : Bool => ⟨63, [(0, lq (Ar a)), (3, li b), (9, ls 4 DB j.1), (11, .lpb 0 0), (50, lb f)], [(0, .box [li i.1.elem, li i.1.fin])], 1⟩) y (fun f aa => ?_) (fun f ah => ?_))
 .refine rg AA <| rn 3 Z <| gs 37 aa Z Z Z (fun ab => ?_) (fun ac => ?_)
  .exact rl Z <| AL ab (wf hA [(0, 1)] Z Z Z)
  refine rn 2 Z <| bq ac fun aq m ad => sx Z (Ab m Z Z Z <| rn 3 Z <| gs 43 ad Z Z Z (fun ae => ?_) (fun ag => ?_))
  .exact rn 3 Z <| bq ae fun ar n af => sx Z (AM (Br _ _ _ n) (.inl Z) Z Z Z <| rl Z <| AL af (wf hA [(0, 1)] Z Z Z))
  exact rl Z <| AL ag (wf hA [(0, 1)] Z Z Z)
 refine cd Z ah (fun ai => ?_) (fun aj => ?_)
 .refine rs AA <| rl Z <| AF <| AG ?_
  cases ai
  exact er Z Le.rfl
 refine AE <| AC <| jb (fun g : Int => ⟨63, [(0, lq (Ar a)), (11, .lpb 0 0)], [(0, .box [li i.1.elem, li g])], 1⟩) aj (fun g ak => ?_) (fun g ao => ?_)
 .refine rs AA <| rn 2 Z <| bq ak fun au o al => sx Z (Ab o Z Z Z <| rl Z <| cd Z al (fun am => ?_) (fun an => ?_))
  .exact rg AA <| rl Z <| AL am (wf hA [(0, 0)] Z Z Z)
  exact AE <| AL an (wf hA [(0, 0)] Z Z Z)
 refine rs AA <| rn 2 Z <| bq ao fun av q ap => sx Z (AM (G3 _ _ _ q) (.inl Z) Z Z Z <| rl Z <| AF ?_)
 have hr := Option.some.inj ap; subst hr
 exact er Z Le.rfl
noncomputable def Jg (a : Aj) (b : Cm) : Option Bool :=
 ((bif (a.fin != b.fin) then some true else some ((a.steps.length : Int) == 0) : Option (Bool))).bind fun (c : Bool) => bif c then some false else bif (b.fin == 1) then some (a.to == b.to) else (Aa a.steps (AO ((a.steps.length : Int) - 1))).bind fun d => some (d.elem == b.to)
theorem Xp (a : Aj) (b : Cm) (r : Bool) (h : Jg a b = some r) : Aw Tryz.prog 45 [.agg (A6 a), .agg (DB b)] (· = .bool r) := by
 refine fn AA Tryz.func45 Z Z 36 Z [.tmp 4] Z [(0, .p (.agg (A6 a))), (1, .p (.agg (DB b)))] Z Z fun A hA => ?_
 unfold Jg at h
 refine rs AA <| rl Z <| AB <| jb (fun c : Bool => ⟨36, [(2, .lpb 0 0), (3, .lpb 1 0), (15, lb c)], [(0, bx (A6 a)), (1, bx (DB b))], 2⟩) h (fun c e => ?_) (fun c i => ?_)
 .refine rg AA <| rn 6 Z <| gs 10 e Z Z Z (fun f => ?_) (fun g => ?_)
  .exact rl Z <| AL f (wf hA [(0, 0), (1, 1)] Z Z Z)
  exact rn 2 Z <| sx Z (Ac Z Z <| rl Z <| AL g (wf hA [(0, 0), (1, 1)] Z Z Z))
 refine cd Z i (fun j => ?_) (fun k => ?_)
 .refine rs AA <| rl Z <| AF <| AG ?_
  cases j
  exact er Z Le.rfl
 refine AE <| AC <| AB <| rs AA <| rl Z <| cd Z k (fun l => ?_) (fun m => ?_)
 .refine rs AA <| rl Z <| AF <| AG ?_
  cases l
  exact er Z Le.rfl
 refine AE <| AC <| AB ?_
 refine By AA mixed [0, 1, 2, 3, 4, 5, 6, 7, 8, 9, 10, 11, 12] 13 (by kernel_rfl) Z Z Z ?_
 refine As 4 Z <| Au Z (Kj Z Z <| As 1 Z <| bq m fun o d n => Au Z (Al Z (Ab d Z Z Z <| BF Z <| AC <| AF ?_)))
 cases n
 exact er Z Le.rfl
noncomputable def DM (a : A0) (b : Int) : Option Int :=
 (EM a b).bind fun c => some c.length
theorem L1 (a : A0) (b : Int) (r : Int) (h : DM a b = some r) : Aw Tryz.prog 74 [.place (Ar a) 0, .int .i64 b] (· = .int .i64 r) := by
 refine fn AA Tryz.func74 Z Z 9 Z [.tmp 4] Z [(0, .p (.place (Ar a) 0)), (1, .p (.int .i64 b))] Z Z fun A hA => ?_
 unfold DM at h
 refine rs AA <| rl Z <| rs AA <| rn 2 Z <| bq h fun e c d => sx Z (AM (NY _ _ _ c) (.inl Z) Z Z Z <| rl Z <| AF ?_)
 cases d
 exact er Z Le.rfl
noncomputable def Hg (a : A0) (d : BI) (b : Int) : Option Bool :=
 (BU a b).bind fun c => bif (c == 4) then some true else bif (c == 1) then (DM a b).bind fun e => (B0 a).bind fun f => some (decide (AO (d.len + f.margin) <= e)) else some false
theorem U0 (a : A0) (b : BI) (c : Int) (r : Bool) (h : Hg a b c = some r) : Aw Tryz.prog 47 [.place (Ar a) 0, .agg (BM b), .int .i64 c] (· = .bool r) := by
 refine fn AA Tryz.func47 Z Z 24 Z [.tmp 6] Z [(0, .p (.place (Ar a) 0)), (1, .p (.agg (BM b))), (2, .p (.int .i64 c))] Z Z fun A hA => ?_
 unfold Hg at h
 refine rs AA <| rl Z <| AB <| rs AA <| rn 2 Z <| bq h fun o d g => sx Z (AM (Br _ _ _ d) (.inl Z) Z Z Z <| rl Z <| AH <| rs AA <| rl Z <| cd Z g (fun i => ?_) (fun j => ?_))
 .refine rs AA <| rl Z <| AF <| AN <| AG ?_
  cases i
  exact er Z Le.rfl
 refine rs AA <| rl Z <| cd Z j (fun k => ?_) (fun n => ?_)
 .refine AB ?_
  refine By AA mixed [0, 1, 2, 3, 4, 5, 6, 7, 8, 9, 10] 11 (by kernel_rfl) Z Z Z ?_
  refine As 2 Z <| bq k fun q e l => Au Z (A2 (L1 _ _ _ e) (.inl Z) Z Z Z <| As 3 Z <| bq l fun s f m => Au Z (A2 (Ht _ _ f) (.inr Z) Z Z Z <| BF Z <| AC <| AF <| AN <| AG ?_))
  cases m
  exact er Z Le.rfl
 refine AE <| Ad <| AC <| rs AA <| rl Z <| AF ?_
 cases n
 exact er Z Le.rfl
noncomputable def IB (f : A0) (c : (List Aj)) (g : AZ) (h : Int) (i : Int) (j : Int) (l : Int) (k : BI) (a : Int × (List Int)) : Option ((Int × (List Int)) ⊕ (List Int)) :=
 bif decide (a.1 < (c.length : Int)) then (((Aa c a.1).bind fun b => ((bif (b.frm == j) then (Aa g.runs h).bind fun m => (Aa m.legs i).bind fun n => (Jg b n).bind fun o => bif o then bif (!b.bare) then (Bb b.zone l).bind fun p => bif (!p) then (Aa b.steps (AO ((b.steps.length : Int) - 1))).bind fun q => (Hg f k q.elem).bind fun r => some r else some false else some false else some false else some false : Option (Bool))).bind fun (e : Bool) => bif e then (Bq a.2 [a.1]).bind fun s => some s else some a.2 : Option ((List Int)))).bind fun (d : (List Int)) => some (.inl (AO (a.1 + 1), d)) else some (.inr a.2)
noncomputable def E9 (c : A0) (g : (List Aj)) (a : AZ) (b : Int) (d : Int) : Option (List Int) :=
 (Hv c a b d).bind fun e => (Cz c a b d).bind fun l => ((bif decide (e < 0) then some true else (Aa a.runs b).bind fun h => bif decide (h.stock < 0) then some true else (Aa a.runs b).bind fun i => some (decide ((a.stock.length : Int) <= i.stock)) : Option (Bool))).bind fun (f : Bool) => bif f then some [] else (Aa a.runs b).bind fun j => (Aa a.stock j.stock).bind fun k => AR (IB c g a b d e l k) (0, ([] : List Int))
theorem Mt (d : A0) (c : (List Aj)) (e : AZ) (f : Int) (g : Int) (r : (List Int)) (h : E9 d c e f g = some r) : Aw Tryz.prog 18 [.place (Ar d) 0, .slice 9 (c.map A6), .agg (AW e), .int .i64 f, .int .i64 g] (· = .slice 1 (r.map Ae)) := by
 refine fn AA Tryz.func18 Z Z 116 Z [.tmp 10] Z [(0, .p (.place (Ar d) 0)), (1, .p (.slice 9 (c.map A6))), (2, .p (.agg (AW e))), (3, .p (.int .i64 f)), (4, .p (.int .i64 g))] Z Z fun A hA => ?_
 unfold E9 at h
 refine rs AA <| rl Z <| AB ?_
 refine By AA mixed [0, 1, 2, 3, 4, 5, 6, 7, 8, 9, 10, 11] 12 (by kernel_rfl) Z Z Z ?_
 refine As 4 Z <| bq h fun j v av => Au Z (A2 (Rq _ _ _ _ _ v) (.inl Z) Z Z Z <| As 4 Z <| bq av fun k y aw => Au Z (A2 (HP _ _ _ _ _ y) (.inl Z) Z Z Z <| BF Z <| AC <| AB <| jb (fun n : Bool => ⟨116, [(0, lq (Ar d)), (1, ls 9 A6 c), (3, li f), (4, li g), (7, .lpb 0 0), (11, li j), (12, li k), (49, lb n)], [(0, bx (AW e))], 1⟩) aw (fun n ah => ?_) (fun n ao => ?_)))
 .refine By AA mixed [0, 1, 2, 3, 4, 5, 6, 7, 8, 9, 10, 11, 12, 13, 14, 15, 16, 17, 18, 19, 20, 21, 22] 23 (by kernel_rfl) Z Z Z ?_
  refine As 3 Z <| Db 29 ah Z Z Z (fun ai => ?_) (fun aj => ?_)
  .exact BF Z <| AL ai (wf hA [(0, 0)] Z Z Z)
  refine As 3 Z <| bq aj fun bp t ak => Au Z (Al Z (Ab t Z Z Z <| As 5 Z <| Db 38 ak Z Z Z (fun al => ?_) (fun am => ?_)))
  .exact BF Z <| AL al (wf hA [(0, 0)] Z Z Z)
  exact As 3 Z <| bq am fun br u an => Au Z (Al Z (Ab u Z Z Z <| As 4 Z <| Au Z (Kj Z Z <| BF Z <| AL an (wf hA [(0, 0)] Z Z Z))))
 refine cd Z ao (fun ap => ?_) (fun aq => ?_)
 .refine rs AA <| rl Z <| AF <| AG ?_
  cases ap
  exact er Z (Le.nil _)
 refine AE <| AC <| AB ?_
 refine By AA mixed [0, 1, 2, 3, 4, 5, 6, 7, 8, 9, 10, 11] 12 (by kernel_rfl) Z Z Z ?_
 refine As 5 Z <| bq aq fun bs w ar => Au Z (Al Z (Ab w Z Z Z <| As 2 Z <| bq ar fun q x au => Au Z (Al Z (Ab x Z Z Z <| BF Z <| AC <| rs AA <| rl Z <| AB <| rs AA <| rn 1 Z <| sx Z (Ac Z Z <| rl Z <| AH ?_)))))
 apply lp (a := r) (fun b : (Int × (List Int)) => ⟨116, [(0, lq (Ar d)), (3, li f), (4, li g), (7, .lpb 0 0), (11, li j), (12, li k), (13, .lpb 1 0), (14, .lsl 2 1 0 b.2.length), (60, ls 9 A6 c), (61, li (c.length : Int)), (62, li b.1)], [(0, bx (AW e)), (1, bx (BM q)), (2, .row 3 1 (b.2.map Ae))], 3⟩) au
 . exact A8.trans (CI 14 3 1 Z) (wf hA [(0, 0), (1, 11), (2, 13)] Z Z Z)
 intro b bo s
 unfold IB at s
 refine rs AA <| rl Z <| AB <| cd Z s (fun ax => ?_) (fun bl => ?_)
 .refine AE <| AC <| jb (fun i : (List Int) => ⟨116, [(0, lq (Ar d)), (3, li f), (4, li g), (7, .lpb 0 0), (11, li j), (12, li k), (13, .lpb 1 0), (14, .lsl 2 1 0 i.length), (60, ls 9 A6 c), (61, li (c.length : Int)), (62, li b.1)], [(0, bx (AW e)), (1, bx (BM q)), (2, .row 3 1 (i.map Ae))], 3⟩) ax (fun i ay => ?_) (fun i bk => ?_)
  .refine AH <| rs AA <| rn 1 Z <| bq ay fun bt z az => sx Z (Ab z Z Z Z <| rl Z <| jb (fun o : Bool => ⟨116, [(0, lq (Ar d)), (3, li f), (4, li g), (7, .lpb 0 0), (11, li j), (12, li k), (13, .lpb 1 0), (14, .lsl 2 1 0 b.2.length), (15, li b.1), (60, ls 9 A6 c), (61, li (c.length : Int)), (62, li b.1), (109, lb o)], [(0, bx (AW e)), (1, bx (BM q)), (2, .row 3 1 (b.2.map Ae))], 3⟩) az (fun o a0 => ?_) (fun o bg => ?_))
   .refine By AA mixed [0, 1, 2, 3, 4, 5, 6, 7, 8, 9, 10, 11, 12, 13, 14, 15, 16, 17, 18, 19, 20, 21, 22, 23, 24, 25, 26, 27, 28, 29, 30, 31, 32, 33, 34, 35, 36, 37, 38, 39, 40, 41, 42] 43 (by kernel_rfl) Z Z Z ?_
    refine As 5 Z <| Db 71 a0 Z Z Z (fun a1 => ?_) (fun bf => ?_)
    .refine As 4 Z <| bq a1 fun bu aa a2 => Au Z (Al Z (Ab aa Z Z Z <| As 3 Z <| bq a2 fun bv ab a3 => Au Z (Al Z (Ab ab Z Z Z <| As 1 Z <| bq a3 fun bw ac a4 => Au Z (A2 (Xp _ _ _ ac) (.inl Z) Z Z Z <| As 2 Z <| Db 84 a4 Z Z Z (fun a5 => ?_) (fun be => ?_))))))
     .refine As 5 Z <| Db 89 a5 Z Z Z (fun a6 => ?_) (fun bc => ?_)
      .refine As 3 Z <| bq a6 fun bz ad a7 => Au Z (A2 (Cq _ _ _ ad) (.inl Z) Z Z Z <| As 3 Z <| Db 96 a7 Z Z Z (fun a8 => ?_) (fun bb => ?_))
       .exact As 6 Z <| Au Z (Kj Z Z <| As 1 Z <| bq a8 fun b0 ae a9 => Au Z (Al Z (Ab ae Z Z Z <| As 2 Z <| bq a9 fun b1 af ba => Au Z (A2 (U0 _ _ _ _ af) (.inl Z) Z Z Z <| BF Z <| AL ba (wf hA (gi 3 []) Z Z Z)))))
       exact BF Z <| AL bb (wf hA (gi 3 []) Z Z Z)
      exact BF Z <| AL bc (wf hA (gi 3 []) Z Z Z)
     exact BF Z <| AL be (wf hA (gi 3 []) Z Z Z)
    exact BF Z <| AL bf (wf hA (gi 3 []) Z Z Z)
   refine cd Z bg (fun bh => ?_) (fun bj => ?_)
   .exact rg AA <| rn 3 Z <| bq bh fun b2 ag bi => sx Z (BV (enc := Ae) (l := b.2) (m := [b.1]) ag (fun _ => ⟨Z, Z⟩) Z Z Z Z Z Z <| rl Z <| Ad <| AL bi (wf hA [(0, 0), (1, 1), (2, 4)] Z Z Z))
   exact AE <| Ad <| AL bj (wf hA (gi 3 []) Z Z Z)
  exact rg AA <| rl Z <| Aq bk (wf hA (gi 3 []) Z Z Z)
 refine AU <| AX <| BH bl fun bn bm => Am <| AC <| rs AA <| rl Z <| AF ?_
 cases bm
 exact er (I6 Z (.one (.own (enc := Ae) b.2 Z Z))) Le.rfl
end Go.E
/- Plain functions, and walks in step with them. Written by a program (gen.py). No condition. -/
set_option maxRecDepth 100000
set_option maxHeartbeats 1000000
namespace Go.E
open Go Go.RowKit Go.Proofs
noncomputable def LF (a : (List (Int × Bool))) : Option (List Int) := Si a
theorem PT (a : (List (Int × Bool))) (r : (List Int)) (h : LF a = some r) : HG Tryz.prog 79 [.map (Ao (.int .i64) .bool a)] 3 1 (r.map Ae) := Yf Yg rfl a r h
noncomputable def JQ (a : Int) (b : (Option A0)) : Option Bool :=
 N7 b (none) fun d => (BU d a).bind fun c => some (c == 4)
theorem PU (b : Int) (a : (Option A0)) (r : Bool) (h : JQ b a = some r) : Aw Tryz.prog 80 [.int .i64 b, .place ((ABO Ar) a) 0] (· = .bool r) := by
 refine fn AA Tryz.func80 Z Z 8 Z [.tmp 3] Z [(0, .p (.int .i64 b)), (1, .p (.place ((ABO Ar) a) 0))] Z Z fun A hA => ?_
 unfold JQ at h
 refine rs AA <| rl Z <| rs AA <| rn 2 Z ?_
 revert h; rcases e : a with _ | g <;> intro h
 .replace h := YW h
  cases h
 replace h := YX h
 refine bq h fun f c d => sx Z (AM (Br _ _ _ c) (.inl Z) Z Z Z <| rl Z <| AF ?_)
 cases d
 exact er Z Le.rfl
noncomputable def Og (b : DA) (a : Int × (List (Int × Bool))) : Option ((Int × (List (Int × Bool))) ⊕ (List (Int × Bool))) :=
 bif decide (a.1 < (b.elems.length : Int)) then (Aa b.elems a.1).bind fun c => some (.inl (AO (a.1 + 1), A3 c true a.2)) else some (.inr a.2)
noncomputable def Oh (b : DA) (a : Int × (List (Int × Bool))) : Option ((Int × (List (Int × Bool))) ⊕ (List (Int × Bool))) :=
 bif decide (a.1 < (b.elems.length : Int)) then (Aa b.elems a.1).bind fun c => some (.inl (AO (a.1 + 1), A3 c true a.2)) else some (.inr a.2)
noncomputable def Oi (i : A0) (d : (List DA)) (f : (Int × (List (Int × Bool)))) (e : Aj) (a : Int × (List (Int × Bool))) : Option ((Int × (List (Int × Bool))) ⊕ ((Int × (List (Int × Bool))) ⊕ (List Int))) :=
 bif decide (a.1 < (e.zone.length : Int)) then (Aa e.zone a.1).bind fun b => (((Hs i b).bind fun c => ((bif decide (0 <= c.1) then some (decide (c.1 < (d.length : Int))) else some false : Option (Bool))).bind fun (h : Bool) => bif h then (Aa d c.1).bind fun j => AR (Oh j) (0, A3 b true a.2) else some (A3 b true a.2) : Option ((List (Int × Bool))))).bind fun (g : (List (Int × Bool))) => some (.inl (AO (a.1 + 1), g)) else some (.inr (.inl (AO (f.1 + 1), a.2)))
noncomputable def Oj (e : A0) (b : (List DA)) (j : (List Aj)) (g : (Int × (List (Int × Bool)))) (k : Int) (f : Aj) (a : Int × (List (Int × Bool))) : Option ((Int × (List (Int × Bool))) ⊕ ((Int × (List (Int × Bool))) ⊕ (List Int))) :=
 bif decide (a.1 < (f.steps.length : Int)) then (Aa f.steps a.1).bind fun c => (((Hs e c.elem).bind fun d => ((bif decide (0 <= d.1) then some (decide (d.1 < (b.length : Int))) else some false : Option (Bool))).bind fun (i : Bool) => bif i then (Aa b d.1).bind fun l => AR (Og l) (0, A3 c.elem true a.2) else some (A3 c.elem true a.2) : Option ((List (Int × Bool))))).bind fun (h : (List (Int × Bool))) => some (.inl (AO (a.1 + 1), h)) else ((Aa j k).bind fun m => AR (Oi e b g m) (0, a.2)).map .inr
noncomputable def Ok (c : A0) (b : (List Int)) (a : Int) : Option (Int ⊕ Int) :=
 bif decide (a < (b.length : Int)) then (Aa b a).bind fun d => (JQ d (some c)).bind fun e => bif e then some (.inr a) else some (.inl (AO (a + 1))) else some (.inr (-1))
noncomputable def Ol (d : A0) (a : Int × Int × (List Int)) : Option ((Int × Int × (List Int)) ⊕ (List Int)) :=
 bif decide (a.2.1 < (a.2.2.length : Int)) then (((Aa a.2.2 a.2.1).bind fun c => (JQ c (some d)).bind fun e => bif (!e) then (Aa a.2.2 a.1).bind fun i => some (AO (a.1 + 1), A7 a.2.2 a.1 c) else some (a.1, a.2.2) : Option (Int × (List Int)))).bind fun (b : Int × (List Int)) => some (.inl (b.1, AO (a.2.1 + 1), b.2)) else ((MU a.2.2 a.1 (a.2.2.length : Int)).bind fun f => (Uq 0 a.2.2 f).bind fun g => (MU g 0 a.1).bind fun h => some h).map .inr
noncomputable def Om (b : A0) (i : (List DA)) (e : (List Aj)) (j : AZ) (k : Int) (l : Int) (f : (List Int)) (a : Int × (List (Int × Bool))) : Option ((Int × (List (Int × Bool))) ⊕ (List Int)) :=
 bif decide (a.1 < (f.length : Int)) then (Aa f a.1).bind fun g => (Aa e g).bind fun m => AR (Oj b i e a g m) (0, a.2) else ((Cz b j k l).bind fun n => (LF (Lw n a.2)).bind fun d => ((((AR (Ok b d) 0 : Option (Int))).bind fun (c : Int) => bif (c == (-1)) then some d else AR (Ol b) (c, AO (c + 1), d) : Option ((List Int)))).bind fun (h : (List Int)) => some h).map .inr
noncomputable def OH (a : A0) (f : (List DA)) (b : (List Aj)) (c : AZ) (d : Int) (e : Int) : Option (List Int) :=
 (E9 a b c d e).bind fun g => AR (Om a f b c d e g) (0, [])
theorem Xe (b : A0) (c : (List DA)) (j : (List Aj)) (d : AZ) (k : Int) (m : Int) (r : (List Int)) (h : OH b c j d k m = some r) : Aw Tryz.prog 50 [.place (Ar b) 0, .slice 2 (c.map Bf), .slice 9 (j.map A6), .agg (AW d), .int .i64 k, .int .i64 m] (· = .slice 1 (r.map Ae)) := by
 refine fn AA Tryz.func50 Z Z 74 Z [.tmp 12] Z [(0, .p (.place (Ar b) 0)), (1, .p (.slice 2 (c.map Bf))), (2, .p (.slice 9 (j.map A6))), (3, .p (.agg (AW d))), (4, .p (.int .i64 k)), (5, .p (.int .i64 m))] Z Z fun A hA => ?_
 unfold OH at h
 refine rs AA <| rl Z <| rs AA <| rl Z <| rs AA <| rl Z <| AB <| rs AA <| rn 5 Z <| bq h fun n a1 bi => sx Z (AM (Mt _ _ _ _ _ _ a1) (.inr Z) Z Z Z <| sx Z (Ac Z Z <| rl Z <| AH ?_))
 apply lp (a := r) (fun e : (Int × (List (Int × Bool))) => ⟨74, [(2, ls 9 A6 j), (4, li k), (5, li m), (6, .lpb 0 0), (9, .lpb 1 0), (13, .lpb 2 0), (14, .fn 76 [.lpb 2 0, .lpb 0 0, .lpb 3 0]), (28, ls 1 Ae n), (29, li (n.length : Int)), (30, li e.1)], [(0, .box [lq (Ar b)]), (1, bx (AW d)), (2, .box [.lmap 4]), (3, .box [ls 2 Bf c]), (4, .map (Ao (.int .i64) .bool e.2))], 5⟩) bi
 . exact wf hA [(0, 0), (1, 2), (2, 4), (3, 1), (4, 3)] Z Z Z
 intro e a0 am
 unfold Om at am
 refine rs AA <| rl Z <| AB <| cd Z am (fun bj => ?_) (fun cr => ?_)
 .refine AE <| AC <| AB <| AH <| rs AA <| bq bj fun dm a2 bk => sx Z (Ab a2 Z Z Z <| rl Z <| AB <| rs AA <| rn 2 Z <| bq bk fun av a3 bl => sx Z (Ab a3 Z Z Z <| rn 2 Z <| sx Z (Ac Z Z <| rl Z <| AH ?_)))
  apply lp (a := a0) (fun s : (Int × (List (Int × Bool))) => ⟨74, [(2, ls 9 A6 j), (4, li k), (5, li m), (6, .lpb 0 0), (9, .lpb 1 0), (13, .lpb 2 0), (14, .fn 76 [.lpb 2 0, .lpb 0 0, .lpb 3 0]), (16, li dm), (28, ls 1 Ae n), (29, li (n.length : Int)), (30, li e.1), (38, ls 3 Ay av.steps), (39, li (av.steps.length : Int)), (40, li s.1)], [(0, .box [lq (Ar b)]), (1, bx (AW d)), (2, .box [.lmap 4]), (3, .box [ls 2 Bf c]), (4, .map (Ao (.int .i64) .bool s.2))], 5⟩) bl
  . exact wf hA (gi 5 []) Z Z Z
  intro s d2 an
  unfold Oj at an
  refine rs AA <| rl Z <| AB <| cd Z an (fun bm => ?_) (fun b5 => ?_)
  .refine AE <| AC <| AB <| AH <| rs AA <| bq bm fun o a4 bn => sx Z (Ab a4 Z Z Z <| rl Z <| rg AA <| rn 3 Z <| sx Z (CW AA (fun u : (List (Int × Bool)) => .tup []) (fun u : (List (Int × Bool)) => [(0, .box [lq (Ar b)]), (1, bx (AW d)), (2, .box [.lmap 4]), (3, .box [ls 2 Bf c]), (4, .map (Ao (.int .i64) .bool u)), (5, bx (Ay o))]) 6 bn Tryz.func76 38 [] [(0, li o.elem), (1, .lpb 2 0), (2, .lpb 0 0), (3, .lpb 3 0)] Z Z Z Z Z Z Z Z (fun A hA u bo => ?_) (fun u b4 => ?_)))
   .refine rs AA <| rn 2 Z <| sx Z (G0 (et := 4) (ke := (.int .i64)) (ve := .bool) (mp := s.2) (y := o.elem) (z := true) GP Z Z Z Z Z Z <| rl Z <| rs AA <| rn 2 Z <| bq bo fun dn a5 bp => sx Z (AM (NQ _ _ _ a5) (.inl Z) Z Z Z <| rl Z <| jb (fun ad : Bool => ⟨38, [(1, .lpb 2 0), (3, .lpb 3 0), (5, li dn.1), (24, lb ad)], [(0, .box [lq (Ar b)]), (1, bx (AW d)), (2, .box [.lmap 4]), (3, .box [ls 2 Bf c]), (4, .map (Ao (.int .i64) .bool (A3 o.elem true s.2))), (5, bx (Ay o))], 6⟩) bp (fun ad br => ?_) (fun ad bu => ?_)))
    .refine rg AA <| rn 3 Z <| gs 19 br Z Z Z (fun bs => ?_) (fun bt => ?_)
     .exact rn 2 Z <| sx Z (Ac Z Z <| rl Z <| AL bs (wj hA (gi 6 []) Z Z Z Z))
     exact rl Z <| AL bt (wj hA (gi 6 []) Z Z Z Z)
    refine cd Z bu (fun bv => ?_) (fun b3 => ?_)
    .refine rs AA <| rn 2 Z <| bq bv fun aw a6 bw => sx Z (Ab a6 Z Z Z <| rn 2 Z <| sx Z (Ac Z Z <| rl Z <| AH ?_))
     apply lp (a := u) (fun aa : (Int × (List (Int × Bool))) => ⟨38, [(1, .lpb 2 0), (29, ls 1 Ae aw.elems), (30, li (aw.elems.length : Int)), (31, li aa.1)], [(0, .box [lq (Ar b)]), (1, bx (AW d)), (2, .box [.lmap 4]), (3, .box [ls 2 Bf c]), (4, .map (Ao (.int .i64) .bool aa.2)), (5, bx (Ay o))], 6⟩) bw
     . exact wj hA (gi 6 []) Z Z Z Z
     intro aa d3 ao
     unfold Og at ao
     refine rs AA <| rl Z <| AB <| cd Z ao (fun bz => ?_) (fun b1 => ?_)
     .exact AE <| AC <| AB <| AH <| rs AA <| bq bz fun dp a7 b0 => sx Z (Ab a7 Z Z Z <| rl Z <| rg AA <| rn 2 Z <| sx Z (G0 (et := 4) (ke := (.int .i64)) (ve := .bool) (mp := aa.2) (y := dp) (z := true) GP Z Z Z Z Z Z <| rl Z <| Ad <| AC <| rg AA <| rl Z <| Aq b0 (wj hA (gi 6 []) Z Z Z Z)))
     refine AU <| AX <| BH b1 fun dv b2 => Am ?_
     cases b2
     exact MP (nt := 38) (sl := []) (wj hA (gi 6 []) Z Z Z Z) Z
    refine AE ?_
    cases b3
    exact MP (nt := 38) (sl := []) (wj hA (gi 6 []) Z Z Z Z) Z
   exact rl Z <| Ad <| AC <| rg AA <| rl Z <| Aq b4 (wf hA (gi 5 []) Z Z Z)
  refine AU <| AX <| CH b5 fun az b6 => Am <| AC <| rs AA <| rn 2 Z <| bq b6 fun ax a8 b7 => sx Z (Ab a8 Z Z Z <| rn 2 Z <| sx Z (Ac Z Z <| rl Z <| AH ?_))
  apply lp (a := az) (fun t : (Int × (List (Int × Bool))) => ⟨74, [(2, ls 9 A6 j), (4, li k), (5, li m), (6, .lpb 0 0), (9, .lpb 1 0), (13, .lpb 2 0), (14, .fn 76 [.lpb 2 0, .lpb 0 0, .lpb 3 0]), (28, ls 1 Ae n), (29, li (n.length : Int)), (30, li e.1), (53, ls 1 Ae ax.zone), (54, li (ax.zone.length : Int)), (55, li t.1)], [(0, .box [lq (Ar b)]), (1, bx (AW d)), (2, .box [.lmap 4]), (3, .box [ls 2 Bf c]), (4, .map (Ao (.int .i64) .bool t.2))], 5⟩) b7
  . exact wf hA (gi 5 []) Z Z Z
  intro t d4 ap
  unfold Oi at ap
  refine rs AA <| rl Z <| AB <| cd Z ap (fun b8 => ?_) (fun cp => ?_)
  .refine AE <| AC <| AB <| AH <| rs AA <| bq b8 fun af a9 b9 => sx Z (Ab a9 Z Z Z <| rl Z <| rg AA <| rn 2 Z <| sx Z (CW AA (fun v : (List (Int × Bool)) => .tup []) (fun v : (List (Int × Bool)) => [(0, .box [lq (Ar b)]), (1, bx (AW d)), (2, .box [.lmap 4]), (3, .box [ls 2 Bf c]), (4, .map (Ao (.int .i64) .bool v))]) 5 b9 Tryz.func76 38 [] [(0, li af), (1, .lpb 2 0), (2, .lpb 0 0), (3, .lpb 3 0)] Z Z Z Z Z Z Z Z (fun A hA v ca => ?_) (fun v co => ?_)))
   .refine rs AA <| rn 2 Z <| sx Z (G0 (et := 4) (ke := (.int .i64)) (ve := .bool) (mp := t.2) (y := af) (z := true) GP Z Z Z Z Z Z <| rl Z <| rs AA <| rn 2 Z <| bq ca fun dq ba cb => sx Z (AM (NQ _ _ _ ba) (.inl Z) Z Z Z <| rl Z <| jb (fun ae : Bool => ⟨38, [(1, .lpb 2 0), (3, .lpb 3 0), (5, li dq.1), (24, lb ae)], [(0, .box [lq (Ar b)]), (1, bx (AW d)), (2, .box [.lmap 4]), (3, .box [ls 2 Bf c]), (4, .map (Ao (.int .i64) .bool (A3 af true t.2)))], 5⟩) cb (fun ae cc => ?_) (fun ae cg => ?_)))
    .refine rg AA <| rn 3 Z <| gs 19 cc Z Z Z (fun ce => ?_) (fun cf => ?_)
     .exact rn 2 Z <| sx Z (Ac Z Z <| rl Z <| AL ce (wj hA (gi 5 []) Z Z Z Z))
     exact rl Z <| AL cf (wj hA (gi 5 []) Z Z Z Z)
    refine cd Z cg (fun ch => ?_) (fun cn => ?_)
    .refine rs AA <| rn 2 Z <| bq ch fun ay bb ci => sx Z (Ab bb Z Z Z <| rn 2 Z <| sx Z (Ac Z Z <| rl Z <| AH ?_))
     apply lp (a := v) (fun ab : (Int × (List (Int × Bool))) => ⟨38, [(1, .lpb 2 0), (29, ls 1 Ae ay.elems), (30, li (ay.elems.length : Int)), (31, li ab.1)], [(0, .box [lq (Ar b)]), (1, bx (AW d)), (2, .box [.lmap 4]), (3, .box [ls 2 Bf c]), (4, .map (Ao (.int .i64) .bool ab.2))], 5⟩) ci
     . exact wj hA (gi 5 []) Z Z Z Z
     intro ab d5 aq
     unfold Oh at aq
     refine rs AA <| rl Z <| AB <| cd Z aq (fun cj => ?_) (fun cl => ?_)
     .exact AE <| AC <| AB <| AH <| rs AA <| bq cj fun dr bc ck => sx Z (Ab bc Z Z Z <| rl Z <| rg AA <| rn 2 Z <| sx Z (G0 (et := 4) (ke := (.int .i64)) (ve := .bool) (mp := ab.2) (y := dr) (z := true) GP Z Z Z Z Z Z <| rl Z <| Ad <| AC <| rg AA <| rl Z <| Aq ck (wj hA (gi 5 []) Z Z Z Z)))
     refine AU <| AX <| BH cl fun dw cm => Am ?_
     cases cm
     exact MP (nt := 38) (sl := []) (wj hA (gi 5 []) Z Z Z Z) Z
    refine AE ?_
    cases cn
    exact MP (nt := 38) (sl := []) (wj hA (gi 5 []) Z Z Z Z) Z
   exact rl Z <| Ad <| AC <| rg AA <| rl Z <| Aq co (wf hA (gi 5 []) Z Z Z)
  exact AU <| AX <| BH cp fun dx cq => Am <| Ad <| AC <| rg AA <| rl Z <| Aq cq (wf hA (gi 5 []) Z Z Z)
 refine AU <| AX <| CH cr fun dy cs => Am <| AC <| AB ?_
 refine ACg false AA mixed [0, 1, 2, 3, 4, 5] 7 Z Z (by kernel_rfl) (by kernel_rfl) Z Z ?_
 refine As 5 Z <| bq cs fun q be ct => Au Z (A2 (HP _ _ _ _ _ be) (.inl Z) Z Z Z <| BF Z <| (AB8 (et := 4) (ke := (.int .i64)) (ve := .bool) (mp := e.2) (y := q) GP Z Z Z Z Z Z Z Z <| AC <| rs AA <| rn 1 Z <| bq ct fun i bf cu => sx Z (OI (PT _ _ bf) (fun _ => Z) Z Z (Dm.eq (.cons (.one (.mapd Z)) .nil)) <| rn 1 Z <| sx Z (CW AA (fun g : (List Int) => .lsl 12 1 0 g.length) (fun g : (List Int) => [(0, .box [lq (Ar b)]), (1, bx (AW d)), (2, .box [.lmap 4]), (3, .box [ls 2 Bf c]), (4, .mapd (Ao (.int .i64) .bool (Lw q e.2))), (12, .row 3 1 (g.map Ae))]) 13 cu Tryz.func78 42 [.tmp 4] [(0, .lsl 12 1 0 i.length), (1, .fn 80 [.lpb 0 0])] Z Z Z Z Z Z Z Z (fun A hA g cv => ?_) (fun g dl => ?_)))))
 .refine rs AA <| rl Z <| rs AA <| rn 2 Z <| sx Z (CW AA (fun w : Int => li w) (fun w : Int => [(0, .box [lq (Ar b)]), (1, bx (AW d)), (2, .box [.lmap 4]), (3, .box [ls 2 Bf c]), (4, .mapd (Ao (.int .i64) .bool (Lw q e.2))), (12, .row 3 1 (i.map Ae))]) 13 cv Tryz.func108 19 [.tmp 4] [(0, .lsl 12 1 0 i.length), (1, .fn 80 [.lpb 0 0])] Z Z Z Z Z Z Z Z (fun A hA w cw => ?_) (fun w c5 => ?_))
  .refine rs AA <| rl Z <| AB <| rs AA <| rl Z <| AH ?_
   apply lp (a := w) (fun ac : Int => ⟨19, [(0, .lsl 12 1 0 i.length), (1, .fn 80 [.lpb 0 0]), (7, li (i.length : Int)), (8, li ac)], [(0, .box [lq (Ar b)]), (1, bx (AW d)), (2, .box [.lmap 4]), (3, .box [ls 2 Bf c]), (4, .mapd (Ao (.int .i64) .bool (Lw q e.2))), (12, .row 3 1 (i.map Ae))], 13⟩) cw
   . exact wj hA (gi 13 []) Z Z Z Z
   intro ac d6 ar
   unfold Ok at ar
   refine rs AA <| rl Z <| AB <| cd Z ar (fun cx => ?_) (fun c3 => ?_)
   .refine AE <| AC <| AB <| AH <| rs AA <| rl Z <| rs AA <| rn 3 Z <| bq cx fun d8 ag cy => sx Z (B2 ag Z Z Z Z <| sx Z (DC ag Z Z Z <| bq cy fun d9 bg cz => sx Z (AM (PU _ _ _ bg) (.inl Z) Z Z (Dm.eq (.cons (.one (.p _)) (.cons (.box Z (.cons (.p _) .nil)) .nil))) <| rl Z <| cd Z cz (fun c0 => ?_) (fun c2 => ?_))))
    .refine rs AA <| rl Z <| AF <| AN <| AG <| Az c0 fun dz c1 => AN <| AG ?_
     have hr := Option.some.inj c1; subst hr
     exact CZ (nt := 19) (sl := [(4, li ac)]) (wj hA (gi 13 []) Z Z Z Z) Z
    exact AE <| Ad <| AC <| rg AA <| rl Z <| Aq c2 (wj hA (gi 13 []) Z Z Z Z)
   refine AU <| AX <| BH c3 fun d0 c4 => Am <| AC <| rs AA <| rl Z <| AF ?_
   cases c4
   exact CZ (nt := 19) (sl := [(4, li (-1))]) (wj hA (gi 13 []) Z Z Z Z) Z
  refine rl Z <| AB <| rs AA <| rl Z <| cd Z c5 (fun c6 => ?_) (fun c7 => ?_)
  .refine rs AA <| rl Z <| AF <| AG ?_
   have hr := Option.some.inj c6; subst hr
   exact CZ (nt := 42) (sl := [(4, .lsl 12 1 0 i.length)]) (wj hA (gi 13 []) Z Z Z Z) Z
  refine AE <| AC <| AB <| rs AA <| rl Z <| AH ?_
  apply lp (a := g) (fun f : (Int × Int × (List Int)) => ⟨42, [(0, .lsl 12 1 0 f.2.2.length), (1, .fn 80 [.lpb 0 0]), (5, li f.1), (6, li f.2.1)], [(0, .box [lq (Ar b)]), (1, bx (AW d)), (2, .box [.lmap 4]), (3, .box [ls 2 Bf c]), (4, .mapd (Ao (.int .i64) .bool (Lw q e.2))), (12, .row 3 1 (f.2.2.map Ae))], 13⟩) c7
  . exact wj hA (gi 13 []) Z Z Z Z
  intro f d7 au
  unfold Ol at au
  refine AB <| rs AA <| rl Z <| cd Z au (fun c8 => ?_) (fun dg => ?_)
  .refine AE <| AC <| jb (fun x : (Int × (List Int)) => ⟨42, [(0, .lsl 12 1 0 x.2.length), (1, .fn 80 [.lpb 0 0]), (5, li x.1), (6, li f.2.1)], [(0, .box [lq (Ar b)]), (1, bx (AW d)), (2, .box [.lmap 4]), (3, .box [ls 2 Bf c]), (4, .mapd (Ao (.int .i64) .bool (Lw q e.2))), (12, .row 3 1 (x.2.map Ae))], 13⟩) c8 (fun x c9 => ?_) (fun x df => ?_)
   .refine AH <| rs AA <| rn 2 Z <| bq c9 fun ds ah da => sx Z (B2 ah Z Z Z Z <| sx Z (DC ah Z Z Z <| rl Z <| rs AA <| rn 2 Z <| bq da fun ea bh db => sx Z (AM (PU _ _ _ bh) (.inl Z) Z Z (Dm.eq (.cons (.one (.p _)) (.cons (.box Z (.cons (.p _) .nil)) .nil))) <| rl Z <| cd Z db (fun dc => ?_) (fun de => ?_))))
    .exact rs AA <| rn 3 Z <| bq dc fun eb ai dd => sx Z (B2 ai Z Z Z Z <| sx Z (MN (z := ds) ai Z Z Z Z Z Z Z Z <| rl Z <| rg AA <| rl Z <| Ad <| AL dd (wk (gi 13 []) (K3 hA _ Z) Z Z Z (.cons (by simp only [BL]; rfl) (.cons Z (.cons Z (.cons Z .nil)))) (.cons Z Z (.cons Z Z (.cons Z Z (.cons Z Z (.cons Z Z (.cons Z Z .nil)))))))))
    exact AE <| Ad <| AL de (wj hA (gi 13 []) Z Z Z Z)
   exact rg AA <| rl Z <| Aq df (wj hA (gi 13 []) Z Z Z Z)
  refine AU <| AX <| CH dg fun d1 dh => Am <| AC <| rs AA <| rn 2 Z <| bq dh fun ec aj di => sx Z (AAD (l := f.2.2) aj Z Z Z Z Z <| bq di fun dt ak dj => sx Z (ACC (enc := Ae) (l := f.2.2) (z := 0) aj Z ak Z Z Z Z Z Z Z <| rl Z <| rs AA <| rn 2 Z <| bq dj fun du al dk => sx Z (Rm (l := dt) al Z (by first | rfl | exact Zj ak) Z Z <| rl Z <| AF ?_)))
  have hr := Option.some.inj dk; subst hr
  exact CZ (nt := 42) (sl := [(4, .lsl 12 1 0 du.length)]) (A8.trans (J2 12 al Z Z) (wj hA (gi 13 []) Z Z Z Z)) Z
 refine rl Z <| AF ?_
 have hr := Option.some.inj dl; subst hr
 exact er (I6 Z (.one (.own (enc := Ae) g Z Z))) Le.rfl
noncomputable def NR (b : A0) (f : (List Aj)) (c : AZ) (d : Int) (k : ((List Cm) × Bool)) (e : (List Int)) (l : AK) (a : Int × (List PV)) : Option ((Int × (List PV)) ⊕ P9) :=
 bif decide (a.1 < (k.1.length : Int)) then (OH b l.lines f c d a.1).bind fun g => (Cz b c d (AO (a.1 + 1))).bind fun h => (KN b h).bind fun i => (Bq a.2 [(⟨g, i⟩ : PV)]).bind fun j => some (.inl (AO (a.1 + 1), j)) else some (.inr (⟨e, a.2⟩ : P9))
noncomputable def Mu (a : A0) (h : (List Aj)) (b : AZ) (c : Int) (d : Int) : Option P9 :=
 (F7 b c d).bind fun f => bif (!f.2) then some (⟨[], []⟩ : P9) else (((Cz a b c d).bind fun i => (KN a i).bind fun e => bif decide (0 <= e) then some [e] else some ([] : List Int) : Option ((List Int)))).bind fun (g : (List Int)) => (B0 a).bind fun j => AR (NR a h b c f g j) (d, ([] : List PV))
theorem V1 (d : A0) (e : (List Aj)) (f : AZ) (g : Int) (i : Int) (r : P9) (h : Mu d e f g i = some r) : Aw Tryz.prog 21 [.place (Ar d) 0, .slice 9 (e.map A6), .agg (AW f), .int .i64 g, .int .i64 i] (· = .agg (ABP r)) := by
 refine fn AA Tryz.func21 Z Z 71 Z [.cell 10 56] Z [(0, .p (.place (Ar d) 0)), (1, .p (.slice 9 (e.map A6))), (2, .p (.agg (AW f))), (3, .p (.int .i64 g)), (4, .p (.int .i64 i))] Z Z fun A hA => ?_
 unfold Mu at h
 refine rs AA <| rl Z <| rs AA <| rl Z <| rs AA <| rn 3 Z <| bq h fun k v al => sx Z (AM (OJ _ _ _ _ v) (.inr Z) Z Z Z <| rl Z <| AB <| rs AA <| rl Z <| cd Z al (fun am => ?_) (fun an => ?_))
 .refine rs AA <| rl Z <| AF <| AG ?_
  cases am
  exact er Z (Le.agg' (.cons (Le.nil _) (.cons (Le.nil _) .nil)))
 refine AE <| AC <| jb (fun b : (List Int) => ⟨71, [(0, lq (Ar d)), (1, ls 9 A6 e), (3, li g), (4, li i), (7, .lpb 0 0), (10, .lpb 1 0), (11, .lpb 2 0), (12, ls 4 DB k.1)], [(0, bx (AW f)), (1, .box [.p (.nils), .p (.nils)]), (2, .box [.lsl 3 1 0 b.length, .p (.nils)]), (3, .row 3 1 (b.map Ae))], 4⟩) an (fun b aa => ?_) (fun b aj => ?_)
 .refine rs AA <| rn 5 Z <| bq aa fun ax t af => sx Z (AM (HP _ _ _ _ _ t) (.inl Z) Z Z Z <| bq af fun ay u ag => sx Z (AM (QT _ _ _ u) (.inl Z) Z Z Z <| rl Z <| rs AA <| rl Z <| cd Z ag (fun ah => ?_) (fun ai => ?_)))
  .exact rg AA <| rl Z <| AL ah (wf hA (gi 4 []) Z Z Z)
  exact AE <| AL ai (A8.trans (CQ 2 0 3 1 Z Z Z Z) (wf hA (gi 4 []) Z Z Z))
 refine rs AA <| rn 1 Z <| bq aj fun aq w ak => sx Z (AM (Ht _ _ w) (.inr Z) Z Z Z <| rl Z <| AB <| rs AA <| rl Z <| AH ?_)
 apply lp (a := r) (fun c : (Int × (List PV)) => ⟨71, [(0, lq (Ar d)), (1, ls 9 A6 e), (3, li g), (7, .lpb 0 0), (10, .lpb 1 0), (11, .lpb 2 0), (12, ls 4 DB k.1), (15, ls 2 Bf aq.lines), (16, li c.1)], [(0, bx (AW f)), (1, .box [.p (.nils), .p (.nils)]), (2, .box [.lsl 3 1 0 b.length, .lsl 4 2 0 c.2.length]), (3, .row 3 1 (b.map Ae)), (4, .row 88 2 (c.2.map UC))], 5⟩) ak
 . exact A8.trans (CQ 2 1 88 2 Z Z Z Z) (wf hA (gi 5 []) Z Z Z)
 intro c au j
 unfold NR at j
 refine AB <| rs AA <| rn 2 Z <| sx Z (Ac Z Z <| rl Z <| cd Z j (fun x => ?_) (fun ad => ?_))
 .refine AE <| AC <| AB <| AH ?_
  refine By AA mixed [0, 1, 2, 3, 4, 5, 6, 7, 8, 9, 10, 11, 12, 13, 14, 15, 16, 17, 18, 19, 20, 21] 22 (by kernel_rfl) Z Z Z ?_
  exact As 8 Z <| bq x fun ao n y => Au Z (A2 (Xe _ _ _ _ _ _ _ n) (.inr Z) Z Z Z <| As 6 Z <| bq y fun av o z => Au Z (A2 (HP _ _ _ _ _ o) (.inl Z) Z Z Z <| bq z fun ap q ab => Au Z (A2 (QT _ _ _ q) (.inl Z) Z Z Z <| As 2 Z <| bq ab fun aw s ac => Au Z (Jz Z (BV (enc := UC) (l := c.2) (m := [(⟨ao, ap⟩ : PV)]) s (fun _ => ⟨Z, Z⟩) Z Z Z Z Z Z <| BF Z <| Ad <| AC <| rg AA <| rl Z <| Aq ac (wf hA (gi 4 [(4, 24)]) Z Z Z))))))
 refine AU <| AX <| BH ad fun ar ae => Am <| AC <| rs AA <| rl Z <| AF ?_
 cases ae
 exact er (I6 Z (.agg (.cons (.own (enc := Ae) b Z Z) (.cons (.own (enc := UC) c.2 Z Z) .nil)))) Le.rfl
noncomputable def It (a : Bv) : Option Bool :=
 some a.auto
theorem Tk (a : Bv) (r : Bool) (h : It a = some r) : Aw Tryz.prog 54 [.agg (BT a)] (· = .bool r) := by
 refine fn AA Tryz.func54 Z Z 5 Z [.tmp 2] Z [(0, .p (.agg (BT a)))] Z Z fun A hA => ?_
 unfold It at h
 refine rs AA <| rl Z <| rs AA <| rl Z <| AF ?_
 cases h
 exact er Z Le.rfl
noncomputable def FK (a : CU) : Option Bool :=
 some (decide (12 < (a.legs.length : Int)))
theorem QI (a : CU) (r : Bool) (h : FK a = some r) : Aw Tryz.prog 85 [.agg (Bs a)] (· = .bool r) := by
 refine fn AA Tryz.func85 Z Z 7 Z [.tmp 2] Z [(0, .p (.agg (Bs a)))] Z Z fun A hA => ?_
 unfold FK at h
 refine rs AA <| rl Z <| rs AA <| rn 2 Z <| sx Z (Ac Z Z <| rl Z <| AF ?_)
 cases h
 exact er Z Le.rfl
noncomputable def D9 (a : Int) (c : Int) : Option Bool :=
 ((bif decide (1 <= a) then some (decide (a <= c)) else some false : Option (Bool))).bind fun (b : Bool) => some b
theorem KO (b : Int) (c : Int) (r : Bool) (h : D9 b c = some r) : Aw Tryz.prog 168 [.int .i64 b, .int .i64 c] (· = .bool r) := by
 refine fn AA Tryz.func168 Z Z 12 Z [.tmp 4] Z [(0, .p (.int .i64 b)), (1, .p (.int .i64 c))] Z Z fun A hA => ?_
 unfold D9 at h
 refine rs AA <| rl Z <| jb (fun a : Bool => ⟨12, [(4, lb a)], [], 0⟩) h (fun a d => ?_) (fun a g => ?_)
 .refine rg AA <| rn 3 Z <| gs 7 d Z Z Z (fun e => ?_) (fun f => ?_)
  .exact rl Z <| AL e (wf hA [] Z Z Z)
  exact rl Z <| AL f (wf hA [] Z Z Z)
 refine AF ?_
 have hr := Option.some.inj g; subst hr
 exact er Z Le.rfl
noncomputable def IX (a : BI) : Option Bool :=
 (((CA a.name).bind fun c => bif c then (D9 a.len 4000).bind fun d => bif d then (D9 a.top 60).bind fun e => bif e then (D9 a.acc 10).bind fun f => bif f then (D9 a.brake 10).bind fun g => some g else some false else some false else some false else some false : Option (Bool))).bind fun (b : Bool) => some b
theorem V2 (b : BI) (r : Bool) (h : IX b = some r) : Aw Tryz.prog 154 [.agg (BM b)] (· = .bool r) := by
 refine fn AA Tryz.func154 Z Z 26 Z [.tmp 2] Z [(0, .p (.agg (BM b)))] Z Z fun A hA => ?_
 unfold IX at h
 refine rs AA <| rl Z <| jb (fun a : Bool => ⟨26, [(2, lb a)], [], 0⟩) h (fun a i => ?_) (fun a y => ?_)
 .refine rg AA <| rn 2 Z <| bq i fun z c j => sx Z (AM (IY _ _ c) (.inl Z) Z Z Z <| rn 1 Z <| gs 6 j Z Z Z (fun k => ?_) (fun x => ?_))
  .refine rn 2 Z <| bq k fun aa d l => sx Z (AM (KO _ _ _ d) (.inl Z) Z Z Z <| rn 2 Z <| gs 11 l Z Z Z (fun m => ?_) (fun w => ?_))
   .refine rn 2 Z <| bq m fun ab e n => sx Z (AM (KO _ _ _ e) (.inl Z) Z Z Z <| rn 2 Z <| gs 16 n Z Z Z (fun o => ?_) (fun v => ?_))
    .refine rn 2 Z <| bq o fun ac f q => sx Z (AM (KO _ _ _ f) (.inl Z) Z Z Z <| rn 2 Z <| gs 21 q Z Z Z (fun s => ?_) (fun u => ?_))
     .exact rn 2 Z <| bq s fun ad g t => sx Z (AM (KO _ _ _ g) (.inl Z) Z Z Z <| rl Z <| AL t (wf hA [] Z Z Z))
     exact rl Z <| AL u (wf hA [] Z Z Z)
    exact rl Z <| AL v (wf hA [] Z Z Z)
   exact rl Z <| AL w (wf hA [] Z Z Z)
  exact rl Z <| AL x (wf hA [] Z Z Z)
 refine AF ?_
 have hr := Option.some.inj y; subst hr
 exact er Z Le.rfl
noncomputable def DJ (c : (Int × Int)) (d : BI) (b : (List BI)) (a : Int) : Option (Int ⊕ (Int ⊕ ((Int × Int) ⊕ Int))) :=
 bif decide (a < (b.length : Int)) then (Aa b a).bind fun e => bif (e.name.toList == d.name.toList) then some (.inr (.inl 4)) else some (.inl (AO (a + 1))) else some (.inr (.inl c.1))
noncomputable def DK (b : (List BI)) (a : Int × Int) : Option ((Int × Int) ⊕ Int) :=
 bif decide (a.2 < (b.length : Int)) then Cw (((Aa b a.2).bind fun c => (IX c).bind fun e => bif (!e) then some (.inr (.inr 1)) else (LC b 0 a.2).bind fun f => AR (DJ a c f) 0 : Option (Int ⊕ ((Int × Int) ⊕ Int)))) fun (d : Int) => some (.inl (d, AO (a.2 + 1))) else some (.inr a.1)
noncomputable def GQ (a : (List BI)) : Option Int :=
 bif decide (4 < (a.length : Int)) then some 3 else AR (DK a) (0, 0)
theorem Tl (b : (List BI)) (r : Int) (h : GQ b = some r) : Aw Tryz.prog 122 [.slice 5 (b.map BM)] (· = .int .i64 r) := by
 refine fn AA Tryz.func122 Z Z 37 Z [.tmp 2] Z [(0, .p (.slice 5 (b.map BM)))] Z Z fun A hA => ?_
 unfold GQ at h
 refine rs AA <| rl Z <| sc <| AB <| rs AA <| rn 1 Z <| sx Z (Ac Z Z <| rl Z <| cd Z h (fun q => ?_) (fun s => ?_))
 .refine rs AA <| rl Z <| AF <| AG <| JL ?_
  cases q
  exact er Z Le.rfl
 refine AE <| AC <| rs AA <| rl Z <| AB <| KY <| AC <| AB <| rs AA <| rn 1 Z <| sx Z (Ac Z Z <| rl Z <| AH ?_)
 apply lp (a := r) (fun c : (Int × Int) => ⟨37, [(0, ls 5 BM b), (3, li c.1), (11, ls 5 BM b), (12, li (b.length : Int)), (13, li c.2)], [], 0⟩) s
 . exact wf hA [] Z Z Z
 intro c j d
 unfold DK at d
 refine rs AA <| rl Z <| AB <| cd Z d (fun t => ?_) (fun ak => ?_)
 .refine AE <| AC ?_
  apply jn (a := j) (fun g : Int => ⟨37, [(0, ls 5 BM b), (3, li g), (11, ls 5 BM b), (12, li (b.length : Int)), (13, li c.2)], [], 0⟩) t
  .intro k u
   refine AH <| rs AA <| rn 1 Z <| bq u fun am l v => sx Z (Ab l Z Z Z <| rl Z <| AB <| rs AA <| rn 1 Z <| bq v fun av m w => sx Z (AM (V2 _ _ m) (.inl Z) Z Z Z <| rl Z <| cd Z w (fun x => ?_) (fun aa => ?_)))
   .refine rs AA <| rl Z <| AF <| AG <| AN <| Az x fun an y => Az y fun ao z => AN <| AG <| JL ?_
    cases z
    exact er Z Le.rfl
   refine AE <| AC <| rs AA <| rn 2 Z <| bq aa fun i n ab => sx Z (T6 n Z Z Z Z <| sx Z (Ac Z Z <| rl Z <| AH ?_))
   apply lp (a := k) (fun f : Int => ⟨37, [(0, ls 5 BM b), (3, li c.1), (5, .lpb 0 0), (11, ls 5 BM b), (12, li (b.length : Int)), (13, li c.2), (23, ls 5 BM i), (24, li (i.length : Int)), (25, li f)], [(0, bx (BM am))], 1⟩) ab
   . exact wf hA [(0, 0)] Z Z Z
   intro f au e
   unfold DJ at e
   refine rs AA <| rl Z <| AB <| cd Z e (fun ac => ?_) (fun ah => ?_)
   .refine AE <| AC <| AB <| AH <| rs AA <| bq ac fun aw o ad => sx Z (Ab o Z Z Z <| rl Z <| rs AA <| rl Z <| cd Z ad (fun ae => ?_) (fun ag => ?_))
    .exact rs AA <| rl Z <| AU <| MK Z <| AX <| BH ae fun ap af => MK Z <| Am <| Aq af (wf hA [] Z Z Z)
    exact AE <| Ad <| AC <| rg AA <| rl Z <| Aq ag (wf hA [(0, 0)] Z Z Z)
   exact AU <| AX <| BH ah fun aq ai => Am <| Ad <| Aq ai (wf hA [] Z Z Z)
  intro g aj
  exact rg AA <| rl Z <| Aq aj (wf hA [] Z Z Z)
 refine AU <| AX <| BH ak fun ar al => Am <| AC <| rs AA <| rl Z <| AF <| JL ?_
 cases al
 exact er Z Le.rfl
end Go.E
/- Plain functions, and walks in step with them. Written by a program (gen.py). No condition. -/
set_option maxRecDepth 100000
set_option maxHeartbeats 1000000
namespace Go.E
open Go Go.RowKit Go.Proofs
noncomputable def G2 (a : BI) (b : AK) : Option Bool :=
 ((bif decide (b.top < a.top) then some true else some (decide (a.brake < b.brake)) : Option (Bool))).bind fun (c : Bool) => some c
theorem Rn (b : BI) (c : AK) (r : Bool) (h : G2 b c = some r) : Aw Tryz.prog 124 [.agg (BM b), .place (AP c) 0] (· = .bool r) := by
 refine fn AA Tryz.func124 Z Z 16 Z [.tmp 3] Z [(0, .p (.agg (BM b))), (1, .p (.place (AP c) 0))] Z Z fun A hA => ?_
 unfold G2 at h
 refine rs AA <| rl Z <| jb (fun a : Bool => ⟨16, [(3, lb a)], [], 0⟩) h (fun a d => ?_) (fun a g => ?_)
 .refine rg AA <| rn 6 Z <| gs 9 d Z Z Z (fun e => ?_) (fun f => ?_)
  .exact rl Z <| AL e (wf hA [] Z Z Z)
  exact rl Z <| AL f (wf hA [] Z Z Z)
 refine AF ?_
 have hr := Option.some.inj g; subst hr
 exact er Z Le.rfl
noncomputable def EU (c : AK) (b : (List BI)) (a : Int) : Option (Int ⊕ Int) :=
 bif decide (a < (b.length : Int)) then (Aa b a).bind fun d => (G2 d c).bind fun e => bif e then some (.inr a) else some (.inl (AO (a + 1))) else some (.inr (-1))
noncomputable def GR (e : AK) (a : (List BI)) : Option Int :=
 (GQ a).bind fun b => bif (b != 0) then some b else ((((AR (EU e a) 0 : Option (Int))).bind fun (d : Int) => some (decide (0 <= d)) : Option (Bool))).bind fun (c : Bool) => bif c then some 9 else some 0
theorem Tm (d : AK) (b : (List BI)) (r : Int) (h : GR d b = some r) : Aw Tryz.prog 86 [.agg (AP d), .slice 5 (b.map BM)] (· = .int .i64 r) := by
 refine fn AA Tryz.func86 Z Z 14 Z [.tmp 4] Z [(0, .p (.agg (AP d))), (1, .p (.slice 5 (b.map BM)))] Z Z fun A hA => ?_
 unfold GR at h
 refine rs AA <| rl Z <| AB <| rs AA <| rn 1 Z <| bq h fun aj k l => sx Z (AM (Tl _ _ k) (.inl Z) Z Z Z <| rl Z <| rs AA <| rl Z <| cd Z l (fun m => ?_) (fun n => ?_))
 .refine rs AA <| rl Z <| AF <| AG ?_
  have hr := Option.some.inj m; subst hr
  exact er Z Le.rfl
 refine AE <| AC <| AB <| rs AA <| rn 2 Z <| sx Z (CW AA (fun e : Bool => lb e) (fun e : Bool => [(0, bx (AP d))]) 1 n Tryz.func123 9 [.tmp 4] [(0, ls 5 BM b), (1, .fn 124 [.lpb 0 0])] Z Z Z Z Z Z Z Z (fun A hA e o => ?_) (fun e ab => ?_))
 .refine rs AA <| rl Z <| rs AA <| rn 2 Z <| sx Z (CW AA (fun c : Int => li c) (fun c : Int => [(0, bx (AP d))]) 1 o Tryz.func155 19 [.tmp 4] [(0, ls 5 BM b), (1, .fn 124 [.lpb 0 0])] Z Z Z Z Z Z Z Z (fun A hA c q => ?_) (fun c aa => ?_))
  .refine rs AA <| rl Z <| AB <| rs AA <| rn 1 Z <| sx Z (Ac Z Z <| rl Z <| AH ?_)
   apply lp (a := c) (fun f : Int => ⟨19, [(0, ls 5 BM b), (1, .fn 124 [.lpb 0 0]), (7, li (b.length : Int)), (8, li f)], [(0, bx (AP d))], 1⟩) q
   . exact wj hA [(0, 0)] Z Z Z Z
   intro f ag g
   unfold EU at g
   refine rs AA <| rl Z <| AB <| cd Z g (fun s => ?_) (fun y => ?_)
   .refine AE <| AC <| AB <| AH <| rs AA <| rl Z <| rs AA <| rn 3 Z <| bq s fun ah i t => sx Z (Ab i Z Z Z <| rn 1 Z <| bq t fun ai j u => sx Z (AM (Rn _ _ _ j) (.inl Z) Z Z (Dm.eq (.cons (.one (.p _)) (.cons (.box Z (.cons (.p _) (.cons (.p _) (.cons (.p _) (.cons (.p _) (.cons (.p _) (.cons (.p _) (.cons (.p _) (.cons (.p _) (.cons (.p _) .nil)))))))))) .nil))) <| rl Z <| cd Z u (fun v => ?_) (fun x => ?_)))
    .refine rs AA <| rl Z <| AF <| AN <| AG <| Az v fun ae w => AN <| AG ?_
     have hr := Option.some.inj w; subst hr
     exact CZ (nt := 19) (sl := [(4, li f)]) (wj hA [(0, 0)] Z Z Z Z) Z
    exact AE <| Ad <| AC <| rg AA <| rl Z <| Aq x (wj hA [(0, 0)] Z Z Z Z)
   refine AU <| AX <| BH y fun af z => Am <| AC <| rs AA <| rl Z <| AF ?_
   cases z
   exact CZ (nt := 19) (sl := [(4, li (-1))]) (wj hA [(0, 0)] Z Z Z Z) Z
  refine rl Z <| AF ?_
  cases aa
  exact CZ (nt := 9) (sl := [(4, lb (decide (0 <= c)))]) (wj hA [(0, 0)] Z Z Z Z) Z
 refine rl Z <| cd Z ab (fun ac => ?_) (fun ad => ?_)
 .refine rs AA <| rl Z <| AF <| AG ?_
  cases ac
  exact er Z Le.rfl
 refine AE <| AC <| rs AA <| rl Z <| AF ?_
 cases ad
 exact er Z Le.rfl
noncomputable def CN (a : Int) (c : Int) : Option Bool :=
 ((bif decide (0 <= a) then some (decide (a <= c)) else some false : Option (Bool))).bind fun (b : Bool) => some b
theorem EV (b : Int) (c : Int) (r : Bool) (h : CN b c = some r) : Aw Tryz.prog 87 [.int .i64 b, .int .i64 c] (· = .bool r) := by
 refine fn AA Tryz.func87 Z Z 12 Z [.tmp 4] Z [(0, .p (.int .i64 b)), (1, .p (.int .i64 c))] Z Z fun A hA => ?_
 unfold CN at h
 refine rs AA <| rl Z <| jb (fun a : Bool => ⟨12, [(4, lb a)], [], 0⟩) h (fun a d => ?_) (fun a g => ?_)
 .refine rg AA <| rn 3 Z <| gs 7 d Z Z Z (fun e => ?_) (fun f => ?_)
  .exact rl Z <| AL e (wf hA [] Z Z Z)
  exact rl Z <| AL f (wf hA [] Z Z Z)
 refine AF ?_
 have hr := Option.some.inj g; subst hr
 exact er Z Le.rfl
noncomputable def EG (a : AK) (b : Int) : Option Int :=
 (CN b (AO ((a.elems.length : Int) - 1))).bind fun d => bif (!d) then some 0 else (Aa a.elems b).bind fun c => some c.kind
theorem NS (a : AK) (b : Int) (r : Int) (h : EG a b = some r) : Aw Tryz.prog 157 [.agg (AP a), .int .i64 b] (· = .int .i64 r) := by
 refine fn AA Tryz.func157 Z Z 18 Z [.tmp 4] Z [(0, .p (.agg (AP a))), (1, .p (.int .i64 b))] Z Z fun A hA => ?_
 unfold EG at h
 refine rs AA <| rl Z <| AB <| rs AA <| rn 3 Z <| sx Z (Ac Z Z <| rn 1 Z <| bq h fun k d e => sx Z (AM (EV _ _ _ d) (.inl Z) Z Z Z <| rl Z <| cd Z e (fun f => ?_) (fun g => ?_)))
 .refine rs AA <| rl Z <| AF <| AG ?_
  cases f
  exact er Z Le.rfl
 refine AE <| AC <| rs AA <| rn 3 Z <| bq g fun j c i => sx Z (Ab c Z Z Z <| rl Z <| AF ?_)
 cases i
 exact er Z Le.rfl
noncomputable def Eo (b : AK) (a : Cm) : Option Bool :=
 bif (a.fin == 1) then (CN a.to (AO ((b.signals.length : Int) - 1))).bind fun c => some c else bif (a.fin == 2) then (EG b a.to).bind fun d => some (d == 4) else bif (a.fin == 3) then (EG b a.to).bind fun e => some (e == 1) else some false
theorem Ro (a : AK) (b : Cm) (r : Bool) (h : Eo a b = some r) : Aw Tryz.prog 126 [.agg (AP a), .agg (DB b)] (· = .bool r) := by
 refine fn AA Tryz.func126 Z Z 30 Z [.tmp 4] Z [(0, .p (.agg (AP a))), (1, .p (.agg (DB b)))] Z Z fun A hA => ?_
 unfold Eo at h
 refine rs AA <| rl Z <| AB <| rs AA <| rl Z <| AH <| rs AA <| rl Z <| cd Z h (fun f => ?_) (fun i => ?_)
 .refine rs AA <| rn 4 Z <| sx Z (Ac Z Z <| rn 1 Z <| bq f fun q c g => sx Z (AM (EV _ _ _ c) (.inl Z) Z Z Z <| rl Z <| AF <| AN <| AG ?_))
  have hr := Option.some.inj g; subst hr
  exact er Z Le.rfl
 refine rs AA <| rl Z <| cd Z i (fun j => ?_) (fun l => ?_)
 .refine rs AA <| rn 3 Z <| bq j fun s d k => sx Z (AM (NS _ _ _ d) (.inl Z) Z Z Z <| rl Z <| AF <| AN <| AG ?_)
  cases k
  exact er Z Le.rfl
 refine rs AA <| rl Z <| cd Z l (fun m => ?_) (fun o => ?_)
 .refine rs AA <| rn 3 Z <| bq m fun t e n => sx Z (AM (NS _ _ _ e) (.inl Z) Z Z Z <| rl Z <| AF <| AN <| AG ?_)
  cases n
  exact er Z Le.rfl
 refine AE <| Ad <| AC <| rs AA <| rl Z <| AF ?_
 cases o
 exact er Z Le.rfl
noncomputable def DL (e : AK) (c : CU) (a : Int × Int) : Option ((Int × Int) ⊕ Bool) :=
 bif decide (a.2 < (c.legs.length : Int)) then (Aa c.legs a.2).bind fun b => (((CN b.at_ 2000).bind fun f => bif (!f) then some true else bif decide (b.at_ < a.1) then some true else (Eo e b).bind fun g => some (!g) : Option (Bool))).bind fun (d : Bool) => bif d then some (.inr false) else some (.inl (b.at_, AO (a.2 + 1))) else some (.inr true)
noncomputable def GS (b : AK) (d : AZ) (a : CU) : Option Bool :=
 (((CA a.name).bind fun e => bif (!e) then some true else (CN a.stock (AO ((d.stock.length : Int) - 1))).bind fun f => bif (!f) then some true else (CN a.frm (AO ((b.signals.length : Int) - 1))).bind fun g => bif (!g) then some true else (CN a.left 4000).bind fun h => some (!h) : Option (Bool))).bind fun (c : Bool) => bif c then some false else AR (DL b a) (0, 0)
theorem Tn (c : AK) (g : AZ) (b : CU) (r : Bool) (h : GS c g b = some r) : Aw Tryz.prog 89 [.agg (AP c), .agg (AW g), .agg (Bs b)] (· = .bool r) := by
 refine fn AA Tryz.func89 Z Z 66 Z [.tmp 6] Z [(0, .p (.agg (AP c))), (1, .p (.agg (AW g))), (2, .p (.agg (Bs b)))] Z Z fun A hA => ?_
 unfold GS at h
 refine rs AA <| rl Z <| AB <| jb (fun e : Bool => ⟨66, [(3, .lpb 0 0), (5, .lpb 1 0), (39, lb e)], [(0, bx (AP c)), (1, bx (Bs b))], 2⟩) h (fun e s => ?_) (fun e af => ?_)
 .refine rg AA <| rn 2 Z <| bq s fun a1 j t => sx Z (AM (IY _ _ j) (.inl Z) Z Z Z <| rn 2 Z <| gs 14 t Z Z Z (fun u => ?_) (fun v => ?_))
  .exact rl Z <| AL u (wf hA [(0, 0), (1, 2)] Z Z Z)
  refine rn 4 Z <| sx Z (Ac Z Z <| rn 1 Z <| bq v fun a2 k w => sx Z (AM (EV _ _ _ k) (.inl Z) Z Z Z <| rn 3 Z <| gs 24 w Z Z Z (fun y => ?_) (fun z => ?_)))
  .exact rl Z <| AL y (wf hA [(0, 0), (1, 2)] Z Z Z)
  refine rn 4 Z <| sx Z (Ac Z Z <| rn 1 Z <| bq z fun a3 l aa => sx Z (AM (EV _ _ _ l) (.inl Z) Z Z Z <| rn 3 Z <| gs 34 aa Z Z Z (fun ab => ?_) (fun ad => ?_)))
  .exact rl Z <| AL ab (wf hA [(0, 0), (1, 2)] Z Z Z)
  exact rn 2 Z <| bq ad fun a4 n ae => sx Z (AM (EV _ _ _ n) (.inl Z) Z Z Z <| rl Z <| AL ae (wf hA [(0, 0), (1, 2)] Z Z Z))
 refine cd Z af (fun ao => ?_) (fun aw => ?_)
 .refine rs AA <| rl Z <| AF <| AG ?_
  cases ao
  exact er Z Le.rfl
 refine AE <| AC <| rs AA <| rl Z <| AB <| rs AA <| rn 2 Z <| sx Z (Ac Z Z <| rl Z <| AH ?_)
 apply lp (a := r) (fun d : (Int × Int) => ⟨66, [(3, .lpb 0 0), (7, li d.1), (41, ls 4 DB b.legs), (42, li (b.legs.length : Int)), (43, li d.2)], [(0, bx (AP c))], 1⟩) aw
 . exact wf hA [(0, 0)] Z Z Z
 intro d a0 i
 unfold DL at i
 refine rs AA <| rl Z <| AB <| cd Z i (fun x => ?_) (fun au => ?_)
 .refine AE <| AC <| AB <| AH <| rs AA <| bq x fun ax m ac => sx Z (Ab m Z Z Z <| rl Z <| AB <| jb (fun f : Bool => ⟨66, [(3, .lpb 0 0), (9, .lpb 1 0), (41, ls 4 DB b.legs), (42, li (b.legs.length : Int)), (43, li d.2), (62, lb f)], [(0, bx (AP c)), (1, bx (DB ax))], 2⟩) ac (fun f ag => ?_) (fun f an => ?_))
  .refine rg AA <| rn 2 Z <| bq ag fun a5 o ah => sx Z (AM (EV _ _ _ o) (.inl Z) Z Z Z <| rn 2 Z <| gs 51 ah Z Z Z (fun ai => ?_) (fun aj => ?_))
   .exact rl Z <| AL ai (wf hA [(0, 0), (1, 1)] Z Z Z)
   refine rn 6 Z <| gs 57 aj Z Z Z (fun ak => ?_) (fun al => ?_)
   .exact rl Z <| AL ak (wf hA [(0, 0), (1, 1)] Z Z Z)
   exact rn 2 Z <| bq al fun a6 q am => sx Z (AM (Ro _ _ _ q) (.inl Z) Z Z Z <| rl Z <| AL am (wf hA [(0, 0), (1, 1)] Z Z Z))
  refine cd Z an (fun ap => ?_) (fun ar => ?_)
  .refine rs AA <| rl Z <| AF <| AG <| AN <| AG <| Az ap fun ay aq => AN <| AG ?_
   cases aq
   exact er Z Le.rfl
  exact AE <| AC <| rg AA <| rl Z <| Ad <| AC <| rg AA <| rl Z <| Aq ar (wf hA [(0, 0)] Z Z Z)
 refine AU <| AX <| BH au fun az av => Am <| AC <| rs AA <| rl Z <| AF ?_
 cases av
 exact er Z Le.rfl
noncomputable def FL (a : CU) (b : AK) (c : AZ) : Option Bool :=
 (GS b c a).bind fun d => some (!d)
theorem QJ (a : CU) (b : AK) (c : AZ) (r : Bool) (h : FL a b c = some r) : Aw Tryz.prog 88 [.agg (Bs a), .place (AP b) 0, .place (AW c) 0] (· = .bool r) := by
 refine fn AA Tryz.func88 Z Z 10 Z [.tmp 4] Z [(0, .p (.agg (Bs a))), (1, .p (.place (AP b) 0)), (2, .p (.place (AW c) 0))] Z Z fun A hA => ?_
 unfold FL at h
 refine rs AA <| rl Z <| rs AA <| rn 3 Z <| bq h fun f d e => sx Z (AM (Tn _ _ _ _ d) (.inl Z) Z Z Z <| rl Z <| AF ?_)
 cases e
 exact er Z Le.rfl
noncomputable def FM (a : CU) (b : CU) : Option Bool :=
 some (a.name.toList == b.name.toList)
theorem QK (a : CU) (b : CU) (r : Bool) (h : FM a b = some r) : Aw Tryz.prog 90 [.agg (Bs a), .place (Bs b) 0] (· = .bool r) := by
 refine fn AA Tryz.func90 Z Z 9 Z [.tmp 3] Z [(0, .p (.agg (Bs a))), (1, .p (.place (Bs b) 0))] Z Z fun A hA => ?_
 unfold FM at h
 refine rs AA <| rl Z <| rs AA <| rl Z <| AF ?_
 cases h
 exact er Z Le.rfl
noncomputable def Dd (b : AZ) (a : Int) : Option (Int ⊕ Int) :=
 bif decide (a < (b.runs.length : Int)) then (Aa b.runs a).bind fun c => (FK c).bind fun d => bif d then some (.inr a) else some (.inl (AO (a + 1))) else some (.inr (-1))
noncomputable def De (c : AK) (b : AZ) (a : Int) : Option (Int ⊕ Int) :=
 bif decide (a < (b.runs.length : Int)) then (Aa b.runs a).bind fun d => (FL d c b).bind fun e => bif e then some (.inr a) else some (.inl (AO (a + 1))) else some (.inr (-1))
noncomputable def Df (c : CU) (b : (List CU)) (a : Int) : Option (Int ⊕ Int) :=
 bif decide (a < (b.length : Int)) then (Aa b a).bind fun d => (FM d c).bind fun e => bif e then some (.inr a) else some (.inl (AO (a + 1))) else some (.inr (-1))
noncomputable def Dg (b : AZ) (a : Int) : Option (Int ⊕ Int) :=
 bif decide (a < (b.runs.length : Int)) then (Aa b.runs a).bind fun e => (LC b.runs 0 a).bind fun f => ((((AR (Df e f) 0 : Option (Int))).bind fun (d : Int) => some (decide (0 <= d)) : Option (Bool))).bind fun (c : Bool) => bif c then some (.inr 4) else some (.inl (AO (a + 1))) else some (.inr 0)
noncomputable def Ep (b : AK) (a : AZ) : Option Int :=
 ((bif decide (8 < (a.runs.length : Int)) then some true else ((((AR (Dd a) 0 : Option (Int))).bind fun (g : Int) => some (decide (0 <= g)) : Option (Bool))).bind fun (f : Bool) => some f : Option (Bool))).bind fun (e : Bool) => bif e then some 3 else (GR b a.stock).bind fun c => bif (c != 0) then some c else (((CN a.begin 86399).bind fun j => bif (!j) then some true else ((((AR (De b a) 0 : Option (Int))).bind fun (d : Int) => some (decide (0 <= d)) : Option (Bool))).bind fun (i : Bool) => some i : Option (Bool))).bind fun (h : Bool) => bif h then some 1 else AR (Dg a) 0
theorem Rp (c : AK) (b : AZ) (r : Int) (h : Ep c b = some r) : Aw Tryz.prog 55 [.agg (AP c), .agg (AW b)] (· = .int .i64 r) := by
 refine fn AA Tryz.func55 Z Z 49 Z [.tmp 4] Z [(0, .p (.agg (AP c))), (1, .p (.agg (AW b)))] Z Z fun A hA => ?_
 unfold Ep at h
 refine rs AA <| rl Z <| AB <| jb (fun o : Bool => ⟨49, [(2, .lpb 0 0), (3, .lpb 1 0), (16, lb o)], [(0, bx (AP c)), (1, bx (AW b))], 2⟩) h (fun o az => ?_) (fun o b1 => ?_)
 .refine rg AA <| rn 2 Z <| sx Z (Ac Z Z <| rn 2 Z <| gs 12 az Z Z Z (fun a0 => ?_) (fun a1 => ?_))
  .exact rl Z <| AL a0 (wf hA [(0, 0), (1, 1)] Z Z Z)
  refine rn 2 Z <| sx Z (CW AA (fun i : Bool => lb i) (fun i : Bool => [(0, bx (AP c)), (1, bx (AW b))]) 2 a1 Tryz.func84 9 [.tmp 4] [(0, ls 5 Bs b.runs), (1, .fn 85 [])] Z Z Z Z Z Z Z Z (fun A hA i bm => ?_) (fun i b0 => ?_))
  .refine rs AA <| rl Z <| rs AA <| rn 2 Z <| sx Z (CW AA (fun f : Int => li f) (fun f : Int => [(0, bx (AP c)), (1, bx (AW b))]) 2 bm Tryz.func121 19 [.tmp 4] [(0, ls 5 Bs b.runs), (1, .fn 85 [])] Z Z Z Z Z Z Z Z (fun A hA f bn => ?_) (fun f bz => ?_))
   .refine rs AA <| rl Z <| AB <| rs AA <| rn 1 Z <| sx Z (Ac Z Z <| rl Z <| AH ?_)
    apply lp (a := f) (fun n : Int => ⟨19, [(0, ls 5 Bs b.runs), (1, .fn 85 []), (7, li (b.runs.length : Int)), (8, li n)], [(0, bx (AP c)), (1, bx (AW b))], 2⟩) bn
    . exact wj hA [(0, 0), (1, 1)] Z Z Z Z
    intro n co w
    unfold Dd at w
    refine rs AA <| rl Z <| AB <| cd Z w (fun bo => ?_) (fun bv => ?_)
    .refine AE <| AC <| AB <| AH <| rs AA <| rl Z <| rs AA <| rn 3 Z <| bq bo fun ct ae bp => sx Z (Ab ae Z Z Z <| rn 1 Z <| bq bp fun cu af br => sx Z (AM (QI _ _ af) (.inl Z) Z Z Z <| rl Z <| cd Z br (fun bs => ?_) (fun bu => ?_)))
     .refine rs AA <| rl Z <| AF <| AN <| AG <| Az bs fun cj bt => AN <| AG ?_
      have hr := Option.some.inj bt; subst hr
      exact CZ (nt := 19) (sl := [(4, li n)]) (wj hA [(0, 0), (1, 1)] Z Z Z Z) Z
     exact AE <| Ad <| AC <| rg AA <| rl Z <| Aq bu (wj hA [(0, 0), (1, 1)] Z Z Z Z)
    refine AU <| AX <| BH bv fun ck bw => Am <| AC <| rs AA <| rl Z <| AF ?_
    cases bw
    exact CZ (nt := 19) (sl := [(4, li (-1))]) (wj hA [(0, 0), (1, 1)] Z Z Z Z) Z
   refine rl Z <| AF ?_
   cases bz
   exact CZ (nt := 9) (sl := [(4, lb (decide (0 <= f)))]) (wj hA [(0, 0), (1, 1)] Z Z Z Z) Z
  exact rl Z <| AL b0 (wf hA [(0, 0), (1, 1)] Z Z Z)
 refine cd Z b1 (fun b2 => ?_) (fun b3 => ?_)
 .refine rs AA <| rl Z <| AF <| AG ?_
  cases b2
  exact er Z Le.rfl
 refine AE <| AC <| AB <| rs AA <| rn 3 Z <| bq b3 fun cv ag b4 => sx Z (AM (Tm _ _ _ ag) (.inl Z) Z Z Z <| rl Z <| rs AA <| rl Z <| cd Z b4 (fun b5 => ?_) (fun b6 => ?_))
 .refine rs AA <| rl Z <| AF <| AG ?_
  have hr := Option.some.inj b5; subst hr
  exact er Z Le.rfl
 refine AE <| AC <| AB <| jb (fun q : Bool => ⟨49, [(3, .lpb 0 0), (33, lb q)], [(0, bx (AW b))], 1⟩) b6 (fun q b7 => ?_) (fun q av => ?_)
 .refine rg AA <| rn 2 Z <| bq b7 fun cw ah b8 => sx Z (AM (EV _ _ _ ah) (.inl Z) Z Z Z <| rn 2 Z <| gs 28 b8 Z Z Z (fun b9 => ?_) (fun ca => ?_))
  .exact rl Z <| AL b9 (wf hA [(0, 1)] Z Z Z)
  refine rn 3 Z <| sx Z (CW AA (fun j : Bool => lb j) (fun j : Bool => [(0, bx (AP c)), (1, bx (AW b))]) 2 ca Tryz.func84 9 [.tmp 4] [(0, ls 5 Bs b.runs), (1, .fn 88 [.lpb 0 0, .lpb 1 0])] Z Z Z Z Z Z Z Z (fun A hA j cb => ?_) (fun j au => ?_))
  .refine rs AA <| rl Z <| rs AA <| rn 2 Z <| sx Z (CW AA (fun d : Int => li d) (fun d : Int => [(0, bx (AP c)), (1, bx (AW b))]) 2 cb Tryz.func121 19 [.tmp 4] [(0, ls 5 Bs b.runs), (1, .fn 88 [.lpb 0 0, .lpb 1 0])] Z Z Z Z Z Z Z Z (fun A hA d ai => ?_) (fun d ar => ?_))
   .refine rs AA <| rl Z <| AB <| rs AA <| rn 1 Z <| sx Z (Ac Z Z <| rl Z <| AH ?_)
    apply lp (a := d) (fun l : Int => ⟨19, [(0, ls 5 Bs b.runs), (1, .fn 88 [.lpb 0 0, .lpb 1 0]), (7, li (b.runs.length : Int)), (8, li l)], [(0, bx (AP c)), (1, bx (AW b))], 2⟩) ai
    . exact wj hA [(0, 0), (1, 1)] Z Z Z Z
    intro l cl t
    unfold De at t
    refine rs AA <| rl Z <| AB <| cd Z t (fun aj => ?_) (fun ap => ?_)
    .refine AE <| AC <| AB <| AH <| rs AA <| rl Z <| rs AA <| rn 3 Z <| bq aj fun cp y ak => sx Z (Ab y Z Z Z <| rn 1 Z <| bq ak fun cq z al => sx Z (AM (QJ _ _ _ _ z) (.inl Z) Z Z (Dm.eq (.cons (.one (.p _)) (.cons (.box Z (.cons (.p _) (.cons (.p _) (.cons (.p _) (.cons (.p _) (.cons (.p _) (.cons (.p _) (.cons (.p _) (.cons (.p _) (.cons (.p _) .nil)))))))))) (.cons (.box Z (.cons (.p _) (.cons (.p _) (.cons (.p _) .nil)))) .nil)))) <| rl Z <| cd Z al (fun am => ?_) (fun ao => ?_)))
     .refine rs AA <| rl Z <| AF <| AN <| AG <| Az am fun cc an => AN <| AG ?_
      have hr := Option.some.inj an; subst hr
      exact CZ (nt := 19) (sl := [(4, li l)]) (wj hA [(0, 0), (1, 1)] Z Z Z Z) Z
     exact AE <| Ad <| AC <| rg AA <| rl Z <| Aq ao (wj hA [(0, 0), (1, 1)] Z Z Z Z)
    refine AU <| AX <| BH ap fun ce aq => Am <| AC <| rs AA <| rl Z <| AF ?_
    cases aq
    exact CZ (nt := 19) (sl := [(4, li (-1))]) (wj hA [(0, 0), (1, 1)] Z Z Z Z) Z
   refine rl Z <| AF ?_
   cases ar
   exact CZ (nt := 9) (sl := [(4, lb (decide (0 <= d)))]) (wj hA [(0, 0), (1, 1)] Z Z Z Z) Z
  exact rl Z <| AL au (wf hA [(0, 1)] Z Z Z)
 refine cd Z av (fun aw => ?_) (fun ax => ?_)
 .refine rs AA <| rl Z <| AF <| AG ?_
  cases aw
  exact er Z Le.rfl
 refine AE <| AC <| AB <| rs AA <| rn 2 Z <| sx Z (Ac Z Z <| rl Z <| AH ?_)
 apply lp (a := r) (fun x : Int => ⟨49, [(3, .lpb 0 0), (35, ls 5 Bs b.runs), (36, li (b.runs.length : Int)), (37, li x)], [(0, bx (AW b))], 1⟩) ax
 . exact wf hA [(0, 0)] Z Z Z
 intro x cm u
 unfold Dg at u
 refine rs AA <| rl Z <| AB <| cd Z u (fun ay => ?_) (fun bk => ?_)
 .refine AE <| AC <| AB <| AH <| rs AA <| rn 1 Z <| bq ay fun s aa a2 => sx Z (Ab aa Z Z Z <| rl Z <| rs AA <| rn 3 Z <| bq a2 fun k ab a3 => sx Z (T6 ab Z Z Z Z <| rn 1 Z <| sx Z (CW AA (fun g : Bool => lb g) (fun g : Bool => [(0, bx (AW b)), (1, bx (Bs s))]) 2 a3 Tryz.func84 9 [.tmp 4] [(0, ls 5 Bs k), (1, .fn 90 [.lpb 1 0])] Z Z Z Z Z Z Z Z (fun A hA g a4 => ?_) (fun g bg => ?_))))
  .refine rs AA <| rl Z <| rs AA <| rn 2 Z <| sx Z (CW AA (fun e : Int => li e) (fun e : Int => [(0, bx (AW b)), (1, bx (Bs s))]) 2 a4 Tryz.func121 19 [.tmp 4] [(0, ls 5 Bs k), (1, .fn 90 [.lpb 1 0])] Z Z Z Z Z Z Z Z (fun A hA e a5 => ?_) (fun e bf => ?_))
   .refine rs AA <| rl Z <| AB <| rs AA <| rn 1 Z <| sx Z (Ac Z Z <| rl Z <| AH ?_)
    apply lp (a := e) (fun m : Int => ⟨19, [(0, ls 5 Bs k), (1, .fn 90 [.lpb 1 0]), (7, li (k.length : Int)), (8, li m)], [(0, bx (AW b)), (1, bx (Bs s))], 2⟩) a5
    . exact wj hA [(0, 0), (1, 1)] Z Z Z Z
    intro m cn v
    unfold Df at v
    refine rs AA <| rl Z <| AB <| cd Z v (fun a6 => ?_) (fun bc => ?_)
    .refine AE <| AC <| AB <| AH <| rs AA <| rl Z <| rs AA <| rn 3 Z <| bq a6 fun cr ac a7 => sx Z (Ab ac Z Z Z <| rn 1 Z <| bq a7 fun cs ad a8 => sx Z (AM (QK _ _ _ ad) (.inl Z) Z Z (Dm.eq (.cons (.one (.p _)) (.cons (.box Z (.cons (.p _) (.cons (.p _) (.cons (.p _) (.cons (.p _) (.cons (.p _) .nil)))))) .nil))) <| rl Z <| cd Z a8 (fun a9 => ?_) (fun bb => ?_)))
     .refine rs AA <| rl Z <| AF <| AN <| AG <| Az a9 fun cf ba => AN <| AG ?_
      have hr := Option.some.inj ba; subst hr
      exact CZ (nt := 19) (sl := [(4, li m)]) (wj hA [(0, 0), (1, 1)] Z Z Z Z) Z
     exact AE <| Ad <| AC <| rg AA <| rl Z <| Aq bb (wj hA [(0, 0), (1, 1)] Z Z Z Z)
    refine AU <| AX <| BH bc fun cg be => Am <| AC <| rs AA <| rl Z <| AF ?_
    cases be
    exact CZ (nt := 19) (sl := [(4, li (-1))]) (wj hA [(0, 0), (1, 1)] Z Z Z Z) Z
   refine rl Z <| AF ?_
   cases bf
   exact CZ (nt := 9) (sl := [(4, lb (decide (0 <= e)))]) (wj hA [(0, 0), (1, 1)] Z Z Z Z) Z
  refine rl Z <| cd Z bg (fun bh => ?_) (fun bj => ?_)
  .refine rs AA <| rl Z <| AF <| AN <| AG <| Az bh fun ch bi => AN <| AG ?_
   cases bi
   exact er Z Le.rfl
  exact AE <| Ad <| AC <| rg AA <| rl Z <| Aq bj (wf hA [(0, 0)] Z Z Z)
 refine AU <| AX <| BH bk fun ci bl => Am <| AC <| rs AA <| rl Z <| AF ?_
 cases bl
 exact er Z Le.rfl
noncomputable def IZ (c : A0) (d : AZ) (b : Int) : Option (FN × Bool) :=
 ((bif decide (b < 0) then some true else some (decide ((d.runs.length : Int) <= b)) : Option (Bool))).bind fun (f : Bool) => bif f then some ((⟨ByteArray.empty, 0, (⟨0, 0⟩ : AI), 0⟩ : FN), false) else (Aa d.runs b).bind fun a => (Cd c a.frm).bind fun e => (((BU c e.1.elem).bind fun h => bif (h == 4) then some 0 else some a.left : Option (Int))).bind fun (g : Int) => some ((⟨a.name, a.stock, e.1, g⟩ : FN), true)
theorem V3 (a : A0) (b : AZ) (c : Int) (r : (FN × Bool)) (h : IZ a b c = some r) : Aw Tryz.prog 11 [.place (Ar a) 0, .agg (AW b), .int .i64 c] (· = .tup [.agg (HQ r.1), .bool r.2]) := by
 refine fn AA Tryz.func11 Z Z 49 Z [.cell 6 42, .tmp 7] Z [(0, .p (.place (Ar a) 0)), (1, .p (.agg (AW b))), (2, .p (.int .i64 c))] Z Z fun A hA => ?_
 unfold IZ at h
 refine rs AA <| rl Z <| AB <| jb (fun d : Bool => ⟨49, [(0, lq (Ar a)), (2, li c), (4, .lpb 0 0), (6, .lpb 1 0), (20, lb d)], [(0, bx (AW b)), (1, .box [.p (.str ByteArray.empty), li 0, li 0, li 0, li 0])], 2⟩) h (fun d l => ?_) (fun d o => ?_)
 .refine rg AA <| rn 3 Z <| gs 14 l Z Z Z (fun m => ?_) (fun n => ?_)
  .exact rl Z <| AL m (wf hA [(0, 0), (1, 1)] Z Z Z)
  exact rn 3 Z <| sx Z (Ac Z Z <| rl Z <| AL n (wf hA [(0, 0), (1, 1)] Z Z Z))
 refine cd Z o (fun q => ?_) (fun s => ?_)
 .refine rs AA <| rl Z <| AF <| AG ?_
  cases q
  exact er Z Le.rfl
 refine AE <| AC <| rs AA <| rn 3 Z <| bq s fun f i t => sx Z (Ab i Z Z Z <| rl Z <| rs AA <| rn 3 Z <| bq t fun g j u => sx Z (AM (HR _ _ _ j) (.inl Z) Z Z Z <| rl Z <| rs AA <| rl Z <| jb (fun e : Int => ⟨49, [(6, .lpb 0 0), (11, .lpb 1 0)], [(0, .box [.p (.str ByteArray.empty), li 0, li 0, li 0, li 0]), (1, .box [.p (.str f.name), li f.stock, li g.1.elem, li g.1.fin, li e])], 2⟩) u (fun e v => ?_) (fun e z => ?_)))
 .refine rs AA <| rn 3 Z <| bq v fun aa k w => sx Z (AM (Br _ _ _ k) (.inl Z) Z Z Z <| rl Z <| cd Z w (fun x => ?_) (fun y => ?_))
  .exact rg AA <| rl Z <| AL x (wf hA [(0, 1), (1, 4)] Z Z Z)
  exact AE <| AL y (wf hA [(0, 1), (1, 4)] Z Z Z)
 refine rs AA <| rl Z <| AF ?_
 cases z
 exact er Z Le.rfl
end Go.E
/- Plain functions, and walks in step with them. Written by a program (gen.py). No condition. -/
set_option maxRecDepth 100000
set_option maxHeartbeats 1000000
namespace Go.E
open Go Go.RowKit Go.Proofs
noncomputable def Gl (c : A0) (a : AI) : Option Bool :=
 ((bif decide (0 <= a.fin) then (BU c a.elem).bind fun d => (FA d).bind fun e => some (decide (a.fin < e)) else some false : Option (Bool))).bind fun (b : Bool) => some b
theorem QU (b : A0) (c : AI) (r : Bool) (h : Gl b c = some r) : Aw Tryz.prog 136 [.place (Ar b) 0, .agg (AV c)] (· = .bool r) := by
 refine fn AA Tryz.func136 Z Z 18 Z [.tmp 4] Z [(0, .p (.place (Ar b) 0)), (1, .p (.agg (AV c)))] Z Z fun A hA => ?_
 unfold Gl at h
 refine rs AA <| rl Z <| jb (fun a : Bool => ⟨18, [(4, lb a)], [], 0⟩) h (fun a k => ?_) (fun a j => ?_)
 .refine By AA mixed [0, 1, 2, 3, 4, 5, 6, 7, 8, 9, 10, 11, 12, 13] 14 (by kernel_rfl) Z Z Z ?_
  refine As 4 Z <| Db 8 k Z Z Z (fun l => ?_) (fun i => ?_)
  .exact As 5 Z <| bq l fun m d f => Au Z (A2 (Br _ _ _ d) (.inl Z) Z Z Z <| bq f fun n e g => Au Z (A2 (KP _ _ e) (.inl Z) Z Z Z <| BF Z <| AL g (wf hA [] Z Z Z)))
  exact BF Z <| AL i (wf hA [] Z Z Z)
 refine AF ?_
 have hr := Option.some.inj j; subst hr
 exact er Z Le.rfl
noncomputable def FX (c : A0) (d : Int) (a : FN) : Option (FY × Int) :=
 (BU c a.at_.elem).bind fun b => (DM c a.at_.elem).bind fun e => ((bif decide (d < 1) then some true else bif decide (4000 < d) then some true else bif (b != 4) then bif (b != 1) then some true else (Gl c a.at_).bind fun j => some (!j) else (Gl c a.at_).bind fun k => some (!k) : Option (Bool))).bind fun (i : Bool) => bif i then some ((⟨0, [], 0, 0, 0⟩ : FY), 1) else (Ca c a.at_).bind fun l => bif decide (l < 0) then some ((⟨0, [], 0, 0, 0⟩ : FY), 7) else ((bif (b == 4) then bif (a.left != 0) then some true else bif (b == 1) then bif decide (a.left < 0) then some true else some (decide (e < a.left)) else some false else bif (b == 1) then bif decide (a.left < 0) then some true else some (decide (e < a.left)) else some false : Option (Bool))).bind fun (f : Bool) => bif f then some ((⟨0, [], 0, 0, 0⟩ : FY), 1) else ((bif (b == 1) then some (decide (e < AO (a.left + d))) else some false : Option (Bool))).bind fun (g : Bool) => bif g then some ((⟨0, [], 0, 0, 0⟩ : FY), 9) else ((bif (b == 4) then some 1 else some 2 : Option (Int))).bind fun (h : Int) => some ((⟨h, [a.at_], a.left, 0, 0⟩ : FY), 0)
theorem Ur (c : A0) (b : Int) (a : FN) (r : (FY × Int)) (h : FX c b a = some r) : Aw Tryz.prog 92 [.place (Ar c) 0, .int .i64 b, .agg (HQ a)] (· = .tup [.agg (UD r.1), .int .i64 r.2]) := by
 refine fn AA Tryz.func92 Z Z 97 Z [.cell 6 117, .tmp 7] Z [(0, .p (.place (Ar c) 0)), (1, .p (.int .i64 b)), (2, .p (.agg (HQ a)))] Z Z fun A hA => ?_
 unfold FX at h
 refine rs AA <| rl Z <| AB ?_
 refine By AA mixed [0, 1, 2, 3, 4, 5, 6, 7, 8, 9, 10, 11] 12 (by kernel_rfl) Z Z Z ?_
 refine As 4 Z <| bq h fun i n a5 => Au Z (A2 (Br _ _ _ n) (.inl Z) Z Z Z <| As 4 Z <| bq a5 fun j o a6 => Au Z (A2 (L1 _ _ _ o) (.inl Z) Z Z Z <| BF Z <| AC <| AB <| AH <| jb (fun g : Bool => ⟨97, [(0, lq (Ar c)), (1, li b), (5, .lpb 0 0), (6, .lpb 1 0), (8, li i), (9, li j), (21, lb g)], [(0, bx (HQ a)), (1, .box [li 0, .p (.nils), li 0, li 0, li 0])], 2⟩) a6 (fun g a7 => ?_) (fun g x => ?_)))
 .refine rg AA <| rn 3 Z <| gs 24 a7 Z Z Z (fun a8 => ?_) (fun a9 => ?_)
  .exact rl Z <| AL a8 (wf hA [(0, 0), (1, 1)] Z Z Z)
  refine rn 4 Z <| gs 28 a9 Z Z Z (fun ba => ?_) (fun bb => ?_)
  .exact rl Z <| AL ba (wf hA [(0, 0), (1, 1)] Z Z Z)
  refine rn 3 Z <| gs 31 bb Z Z Z (fun q => ?_) (fun v => ?_)
  .refine rn 5 Z <| gs 36 q Z Z Z (fun s => ?_) (fun t => ?_)
   .exact rl Z <| AL s (wf hA [(0, 0), (1, 1)] Z Z Z)
   exact rn 3 Z <| bq t fun bc k u => sx Z (AM (QU _ _ _ k) (.inl Z) Z Z Z <| rl Z <| AL u (wf hA [(0, 0), (1, 1)] Z Z Z))
  exact rn 8 Z <| bq v fun be l w => sx Z (AM (QU _ _ _ l) (.inl Z) Z Z Z <| rl Z <| AL w (wf hA [(0, 0), (1, 1)] Z Z Z))
 refine cd Z x (fun y => ?_) (fun z => ?_)
 .refine rs AA <| rl Z <| AF <| AN <| AG ?_
  cases y
  exact er Z (Le.tup' (.cons (Le.agg' (.cons Le.rfl (.cons (Le.nil _) (.cons Le.rfl (.cons Le.rfl (.cons Le.rfl .nil)))))) (.cons Le.rfl .nil)))
 refine rs AA <| rn 3 Z <| bq z fun bf m aa => sx Z (AM (G3 _ _ _ m) (.inl Z) Z Z Z <| rl Z <| cd Z aa (fun ab => ?_) (fun ac => ?_))
 .refine rs AA <| rl Z <| AF <| AN <| AG ?_
  cases ab
  exact er Z (Le.tup' (.cons (Le.agg' (.cons Le.rfl (.cons (Le.nil _) (.cons Le.rfl (.cons Le.rfl (.cons Le.rfl .nil)))))) (.cons Le.rfl .nil)))
 refine jb (fun d : Bool => ⟨97, [(1, li b), (5, .lpb 0 0), (6, .lpb 1 0), (8, li i), (9, li j), (51, lb d)], [(0, bx (HQ a)), (1, .box [li 0, .p (.nils), li 0, li 0, li 0])], 2⟩) ac (fun d ad => ?_) (fun d aq => ?_)
 .refine rg AA <| rn 3 Z <| gs 54 ad Z Z Z (fun ae => ?_) (fun al => ?_)
  .refine rn 5 Z <| gs 59 ae Z Z Z (fun af => ?_) (fun ag => ?_)
   .exact rl Z <| AL af (wf hA [(0, 0), (1, 1)] Z Z Z)
   refine rn 3 Z <| gs 62 ag Z Z Z (fun ah => ?_) (fun ak => ?_)
   .refine rn 4 Z <| gs 66 ah Z Z Z (fun ai => ?_) (fun aj => ?_)
    .exact rl Z <| AL ai (wf hA [(0, 0), (1, 1)] Z Z Z)
    exact rl Z <| AL aj (wf hA [(0, 0), (1, 1)] Z Z Z)
   exact rl Z <| AL ak (wf hA [(0, 0), (1, 1)] Z Z Z)
  refine rn 8 Z <| gs 62 al Z Z Z (fun am => ?_) (fun ap => ?_)
  .refine rn 4 Z <| gs 66 am Z Z Z (fun an => ?_) (fun ao => ?_)
   .exact rl Z <| AL an (wf hA [(0, 0), (1, 1)] Z Z Z)
   exact rl Z <| AL ao (wf hA [(0, 0), (1, 1)] Z Z Z)
  exact rl Z <| AL ap (wf hA [(0, 0), (1, 1)] Z Z Z)
 refine cd Z aq (fun ar => ?_) (fun au => ?_)
 .refine rs AA <| rl Z <| AF <| AN <| AG ?_
  cases ar
  exact er Z (Le.tup' (.cons (Le.agg' (.cons Le.rfl (.cons (Le.nil _) (.cons Le.rfl (.cons Le.rfl (.cons Le.rfl .nil)))))) (.cons Le.rfl .nil)))
 refine jb (fun e : Bool => ⟨97, [(5, .lpb 0 0), (6, .lpb 1 0), (8, li i), (75, lb e)], [(0, bx (HQ a)), (1, .box [li 0, .p (.nils), li 0, li 0, li 0])], 2⟩) au (fun e av => ?_) (fun e ay => ?_)
 .refine rg AA <| rn 3 Z <| gs 78 av Z Z Z (fun aw => ?_) (fun ax => ?_)
  .exact rl Z <| AL aw (wf hA [(0, 0), (1, 1)] Z Z Z)
  exact rl Z <| AL ax (wf hA [(0, 0), (1, 1)] Z Z Z)
 refine cd Z ay (fun az => ?_) (fun a0 => ?_)
 .refine rs AA <| rl Z <| AF <| AN <| AG ?_
  cases az
  exact er Z (Le.tup' (.cons (Le.agg' (.cons Le.rfl (.cons (Le.nil _) (.cons Le.rfl (.cons Le.rfl (.cons Le.rfl .nil)))))) (.cons Le.rfl .nil)))
 refine AE <| Ad <| AC <| rs AA <| rl Z <| jb (fun f : Int => ⟨97, [(6, .lpb 0 0), (10, .lpb 1 0)], [(0, .box [li 0, .p (.nils), li 0, li 0, li 0]), (1, .box [li f, .lsl 2 2 0 [a.at_].length, li a.left, li 0, li 0]), (2, .row 40 2 ([a.at_].map AV))], 3⟩) a0 (fun f a1 => ?_) (fun f a4 => ?_)
 .refine rs AA <| rl Z <| cd Z a1 (fun a2 => ?_) (fun a3 => ?_)
  .exact rg AA <| rl Z <| AL a2 (wf hA [(0, 1), (1, 3), (2, 2)] Z Z Z)
  exact AE <| AL a3 (wf hA [(0, 1), (1, 3), (2, 2)] Z Z Z)
 refine rs AA <| rl Z <| AF ?_
 cases a4
 exact er (Rb Z (.cons (.agg (.cons (.p _) (.cons (.own (enc := AV) ([a.at_] : List AI) Z Z) (.cons (.p _) (.cons (.p _) (.cons (.p _) .nil)))))) (.cons (.one (.p _)) .nil))) Le.rfl
noncomputable def Cn (e : A0) (b : FY) (a : Int × (List Int)) : Option ((Int × (List Int)) ⊕ (List Int)) :=
 bif decide (a.1 < (b.trail.length : Int)) then (((Aa b.trail a.1).bind fun c => (BU e c.elem).bind fun f => bif (f != 4) then (Bq a.2 [c.elem]).bind fun g => some g else some a.2 : Option ((List Int)))).bind fun (d : (List Int)) => some (.inl (AO (a.1 + 1), d)) else ((QA a.2).bind fun h => (UE h).bind fun i => some i).map .inr
noncomputable def Gm (a : A0) (b : FY) : Option (List Int) :=
 AR (Cn a b) (0, ([] : List Int))
theorem V4 (d : A0) (c : FY) (r : (List Int)) (h : Gm d c = some r) : Aw Tryz.prog 93 [.place (Ar d) 0, .agg (UD c)] (· = .slice 1 (r.map Ae)) := by
 refine fn AA Tryz.func93 Z Z 30 Z [.tmp 4] Z [(0, .p (.place (Ar d) 0)), (1, .p (.agg (UD c)))] Z Z fun A hA => ?_
 unfold Gm at h
 refine rs AA <| rl Z <| rs AA <| rl Z <| AB <| rs AA <| rn 2 Z <| sx Z (Ac Z Z <| rl Z <| AH ?_)
 apply lp (a := r) (fun b : (Int × (List Int)) => ⟨30, [(0, lq (Ar d)), (5, .lsl 0 1 0 b.2.length), (9, ls 2 AV c.trail), (10, li (c.trail.length : Int)), (11, li b.1)], [(0, .row 3 1 (b.2.map Ae))], 1⟩) h
 . exact A8.trans (CI 5 3 1 Z) (wf hA [(0, 1)] Z Z Z)
 intro b ai i
 unfold Cn at i
 refine rs AA <| rl Z <| AB <| cd Z i (fun q => ?_) (fun aa => ?_)
 .refine AE <| AC <| jb (fun f : (List Int) => ⟨30, [(0, lq (Ar d)), (5, .lsl 0 1 0 f.length), (9, ls 2 AV c.trail), (10, li (c.trail.length : Int)), (11, li b.1)], [(0, .row 3 1 (f.map Ae))], 1⟩) q (fun f s => ?_) (fun f z => ?_)
  .refine AH <| rs AA <| bq s fun ae j u => sx Z (Ab j Z Z Z <| rl Z <| rs AA <| rn 3 Z <| bq u fun aj k v => sx Z (AM (Br _ _ _ k) (.inl Z) Z Z Z <| rl Z <| cd Z v (fun w => ?_) (fun y => ?_)))
   .exact rg AA <| rn 4 Z <| bq w fun ak n x => sx Z (BV (enc := Ae) (l := b.2) (m := [ae.elem]) n (fun _ => ⟨Z, Z⟩) Z Z Z Z Z Z <| rl Z <| Ad <| AL x (wf hA [(0, 3)] Z Z Z))
   exact AE <| Ad <| AL y (wf hA [(0, 0)] Z Z Z)
  exact rg AA <| rl Z <| Aq z (wf hA [(0, 0)] Z Z Z)
 refine AU <| AX <| CH aa fun ah ab => Am <| AC <| rs AA <| rn 1 Z <| bq ab fun af g ac => sx Z (ABQ (t := 50) (e := 3) (enc := Ae) (l := b.2) AA Yg Z Z g Z Z Z Z Z Z <| rl Z <| rs AA <| rn 1 Z <| bq ac fun ag o ad => sx Z (ABR (t := 50) (e := 3) (enc := Ae) (l := af) AA ABS Z Z o Z (by first | rfl | exact Yh g) Z Z Z Z <| rl Z <| AF ?_))
 have hr := Option.some.inj ad; subst hr
 exact er (I6 Z (.one (.own (enc := Ae) ag Z Z))) Le.rfl
noncomputable def Dn (d : (Int × Int × (List (Int × Bool)))) (b : (List Int)) (a : Int × Int × (List (Int × Bool))) : Option ((Int × Int × (List (Int × Bool))) ⊕ ((Int × Int × (List (Int × Bool))) ⊕ Int)) :=
 bif decide (a.2.1 < (b.length : Int)) then (Aa b a.2.1).bind fun c => ((bif ((An a.2.2 c).getD false) then some 18 else some a.1 : Option (Int))).bind fun (e : Int) => some (.inl (e, AO (a.2.1 + 1), A3 c true a.2.2)) else some (.inr (.inl (a.1, AO (d.2.1 + 1), a.2.2)))
noncomputable def Er (c : A0) (b : AZ) (a : Int × Int × (List (Int × Bool))) : Option ((Int × Int × (List (Int × Bool))) ⊕ Int) :=
 bif decide (a.2.1 < (b.runs.length : Int)) then (Aa b.runs a.2.1).bind fun e => (IZ c b a.2.1).bind fun f => (Aa b.stock e.stock).bind fun g => (FX c g.len f.1).bind fun d => bif (d.2 != 0) then some (.inr d.2) else (Gm c d.1).bind fun h => AR (Dn a h) (a.1, 0, a.2.2) else some (.inr a.1)
noncomputable def HS (a : A0) (b : AZ) : Option Int :=
 AR (Er a b) (0, 0, [])
theorem Us (e : A0) (b : AZ) (r : Int) (h : HS e b = some r) : Aw Tryz.prog 57 [.place (Ar e) 0, .agg (AW b)] (· = .int .i64 r) := by
 refine fn AA Tryz.func57 Z Z 63 Z [.tmp 4] Z [(0, .p (.place (Ar e) 0)), (1, .p (.agg (AW b)))] Z Z fun A hA => ?_
 unfold HS at h
 refine rs AA <| rl Z <| rs AA <| rl Z <| AB <| rs AA <| rn 2 Z <| sx Z (Ac Z Z <| rl Z <| AH ?_)
 apply lp (a := r) (fun d : (Int × Int × (List (Int × Bool))) => ⟨63, [(0, lq (Ar e)), (3, .lpb 0 0), (5, li d.1), (6, .lmap 1), (17, ls 5 Bs b.runs), (18, li (b.runs.length : Int)), (19, li d.2.1)], [(0, bx (AW b)), (1, .map (Ao (.int .i64) .bool d.2.2))], 2⟩) h
 . exact wf hA [(0, 0), (1, 1)] Z Z Z
 intro d l j
 unfold Er at j
 refine rs AA <| rl Z <| AB <| cd Z j (fun u => ?_) (fun an => ?_)
 .refine AE <| AC <| AB <| AH <| rs AA <| rn 1 Z <| bq u fun av m v => sx Z (Ab m Z Z Z <| rl Z <| rs AA <| rn 3 Z <| bq v fun aw n w => sx Z (AM (V3 _ _ _ _ n) (.inl Z) Z Z Z <| rl Z <| AB ?_))
  refine By AA mixed [0, 1, 2, 3, 4, 5, 6, 7, 8, 9, 10, 11, 12, 13, 14, 15] 16 (by kernel_rfl) Z Z Z ?_
  refine As 5 Z <| bq w fun ax o x => Au Z (Al Z (Ab o Z Z Z <| As 3 Z <| bq x fun ay q aa => Au Z (A2 (Ur _ _ _ _ q) (.inr Z) Z Z Z <| BF Z <| AC <| AB <| rs AA <| rl Z <| cd Z aa (fun ab => ?_) (fun ad => ?_))))
  .refine rs AA <| rl Z <| AF <| AG <| AN <| AG <| Az ab fun ap ac => AN <| AG ?_
   cases ac
   exact er Z Le.rfl
  refine AE <| AC <| rs AA <| rn 2 Z <| bq ad fun f s ae => sx Z (AM (V4 _ _ _ s) (.inr Z) Z Z Z <| sx Z (Ac Z Z <| rl Z <| AH ?_))
  apply lp (a := l) (fun c : (Int × Int × (List (Int × Bool))) => ⟨63, [(0, lq (Ar e)), (3, .lpb 0 0), (5, li c.1), (6, .lmap 1), (17, ls 5 Bs b.runs), (18, li (b.runs.length : Int)), (19, li d.2.1), (49, ls 1 Ae f), (50, li (f.length : Int)), (51, li c.2.1)], [(0, bx (AW b)), (1, .map (Ao (.int .i64) .bool c.2.2))], 2⟩) ae
  . exact wf hA [(0, 0), (1, 1)] Z Z Z
  intro c au k
  unfold Dn at k
  refine rs AA <| rl Z <| AB <| cd Z k (fun af => ?_) (fun al => ?_)
  .refine AE <| AC <| AB <| AH <| rs AA <| bq af fun i t ag => sx Z (Ab t Z Z Z <| rl Z <| jb (fun g : Int => ⟨63, [(0, lq (Ar e)), (3, .lpb 0 0), (5, li g), (6, .lmap 1), (14, li i), (17, ls 5 Bs b.runs), (18, li (b.runs.length : Int)), (19, li d.2.1), (49, ls 1 Ae f), (50, li (f.length : Int)), (51, li c.2.1)], [(0, bx (AW b)), (1, .map (Ao (.int .i64) .bool c.2.2))], 2⟩) ag (fun g ah => ?_) (fun g ak => ?_))
   .refine rs AA <| rn 2 Z <| sx Z (LL (et := 4) (ke := (.int .i64)) (ve := .bool) (mp := c.2.2) (y := i) false GP Z Z Z Z <| rl Z <| cd Z ah (fun ai => ?_) (fun aj => ?_))
    .exact rg AA <| rl Z <| AL ai (wf hA [(0, 0), (1, 1)] Z Z Z)
    exact AE <| AL aj (wf hA [(0, 0), (1, 1)] Z Z Z)
   exact rg AA <| rn 2 Z <| sx Z (G0 (et := 4) (ke := (.int .i64)) (ve := .bool) (mp := c.2.2) (y := i) (z := true) GP Z Z Z Z Z Z <| rl Z <| Ad <| AC <| rg AA <| rl Z <| Aq ak (wf hA [(0, 0), (1, 1)] Z Z Z))
  exact AU <| AX <| BH al fun aq am => Am <| Ad <| AC <| rg AA <| rl Z <| Aq am (wf hA [(0, 0), (1, 1)] Z Z Z)
 refine AU <| AX <| BH an fun ar ao => Am <| AC <| rs AA <| rl Z <| AF ?_
 cases ao
 exact er Z Le.rfl
noncomputable def FZ (b : Es) (a : Int) : Option (Int ⊕ Int) :=
 bif decide (a < (b.plan.signals.length : Int)) then (Aa b.plan.signals a).bind fun c => (It c).bind fun d => bif d then some (.inr a) else some (.inl (AO (a + 1))) else some (.inr (-1))
noncomputable def Hu (c : Es) (d : AZ) (g : A0) (b : Int) (e : CU) (a : Int) : Option (Int ⊕ (Int ⊕ Int)) :=
 bif decide (a < (e.legs.length : Int)) then (E9 g c.roads d b a).bind fun f => bif ((f.length : Int) == 0) then some (.inr (.inr 10)) else some (.inl (AO (a + 1))) else some (.inr (.inl (AO (b + 1))))
noncomputable def Fa (e : Es) (c : AZ) (g : A0) (b : Int) : Option (Int ⊕ Int) :=
 bif decide (b < (c.runs.length : Int)) then (Aa c.runs b).bind fun a => ((bif ((a.legs.length : Int) == 0) then some true else (Aa a.legs (AO ((a.legs.length : Int) - 1))).bind fun f => some (f.fin != 2) : Option (Bool))).bind fun (d : Bool) => bif d then some (.inr 10) else AR (Hu e c g b a) 0 else some (.inr 0)
noncomputable def Gn (b : Es) (c : AZ) : Option Int :=
 ((((AR (FZ b) 0 : Option (Int))).bind fun (h : Int) => some (decide (0 <= h)) : Option (Bool))).bind fun (g : Bool) => bif g then some 7 else (Ep b.plan c).bind fun d => bif (d != 0) then some d else (EA b.plan).bind fun a => N7 a.1 (bif (a.2 != 0) then some a.2 else none) fun f => bif (a.2 != 0) then some a.2 else (HS f c).bind fun e => bif (e != 0) then some e else AR (Fa b c f) 0
theorem QV (c : Es) (b : AZ) (r : Int) (h : Gn c b = some r) : Aw Tryz.prog 25 [.agg (GU c), .agg (AW b)] (· = .int .i64 r) := by
 refine fn AA Tryz.func25 Z Z 78 Z [.tmp 4] Z [(0, .p (.agg (GU c))), (1, .p (.agg (AW b)))] Z Z fun A hA => ?_
 unfold Gn at h
 refine rs AA <| rl Z <| AB <| rs AA <| rn 3 Z <| sx Z (CW AA (fun g : Bool => lb g) (fun g : Bool => [(0, bx (GU c)), (1, bx (AW b))]) 2 h Tryz.func53 9 [.tmp 4] [(0, ls 4 BT c.plan.signals), (1, .fn 54 [])] Z Z Z Z Z Z Z Z (fun A hA g ab => ?_) (fun g am => ?_))
 .refine rs AA <| rl Z <| rs AA <| rn 2 Z <| sx Z (CW AA (fun f : Int => li f) (fun f : Int => [(0, bx (GU c)), (1, bx (AW b))]) 2 ab Tryz.func83 19 [.tmp 4] [(0, ls 4 BT c.plan.signals), (1, .fn 54 [])] Z Z Z Z Z Z Z Z (fun A hA f ac => ?_) (fun f al => ?_))
  .refine rs AA <| rl Z <| AB <| rs AA <| rn 1 Z <| sx Z (Ac Z Z <| rl Z <| AH ?_)
   apply lp (a := f) (fun i : Int => ⟨19, [(0, ls 4 BT c.plan.signals), (1, .fn 54 []), (7, li (c.plan.signals.length : Int)), (8, li i)], [(0, bx (GU c)), (1, bx (AW b))], 2⟩) ac
   . exact wj hA [(0, 0), (1, 1)] Z Z Z Z
   intro i bv l
   unfold FZ at l
   refine rs AA <| rl Z <| AB <| cd Z l (fun ad => ?_) (fun aj => ?_)
   .refine AE <| AC <| AB <| AH <| rs AA <| rl Z <| rs AA <| rn 3 Z <| bq ad fun b0 t ae => sx Z (Ab t Z Z Z <| rn 1 Z <| bq ae fun b1 u af => sx Z (AM (Tk _ _ u) (.inl Z) Z Z Z <| rl Z <| cd Z af (fun ag => ?_) (fun ai => ?_)))
    .refine rs AA <| rl Z <| AF <| AN <| AG <| Az ag fun bn ah => AN <| AG ?_
     have hr := Option.some.inj ah; subst hr
     exact CZ (nt := 19) (sl := [(4, li i)]) (wj hA [(0, 0), (1, 1)] Z Z Z Z) Z
    exact AE <| Ad <| AC <| rg AA <| rl Z <| Aq ai (wj hA [(0, 0), (1, 1)] Z Z Z Z)
   refine AU <| AX <| BH aj fun bo ak => Am <| AC <| rs AA <| rl Z <| AF ?_
   cases ak
   exact CZ (nt := 19) (sl := [(4, li (-1))]) (wj hA [(0, 0), (1, 1)] Z Z Z Z) Z
  refine rl Z <| AF ?_
  cases al
  exact CZ (nt := 9) (sl := [(4, lb (decide (0 <= f)))]) (wj hA [(0, 0), (1, 1)] Z Z Z Z) Z
 refine rl Z <| cd Z am (fun an => ?_) (fun ao => ?_)
 .refine rs AA <| rl Z <| AF <| AG ?_
  cases an
  exact er Z Le.rfl
 refine AE <| AC <| AB <| rs AA <| rn 3 Z <| bq ao fun b2 v ap => sx Z (AM (Rp _ _ _ v) (.inl Z) Z Z Z <| rl Z <| rs AA <| rl Z <| cd Z ap (fun aq => ?_) (fun ar => ?_))
 .refine rs AA <| rl Z <| AF <| AG ?_
  have hr := Option.some.inj aq; subst hr
  exact er Z Le.rfl
 refine AE <| AC <| rs AA <| rn 2 Z <| bq ar fun bm w d => sx Z (AM (PW _ _ w) (.inr Z) Z Z Z ?_)
 revert d; rcases bz : bm.1 with _ | k <;> intro d
 .replace d := YW d
  refine rl Z <| AB <| rs AA <| rl Z <| cd Z d (fun au => ?_) (fun av => ?_)
  .refine rs AA <| rl Z <| AF <| AG ?_
   cases au
   exact er Z Le.rfl
  refine AE <| AC <| AB <| rs AA <| rn 2 Z ?_
  cases av
 replace d := YX d
 refine rl Z <| AB <| rs AA <| rl Z <| cd Z d (fun aw => ?_) (fun ax => ?_)
 .refine rs AA <| rl Z <| AF <| AG ?_
  cases aw
  exact er Z Le.rfl
 refine AE <| AC <| AB <| rs AA <| rn 2 Z <| bq ax fun b3 x ay => sx Z (AM (Us _ _ _ x) (.inl Z) Z Z Z <| rl Z <| rs AA <| rl Z <| cd Z ay (fun az => ?_) (fun a0 => ?_))
 .refine rs AA <| rl Z <| AF <| AG ?_
  have hr := Option.some.inj az; subst hr
  exact er Z Le.rfl
 refine AE <| AC <| AB <| rs AA <| rn 2 Z <| sx Z (Ac Z Z <| rl Z <| AH ?_)
 apply lp (a := r) (fun e : Int => ⟨78, [(2, .lpb 0 0), (3, .lpb 1 0), (6, lq (Ar k)), (38, ls 5 Bs b.runs), (39, li (b.runs.length : Int)), (40, li e)], [(0, bx (GU c)), (1, bx (AW b))], 2⟩) a0
 . exact wf hA [(0, 0), (1, 1)] Z Z Z
 intro e s m
 unfold Fa at m
 refine rs AA <| rl Z <| AB <| cd Z m (fun a1 => ?_) (fun bk => ?_)
 .refine AE <| AC <| AB <| AH <| rs AA <| rn 1 Z <| bq a1 fun q y a2 => sx Z (Ab y Z Z Z <| rl Z <| AB <| jb (fun j : Bool => ⟨78, [(2, .lpb 0 0), (3, .lpb 1 0), (6, lq (Ar k)), (8, li e), (9, .lpb 2 0), (38, ls 5 Bs b.runs), (39, li (b.runs.length : Int)), (40, li e), (60, lb j)], [(0, bx (GU c)), (1, bx (AW b)), (2, bx (Bs q))], 3⟩) a2 (fun j a3 => ?_) (fun j a7 => ?_))
  .refine rg AA <| rn 2 Z <| sx Z (Ac Z Z <| rn 2 Z <| gs 49 a3 Z Z Z (fun a4 => ?_) (fun a5 => ?_))
   .exact rl Z <| AL a4 (wf hA (gi 3 []) Z Z Z)
   exact rn 4 Z <| sx Z (Ac Z Z <| rn 1 Z <| bq a5 fun b4 z a6 => sx Z (Ab z Z Z Z <| rl Z <| AL a6 (wf hA (gi 3 []) Z Z Z)))
  refine cd Z a7 (fun a8 => ?_) (fun ba => ?_)
  .refine rs AA <| rl Z <| AF <| AG <| AN <| AG <| Az a8 fun bp a9 => AN <| AG ?_
   cases a9
   exact er Z Le.rfl
  refine AE <| AC <| rs AA <| rn 2 Z <| sx Z (Ac Z Z <| rl Z <| AH ?_)
  apply lp (a := s) (fun o : Int => ⟨78, [(2, .lpb 0 0), (3, .lpb 1 0), (6, lq (Ar k)), (8, li e), (38, ls 5 Bs b.runs), (39, li (b.runs.length : Int)), (40, li e), (63, li (q.legs.length : Int)), (64, li o)], [(0, bx (GU c)), (1, bx (AW b))], 2⟩) ba
  . exact wf hA [(0, 0), (1, 1)] Z Z Z
  intro o bw n
  unfold Hu at n
  refine rs AA <| rl Z <| AB <| cd Z n (fun bb => ?_) (fun bi => ?_)
  .refine AE <| AC <| AB <| AH <| rs AA <| rl Z <| rs AA <| rn 6 Z <| bq bb fun b5 aa bc => sx Z (AM (Mt _ _ _ _ _ _ aa) (.inr Z) Z Z Z <| sx Z (Ac Z Z <| rl Z <| cd Z bc (fun be => ?_) (fun bh => ?_)))
   .refine rs AA <| rl Z <| AF <| AN <| AG <| Az be fun br bf => AN <| AN <| AG <| Az bf fun bs bg => AN <| AG ?_
    cases bg
    exact er Z Le.rfl
   exact AE <| Ad <| AC <| rg AA <| rl Z <| Aq bh (wf hA [(0, 0), (1, 1)] Z Z Z)
  exact AU <| AX <| BH bi fun bt bj => Am <| Ad <| AC <| rg AA <| rl Z <| Aq bj (wf hA [(0, 0), (1, 1)] Z Z Z)
 refine AU <| AX <| BH bk fun bu bl => Am <| AC <| rs AA <| rl Z <| AF ?_
 cases bl
 exact er Z Le.rfl
noncomputable def L2 (b : (List Int)) (c : (List Int)) (a : Int) : Option (Int ⊕ Bool) :=
 bif decide (a < (b.length : Int)) then (Aa b a).bind fun d => (Aa c a).bind fun e => bif (d != e) then some (.inr false) else some (.inl (AO (a + 1))) else some (.inr true)
noncomputable def K7 (a : (List Int)) (b : (List Int)) : Option Bool :=
 bif ((a.length : Int) != (b.length : Int)) then some false else AR (L2 a b) 0
theorem To (b : (List Int)) (c : (List Int)) (r : Bool) (h : K7 b c = some r) : Aw Tryz.prog 17 [.slice 1 (b.map Ae), .slice 1 (c.map Ae)] (· = .bool r) := by
 refine fn AA Tryz.func17 Z Z 26 Z [.tmp 4] Z [(0, .p (.slice 1 (b.map Ae))), (1, .p (.slice 1 (c.map Ae)))] Z Z fun A hA => ?_
 unfold K7 at h
 refine rs AA <| rl Z <| AB <| rs AA <| rn 1 Z <| sx Z (Ac Z Z <| rn 1 Z <| sx Z (Ac Z Z <| rl Z <| cd Z h (fun s => ?_) (fun t => ?_)))
 .refine rs AA <| rl Z <| AF <| AG ?_
  cases s
  exact er Z Le.rfl
 refine AE <| AC <| AB <| rs AA <| rl Z <| AH ?_
 apply lp (a := r) (fun e : Int => ⟨26, [(0, ls 1 Ae b), (1, ls 1 Ae c), (5, li e)], [], 0⟩) t
 . exact wf hA [] Z Z Z
 intro e w d
 unfold L2 at d
 refine AB <| rs AA <| rn 2 Z <| sx Z (Ac Z Z <| rl Z <| cd Z d (fun i => ?_) (fun o => ?_))
 .refine AE <| AC <| AB <| AH <| AB ?_
  refine By AA mixed [0, 1, 2, 3, 4, 5, 6, 7, 8] 9 (by kernel_rfl) Z Z Z ?_
  refine As 2 Z <| bq i fun x f j => Au Z (Al Z (Ab f Z Z Z <| As 3 Z <| bq j fun y g k => Au Z (Al Z (Ab g Z Z Z <| BF Z <| AC <| cd Z k (fun l => ?_) (fun n => ?_)))))
  .refine rs AA <| rl Z <| AF <| AN <| AG <| Az l fun u m => AN <| AG ?_
   cases m
   exact er Z Le.rfl
  exact AE <| Ad <| AC <| rg AA <| rl Z <| Aq n (wf hA [] Z Z Z)
 refine AU <| AX <| BH o fun v q => Am <| AC <| rs AA <| rl Z <| AF ?_
 cases q
 exact er Z Le.rfl
noncomputable def KQ : Option Bool :=
 (OF).bind fun d => (Gp d).bind fun a => (PX d).bind fun l => N7 l (((bif (!a.2) then some () else some () : Option (Unit))).bind fun (s : Unit) => some false) fun b => ((bif (!a.2) then some true else some false : Option (Bool))).bind fun (e : Bool) => bif e then some false else (HT).bind fun m => (Mu b a.1.roads m 0 1).bind fun c => (((HT).bind fun n => (Gn a.1 n).bind fun o => bif (o == 0) then (HT).bind fun p => (Cz b p 0 2).bind fun q => bif (q == 4) then (HT).bind fun r => (Hv b r 0 2).bind fun g => bif (g == 4) then (HT).bind fun h => (E9 b a.1.roads h 0 1).bind fun i => bif ((i.length : Int) == 1) then (K7 c.at_ ([1] : (List Int))).bind fun j => bif j then bif ((c.legs.length : Int) == 2) then (Aa c.legs 0).bind fun k => some (k.fin == 4) else some false else some false else some false else some false else some false else some false : Option (Bool))).bind fun (f : Bool) => some f
theorem V5 (r : Bool) (h : KQ = some r) : Aw Tryz.prog 9 [] (· = .bool r) := by
 refine fn AA Tryz.func9 Z Z 70 Z [.tmp 0] Z [] Z Z fun A hA => ?_
 unfold KQ at h
 refine rs AA <| rl Z <| rs AA <| bq h fun bk m au => sx Z (AM (Xc _ m) (.inr Z) Z Z Z <| rl Z <| rs AA <| rn 1 Z <| bq au fun e q a3 => sx Z (AM (QW _ _ q) (.inr Z) Z Z Z <| rl Z <| rs AA <| rn 1 Z <| bq a3 fun bb l a => sx Z (AM (Yi _ _ l) (.inr Z) Z Z Z ?_)))
 revert a; rcases be : bb with _ | bc <;> intro a
 .replace a := YW a
  refine rl Z <| AB <| jb (fun d : Unit => ⟨70, [(2, .lpb 0 0), (4, .p (.nilp)), (19, lb true)], [(0, bx (GU e.1))], 1⟩) a (fun d ao => ?_) (fun d ar => ?_)
  .refine rg AA <| rn 3 Z <| gs 16 ao Z Z Z (fun ap => ?_) (fun aq => ?_)
   .exact rl Z <| AL ap (wf hA [(0, 1)] Z Z Z)
   exact rl Z <| AL aq (wf hA [(0, 1)] Z Z Z)
  refine RX Z <| rs AA <| rl Z <| AF <| AG ?_
  cases ar
  exact er Z Le.rfl
 replace a := YX a
 refine rl Z <| AB <| jb (fun b : Bool => ⟨70, [(2, .lpb 0 0), (4, lq (Ar bc)), (19, lb b)], [(0, bx (GU e.1))], 1⟩) a (fun b av => ?_) (fun b ay => ?_)
 .refine rg AA <| rn 3 Z <| gs 16 av Z Z Z (fun aw => ?_) (fun ax => ?_)
  .exact rl Z <| AL aw (wf hA [(0, 1)] Z Z Z)
  exact rl Z <| AL ax (wf hA [(0, 1)] Z Z Z)
 refine cd Z ay (fun az => ?_) (fun a0 => ?_)
 .refine rs AA <| rl Z <| AF <| AG ?_
  cases az
  exact er Z Le.rfl
 refine AE <| AC <| AB ?_
 refine By AA mixed [0, 1, 2, 3, 4, 5, 6] 7 (by kernel_rfl) Z Z Z ?_
 refine As 3 Z <| bq a0 fun bl n a1 => Au Z (A2 (Kp _ n) (.inr Z) Z Z Z <| bq a1 fun bm o a2 => Au Z (A2 (V1 _ _ _ _ _ _ o) (.inr Z) Z Z Z <| BF Z <| AC <| jb (fun c : Bool => ⟨70, [(0, lb c)], [], 0⟩) a2 (fun c a4 => ?_) (fun c an => ?_)))
 .refine By AA mixed [0, 1, 2, 3, 4, 5, 6, 7, 8, 9, 10, 11, 12, 13, 14, 15, 16, 17, 18, 19, 20, 21, 22, 23, 24, 25, 26, 27, 28, 29, 30, 31, 32, 33, 34, 35, 36, 37, 38, 39, 40, 41, 42, 43, 44, 45] 46 (by kernel_rfl) Z Z Z ?_
  refine As 1 Z <| bq a4 fun bn s a5 => Au Z (A2 (Kp _ s) (.inr Z) Z Z Z <| bq a5 fun bo t a6 => Au Z (A2 (QV _ _ _ t) (.inl Z) Z Z Z <| As 2 Z <| Db 29 a6 Z Z Z (fun a7 => ?_) (fun am => ?_)))
  .refine As 1 Z <| bq a7 fun bp u a8 => Au Z (A2 (Kp _ u) (.inr Z) Z Z Z <| bq a8 fun br v a9 => Au Z (A2 (HP _ _ _ _ _ v) (.inl Z) Z Z Z <| As 3 Z <| Db 35 a9 Z Z Z (fun ba => ?_) (fun al => ?_)))
   .refine As 1 Z <| bq ba fun bs w x => Au Z (A2 (Kp _ w) (.inr Z) Z Z Z <| bq x fun bf f y => Au Z (A2 (Rq _ _ _ _ _ f) (.inl Z) Z Z Z <| As 3 Z <| Db 41 y Z Z Z (fun z => ?_) (fun ak => ?_)))
    .refine As 3 Z <| bq z fun bg g aa => Au Z (A2 (Kp _ g) (.inr Z) Z Z Z <| bq aa fun bh i ab => Au Z (A2 (Mt _ _ _ _ _ _ i) (.inr Z) Z Z Z <| Au Z (Kj Z Z <| As 3 Z <| Db 50 ab Z Z Z (fun ac => ?_) (fun aj => ?_))))
     .refine As 3 Z <| bq ac fun bi j ad => Au Z (A2 (To _ _ _ j) (.inl Z) Z Z (Dm.eq (.cons (.one (.p _)) (.cons (.one (.own (enc := Ae) ([1] : List Int) Z Z)) .nil))) <| As 2 Z <| Db 56 ad Z Z Z (fun ae => ?_) (fun ai => ?_))
      .refine As 2 Z <| Au Z (Kj Z Z <| As 3 Z <| Db 62 ae Z Z Z (fun af => ?_) (fun ah => ?_))
       .exact As 2 Z <| bq af fun bj k ag => Au Z (Al Z (Ab k Z Z Z <| BF Z <| AL ag (wf hA [] Z Z Z)))
       exact BF Z <| AL ah (wf hA [] Z Z Z)
      exact BF Z <| AL ai (wf hA [] Z Z Z)
     exact BF Z <| AL aj (wf hA [] Z Z Z)
    exact BF Z <| AL ak (wf hA [] Z Z Z)
   exact BF Z <| AL al (wf hA [] Z Z Z)
  exact BF Z <| AL am (wf hA [] Z Z Z)
 refine AF ?_
 have hr := Option.some.inj an; subst hr
 exact er Z Le.rfl
end Go.E
/- Plain functions, and walks in step with them. Written by a program (gen.py). No condition. -/
set_option maxRecDepth 100000
set_option maxHeartbeats 1000000
namespace Go.E
open Go Go.RowKit Go.Proofs
noncomputable def HU (b : AZ) (a : Int) : Option (Int ⊕ Bool) :=
 bif decide (a < (b.stock.length : Int)) then (Aa b.stock a).bind fun c => bif decide (100 < (c.name.size : Int)) then some (.inr false) else some (.inl (AO (a + 1))) else some (.inr true)
noncomputable def JR (b : AZ) (a : Int) : Option (Int ⊕ Bool) :=
 bif decide (a < (b.runs.length : Int)) then (Aa b.runs a).bind fun c => ((bif decide (20 < (c.legs.length : Int)) then some true else some (decide (100 < (c.name.size : Int))) : Option (Bool))).bind fun (d : Bool) => bif d then some (.inr false) else some (.inl (AO (a + 1))) else (AR (HU b) 0).map .inr
noncomputable def Kq (a : AZ) : Option Bool :=
 ((bif decide (10 < (a.stock.length : Int)) then some true else some (decide (12 < (a.runs.length : Int))) : Option (Bool))).bind fun (b : Bool) => bif b then some false else AR (JR a) 0
theorem Yj (b : AZ) (r : Bool) (h : Kq b = some r) : Aw Tryz.prog 23 [.agg (AW b)] (· = .bool r) := by
 refine fn AA Tryz.func23 Z Z 47 Z [.tmp 2] Z [(0, .p (.agg (AW b)))] Z Z fun A hA => ?_
 unfold Kq at h
 refine rs AA <| rl Z <| AB <| jb (fun d : Bool => ⟨47, [(1, .lpb 0 0), (16, lb d)], [(0, bx (AW b))], 1⟩) h (fun d m => ?_) (fun d q => ?_)
 .refine rg AA <| rn 2 Z <| sx Z (Ac Z Z <| rn 2 Z <| gs 11 m Z Z Z (fun n => ?_) (fun o => ?_))
  .exact rl Z <| AL n (wf hA [(0, 0)] Z Z Z)
  exact rn 2 Z <| sx Z (Ac Z Z <| rl Z <| AL o (wf hA [(0, 0)] Z Z Z))
 refine cd Z q (fun s => ?_) (fun t => ?_)
 .refine rs AA <| rl Z <| AF <| AG ?_
  cases s
  exact er Z Le.rfl
 refine AE <| AC <| AB <| rs AA <| rn 2 Z <| sx Z (Ac Z Z <| rl Z <| AH ?_)
 apply lp (a := r) (fun c : Int => ⟨47, [(1, .lpb 0 0), (18, ls 5 Bs b.runs), (19, li (b.runs.length : Int)), (20, li c)], [(0, bx (AW b))], 1⟩) t
 . exact wf hA [(0, 0)] Z Z Z
 intro c ap f
 unfold JR at f
 refine rs AA <| rl Z <| AB <| cd Z f (fun u => ?_) (fun ad => ?_)
 .refine AE <| AC <| AB <| AH <| rs AA <| bq u fun ar k v => sx Z (Ab k Z Z Z <| rl Z <| jb (fun e : Bool => ⟨47, [(1, .lpb 0 0), (18, ls 5 Bs b.runs), (19, li (b.runs.length : Int)), (20, li c), (33, lb e)], [(0, bx (AW b))], 1⟩) v (fun e w => ?_) (fun e z => ?_))
  .refine rg AA <| rn 2 Z <| sx Z (Ac Z Z <| rn 2 Z <| gs 28 w Z Z Z (fun x => ?_) (fun y => ?_))
   .exact rl Z <| AL x (wf hA [(0, 0)] Z Z Z)
   exact rl Z <| AL y (wf hA [(0, 0)] Z Z Z)
  refine cd Z z (fun aa => ?_) (fun ac => ?_)
  .refine rs AA <| rl Z <| AF <| AN <| AG <| Az aa fun am ab => AN <| AG ?_
   cases ab
   exact er Z Le.rfl
  exact AE <| Ad <| AC <| rg AA <| rl Z <| Aq ac (wf hA [(0, 0)] Z Z Z)
 refine AU <| AX <| CH ad fun j ae => Am <| AC <| AB <| rs AA <| rn 2 Z <| sx Z (Ac Z Z <| rl Z <| AH ?_)
 apply lp (a := j) (fun i : Int => ⟨47, [(36, ls 5 BM b.stock), (37, li (b.stock.length : Int)), (38, li i)], [], 0⟩) ae
 . exact wf hA [] Z Z Z
 intro i aq g
 unfold HU at g
 refine rs AA <| rl Z <| AB <| cd Z g (fun af => ?_) (fun ak => ?_)
 .refine AE <| AC <| AB <| AH <| rs AA <| bq af fun au l ag => sx Z (Ab l Z Z Z <| rl Z <| rs AA <| rl Z <| cd Z ag (fun ah => ?_) (fun aj => ?_))
  .refine rs AA <| rl Z <| AF <| AN <| AG <| Az ah fun an ai => AN <| AG ?_
   cases ai
   exact er Z Le.rfl
  exact AE <| Ad <| AC <| rg AA <| rl Z <| Aq aj (wf hA [] Z Z Z)
 refine AU <| AX <| BH ak fun ao al => Am <| AC <| rs AA <| rl Z <| AF ?_
 cases al
 exact er Z Le.rfl
noncomputable def Dh (a : Int) (c : Int) (d : Int) : Option Bool :=
 ((bif decide (c <= a) then some (decide (a <= d)) else some false : Option (Bool))).bind fun (b : Bool) => some b
theorem JS (b : Int) (c : Int) (d : Int) (r : Bool) (h : Dh b c d = some r) : Aw Tryz.prog 62 [.int .i64 b, .int .i64 c, .int .i64 d] (· = .bool r) := by
 refine fn AA Tryz.func62 Z Z 15 Z [.tmp 6] Z [(0, .p (.int .i64 b)), (1, .p (.int .i64 c)), (2, .p (.int .i64 d))] Z Z fun A hA => ?_
 unfold Dh at h
 refine rs AA <| rl Z <| jb (fun a : Bool => ⟨15, [(6, lb a)], [], 0⟩) h (fun a e => ?_) (fun a i => ?_)
 .refine rg AA <| rn 4 Z <| gs 10 e Z Z Z (fun f => ?_) (fun g => ?_)
  .exact rl Z <| AL f (wf hA [] Z Z Z)
  exact rl Z <| AL g (wf hA [] Z Z Z)
 refine AF ?_
 have hr := Option.some.inj i; subst hr
 exact er Z Le.rfl
noncomputable def Kr (a : BI) : Option Bool :=
 (((Cl a.name).bind fun c => bif c then (Dh a.len 1 4000).bind fun d => bif d then (Dh a.top 1 60).bind fun e => bif e then (Dh a.acc 1 10).bind fun f => bif f then (Dh a.brake 1 10).bind fun g => some g else some false else some false else some false else some false : Option (Bool))).bind fun (b : Bool) => some b
theorem Yk (b : BI) (r : Bool) (h : Kr b = some r) : Aw Tryz.prog 31 [.agg (BM b)] (· = .bool r) := by
 refine fn AA Tryz.func31 Z Z 26 Z [.tmp 2] Z [(0, .p (.agg (BM b)))] Z Z fun A hA => ?_
 unfold Kr at h
 refine rs AA <| rl Z <| jb (fun a : Bool => ⟨26, [(2, lb a)], [], 0⟩) h (fun a i => ?_) (fun a y => ?_)
 .refine rg AA <| rn 2 Z <| bq i fun z c j => sx Z (AM (Kn _ _ c) (.inl Z) Z Z Z <| rn 1 Z <| gs 6 j Z Z Z (fun k => ?_) (fun x => ?_))
  .refine rn 2 Z <| bq k fun aa d l => sx Z (AM (JS _ _ _ _ d) (.inl Z) Z Z Z <| rn 2 Z <| gs 11 l Z Z Z (fun m => ?_) (fun w => ?_))
   .refine rn 2 Z <| bq m fun ab e n => sx Z (AM (JS _ _ _ _ e) (.inl Z) Z Z Z <| rn 2 Z <| gs 16 n Z Z Z (fun o => ?_) (fun v => ?_))
    .refine rn 2 Z <| bq o fun ac f q => sx Z (AM (JS _ _ _ _ f) (.inl Z) Z Z Z <| rn 2 Z <| gs 21 q Z Z Z (fun s => ?_) (fun u => ?_))
     .exact rn 2 Z <| bq s fun ad g t => sx Z (AM (JS _ _ _ _ g) (.inl Z) Z Z Z <| rl Z <| AL t (wf hA [] Z Z Z))
     exact rl Z <| AL u (wf hA [] Z Z Z)
    exact rl Z <| AL v (wf hA [] Z Z Z)
   exact rl Z <| AL w (wf hA [] Z Z Z)
  exact rl Z <| AL x (wf hA [] Z Z Z)
 refine AF ?_
 have hr := Option.some.inj y; subst hr
 exact er Z Le.rfl
noncomputable def Iu (b : (List BI)) (c : ByteArray) (a : Int) : Option (Int ⊕ Int) :=
 bif decide (a < (b.length : Int)) then (Aa b a).bind fun d => bif (d.name.toList == c.toList) then some (.inr a) else some (.inl (AO (a + 1))) else some (.inr (-1))
noncomputable def JT (a : (List BI)) (b : ByteArray) : Option Int :=
 AR (Iu a b) 0
theorem Xf (b : (List BI)) (c : ByteArray) (r : Int) (h : JT b c = some r) : Aw Tryz.prog 143 [.slice 5 (b.map BM), .str c] (· = .int .i64 r) := by
 refine fn AA Tryz.func143 Z Z 20 Z [.tmp 4] Z [(0, .p (.slice 5 (b.map BM))), (1, .p (.str c))] Z Z fun A hA => ?_
 unfold JT at h
 refine rs AA <| rl Z <| AB <| rs AA <| rn 1 Z <| sx Z (Ac Z Z <| rl Z <| AH ?_)
 apply lp (a := r) (fun e : Int => ⟨20, [(1, .p (.str c)), (7, ls 5 BM b), (8, li (b.length : Int)), (9, li e)], [], 0⟩) h
 . exact wf hA [] Z Z Z
 intro e s d
 unfold Iu at d
 refine rs AA <| rl Z <| AB <| cd Z d (fun n => ?_) (fun l => ?_)
 .refine AE <| AC <| AB <| AH <| rs AA <| rn 1 Z <| bq n fun t f g => sx Z (Ab f Z Z Z <| rl Z <| rs AA <| rl Z <| cd Z g (fun i => ?_) (fun k => ?_))
  .refine rs AA <| rl Z <| AF <| AN <| AG <| Az i fun o j => AN <| AG ?_
   have hr := Option.some.inj j; subst hr
   exact er Z Le.rfl
  exact AE <| Ad <| AC <| rg AA <| rl Z <| Aq k (wf hA [] Z Z Z)
 refine AU <| AX <| BH l fun q m => Am <| AC <| rs AA <| rl Z <| AF ?_
 cases m
 exact er Z Le.rfl
noncomputable def EH (b : (List BI)) (a : Int) : Option (Int ⊕ Int) :=
 bif decide (a < (b.length : Int)) then (Aa b a).bind fun c => (JT b c.name).bind fun d => bif (d != a) then some (.inr 4) else some (.inl (AO (a + 1))) else some (.inr 0)
noncomputable def Hw (b : (List BI)) (a : Int) : Option (Int ⊕ Int) :=
 bif decide (a < (b.length : Int)) then (Aa b a).bind fun c => (Kr c).bind fun d => bif (!d) then some (.inr 1) else some (.inl (AO (a + 1))) else (AR (EH b) 0).map .inr
noncomputable def Ia (a : (List BI)) : Option Int :=
 bif decide (4 < (a.length : Int)) then some 3 else AR (Hw a) 0
theorem V6 (b : (List BI)) (r : Int) (h : Ia b = some r) : Aw Tryz.prog 102 [.slice 5 (b.map BM)] (· = .int .i64 r) := by
 refine fn AA Tryz.func102 Z Z 34 Z [.tmp 2] Z [(0, .p (.slice 5 (b.map BM)))] Z Z fun A hA => ?_
 unfold Ia at h
 refine rs AA <| rl Z <| AB <| rs AA <| rn 1 Z <| sx Z (Ac Z Z <| rl Z <| cd Z h (fun x => ?_) (fun af => ?_))
 .refine rs AA <| rl Z <| AF <| AG ?_
  cases x
  exact er Z Le.rfl
 refine AE <| AC <| AB <| rs AA <| rn 1 Z <| sx Z (Ac Z Z <| rl Z <| AH ?_)
 apply lp (a := r) (fun f : Int => ⟨34, [(0, ls 5 BM b), (10, ls 5 BM b), (11, li (b.length : Int)), (12, li f)], [], 0⟩) af
 . exact wf hA [] Z Z Z
 intro f aj c
 unfold Hw at c
 refine rs AA <| rl Z <| AB <| cd Z c (fun m => ?_) (fun u => ?_)
 .refine AE <| AC <| AB <| AH <| rs AA <| bq m fun al i n => sx Z (Ab i Z Z Z <| rl Z <| rs AA <| rn 1 Z <| bq n fun am j o => sx Z (AM (Yk _ _ j) (.inl Z) Z Z Z <| rl Z <| cd Z o (fun q => ?_) (fun t => ?_)))
  .refine rs AA <| rl Z <| AF <| AN <| AG <| Az q fun ag s => AN <| AG ?_
   cases s
   exact er Z Le.rfl
  exact AE <| Ad <| AC <| rg AA <| rl Z <| Aq t (wf hA [] Z Z Z)
 refine AU <| AX <| CH u fun g v => Am <| AC <| AB <| rs AA <| rn 1 Z <| sx Z (Ac Z Z <| rl Z <| AH ?_)
 apply lp (a := g) (fun e : Int => ⟨34, [(0, ls 5 BM b), (20, ls 5 BM b), (21, li (b.length : Int)), (22, li e)], [], 0⟩) v
 . exact wf hA [] Z Z Z
 intro e ak d
 unfold EH at d
 refine rs AA <| rl Z <| AB <| cd Z d (fun w => ?_) (fun ad => ?_)
 .refine AE <| AC <| AB <| AH <| rs AA <| rn 1 Z <| bq w fun an k y => sx Z (Ab k Z Z Z <| rl Z <| rs AA <| rn 3 Z <| bq y fun ao l z => sx Z (AM (Xf _ _ _ l) (.inl Z) Z Z Z <| rl Z <| cd Z z (fun aa => ?_) (fun ac => ?_)))
  .refine rs AA <| rl Z <| AF <| AN <| AG <| Az aa fun ah ab => AN <| AG ?_
   cases ab
   exact er Z Le.rfl
  exact AE <| Ad <| AC <| rg AA <| rl Z <| Aq ac (wf hA [] Z Z Z)
 refine AU <| AX <| BH ad fun ai ae => Am <| AC <| rs AA <| rl Z <| AF ?_
 cases ae
 exact er Z Le.rfl
noncomputable def Hx (b : AK) (c : (List BI)) (a : Int) : Option (Int ⊕ Int) :=
 bif decide (a < (c.length : Int)) then (Aa c a).bind fun d => ((bif decide (b.top < d.top) then some true else some (decide (d.brake < b.brake)) : Option (Bool))).bind fun (e : Bool) => bif e then some (.inr 9) else some (.inl (AO (a + 1))) else some (.inr 0)
noncomputable def Ib (c : AK) (a : (List BI)) : Option Int :=
 (Ia a).bind fun b => bif (b != 0) then some b else AR (Hx c a) 0
theorem V7 (c : AK) (b : (List BI)) (r : Int) (h : Ib c b = some r) : Aw Tryz.prog 66 [.agg (AP c), .slice 5 (b.map BM)] (· = .int .i64 r) := by
 refine fn AA Tryz.func66 Z Z 32 Z [.tmp 4] Z [(0, .p (.agg (AP c))), (1, .p (.slice 5 (b.map BM)))] Z Z fun A hA => ?_
 unfold Ib at h
 refine rs AA <| rl Z <| AB <| rs AA <| rn 1 Z <| bq h fun ad i j => sx Z (AM (V6 _ _ i) (.inl Z) Z Z Z <| rl Z <| rs AA <| rl Z <| cd Z j (fun k => ?_) (fun l => ?_))
 .refine rs AA <| rl Z <| AF <| AG ?_
  have hr := Option.some.inj k; subst hr
  exact er Z Le.rfl
 refine AE <| AC <| AB <| rs AA <| rn 1 Z <| sx Z (Ac Z Z <| rl Z <| AH ?_)
 apply lp (a := r) (fun d : Int => ⟨32, [(2, .lpb 0 0), (13, ls 5 BM b), (14, li (b.length : Int)), (15, li d)], [(0, bx (AP c))], 1⟩) l
 . exact wf hA [(0, 0)] Z Z Z
 intro d ab f
 unfold Hx at f
 refine rs AA <| rl Z <| AB <| cd Z f (fun m => ?_) (fun x => ?_)
 .refine AE <| AC <| AB <| AH <| rs AA <| bq m fun ac g n => sx Z (Ab g Z Z Z <| rl Z <| jb (fun e : Bool => ⟨32, [(2, .lpb 0 0), (13, ls 5 BM b), (14, li (b.length : Int)), (15, li d), (30, lb e)], [(0, bx (AP c))], 1⟩) n (fun e o => ?_) (fun e t => ?_))
  .refine rg AA <| rn 6 Z <| gs 24 o Z Z Z (fun q => ?_) (fun s => ?_)
   .exact rl Z <| AL q (wf hA [(0, 0)] Z Z Z)
   exact rl Z <| AL s (wf hA [(0, 0)] Z Z Z)
  refine cd Z t (fun u => ?_) (fun w => ?_)
  .refine rs AA <| rl Z <| AF <| AN <| AG <| Az u fun z v => AN <| AG ?_
   cases v
   exact er Z Le.rfl
  exact AE <| Ad <| AC <| rg AA <| rl Z <| Aq w (wf hA [(0, 0)] Z Z Z)
 refine AU <| AX <| BH x fun aa y => Am <| AC <| rs AA <| rl Z <| AF ?_
 cases y
 exact er Z Le.rfl
noncomputable def Ce (a : Int) (c : Int) (d : Int) : Option Bool :=
 ((bif decide (c <= a) then some (decide (a <= d)) else some false : Option (Bool))).bind fun (b : Bool) => some b
theorem Fb (b : Int) (c : Int) (d : Int) (r : Bool) (h : Ce b c d = some r) : Aw Tryz.prog 67 [.int .i64 b, .int .i64 c, .int .i64 d] (· = .bool r) := by
 refine fn AA Tryz.func67 Z Z 15 Z [.tmp 6] Z [(0, .p (.int .i64 b)), (1, .p (.int .i64 c)), (2, .p (.int .i64 d))] Z Z fun A hA => ?_
 unfold Ce at h
 refine rs AA <| rl Z <| jb (fun a : Bool => ⟨15, [(6, lb a)], [], 0⟩) h (fun a e => ?_) (fun a i => ?_)
 .refine rg AA <| rn 4 Z <| gs 10 e Z Z Z (fun f => ?_) (fun g => ?_)
  .exact rl Z <| AL f (wf hA [] Z Z Z)
  exact rl Z <| AL g (wf hA [] Z Z Z)
 refine AF ?_
 have hr := Option.some.inj i; subst hr
 exact er Z Le.rfl
noncomputable def Di (a : AK) (b : Int) : Option Int :=
 (EB a b).bind fun c => some c
theorem HV (a : AK) (b : Int) (r : Int) (h : Di a b = some r) : Aw Tryz.prog 30 [.agg (AP a), .int .i64 b] (· = .int .i64 r) := by
 refine fn AA Tryz.func30 Z Z 8 Z [.tmp 4] Z [(0, .p (.agg (AP a))), (1, .p (.int .i64 b))] Z Z fun A hA => ?_
 unfold Di at h
 refine rs AA <| rl Z <| rs AA <| rn 2 Z <| bq h fun e c d => sx Z (AM (I7 _ _ _ c) (.inl Z) Z Z Z <| rl Z <| AF ?_)
 have hr := Option.some.inj d; subst hr
 exact er Z Le.rfl
noncomputable def GV (c : AK) (d : (List Cm)) (b : Int × Int) : Option ((Int × Int) ⊕ Bool) :=
 bif decide (b.2 < (d.length : Int)) then Cw (((Aa d b.2).bind fun a => (Ce a.at_ b.1 2000).bind fun f => bif (!f) then some (.inr (.inr false)) else bif (a.fin == 1) then (Ce a.to 0 (AO ((c.signals.length : Int) - 1))).bind fun g => bif (!g) then some (.inr (.inr false)) else some (.inl a.at_) else bif (a.fin == 2) then (Di c a.to).bind fun h => bif (h != 4) then some (.inr (.inr false)) else some (.inl a.at_) else bif (a.fin == 3) then (Di c a.to).bind fun i => bif (i != 1) then some (.inr (.inr false)) else some (.inl a.at_) else some (.inr (.inr false)) : Option (Int ⊕ ((Int × Int) ⊕ Bool)))) fun (e : Int) => some (.inl (e, AO (b.2 + 1))) else some (.inr true)
noncomputable def JU (a : AK) (b : (List Cm)) : Option Bool :=
 AR (GV a b) (0, 0)
theorem Xg (c : AK) (b : (List Cm)) (r : Bool) (h : JU c b = some r) : Aw Tryz.prog 68 [.agg (AP c), .slice 4 (b.map DB)] (· = .bool r) := by
 refine fn AA Tryz.func68 Z Z 48 Z [.tmp 4] Z [(0, .p (.agg (AP c))), (1, .p (.slice 4 (b.map DB)))] Z Z fun A hA => ?_
 unfold JU at h
 refine rs AA <| rl Z <| rs AA <| rl Z <| AB <| rs AA <| rn 1 Z <| sx Z (Ac Z Z <| rl Z <| AH ?_)
 apply lp (a := r) (fun d : (Int × Int) => ⟨48, [(2, .lpb 0 0), (5, li d.1), (8, ls 4 DB b), (9, li (b.length : Int)), (10, li d.2)], [(0, bx (AP c))], 1⟩) h
 . exact wf hA [(0, 0)] Z Z Z
 intro d g e
 unfold GV at e
 refine rs AA <| rl Z <| AB <| cd Z e (fun n => ?_) (fun ax => ?_)
 .refine AE <| AC ?_
  apply jn (a := g) (fun f : Int => ⟨48, [(2, .lpb 0 0), (5, li f), (8, ls 4 DB b), (9, li (b.length : Int)), (10, li d.2)], [(0, bx (AP c))], 1⟩) n
  .intro ba o
   refine AH <| rs AA <| bq o fun bb i q => sx Z (Ab i Z Z Z <| rl Z <| AB <| rs AA <| rn 3 Z <| bq q fun bc j s => sx Z (AM (Fb _ _ _ _ j) (.inl Z) Z Z Z <| rl Z <| cd Z s (fun t => ?_) (fun w => ?_)))
   .refine rs AA <| rl Z <| AF <| AG <| AN <| Az t fun az u => Az u fun a0 v => AN <| AG ?_
    cases v
    exact er Z Le.rfl
   refine AE <| AC <| rs AA <| rl Z <| rs AA <| rl Z <| AH <| rs AA <| rl Z <| cd Z w (fun x => ?_) (fun ad => ?_)
   .refine rs AA <| rn 4 Z <| sx Z (Ac Z Z <| rn 1 Z <| bq x fun be k y => sx Z (AM (Fb _ _ _ _ k) (.inl Z) Z Z Z <| rl Z <| cd Z y (fun z => ?_) (fun ac => ?_)))
    .refine rs AA <| rl Z <| AF <| AN <| AN <| Az z fun a1 aa => Az aa fun a2 ab => AN <| AG ?_
     cases ab
     exact er Z Le.rfl
    exact AE <| Ad <| Ad <| Aq ac (wf hA [(0, 0)] Z Z Z)
   refine rs AA <| rl Z <| cd Z ad (fun ae => ?_) (fun ak => ?_)
   .refine rs AA <| rn 3 Z <| bq ae fun bf l af => sx Z (AM (HV _ _ _ l) (.inl Z) Z Z Z <| rl Z <| cd Z af (fun ag => ?_) (fun aj => ?_))
    .refine rs AA <| rl Z <| AF <| AN <| AN <| Az ag fun a3 ah => Az ah fun a4 ai => AN <| AG ?_
     cases ai
     exact er Z Le.rfl
    exact AE <| Ad <| Ad <| Aq aj (wf hA [(0, 0)] Z Z Z)
   refine rs AA <| rl Z <| cd Z ak (fun al => ?_) (fun ar => ?_)
   .refine rs AA <| rn 3 Z <| bq al fun bg m am => sx Z (AM (HV _ _ _ m) (.inl Z) Z Z Z <| rl Z <| cd Z am (fun an => ?_) (fun aq => ?_))
    .refine rs AA <| rl Z <| AF <| AN <| AN <| Az an fun a5 ao => Az ao fun a6 ap => AN <| AG ?_
     cases ap
     exact er Z Le.rfl
    exact AE <| Ad <| Ad <| Aq aq (wf hA [(0, 0)] Z Z Z)
   refine rs AA <| rl Z <| AF <| AN <| AN <| Az ar fun a7 au => Az au fun a8 av => AN <| AG ?_
   cases av
   exact er Z Le.rfl
  intro f aw
  exact rg AA <| rl Z <| Aq aw (wf hA [(0, 0)] Z Z Z)
 refine AU <| AX <| BH ax fun a9 ay => Am <| AC <| rs AA <| rl Z <| AF ?_
 cases ay
 exact er Z Le.rfl
noncomputable def Hy (c : Int) (d : CU) (b : (List CU)) (a : Int) : Option (Int ⊕ (Int ⊕ Int)) :=
 bif decide (a < (b.length : Int)) then (Aa b a).bind fun e => bif (d.name.toList == e.name.toList) then some (.inr (.inr 4)) else some (.inl (AO (a + 1))) else some (.inr (.inl (AO (c + 1))))
noncomputable def EI (b : AZ) (a : Int) : Option (Int ⊕ Int) :=
 bif decide (a < (b.runs.length : Int)) then (Aa b.runs a).bind fun c => (LC b.runs 0 a).bind fun d => AR (Hy a c d) 0 else some (.inr 0)
noncomputable def Hz (d : AK) (b : AZ) (c : Int) : Option (Int ⊕ Int) :=
 bif decide (c < (b.runs.length : Int)) then (Aa b.runs c).bind fun a => (((Cl a.name).bind fun f => bif (!f) then some true else (Ce a.stock 0 (AO ((b.stock.length : Int) - 1))).bind fun g => bif (!g) then some true else (Ce a.frm 0 (AO ((d.signals.length : Int) - 1))).bind fun h => bif (!h) then some true else (Ce a.left 0 4000).bind fun i => bif (!i) then some true else (JU d a.legs).bind fun j => some (!j) : Option (Bool))).bind fun (e : Bool) => bif e then some (.inr 1) else some (.inl (AO (c + 1))) else (AR (EI b) 0).map .inr
noncomputable def H0 (c : AK) (a : AZ) (b : Int) : Option (Int ⊕ Int) :=
 bif decide (b < (a.runs.length : Int)) then (Aa a.runs b).bind fun e => bif decide (12 < (e.legs.length : Int)) then some (.inr 3) else some (.inl (AO (b + 1))) else ((Ib c a.stock).bind fun d => bif (d != 0) then some d else (Ce a.begin 0 86399).bind fun f => bif (!f) then some 1 else AR (Hz c a) 0).map .inr
noncomputable def Ic (b : AK) (a : AZ) : Option Int :=
 bif decide (8 < (a.runs.length : Int)) then some 3 else AR (H0 b a) 0
theorem V8 (c : AK) (b : AZ) (r : Int) (h : Ic c b = some r) : Aw Tryz.prog 36 [.agg (AP c), .agg (AW b)] (· = .int .i64 r) := by
 refine fn AA Tryz.func36 Z Z 110 Z [.tmp 4] Z [(0, .p (.agg (AP c))), (1, .p (.agg (AW b)))] Z Z fun A hA => ?_
 unfold Ic at h
 refine rs AA <| rl Z <| AB <| rs AA <| rn 2 Z <| sx Z (Ac Z Z <| rl Z <| cd Z h (fun a6 => ?_) (fun a7 => ?_))
 .refine rs AA <| rl Z <| AF <| AG ?_
  cases a6
  exact er Z Le.rfl
 refine AE <| AC <| AB <| rs AA <| rn 2 Z <| sx Z (Ac Z Z <| rl Z <| AH ?_)
 apply lp (a := r) (fun m : Int => ⟨110, [(2, .lpb 0 0), (3, .lpb 1 0), (19, ls 5 Bs b.runs), (20, li (b.runs.length : Int)), (21, li m)], [(0, bx (AP c)), (1, bx (AW b))], 2⟩) a7
 . exact wf hA [(0, 0), (1, 1)] Z Z Z
 intro m b8 k
 unfold H0 at k
 refine rs AA <| rl Z <| AB <| cd Z k (fun bw => ?_) (fun aj => ?_)
 .refine AE <| AC <| AB <| AH <| rs AA <| bq bw fun b9 t af => sx Z (Ab t Z Z Z <| rl Z <| rs AA <| rn 2 Z <| sx Z (Ac Z Z <| rl Z <| cd Z af (fun ag => ?_) (fun ai => ?_)))
  .refine rs AA <| rl Z <| AF <| AN <| AG <| Az ag fun b0 ah => AN <| AG ?_
   cases ah
   exact er Z Le.rfl
  exact AE <| Ad <| AC <| rg AA <| rl Z <| Aq ai (wf hA [(0, 0), (1, 1)] Z Z Z)
 refine AU <| AX <| CH aj fun o ak => Am <| AC <| AB <| rs AA <| rn 3 Z <| bq ak fun ca u al => sx Z (AM (V7 _ _ _ u) (.inl Z) Z Z Z <| rl Z <| rs AA <| rl Z <| cd Z al (fun am => ?_) (fun an => ?_))
 .refine rs AA <| rl Z <| AF <| AG ?_
  have hr := Option.some.inj am; subst hr
  exact er Z Le.rfl
 refine AE <| AC <| AB <| rs AA <| rn 2 Z <| bq an fun cb v ao => sx Z (AM (Fb _ _ _ _ v) (.inl Z) Z Z Z <| rl Z <| cd Z ao (fun ap => ?_) (fun ar => ?_))
 .refine rs AA <| rl Z <| AF <| AG ?_
  cases ap
  exact er Z Le.rfl
 refine AE <| AC <| AB <| rs AA <| rn 2 Z <| sx Z (Ac Z Z <| rl Z <| AH ?_)
 apply lp (a := o) (fun e : Int => ⟨110, [(2, .lpb 0 0), (3, .lpb 1 0), (42, ls 5 Bs b.runs), (43, li (b.runs.length : Int)), (44, li e)], [(0, bx (AP c)), (1, bx (AW b))], 2⟩) ar
 . exact wf hA [(0, 0), (1, 1)] Z Z Z
 intro e b7 j
 unfold Hz at j
 refine rs AA <| rl Z <| AB <| cd Z j (fun a8 => ?_) (fun bu => ?_)
 .refine AE <| AC <| AB <| AH <| rs AA <| bq a8 fun ce z a9 => sx Z (Ab z Z Z Z <| rl Z <| jb (fun f : Bool => ⟨110, [(2, .lpb 0 0), (3, .lpb 1 0), (42, ls 5 Bs b.runs), (43, li (b.runs.length : Int)), (44, li e), (84, lb f)], [(0, bx (AP c)), (1, bx (AW b))], 2⟩) a9 (fun f ba => ?_) (fun f bp => ?_))
  .refine rg AA <| rn 2 Z <| bq ba fun cf aa bb => sx Z (AM (Kn _ _ aa) (.inl Z) Z Z Z <| rn 2 Z <| gs 52 bb Z Z Z (fun bc => ?_) (fun be => ?_))
   .exact rl Z <| AL bc (wf hA [(0, 0), (1, 1)] Z Z Z)
   refine rn 4 Z <| sx Z (Ac Z Z <| rn 1 Z <| bq be fun cg ab bf => sx Z (AM (Fb _ _ _ _ ab) (.inl Z) Z Z Z <| rn 3 Z <| gs 62 bf Z Z Z (fun bg => ?_) (fun bh => ?_)))
   .exact rl Z <| AL bg (wf hA [(0, 0), (1, 1)] Z Z Z)
   refine rn 4 Z <| sx Z (Ac Z Z <| rn 1 Z <| bq bh fun ch ac bi => sx Z (AM (Fb _ _ _ _ ac) (.inl Z) Z Z Z <| rn 3 Z <| gs 72 bi Z Z Z (fun bj => ?_) (fun bk => ?_)))
   .exact rl Z <| AL bj (wf hA [(0, 0), (1, 1)] Z Z Z)
   refine rn 2 Z <| bq bk fun ci ad bl => sx Z (AM (Fb _ _ _ _ ad) (.inl Z) Z Z Z <| rn 3 Z <| gs 78 bl Z Z Z (fun bm => ?_) (fun bn => ?_))
   .exact rl Z <| AL bm (wf hA [(0, 0), (1, 1)] Z Z Z)
   exact rn 3 Z <| bq bn fun cj ae bo => sx Z (AM (Xg _ _ _ ae) (.inl Z) Z Z Z <| rl Z <| AL bo (wf hA [(0, 0), (1, 1)] Z Z Z))
  refine cd Z bp (fun br => ?_) (fun bt => ?_)
  .refine rs AA <| rl Z <| AF <| AN <| AG <| Az br fun b5 bs => AN <| AG ?_
   cases bs
   exact er Z Le.rfl
  exact AE <| Ad <| AC <| rg AA <| rl Z <| Aq bt (wf hA [(0, 0), (1, 1)] Z Z Z)
 refine AU <| AX <| CH bu fun q bv => Am <| AC <| AB <| rs AA <| rn 2 Z <| sx Z (Ac Z Z <| rl Z <| AH ?_)
 apply lp (a := q) (fun d : Int => ⟨110, [(3, .lpb 0 0), (87, ls 5 Bs b.runs), (88, li (b.runs.length : Int)), (89, li d)], [(0, bx (AW b))], 1⟩) bv
 . exact wf hA [(0, 1)] Z Z Z
 intro d s g
 unfold EI at g
 refine rs AA <| rl Z <| AB <| cd Z g (fun aq => ?_) (fun a4 => ?_)
 .refine AE <| AC <| AB <| AH <| rs AA <| rn 1 Z <| bq aq fun bz w au => sx Z (Ab w Z Z Z <| rl Z <| rs AA <| rn 3 Z <| bq au fun n x av => sx Z (T6 x Z Z Z Z <| sx Z (Ac Z Z <| rl Z <| AH ?_)))
  apply lp (a := s) (fun l : Int => ⟨110, [(3, .lpb 0 0), (11, .lpb 1 0), (87, ls 5 Bs b.runs), (88, li (b.runs.length : Int)), (89, li d), (97, ls 5 Bs n), (98, li (n.length : Int)), (99, li l)], [(0, bx (AW b)), (1, bx (Bs bz))], 2⟩) av
  . exact wf hA [(0, 0), (1, 1)] Z Z Z
  intro l b6 i
  unfold Hy at i
  refine rs AA <| rl Z <| AB <| cd Z i (fun aw => ?_) (fun a2 => ?_)
  .refine AE <| AC <| AB <| AH <| rs AA <| bq aw fun cc y ax => sx Z (Ab y Z Z Z <| rl Z <| rs AA <| rl Z <| cd Z ax (fun ay => ?_) (fun a1 => ?_))
   .refine rs AA <| rl Z <| AF <| AN <| AG <| Az ay fun b1 az => AN <| AN <| AG <| Az az fun b2 a0 => AN <| AG ?_
    cases a0
    exact er Z Le.rfl
   exact AE <| Ad <| AC <| rg AA <| rl Z <| Aq a1 (wf hA [(0, 0), (1, 1)] Z Z Z)
  exact AU <| AX <| BH a2 fun b3 a3 => Am <| Ad <| AC <| rg AA <| rl Z <| Aq a3 (wf hA [(0, 0)] Z Z Z)
 refine AU <| AX <| BH a4 fun b4 a5 => Am <| AC <| rs AA <| rl Z <| AF ?_
 cases a5
 exact er Z Le.rfl
end Go.E
