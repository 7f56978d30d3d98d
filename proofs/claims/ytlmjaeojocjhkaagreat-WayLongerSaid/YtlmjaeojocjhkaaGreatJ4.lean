/- Plain functions, and walks in step with them. Written by a program (gen.py). No condition. -/
import Derived.Test.YtlmjaeojocjhkaaGreatJ3
set_option linter.unusedVariables false
set_option linter.unusedSimpArgs false
set_option maxRecDepth 100000
set_option maxHeartbeats 1000000
namespace Go.E
open Go Go.RowKit Go.Proofs
noncomputable def NE (b : Int) (a : Int × Int) : Option ((Int × Int) ⊕ Int) :=
 bif decide (0 < a.1) then some (.inl (AN (a.1 - b), AN (a.2 + a.1))) else some (.inr a.2)
noncomputable def J8 (b : Int) (a : Int) : Option Int :=
 ((bif decide (b < 0) then some true else bif decide (60 < b) then some true else bif decide (a < 1) then some true else some (decide (10 < a)) : Option (Bool))).bind fun (c : Bool) => bif c then some 0 else AQ (NE a) (AN (b - a), 0)
theorem Vq (c : Int) (b : Int) (r : Int) (h : J8 c b = some r) : Az Tryz.prog 161 [.int .i64 c, .int .i64 b] (· = .int .i64 r) := by
 refine fn AA Tryz.func161 Z Z 32 Z [.tmp 4] Z [(0, .p (.int .i64 c)), (1, .p (.int .i64 b))] Z Z fun A hA => ?_
 unfold J8 at h
 refine rs AA <| rl Z <| AB <| jb (fun e : Bool => ⟨32, [(0, li c), (1, li b), (19, lb e)], [], 0⟩) h (fun e g => ?_) (fun e o => ?_)
 .refine rg AA <| rn 3 Z <| gs 8 g Z Z Z (fun i => ?_) (fun j => ?_)
  .exact rl Z <| AL i (wf hA [] Z Z Z)
  refine rn 4 Z <| gs 12 j Z Z Z (fun k => ?_) (fun l => ?_)
  .exact rl Z <| AL k (wf hA [] Z Z Z)
  refine rn 4 Z <| gs 16 l Z Z Z (fun m => ?_) (fun n => ?_)
  .exact rl Z <| AL m (wf hA [] Z Z Z)
  exact rl Z <| AL n (wf hA [] Z Z Z)
 refine cd Z o (fun q => ?_) (fun s => ?_)
 .refine rs AA <| rl Z <| AF <| AG ?_
  cases q
  exact er Z Le.rfl
 refine AE <| AC <| rs AA <| rl Z <| AB <| rs AA <| rl Z <| AH ?_
 apply lp (a := r) (fun d : (Int × Int) => ⟨32, [(0, li d.1), (1, li b), (5, li d.2)], [], 0⟩) s
 . exact wf hA [] Z Z Z
 intro d x f
 unfold NE at f
 refine AB <| rs AA <| rl Z <| cd Z f (fun t => ?_) (fun u => ?_)
 .exact AE <| AC <| AB <| AH <| rg AA <| rl Z <| Ac <| AC <| rg AA <| rl Z <| Ar t (wf hA [] Z Z Z)
 refine AU <| AX <| BK u fun w v => An <| AC <| rs AA <| rl Z <| AF ?_
 cases v
 exact er Z Le.rfl
noncomputable def EO (b : AK) (a : Int) : Option (Int ⊕ Bool) :=
 bif decide (a < (b.elems.length : Int)) then (AY b.elems a).bind fun c => ((bif (c.kind != 4) then some (decide (c.length < b.top)) else some false : Option (Bool))).bind fun (d : Bool) => bif d then some (.inr false) else some (.inl (AN (a + 1))) else some (.inr true)
noncomputable def Fi (a : AK) (b : Int) : Option (Int ⊕ Bool) :=
 bif decide (b < (a.signals.length : Int)) then (AY a.signals b).bind fun e => (AY a.elems e.at_.elem).bind fun c => ((bif (c.kind == 1) then some (decide (c.length < a.margin)) else some false : Option (Bool))).bind fun (d : Bool) => bif d then some (.inr false) else some (.inl (AN (b + 1))) else (AQ (EO a) 0).map .inr
noncomputable def IN (a : AK) : Option Bool :=
 (J8 a.top a.brake).bind fun b => bif decide (a.margin < AN (a.top + b)) then some false else AQ (Fi a) 0
theorem Vr (b : AK) (r : Bool) (h : IN b = some r) : Az Tryz.prog 135 [.agg (AV b)] (· = .bool r) := by
 refine fn AA Tryz.func135 Z Z 62 Z [.tmp 2] Z [(0, .p (.agg (AV b)))] Z Z fun A hA => ?_
 unfold IN at h
 refine rs AA <| rl Z <| AB <| AB ?_
 refine B3 AA mixed [0, 1, 2, 3, 4, 5, 6, 7, 8, 9, 10] 11 (by kernel_rfl) Z Z Z ?_
 refine Av 8 Z <| bq h fun a0 n o => Au Z (A7 (Vq _ _ _ n) (.inl Z) Z Z Z <| BN Z <| AC <| cd Z o (fun q => ?_) (fun s => ?_))
 .refine rs AA <| rl Z <| AF <| AG ?_
  cases q
  exact er Z Le.rfl
 refine AE <| AC <| AB <| rs AA <| rn 2 Z <| sx Z (Ae Z Z <| rl Z <| AH ?_)
 apply lp (a := r) (fun c : Int => ⟨62, [(1, .lpb 0 0), (20, ls 4 BW b.signals), (21, li (b.signals.length : Int)), (22, li c)], [(0, bx (AV b))], 1⟩) s
 . exact wf hA [(0, 0)] Z Z Z
 intro c av g
 unfold Fi at g
 refine rs AA <| rl Z <| AB <| cd Z g (fun t => ?_) (fun ad => ?_)
 .refine AE <| AC <| AB <| AH <| rs AA <| bq t fun ax k u => sx Z (Aj k Z Z Z <| rl Z <| rs AA <| rn 5 Z <| bq u fun ay l v => sx Z (Aj l Z Z Z <| rl Z <| jb (fun e : Bool => ⟨62, [(1, .lpb 0 0), (20, ls 4 BW b.signals), (21, li (b.signals.length : Int)), (22, li c), (42, lb e)], [(0, bx (AV b))], 1⟩) v (fun e w => ?_) (fun e z => ?_)))
  .refine rg AA <| rn 4 Z <| gs 36 w Z Z Z (fun x => ?_) (fun y => ?_)
   .exact rl Z <| AL x (wf hA [(0, 0)] Z Z Z)
   exact rl Z <| AL y (wf hA [(0, 0)] Z Z Z)
  refine cd Z z (fun aa => ?_) (fun ac => ?_)
  .refine rs AA <| rl Z <| AF <| AO <| AG <| A3 aa fun aq ab => AO <| AG ?_
   cases ab
   exact er Z Le.rfl
  exact AE <| Ac <| AC <| rg AA <| rl Z <| Ar ac (wf hA [(0, 0)] Z Z Z)
 refine AU <| AX <| CF ad fun j ae => An <| AC <| AB <| rs AA <| rn 2 Z <| sx Z (Ae Z Z <| rl Z <| AH ?_)
 apply lp (a := j) (fun d : Int => ⟨62, [(1, .lpb 0 0), (45, ls 3 CC b.elems), (46, li (b.elems.length : Int)), (47, li d)], [(0, bx (AV b))], 1⟩) ae
 . exact wf hA [(0, 0)] Z Z Z
 intro d aw i
 unfold EO at i
 refine rs AA <| rl Z <| AB <| cd Z i (fun af => ?_) (fun ao => ?_)
 .refine AE <| AC <| AB <| AH <| rs AA <| bq af fun az m ag => sx Z (Aj m Z Z Z <| rl Z <| jb (fun f : Bool => ⟨62, [(1, .lpb 0 0), (45, ls 3 CC b.elems), (46, li (b.elems.length : Int)), (47, li d), (60, lb f)], [(0, bx (AV b))], 1⟩) ag (fun f ah => ?_) (fun f ak => ?_))
  .refine rg AA <| rn 4 Z <| gs 54 ah Z Z Z (fun ai => ?_) (fun aj => ?_)
   .exact rl Z <| AL ai (wf hA [(0, 0)] Z Z Z)
   exact rl Z <| AL aj (wf hA [(0, 0)] Z Z Z)
  refine cd Z ak (fun al => ?_) (fun an => ?_)
  .refine rs AA <| rl Z <| AF <| AO <| AG <| A3 al fun ar am => AO <| AG ?_
   cases am
   exact er Z Le.rfl
  exact AE <| Ac <| AC <| rg AA <| rl Z <| Ar an (wf hA [(0, 0)] Z Z Z)
 refine AU <| AX <| BK ao fun au ap => An <| AC <| rs AA <| rl Z <| AF ?_
 cases ap
 exact er Z Le.rfl
noncomputable def Dt (b : AK) (a : Int × (List (ByteArray × Bool))) : Option ((Int × (List (ByteArray × Bool))) ⊕ Bool) :=
 bif decide (a.1 < (b.elems.length : Int)) then (Fe a.1 b).bind fun c => bif ((Ah a.2 c).getD false) then some (.inr true) else (Fe a.1 b).bind fun d => some (.inl (AN (a.1 + 1), A2 d true a.2)) else some (.inr false)
noncomputable def Du (b : AK) (a : Int × (List (ByteArray × Bool))) : Option ((Int × (List (ByteArray × Bool))) ⊕ Bool) :=
 bif decide (a.1 < (b.signals.length : Int)) then (Ff a.1 b).bind fun c => bif ((Ah a.2 c).getD false) then some (.inr true) else (Ff a.1 b).bind fun d => some (.inl (AN (a.1 + 1), A2 d true a.2)) else some (.inr false)
noncomputable def Dv (b : AK) (a : Int × (List (ByteArray × Bool))) : Option ((Int × (List (ByteArray × Bool))) ⊕ Bool) :=
 bif decide (a.1 < (b.lines.length : Int)) then (Fg a.1 b).bind fun c => bif ((Ah a.2 c).getD false) then some (.inr true) else (Fg a.1 b).bind fun d => some (.inl (AN (a.1 + 1), A2 d true a.2)) else some (.inr false)
noncomputable def HQ (a : AK) : Option Int :=
 ((bif decide (40 < (a.elems.length : Int)) then some true else bif decide (24 < (a.signals.length : Int)) then some true else bif decide (4 < (a.lines.length : Int)) then some true else some (decide (80 < (a.joins.length : Int))) : Option (Bool))).bind fun (c : Bool) => bif c then some 3 else (Fd a).bind fun h => bif (!h) then some 1 else ((((AQ (Dt a) (0, []) : Option (Bool))).bind fun (e : Bool) => bif e then some true else ((AQ (Du a) (0, []) : Option (Bool))).bind fun (f : Bool) => bif f then some true else ((AQ (Dv a) (0, []) : Option (Bool))).bind fun (g : Bool) => some g : Option (Bool))).bind fun (d : Bool) => bif d then some 4 else (GP a).bind fun b => bif (!b.2) then some 6 else (Fh a b.1).bind fun i => bif (!i) then some 7 else (HP a b.1).bind fun j => bif (!j) then some 8 else (IN a).bind fun k => bif (!k) then some 9 else some 0
theorem Ug (b : AK) (r : Int) (h : HQ b = some r) : Az Tryz.prog 91 [.agg (AV b)] (· = .int .i64 r) := by
 refine fn AA Tryz.func91 Z Z 71 Z [.tmp 2] Z [(0, .p (.agg (AV b)))] Z Z fun A hA => ?_
 unfold HQ at h
 refine rs AA <| rl Z <| AB <| jb (fun j : Bool => ⟨71, [(1, .lpb 0 0), (26, lb j)], [(0, bx (AV b))], 1⟩) h (fun j ad => ?_) (fun j ak => ?_)
 .refine rg AA <| rn 2 Z <| sx Z (Ae Z Z <| rn 2 Z <| gs 9 ad Z Z Z (fun ae => ?_) (fun af => ?_))
  .exact rl Z <| AL ae (wf hA [(0, 0)] Z Z Z)
  refine rn 2 Z <| sx Z (Ae Z Z <| rn 3 Z <| gs 15 af Z Z Z (fun ag => ?_) (fun ah => ?_))
  .exact rl Z <| AL ag (wf hA [(0, 0)] Z Z Z)
  refine rn 2 Z <| sx Z (Ae Z Z <| rn 3 Z <| gs 21 ah Z Z Z (fun ai => ?_) (fun aj => ?_))
  .exact rl Z <| AL ai (wf hA [(0, 0)] Z Z Z)
  exact rn 2 Z <| sx Z (Ae Z Z <| rl Z <| AL aj (wf hA [(0, 0)] Z Z Z))
 refine cd Z ak (fun al => ?_) (fun am => ?_)
 .refine rs AA <| rl Z <| AF <| AG ?_
  cases al
  exact er Z Le.rfl
 refine AE <| AC <| AB <| rs AA <| rn 1 Z <| bq am fun cq s a2 => sx Z (AM (SU _ _ s) (.inl Z) Z Z Z <| rl Z <| cd Z a2 (fun a4 => ?_) (fun a6 => ?_))
 .refine rs AA <| rl Z <| AF <| AG ?_
  cases a4
  exact er Z Le.rfl
 refine AE <| AC <| AB <| jb (fun k : Bool => ⟨71, [(1, .lpb 0 0), (48, lb k)], [(0, bx (AV b))], 1⟩) a6 (fun k an => ?_) (fun k bt => ?_)
 .refine rg AA <| rn 2 Z <| sx Z (Ae Z Z <| rn 1 Z <| sx Z (CT AA (fun f : Bool => lb f) (fun f : Bool => [(0, bx (AV b))]) 1 an Tryz.func128 22 [.tmp 4] [(0, li (b.elems.length : Int)), (1, .fn 129 [.lpb 0 0])] Z Z Z Z Z Z Z Z (fun A hA f ao => ?_) (fun f az => ?_)))
  .refine rs AA <| rl Z <| rs AA <| rl Z <| AB <| rs AA <| rl Z <| AH ?_
   apply lp (a := f) (fun c : (Int × (List (ByteArray × Bool))) => ⟨22, [(1, .fn 129 [.lpb 0 0]), (5, .lmap 1), (8, li (b.elems.length : Int)), (9, li c.1)], [(0, bx (AV b)), (1, .map (Ao .str .bool c.2))], 2⟩) ao
   . exact wj hA [(0, 0), (1, 1)] Z Z Z Z
   intro c cn l
   unfold Dt at l
   refine rs AA <| rl Z <| AB <| cd Z l (fun ap => ?_) (fun ax => ?_)
   .refine AE <| AC <| AB <| AH <| rs AA <| rl Z <| AB <| rs AA <| rn 3 Z <| bq ap fun ca o aq => sx Z (AM (NB _ _ _ o) (.inl Z) Z Z (D1.eq (.cons (.one (.p _)) (.cons (.box Z (.cons (.p _) (.cons (.p _) (.cons (.p _) (.cons (.p _) (.cons (.p _) (.cons (.p _) (.cons (.p _) (.cons (.p _) (.cons (.p _) .nil)))))))))) .nil))) <| sx Z (K4 (et := 4) (ke := .str) (ve := .bool) (mp := c.2) (y := ca) false NF Z Z Z Z <| rl Z <| cd Z aq (fun ar => ?_) (fun av => ?_)))
    .refine rs AA <| rl Z <| AF <| AG <| AO <| AG <| A3 ar fun ch au => AO <| AG ?_
     cases au
     exact CX (nt := 22) (sl := [(4, lb true)]) (wj hA [(0, 0)] Z Z Z Z) Z
    exact AE <| AC <| rg AA <| rn 3 Z <| bq av fun cb q aw => sx Z (AM (NB _ _ _ q) (.inl Z) Z Z (D1.eq (.cons (.one (.p _)) (.cons (.box Z (.cons (.p _) (.cons (.p _) (.cons (.p _) (.cons (.p _) (.cons (.p _) (.cons (.p _) (.cons (.p _) (.cons (.p _) (.cons (.p _) .nil)))))))))) .nil))) <| sx Z (Gq (et := 4) (ke := .str) (ve := .bool) (mp := c.2) (y := cb) (z := true) NF Z Z Z Z Z Z <| rl Z <| Ac <| AC <| rg AA <| rl Z <| Ar aw (wj hA [(0, 0), (1, 1)] Z Z Z Z)))
   refine AU <| AX <| BK ax fun ci ay => An <| AC <| rs AA <| rl Z <| AF ?_
   cases ay
   exact CX (nt := 22) (sl := [(4, lb false)]) (wj hA [(0, 0)] Z Z Z Z) Z
  refine rn 1 Z <| gs 35 az Z Z Z (fun a0 => ?_) (fun a1 => ?_)
  .exact rl Z <| AL a0 (wf hA [(0, 0)] Z Z Z)
  refine rn 2 Z <| sx Z (Ae Z Z <| rn 1 Z <| sx Z (CT AA (fun g : Bool => lb g) (fun g : Bool => [(0, bx (AV b))]) 1 a1 Tryz.func128 22 [.tmp 4] [(0, li (b.signals.length : Int)), (1, .fn 130 [.lpb 0 0])] Z Z Z Z Z Z Z Z (fun A hA g a3 => ?_) (fun g bf => ?_)))
  .refine rs AA <| rl Z <| rs AA <| rl Z <| AB <| rs AA <| rl Z <| AH ?_
   apply lp (a := g) (fun d : (Int × (List (ByteArray × Bool))) => ⟨22, [(1, .fn 130 [.lpb 0 0]), (5, .lmap 1), (8, li (b.signals.length : Int)), (9, li d.1)], [(0, bx (AV b)), (1, .map (Ao .str .bool d.2))], 2⟩) a3
   . exact wj hA [(0, 0), (1, 1)] Z Z Z Z
   intro d co m
   unfold Du at m
   refine rs AA <| rl Z <| AB <| cd Z m (fun a5 => ?_) (fun bc => ?_)
   .refine AE <| AC <| AB <| AH <| rs AA <| rl Z <| AB <| rs AA <| rn 3 Z <| bq a5 fun cc t a7 => sx Z (AM (NC _ _ _ t) (.inl Z) Z Z (D1.eq (.cons (.one (.p _)) (.cons (.box Z (.cons (.p _) (.cons (.p _) (.cons (.p _) (.cons (.p _) (.cons (.p _) (.cons (.p _) (.cons (.p _) (.cons (.p _) (.cons (.p _) .nil)))))))))) .nil))) <| sx Z (K4 (et := 4) (ke := .str) (ve := .bool) (mp := d.2) (y := cc) false NF Z Z Z Z <| rl Z <| cd Z a7 (fun a8 => ?_) (fun ba => ?_)))
    .refine rs AA <| rl Z <| AF <| AG <| AO <| AG <| A3 a8 fun cj a9 => AO <| AG ?_
     cases a9
     exact CX (nt := 22) (sl := [(4, lb true)]) (wj hA [(0, 0)] Z Z Z Z) Z
    exact AE <| AC <| rg AA <| rn 3 Z <| bq ba fun ce u bb => sx Z (AM (NC _ _ _ u) (.inl Z) Z Z (D1.eq (.cons (.one (.p _)) (.cons (.box Z (.cons (.p _) (.cons (.p _) (.cons (.p _) (.cons (.p _) (.cons (.p _) (.cons (.p _) (.cons (.p _) (.cons (.p _) (.cons (.p _) .nil)))))))))) .nil))) <| sx Z (Gq (et := 4) (ke := .str) (ve := .bool) (mp := d.2) (y := ce) (z := true) NF Z Z Z Z Z Z <| rl Z <| Ac <| AC <| rg AA <| rl Z <| Ar bb (wj hA [(0, 0), (1, 1)] Z Z Z Z)))
   refine AU <| AX <| BK bc fun ck be => An <| AC <| rs AA <| rl Z <| AF ?_
   cases be
   exact CX (nt := 22) (sl := [(4, lb false)]) (wj hA [(0, 0)] Z Z Z Z) Z
  refine rn 2 Z <| gs 42 bf Z Z Z (fun bg => ?_) (fun bh => ?_)
  .exact rl Z <| AL bg (wf hA [(0, 0)] Z Z Z)
  refine rn 2 Z <| sx Z (Ae Z Z <| rn 1 Z <| sx Z (CT AA (fun i : Bool => lb i) (fun i : Bool => [(0, bx (AV b))]) 1 bh Tryz.func128 22 [.tmp 4] [(0, li (b.lines.length : Int)), (1, .fn 131 [.lpb 0 0])] Z Z Z Z Z Z Z Z (fun A hA i bi => ?_) (fun i bs => ?_)))
  .refine rs AA <| rl Z <| rs AA <| rl Z <| AB <| rs AA <| rl Z <| AH ?_
   apply lp (a := i) (fun e : (Int × (List (ByteArray × Bool))) => ⟨22, [(1, .fn 131 [.lpb 0 0]), (5, .lmap 1), (8, li (b.lines.length : Int)), (9, li e.1)], [(0, bx (AV b)), (1, .map (Ao .str .bool e.2))], 2⟩) bi
   . exact wj hA [(0, 0), (1, 1)] Z Z Z Z
   intro e cp n
   unfold Dv at n
   refine rs AA <| rl Z <| AB <| cd Z n (fun bj => ?_) (fun bp => ?_)
   .refine AE <| AC <| AB <| AH <| rs AA <| rl Z <| AB <| rs AA <| rn 3 Z <| bq bj fun cf v bk => sx Z (AM (ND _ _ _ v) (.inl Z) Z Z (D1.eq (.cons (.one (.p _)) (.cons (.box Z (.cons (.p _) (.cons (.p _) (.cons (.p _) (.cons (.p _) (.cons (.p _) (.cons (.p _) (.cons (.p _) (.cons (.p _) (.cons (.p _) .nil)))))))))) .nil))) <| sx Z (K4 (et := 4) (ke := .str) (ve := .bool) (mp := e.2) (y := cf) false NF Z Z Z Z <| rl Z <| cd Z bk (fun bl => ?_) (fun bn => ?_)))
    .refine rs AA <| rl Z <| AF <| AG <| AO <| AG <| A3 bl fun cl bm => AO <| AG ?_
     cases bm
     exact CX (nt := 22) (sl := [(4, lb true)]) (wj hA [(0, 0)] Z Z Z Z) Z
    exact AE <| AC <| rg AA <| rn 3 Z <| bq bn fun cg w bo => sx Z (AM (ND _ _ _ w) (.inl Z) Z Z (D1.eq (.cons (.one (.p _)) (.cons (.box Z (.cons (.p _) (.cons (.p _) (.cons (.p _) (.cons (.p _) (.cons (.p _) (.cons (.p _) (.cons (.p _) (.cons (.p _) (.cons (.p _) .nil)))))))))) .nil))) <| sx Z (Gq (et := 4) (ke := .str) (ve := .bool) (mp := e.2) (y := cg) (z := true) NF Z Z Z Z Z Z <| rl Z <| Ac <| AC <| rg AA <| rl Z <| Ar bo (wj hA [(0, 0), (1, 1)] Z Z Z Z)))
   refine AU <| AX <| BK bp fun cm br => An <| AC <| rs AA <| rl Z <| AF ?_
   cases br
   exact CX (nt := 22) (sl := [(4, lb false)]) (wj hA [(0, 0)] Z Z Z Z) Z
  exact rl Z <| AL bs (wf hA [(0, 0)] Z Z Z)
 refine cd Z bt (fun bu => ?_) (fun bv => ?_)
 .refine rs AA <| rl Z <| AF <| AG ?_
  cases bu
  exact er Z Le.rfl
 refine AE <| AC <| rs AA <| rn 1 Z <| bq bv fun cr x bw => sx Z (AM (Ta _ _ x) (.inr Z) Z Z Z <| rl Z <| AB <| AH <| rs AA <| rl Z <| cd Z bw (fun bz => ?_) (fun b0 => ?_))
 .refine rs AA <| rl Z <| AF <| AO <| AG ?_
  cases bz
  exact er Z Le.rfl
 refine rs AA <| rn 2 Z <| bq b0 fun cs aa b1 => sx Z (AM (SV _ _ _ aa) (.inl Z) Z Z Z <| rl Z <| cd Z b1 (fun b2 => ?_) (fun b3 => ?_))
 .refine rs AA <| rl Z <| AF <| AO <| AG ?_
  cases b2
  exact er Z Le.rfl
 refine rs AA <| rn 2 Z <| bq b3 fun ct ab b4 => sx Z (AM (Uf _ _ _ ab) (.inl Z) Z Z Z <| rl Z <| cd Z b4 (fun b5 => ?_) (fun b6 => ?_))
 .refine rs AA <| rl Z <| AF <| AO <| AG ?_
  cases b5
  exact er Z Le.rfl
 refine rs AA <| rn 1 Z <| bq b6 fun cu ac b7 => sx Z (AM (Vr _ _ ac) (.inl Z) Z Z Z <| rl Z <| cd Z b7 (fun b8 => ?_) (fun b9 => ?_))
 .refine rs AA <| rl Z <| AF <| AO <| AG ?_
  cases b8
  exact er Z Le.rfl
 refine AE <| Ac <| AC <| rs AA <| rl Z <| AF ?_
 cases b9
 exact er Z Le.rfl
noncomputable def DX (a : (List C1)) : Option (List C1) :=
 MZ a (some []) ((Bt ([] : List C1) a).bind fun b => some b)
theorem Me (a : (List C1)) (r : (List C1)) (h : DX a = some r) : Az Tryz.prog 103 [.slice 3 (a.map CC)] (· = .slice 3 (r.map CC)) := by
 refine fn AA Tryz.func103 Z Z 8 Z [.tmp 2] Z [(0, .p (.slice 3 (a.map CC)))] Z Z fun A hA => ?_
 unfold DX at h
 refine rs AA <| rl Z <| AB <| rs AA <| rn 1 Z <| sx Z (KV h Z Z Z (fun d => ?_) (fun e => ?_))
 .refine rl Z <| RL Z <| rs AA <| rl Z <| AF <| AG ?_
  cases d
  exact er Z (Le.nil _)
 refine rl Z <| Sr Z <| AE <| AC <| rs AA <| rn 2 Z <| bq e fun f b c => sx Z (BU (enc := CC) (l := ([] : List C1)) (m := a) b (fun _ => ⟨Z, Z⟩) Z Z Z Z Z Z <| rl Z <| AF ?_)
 have hr := Option.some.inj c; subst hr
 exact er (I5 Z (.one (.own (enc := CC) f Z Z))) Le.rfl
noncomputable def DY (a : (List DF)) : Option (List DF) :=
 MZ a (some []) ((Bt ([] : List DF) a).bind fun b => some b)
theorem Mf (a : (List DF)) (r : (List DF)) (h : DY a = some r) : Az Tryz.prog 104 [.slice 4 (a.map C0)] (· = .slice 4 (r.map C0)) := by
 refine fn AA Tryz.func104 Z Z 8 Z [.tmp 2] Z [(0, .p (.slice 4 (a.map C0)))] Z Z fun A hA => ?_
 unfold DY at h
 refine rs AA <| rl Z <| AB <| rs AA <| rn 1 Z <| sx Z (KV h Z Z Z (fun d => ?_) (fun e => ?_))
 .refine rl Z <| RL Z <| rs AA <| rl Z <| AF <| AG ?_
  cases d
  exact er Z (Le.nil _)
 refine rl Z <| Sr Z <| AE <| AC <| rs AA <| rn 2 Z <| bq e fun f b c => sx Z (BU (enc := C0) (l := ([] : List DF)) (m := a) b (fun _ => ⟨Z, Z⟩) Z Z Z Z Z Z <| rl Z <| AF ?_)
 have hr := Option.some.inj c; subst hr
 exact er (I5 Z (.one (.own (enc := C0) f Z Z))) Le.rfl
noncomputable def C5 (a : (List Bw)) : Option (List Bw) :=
 MZ a (some []) ((Bt ([] : List Bw) a).bind fun b => some b)
theorem Ln (a : (List Bw)) (r : (List Bw)) (h : C5 a = some r) : Az Tryz.prog 105 [.slice 4 (a.map BW)] (· = .slice 4 (r.map BW)) := by
 refine fn AA Tryz.func105 Z Z 8 Z [.tmp 2] Z [(0, .p (.slice 4 (a.map BW)))] Z Z fun A hA => ?_
 unfold C5 at h
 refine rs AA <| rl Z <| AB <| rs AA <| rn 1 Z <| sx Z (KV h Z Z Z (fun d => ?_) (fun e => ?_))
 .refine rl Z <| RL Z <| rs AA <| rl Z <| AF <| AG ?_
  cases d
  exact er Z (Le.nil _)
 refine rl Z <| Sr Z <| AE <| AC <| rs AA <| rn 2 Z <| bq e fun f b c => sx Z (BU (enc := BW) (l := ([] : List Bw)) (m := a) b (fun _ => ⟨Z, Z⟩) Z Z Z Z Z Z <| rl Z <| AF ?_)
 have hr := Option.some.inj c; subst hr
 exact er (I5 Z (.one (.own (enc := BW) f Z Z))) Le.rfl
noncomputable def DZ (a : (List C2)) : Option (List C2) :=
 MZ a (some []) ((Bt ([] : List C2) a).bind fun b => some b)
theorem L1 (a : (List C2)) (r : (List C2)) (h : DZ a = some r) : G5 Tryz.prog 106 [.slice 2 (a.map Bg)] 147 2 (r.map Bg) := by
 refine fnN (enc := Bg) (fun _ => ⟨Z, Z⟩) Tryz.func106 Z Z 8 Z 2 Z [(0, .p (.slice 2 (a.map Bg)))] Z Z fun A hA => ?_
 unfold DZ at h
 refine rs AA <| rl Z <| AB <| rs AA <| rn 1 Z <| sx Z (KV h Z Z Z (fun d => ?_) (fun e => ?_))
 .refine rl Z <| RL Z <| rs AA <| rl Z <| AF <| AG ?_
  cases d
  exact AA3 Z
 refine rl Z <| Sr Z <| AE <| AC <| rs AA <| rn 2 Z <| bq e fun f b c => sx Z (BU (enc := Bg) (l := ([] : List C2)) (m := a) b (fun _ => ⟨Z, Z⟩) Z Z Z Z Z Z <| rl Z <| AF ?_)
 have hr := Option.some.inj c; subst hr
 exact erN Z Z Z
noncomputable def Ez (a : (List Int)) : Option (List Int) :=
 MZ a (some []) ((Bt ([] : List Int) a).bind fun b => some b)
theorem PM (a : (List Int)) (r : (List Int)) (h : Ez a = some r) : Az Tryz.prog 107 [.slice 1 (a.map Ad)] (· = .slice 1 (r.map Ad)) := by
 refine fn AA Tryz.func107 Z Z 8 Z [.tmp 2] Z [(0, .p (.slice 1 (a.map Ad)))] Z Z fun A hA => ?_
 unfold Ez at h
 refine rs AA <| rl Z <| AB <| rs AA <| rn 1 Z <| sx Z (KV h Z Z Z (fun d => ?_) (fun e => ?_))
 .refine rl Z <| RL Z <| rs AA <| rl Z <| AF <| AG ?_
  cases d
  exact er Z (Le.nil _)
 refine rl Z <| Sr Z <| AE <| AC <| rs AA <| rn 2 Z <| bq e fun f b c => sx Z (BU (enc := Ad) (l := ([] : List Int)) (m := a) b (fun _ => ⟨Z, Z⟩) Z Z Z Z Z Z <| rl Z <| AF ?_)
 have hr := Option.some.inj c; subst hr
 exact er (I5 Z (.one (.own (enc := Ad) f Z Z))) Le.rfl
end Go.E
/- Plain functions, and walks in step with them. Written by a program (gen.py). No condition. -/
set_option maxRecDepth 100000
set_option maxHeartbeats 1000000
namespace Go.E
open Go Go.RowKit Go.Proofs
noncomputable def GQ (b : AK) (h : (List C1)) (i : (List DF)) (c : (List Bw)) (g : (List C2)) (a : Int × (List C2)) : Option ((Int × (List C2)) ⊕ AK) :=
 bif decide (a.1 < (g.length : Int)) then (AY a.2 a.1).bind fun d => (Ez d.elems).bind fun e => (AY a.2 a.1).bind fun f => some (.inl (AN (a.1 + 1), A4 a.2 a.1 (⟨f.name, e⟩ : C2))) else some (.inr (⟨h, i, c, a.2, b.top, b.brake, b.margin, b.throw, b.hard⟩ : AK))
noncomputable def Hu (a : AK) : Option AK :=
 (DX a.elems).bind fun d => (DY a.joins).bind fun e => (C5 a.signals).bind fun c => (DZ a.lines).bind fun b => AQ (GQ a d e c b) (0, b)
theorem Rg (b : AK) (r : AK) (h : Hu b = some r) : Az Tryz.prog 75 [.agg (AV b)] (· = .agg (AV r)) := by
 refine fn AA Tryz.func75 Z Z 40 Z [.cell 2 27] Z [(0, .p (.agg (AV b)))] Z Z fun A hA => ?_
 unfold Hu at h
 refine rs AA <| rl Z <| AB ?_
 refine B3 AA mixed [0, 1, 2, 3, 4, 5, 6, 7, 8, 9, 10, 11, 12, 13, 14] 15 (by kernel_rfl) Z Z Z ?_
 refine Av 2 Z <| bq h fun ad k x => Au Z (A7 (Me _ _ k) (.inr Z) Z Z Z <| Av 2 Z <| bq x fun ae l m => Au Z (A7 (Mf _ _ l) (.inr Z) Z Z Z <| Av 2 Z <| bq m fun y g t => Au Z (A7 (Ln _ _ g) (.inr Z) Z Z Z <| BN Z <| AC <| rs AA <| rn 2 Z <| bq t fun ac j w => sx Z (AAP (L1 _ _ j) Z Z Z Z <| rl Z <| AB <| rs AA <| rl Z <| AH ?_))))
 apply lp (a := r) (fun c : (Int × (List C2)) => ⟨40, [(1, .lpb 0 0), (2, .lpb 1 0), (22, li (ac.length : Int)), (23, li c.1)], [(0, .box [ls 3 CC ad, ls 4 C0 ae, ls 4 BW y, .lsl 2 2 0 c.2.length, li b.top, li b.brake, li b.margin, li b.throw, lb b.hard]), (1, .box [.p (.nils), .p (.nils), .p (.nils), .p (.nils), li 0, li 0, li 0, li 0, lb false]), (2, .row 147 2 (c.2.map Bg))], 3⟩) w
 . exact wf hA [(0, 0), (1, 1), (2, 17)] Z Z Z
 intro c ag f
 unfold GQ at f
 refine rs AA <| rl Z <| AB <| cd Z f (fun n => ?_) (fun u => ?_)
 .refine AE <| AC <| AB <| AH <| rs AA <| rl Z ?_
  refine B3 AA mixed [0, 1, 2, 3, 4, 5, 6, 7, 8, 9, 10, 11, 12] 13 (by kernel_rfl) Z Z Z ?_
  exact Av 6 Z <| bq n fun ah d o => Au Z (Am Z (Bi d Z Z Z Z <| Av 1 Z <| Au Z (G9 Z (CW d Z Z Z <| bq o fun aa i q => Au Z (A7 (PM _ _ i) (.inr Z) Z Z Z <| bq q fun ab e s => Au Z (Am Z (Bi e Z Z Z Z <| Av 1 Z <| Au Z (Mz Z (Jz (z := (⟨ab.name, aa⟩ : C2)) e Z Z Z Z Z Z Z Z <| BN Z <| Ac <| AC <| rg AA <| rl Z <| Ar s (wk (gi 3 []) (free hA _) Z Z Z (.cons Z (.cons Z (.cons Z (.cons Z .nil)))) (.cons Z (by simp only [BA]; rfl) (.cons Z Z (.cons Z Z .nil)))))))))))))
 refine AU <| AX <| BK u fun af v => An <| AC <| rs AA <| rl Z <| AF ?_
 cases v
 exact er (I5 Z (.agg (.cons (.p _) (.cons (.p _) (.cons (.p _) (.cons (.own (enc := Bg) c.2 Z Z) (.cons (.p _) (.cons (.p _) (.cons (.p _) (.cons (.p _) (.cons (.p _) .nil))))))))))) Le.rfl
noncomputable def Dn (e : (Int × (List (AI × AI)))) (c : (Int × (List (Int × Bl)) × (List (Int × Int)))) (d : C2) (a : Int × Int × (List (Int × Bl)) × (List (Int × Int))) : Option ((Int × Int × (List (Int × Bl)) × (List (Int × Int))) ⊕ ((Int × (List (Int × Bl)) × (List (Int × Int))) ⊕ ((Option Aw) × Int))) :=
 bif decide (a.2.1 < (d.elems.length : Int)) then (AY d.elems a.2.1).bind fun b => some (.inl (((Ah e.2 (⟨b, AN (1 - a.1)⟩ : AI)).getD (⟨0, 0⟩ : AI)).fin, AN (a.2.1 + 1), A2 b (⟨c.1, a.2.1⟩ : Bl) a.2.2.1, A2 b a.1 a.2.2.2)) else some (.inr (.inl (AN (c.1 + 1), a.2.2.1, a.2.2.2)))
noncomputable def Cf (d : AK) (j : AK) (b : (Int × (List (AI × AI)))) (f : (Int × (List (AI × Int)))) (a : Int × (List (Int × Bl)) × (List (Int × Int))) : Option ((Int × (List (Int × Bl)) × (List (Int × Int))) ⊕ ((Option Aw) × Int)) :=
 bif decide (a.1 < (d.lines.length : Int)) then (AY d.lines a.1).bind fun c => ((bif decide (1 < (c.elems.length : Int)) then (AY c.elems 0).bind fun e => ((bif (Ah b.2 (⟨e, 0⟩ : AI)).isSome then (AY c.elems 1).bind fun i => some ((((Ah b.2 (⟨e, 0⟩ : AI)).getD (⟨0, 0⟩ : AI)).elem) == i) else some false : Option (Bool))).bind fun (h : Bool) => bif h then some 1 else some 0 else some 0 : Option (Int))).bind fun (g : Int) => AQ (Dn b a c) (g, 0, a.2.1, a.2.2) else some (.inr (some (⟨j, b.2, f.2, a.2.1, a.2.2⟩ : Aw), 0))
noncomputable def Do (b : AK) (d : AK) (c : (Int × (List (AI × AI)))) (a : Int × (List (AI × Int))) : Option ((Int × (List (AI × Int))) ⊕ ((Option Aw) × Int)) :=
 bif decide (a.1 < (b.signals.length : Int)) then (AY b.signals a.1).bind fun e => some (.inl (AN (a.1 + 1), A2 e.at_ a.1 a.2)) else (AQ (Cf b d c a) (0, [], [])).map .inr
noncomputable def Dp (e : AK) (f : AK) (c : Int × (List (AI × AI))) : Option ((Int × (List (AI × AI))) ⊕ ((Option Aw) × Int)) :=
 bif decide (c.1 < (e.joins.length : Int)) then (AY e.joins c.1).bind fun d => some (.inl (AN (c.1 + 1), A2 d.b d.a (A2 d.a d.b c.2))) else (AQ (Do e f c) (0, [])).map .inr
noncomputable def Ca (a : AK) : Option ((Option Aw) × Int) :=
 (HQ a).bind fun b => bif (b != 0) then some (none, b) else (Hu a).bind fun c => AQ (Dp a c) (0, [])
theorem PJ (d : AK) (r : ((Option Aw) × Int)) (h : Ca d = some r) : Az Tryz.prog 56 [.agg (AV d)] (· = .tup [XK Aq r.1, .int .i64 r.2]) := by
 refine fn AA Tryz.func56 Z Z 148 Z [.tmp 2, .tmp 3] Z [(0, .p (.agg (AV d)))] Z Z fun A hA => ?_
 unfold Ca at h
 refine rs AA <| rl Z <| AB <| rs AA <| rn 1 Z <| bq h fun br ah aj => sx Z (AM (Ug _ _ ah) (.inl Z) Z Z Z <| rl Z <| rs AA <| rl Z <| cd Z aj (fun al => ?_) (fun ay => ?_))
 .refine rs AA <| rl Z <| AF <| AG ?_
  cases al
  exact er Z Le.rfl
 refine AE <| AC <| rs AA <| rn 1 Z <| bq ay fun c af a8 => sx Z (AM (Rg _ _ af) (.inr Z) Z Z Z <| rl Z <| AB <| rs AA <| rn 2 Z <| sx Z (Ae Z Z <| rl Z <| AH ?_))
 apply lp (a := r) (fun f : (Int × (List (AI × AI))) => ⟨148, [(1, .lpb 0 0), (5, .lpb 1 0), (31, ls 4 C0 d.joins), (32, li (d.joins.length : Int)), (33, li f.1)], [(0, bx (AV d)), (1, .box [ls 3 CC c.elems, ls 4 C0 c.joins, ls 4 BW c.signals, ls 2 Bg c.lines, li c.top, li c.brake, li c.margin, li c.throw, lb c.hard, .lmap 2, .lmap 3, .lmap 4, .lmap 5]), (2, .map (Ao (fun x => .agg (AT x)) (fun x => .agg (AT x)) f.2)), (3, .map (Ao (fun x => .agg (AT x)) (.int .i64) [])), (4, .map (Ao (.int .i64) (fun x => .agg (FC x)) [])), (5, .map (Ao (.int .i64) (.int .i64) []))], 6⟩) a8
 . exact wf hA [(0, 0), (1, 5), (2, 1), (3, 2), (4, 3), (5, 4)] Z Z Z
 intro f bo t
 unfold Dp at t
 refine rs AA <| rl Z <| AB <| cd Z t (fun be => ?_) (fun bg => ?_)
 .refine AE <| AC <| AB <| AH <| rs AA <| bq be fun i ai bf => sx Z (Aj ai Z Z Z <| rl Z ?_)
  refine B3 AA mixed [0, 1, 2, 3, 4, 5, 6, 7, 8, 9, 10, 11, 12, 13, 14, 15, 16, 17, 18, 19, 20, 21] 22 (by kernel_rfl) Z Z Z ?_
  exact Av 16 Z <| Au Z (Am Z (RS (et := 40) (ke := (fun x => .agg (AT x))) (ve := (fun x => .agg (AT x))) (mp := f.2) (y := i.a) (⟨0, 0⟩ : AI) CI Z Z Z Z Z Z <| Av 1 Z <| Au Z (Am Z (RT (ke := (fun x => .agg (AT x))) (ve := (fun x => .agg (AT x))) (mp := f.2) (y := i.a) (z := (⟨0, 0⟩ : AI)) (w := i.b) Z Z Z Z Z <| Au Z (Am Z (RS (et := 40) (ke := (fun x => .agg (AT x))) (ve := (fun x => .agg (AT x))) (mp := A2 i.a i.b f.2) (y := i.b) (⟨0, 0⟩ : AI) CI Z Z Z Z Z Z <| Av 1 Z <| Au Z (Am Z (RT (ke := (fun x => .agg (AT x))) (ve := (fun x => .agg (AT x))) (mp := A2 i.a i.b f.2) (y := i.b) (z := (⟨0, 0⟩ : AI)) (w := i.a) Z Z Z Z Z <| BN Z <| Ac <| AC <| rg AA <| rl Z <| Ar bf (wf hA (gi 6 []) Z Z Z)))))))))
 refine AU <| AX <| CF bg fun v bh => An <| AC <| AB <| rs AA <| rn 2 Z <| sx Z (Ae Z Z <| rl Z <| AH ?_)
 apply lp (a := v) (fun j : (Int × (List (AI × Int))) => ⟨148, [(1, .lpb 0 0), (5, .lpb 1 0), (59, ls 4 BW d.signals), (60, li (d.signals.length : Int)), (61, li j.1)], [(0, bx (AV d)), (1, .box [ls 3 CC c.elems, ls 4 C0 c.joins, ls 4 BW c.signals, ls 2 Bg c.lines, li c.top, li c.brake, li c.margin, li c.throw, lb c.hard, .lmap 2, .lmap 3, .lmap 4, .lmap 5]), (2, .map (Ao (fun x => .agg (AT x)) (fun x => .agg (AT x)) f.2)), (3, .map (Ao (fun x => .agg (AT x)) (.int .i64) j.2)), (4, .map (Ao (.int .i64) (fun x => .agg (FC x)) [])), (5, .map (Ao (.int .i64) (.int .i64) []))], 6⟩) bh
 . exact wf hA (gi 6 []) Z Z Z
 intro j bn s
 unfold Do at s
 refine rs AA <| rl Z <| AB <| cd Z s (fun a9 => ?_) (fun bb => ?_)
 .refine AE <| AC <| AB <| AH <| rs AA <| rn 1 Z <| bq a9 fun bj ag ba => sx Z (Aj ag Z Z Z <| rl Z ?_)
  refine B3 AA mixed [0, 1, 2, 3, 4, 5, 6, 7] 8 (by kernel_rfl) Z Z Z ?_
  exact Av 7 Z <| Au Z (Am Z (Gq (et := 3) (ke := (fun x => .agg (AT x))) (ve := (.int .i64)) (mp := j.2) (y := bj.at_) (z := j.1) CI Z Z Z Z Z Z <| BN Z <| Ac <| AC <| rg AA <| rl Z <| Ar ba (wf hA (gi 6 []) Z Z Z)))
 refine AU <| AX <| CF bb fun u bc => An <| AC <| AB <| rs AA <| rn 2 Z <| sx Z (Ae Z Z <| rl Z <| AH ?_)
 apply lp (a := u) (fun e : (Int × (List (Int × Bl)) × (List (Int × Int))) => ⟨148, [(5, .lpb 0 0), (75, ls 2 Bg d.lines), (76, li (d.lines.length : Int)), (77, li e.1)], [(0, .box [ls 3 CC c.elems, ls 4 C0 c.joins, ls 4 BW c.signals, ls 2 Bg c.lines, li c.top, li c.brake, li c.margin, li c.throw, lb c.hard, .lmap 1, .lmap 2, .lmap 3, .lmap 4]), (1, .map (Ao (fun x => .agg (AT x)) (fun x => .agg (AT x)) f.2)), (2, .map (Ao (fun x => .agg (AT x)) (.int .i64) j.2)), (3, .map (Ao (.int .i64) (fun x => .agg (FC x)) e.2.1)), (4, .map (Ao (.int .i64) (.int .i64) e.2.2))], 5⟩) bc
 . exact wf hA [(0, 1), (1, 2), (2, 3), (3, 4), (4, 5)] Z Z Z
 intro e aa o
 unfold Cf at o
 refine rs AA <| rl Z <| AB <| cd Z o (fun ak => ?_) (fun a6 => ?_)
 .refine AE <| AC <| AB <| AH <| rs AA <| rn 1 Z <| bq ak fun k ab am => sx Z (Aj ab Z Z Z <| rl Z <| rs AA <| rl Z <| jb (fun m : Int => ⟨148, [(5, .lpb 0 0), (10, li e.1), (11, .lpb 1 0), (12, li m), (75, ls 2 Bg d.lines), (76, li (d.lines.length : Int)), (77, li e.1)], [(0, .box [ls 3 CC c.elems, ls 4 C0 c.joins, ls 4 BW c.signals, ls 2 Bg c.lines, li c.top, li c.brake, li c.margin, li c.throw, lb c.hard, .lmap 2, .lmap 3, .lmap 4, .lmap 5]), (1, .box [.p (.str k.name), ls 1 Ad k.elems]), (2, .map (Ao (fun x => .agg (AT x)) (fun x => .agg (AT x)) f.2)), (3, .map (Ao (fun x => .agg (AT x)) (.int .i64) j.2)), (4, .map (Ao (.int .i64) (fun x => .agg (FC x)) e.2.1)), (5, .map (Ao (.int .i64) (.int .i64) e.2.2))], 6⟩) am (fun m an => ?_) (fun m a1 => ?_))
  .refine rs AA <| rn 2 Z <| sx Z (Ae Z Z <| rl Z <| cd Z an (fun ao => ?_) (fun a0 => ?_))
   .refine AB ?_
    refine B3 AA mixed [0, 1, 2, 3, 4, 5, 6, 7, 8, 9, 10, 11, 12, 13, 14, 15] 16 (by kernel_rfl) Z Z Z ?_
    refine Av 6 Z <| bq ao fun bi ac ap => Au Z (Am Z (Aj ac Z Z Z <| Av 2 Z <| Au Z (Am Z (J0 (et := 40) (ke := (fun x => .agg (AT x))) (ve := (fun x => .agg (AT x))) (mp := f.2) (y := (⟨bi, 0⟩ : AI)) (⟨0, 0⟩ : AI) CI Z Z Z Z <| BN Z <| AC <| jb (fun n : Bool => ⟨148, [(5, .lpb 0 0), (10, li e.1), (11, .lpb 1 0), (12, li 0), (75, ls 2 Bg d.lines), (76, li (d.lines.length : Int)), (77, li e.1), (108, lb n)], [(0, .box [ls 3 CC c.elems, ls 4 C0 c.joins, ls 4 BW c.signals, ls 2 Bg c.lines, li c.top, li c.brake, li c.margin, li c.throw, lb c.hard, .lmap 2, .lmap 3, .lmap 4, .lmap 5]), (1, .box [.p (.str k.name), ls 1 Ad k.elems]), (2, .map (Ao (fun x => .agg (AT x)) (fun x => .agg (AT x)) f.2)), (3, .map (Ao (fun x => .agg (AT x)) (.int .i64) j.2)), (4, .map (Ao (.int .i64) (fun x => .agg (FC x)) e.2.1)), (5, .map (Ao (.int .i64) (.int .i64) e.2.2))], 6⟩) ap (fun n aq => ?_) (fun n aw => ?_)))))
    .refine B3 AA mixed [0, 1, 2, 3, 4, 5, 6, 7, 8, 9] 10 (by kernel_rfl) Z Z Z ?_
     refine Av 2 Z <| FF 100 aq Z Z Z (fun ar => ?_) (fun av => ?_)
     .exact Av 4 Z <| bq ar fun bp ad au => Au Z (Am Z (Aj ad Z Z Z <| BN Z <| AL au (wf hA [(0, 0), (1, 5), (2, 1), (3, 2), (4, 3), (5, 4)] Z Z Z)))
     exact BN Z <| AL av (wf hA [(0, 0), (1, 5), (2, 1), (3, 2), (4, 3), (5, 4)] Z Z Z)
    refine cd Z aw (fun ax => ?_) (fun az => ?_)
    .exact rg AA <| rl Z <| AL ax (wf hA (gi 6 []) Z Z Z)
    exact AE <| AL az (wf hA (gi 6 []) Z Z Z)
   exact AE <| AL a0 (wf hA [(0, 0), (1, 5), (2, 1), (3, 2), (4, 3), (5, 4)] Z Z Z)
  refine rs AA <| rn 2 Z <| sx Z (Ae Z Z <| rl Z <| AH ?_)
  apply lp (a := aa) (fun g : (Int × Int × (List (Int × Bl)) × (List (Int × Int))) => ⟨148, [(5, .lpb 0 0), (10, li e.1), (12, li g.1), (75, ls 2 Bg d.lines), (76, li (d.lines.length : Int)), (77, li e.1), (110, ls 1 Ad k.elems), (111, li (k.elems.length : Int)), (112, li g.2.1)], [(0, .box [ls 3 CC c.elems, ls 4 C0 c.joins, ls 4 BW c.signals, ls 2 Bg c.lines, li c.top, li c.brake, li c.margin, li c.throw, lb c.hard, .lmap 1, .lmap 2, .lmap 3, .lmap 4]), (1, .map (Ao (fun x => .agg (AT x)) (fun x => .agg (AT x)) f.2)), (2, .map (Ao (fun x => .agg (AT x)) (.int .i64) j.2)), (3, .map (Ao (.int .i64) (fun x => .agg (FC x)) g.2.2.1)), (4, .map (Ao (.int .i64) (.int .i64) g.2.2.2))], 5⟩) a1
  . exact wf hA [(0, 0), (1, 2), (2, 3), (3, 4), (4, 5)] Z Z Z
  intro g bm q
  unfold Dn at q
  refine rs AA <| rl Z <| AB <| cd Z q (fun a2 => ?_) (fun a4 => ?_)
  .refine AE <| AC <| AB <| AH <| rs AA <| rn 1 Z <| bq a2 fun l ae a3 => sx Z (Aj ae Z Z Z <| rl Z <| AB ?_)
   refine B3 AA mixed [0, 1, 2, 3, 4, 5, 6, 7, 8, 9, 10, 11, 12, 13, 14, 15, 16, 17, 18, 19] 20 (by kernel_rfl) Z Z Z ?_
   exact Av 14 Z <| Au Z (Am Z (RS (et := 161) (ke := (.int .i64)) (ve := (fun x => .agg (FC x))) (mp := g.2.2.1) (y := l) (⟨0, 0⟩ : Bl) GJ Z Z Z Z Z Z <| Av 1 Z <| Au Z (Am Z (RT (ke := (.int .i64)) (ve := (fun x => .agg (FC x))) (mp := g.2.2.1) (y := l) (z := (⟨0, 0⟩ : Bl)) (w := (⟨e.1, g.2.1⟩ : Bl)) Z Z Z Z Z <| Au Z (Am Z (RS (et := 3) (ke := (.int .i64)) (ve := (.int .i64)) (mp := g.2.2.2) (y := l) 0 GJ Z Z Z Z Z Z <| Av 1 Z <| Au Z (Am Z (RT (ke := (.int .i64)) (ve := (.int .i64)) (mp := g.2.2.2) (y := l) (z := 0) (w := g.1) Z Z Z Z Z <| BN Z <| AC <| rg AA <| rn 8 Z <| sx Z (K4 (et := 40) (ke := (fun x => .agg (AT x))) (ve := (fun x => .agg (AT x))) (mp := f.2) (y := (⟨l, AN (1 - g.1)⟩ : AI)) (⟨0, 0⟩ : AI) CI Z Z Z Z <| rl Z <| Ac <| AC <| rg AA <| rl Z <| Ar a3 (wf hA (gi 5 []) Z Z Z))))))))))
  exact AU <| AX <| BK a4 fun bk a5 => An <| Ac <| AC <| rg AA <| rl Z <| Ar a5 (wf hA (gi 5 []) Z Z Z)
 refine AU <| AX <| BK a6 fun bl a7 => An <| AC <| rs AA <| rl Z <| AF ?_
 cases a7
 exact er (UR Z (.cons (.box Z (.cons (.p _) (.cons (.p _) (.cons (.p _) (.cons (.p _) (.cons (.p _) (.cons (.p _) (.cons (.p _) (.cons (.p _) (.cons (.p _) (.cons (.map Z) (.cons (.map Z) (.cons (.map Z) (.cons (.map Z) .nil)))))))))))))) (.cons (.one (.p _)) .nil))) Le.rfl
noncomputable def D4 (a : Aw) : Option Int :=
 some (a.p.signals.length : Int)
theorem QA (a : Aw) (r : Int) (h : D4 a = some r) : Az Tryz.prog 111 [.place (Aq a) 0] (· = .int .i64 r) := by
 refine fn AA Tryz.func111 Z Z 9 Z [.tmp 2] Z [(0, .p (.place (Aq a) 0))] Z Z fun A hA => ?_
 unfold D4 at h
 refine rs AA <| rl Z <| rs AA <| rn 5 Z <| sx Z (Ae Z Z <| rl Z <| AF ?_)
 cases h
 exact er Z Le.rfl
noncomputable def Cd (b : Aw) (a : Int) : Option (AI × Bool) :=
 ((bif decide (a < 0) then some true else some (decide ((b.p.signals.length : Int) <= a)) : Option (Bool))).bind fun (c : Bool) => bif c then some ((⟨0, 0⟩ : AI), false) else (AY b.p.signals a).bind fun d => some (d.at_, true)
theorem HG (a : Aw) (b : Int) (r : (AI × Bool)) (h : Cd a b = some r) : Az Tryz.prog 37 [.place (Aq a) 0, .int .i64 b] (· = .tup [.agg (AT r.1), .bool r.2]) := by
 refine fn AA Tryz.func37 Z Z 28 Z [.cell 4 40, .tmp 5] Z [(0, .p (.place (Aq a) 0)), (1, .p (.int .i64 b))] Z Z fun A hA => ?_
 unfold Cd at h
 refine rs AA <| rl Z <| AB <| jb (fun c : Bool => ⟨28, [(0, lq (Aq a)), (1, li b), (4, .lpb 0 0), (17, lb c)], [(0, .box [li 0, li 0])], 1⟩) h (fun c e => ?_) (fun c i => ?_)
 .refine rg AA <| rn 3 Z <| gs 8 e Z Z Z (fun f => ?_) (fun g => ?_)
  .exact rl Z <| AL f (wf hA [(0, 0)] Z Z Z)
  exact rn 6 Z <| sx Z (Ae Z Z <| rl Z <| AL g (wf hA [(0, 0)] Z Z Z))
 refine cd Z i (fun j => ?_) (fun k => ?_)
 .refine rs AA <| rl Z <| AF <| AG ?_
  cases j
  exact er Z Le.rfl
 refine AE <| AC <| rs AA <| rn 6 Z <| bq k fun m d l => sx Z (Aj d Z Z Z <| rl Z <| AF ?_)
 cases l
 exact er Z Le.rfl
noncomputable def Bd (a : Aw) (b : AI) : Option (AI × Bool) :=
 some (((Ah a.next b).getD (⟨0, 0⟩ : AI)), (Ah a.next b).isSome)
theorem CE (a : Aw) (b : AI) (r : (AI × Bool)) (h : Bd a b = some r) : Az Tryz.prog 72 [.place (Aq a) 0, .agg (AT b)] (· = .tup [.agg (AT r.1), .bool r.2]) := by
 refine fn AA Tryz.func72 Z Z 19 Z [.cell 4 40, .tmp 5] Z [(0, .p (.place (Aq a) 0)), (1, .p (.agg (AT b)))] Z Z fun A hA => ?_
 unfold Bd at h
 refine rs AA <| rl Z <| AB ?_
 refine B3 AA mixed [0, 1, 2, 3, 4, 5, 6, 7, 8, 9, 10, 11] 12 (by kernel_rfl) Z Z Z ?_
 refine Av 5 Z <| Au Z (Am Z (J0 (et := 40) (ke := (fun x => .agg (AT x))) (ve := (fun x => .agg (AT x))) (mp := a.next) (y := b) (⟨0, 0⟩ : AI) CI Z Z Z Z <| BN Z <| AC <| rs AA <| rl Z <| AF ?_))
 cases h
 exact er Z Le.rfl
noncomputable def D5 (a : Ab) (b : Int) : Option Bool :=
 some (a.elem == b)
theorem QB (a : Ab) (b : Int) (r : Bool) (h : D5 a b = some r) : Az Tryz.prog 165 [.agg (Ax a), .place (Ad b) 0] (· = .bool r) := by
 refine fn AA Tryz.func165 Z Z 8 Z [.tmp 3] Z [(0, .p (.agg (Ax a))), (1, .p (.place (Ad b) 0))] Z Z fun A hA => ?_
 unfold D5 at h
 refine rs AA <| rl Z <| rs AA <| rl Z <| AF ?_
 cases h
 exact er Z Le.rfl
noncomputable def BP (b : (List Ab)) (x1_0 : Int) (a : Int) : Option (Int ⊕ Int) :=
 bif decide (a < (b.length : Int)) then (AY b a).bind fun c => (D5 c x1_0).bind fun d => bif d then some (.inr a) else some (.inl (AN (a + 1))) else some (.inr (-1))
noncomputable def Bo (b : (List Ab)) (x1_0 : Int) : Option Bool :=
 ((AQ (BP b x1_0) 0 : Option (Int))).bind fun (a : Int) => some (decide (0 <= a))
theorem H3 (b : (List Ab)) (x1_0 : Int) (r : Bool) (h : Bo b x1_0 = some r) : Az Tryz.prog 150 [.slice 3 (b.map Ax), .fn 165 [.place (Ad x1_0) 0]] (· = .bool r) := by
 refine fn AA Tryz.func150 Z Z 9 Z [.tmp 4] Z [(0, .p (.slice 3 (b.map Ax))), (1, .p (.fn 165 [.place (Ad x1_0) 0]))] Z Z fun A hA => ?_
 unfold Bo at h
 refine LW (ZQ 1 Z) <| rs AA <| rl Z <| rs AA <| rn 2 Z <| sx Z (CT AA (fun c : Int => li c) (fun c : Int => []) 0 h Tryz.func167 19 [.tmp 4] [(0, ls 3 Ax b), (1, .fn 165 [lq (Ad x1_0)])] Z Z Z Z Z Z Z Z (fun A hA c i => ?_) (fun c t => ?_))
 .refine rs AA <| rl Z <| AB <| rs AA <| rn 1 Z <| sx Z (Ae Z Z <| rl Z <| AH ?_)
  apply lp (a := c) (fun d : Int => ⟨19, [(0, ls 3 Ax b), (1, .fn 165 [lq (Ad x1_0)]), (7, li (b.length : Int)), (8, li d)], [], 0⟩) i
  . exact wj hA [] Z Z Z Z
  intro d w e
  unfold BP at e
  refine rs AA <| rl Z <| AB <| cd Z e (fun j => ?_) (fun q => ?_)
  .refine AE <| AC <| AB <| AH <| rs AA <| rl Z <| rs AA <| rn 3 Z <| bq j fun x f k => sx Z (Aj f Z Z Z <| rn 1 Z <| bq k fun y g l => sx Z (AM (QB _ _ _ g) (.inl Z) Z Z Z <| rl Z <| cd Z l (fun m => ?_) (fun o => ?_)))
   .refine rs AA <| rl Z <| AF <| AO <| AG <| A3 m fun u n => AO <| AG ?_
    have hr := Option.some.inj n; subst hr
    exact CX (nt := 19) (sl := [(4, li d)]) (wj hA [] Z Z Z Z) Z
   exact AE <| Ac <| AC <| rg AA <| rl Z <| Ar o (wj hA [] Z Z Z Z)
  refine AU <| AX <| BK q fun v s => An <| AC <| rs AA <| rl Z <| AF ?_
  cases s
  exact CX (nt := 19) (sl := [(4, li (-1))]) (wj hA [] Z Z Z Z) Z
 refine rl Z <| AF ?_
 cases t
 exact er Z Le.rfl
noncomputable def E0 (a : N4) (b : Int) : Option Bool :=
 ((bif decide ((a.steps.length : Int) < 12) then bif (b != a.berth) then (Bo a.steps b).bind fun d => some (!d) else some false else some false : Option (Bool))).bind fun (c : Bool) => some c
theorem Rh (b : N4) (c : Int) (r : Bool) (h : E0 b c = some r) : Az Tryz.prog 146 [.place (S5 b) 0, .int .i64 c] (· = .bool r) := by
 refine fn AA Tryz.func146 Z Z 28 Z [.tmp 4] Z [(0, .p (.place (S5 b) 0)), (1, .p (.int .i64 c))] Z Z fun A hA => ?_
 unfold E0 at h
 refine rs AA <| rl Z <| jb (fun a : Bool => ⟨28, [(4, lb a)], [], 0⟩) h (fun a k => ?_) (fun a j => ?_)
 .refine B3 AA mixed [0, 1, 2, 3, 4, 5, 6, 7, 8, 9, 10, 11, 12, 13, 14, 15, 16, 17, 18, 19, 20, 21, 22, 23] 24 (by kernel_rfl) Z Z Z ?_
  refine Av 4 Z <| Au Z (KT Z Z <| Av 2 Z <| FF 11 k Z Z Z (fun l => ?_) (fun i => ?_))
  .refine Av 8 Z <| FF 19 l Z Z Z (fun e => ?_) (fun g => ?_)
   .exact Av 5 Z <| bq e fun m d f => Au Z (A7 (H3 _ _ _ d) (.inl Z) Z Z (D1.eq (.cons (.one (.p _)) (.cons (.fn (.box Z (.cons (.p _) .nil) .nil)) .nil))) <| BN Z <| AL f (wf hA [] Z Z Z))
   exact BN Z <| AL g (wf hA [] Z Z Z)
  exact BN Z <| AL i (wf hA [] Z Z Z)
 refine AF ?_
 have hr := Option.some.inj j; subst hr
 exact er Z Le.rfl
noncomputable def EP (b : Aw) (a : Int) : Option C1 :=
 ((bif decide (a < 0) then some true else some (decide ((b.p.elems.length : Int) <= a)) : Option (Bool))).bind fun (c : Bool) => bif c then some (⟨ByteArray.empty, 0, 0⟩ : C1) else (AY b.p.elems a).bind fun d => some d
theorem NG (a : Aw) (b : Int) (r : C1) (h : EP a b = some r) : Az Tryz.prog 69 [.place (Aq a) 0, .int .i64 b] (· = .agg (CC r)) := by
 refine fn AA Tryz.func69 Z Z 26 Z [.cell 4 123] Z [(0, .p (.place (Aq a) 0)), (1, .p (.int .i64 b))] Z Z fun A hA => ?_
 unfold EP at h
 refine rs AA <| rl Z <| AB <| jb (fun c : Bool => ⟨26, [(0, lq (Aq a)), (1, li b), (4, .lpb 0 0), (16, lb c)], [(0, .box [.p (.str ByteArray.empty), li 0, li 0])], 1⟩) h (fun c e => ?_) (fun c i => ?_)
 .refine rg AA <| rn 3 Z <| gs 7 e Z Z Z (fun f => ?_) (fun g => ?_)
  .exact rl Z <| AL f (wf hA [(0, 0)] Z Z Z)
  exact rn 6 Z <| sx Z (Ae Z Z <| rl Z <| AL g (wf hA [(0, 0)] Z Z Z))
 refine cd Z i (fun j => ?_) (fun k => ?_)
 .refine rs AA <| rl Z <| AF <| AG ?_
  cases j
  exact er Z Le.rfl
 refine AE <| AC <| rs AA <| rn 6 Z <| bq k fun m d l => sx Z (Aj d Z Z Z <| rl Z <| AF ?_)
 have hr := Option.some.inj l; subst hr
 exact er Z Le.rfl
noncomputable def BT (a : Aw) (b : Int) : Option Int :=
 (EP a b).bind fun c => some c.kind
theorem Bu (a : Aw) (b : Int) (r : Int) (h : BT a b = some r) : Az Tryz.prog 38 [.place (Aq a) 0, .int .i64 b] (· = .int .i64 r) := by
 refine fn AA Tryz.func38 Z Z 9 Z [.tmp 4] Z [(0, .p (.place (Aq a) 0)), (1, .p (.int .i64 b))] Z Z fun A hA => ?_
 unfold BT at h
 refine rs AA <| rl Z <| rs AA <| rn 2 Z <| bq h fun e c d => sx Z (AM (NG _ _ _ c) (.inl Z) Z Z Z <| rl Z <| AF ?_)
 cases d
 exact er Z Le.rfl
noncomputable def ER (c : Aw) (d : Int) (a : Int) : Option (List Bj) :=
 ((bif decide (a < 0) then some true else (BT c d).bind fun f => (FB f).bind fun g => some (decide (g <= a)) : Option (Bool))).bind fun (e : Bool) => bif e then some [] else (BT c d).bind fun b => bif (b == 1) then some [(⟨AN (1 - a), 0⟩ : Bj)] else bif (b == 3) then (AY ([1, 0, 3, 2] : List Int) a).bind fun h => some [(⟨h, 0⟩ : Bj)] else bif (b == 2) then bif (a == 0) then some [(⟨1, 1⟩ : Bj), (⟨2, 2⟩ : Bj)] else (AY ([0, 1, 2] : List Int) a).bind fun i => some [(⟨0, i⟩ : Bj)] else some []
theorem NH (b : Aw) (c : Int) (a : Int) (r : (List Bj)) (h : ER b c a = some r) : Az Tryz.prog 166 [.place (Aq b) 0, .int .i64 c, .int .i64 a] (· = .slice 2 (r.map Dy)) := by
 refine fn AA Tryz.func166 Z Z 47 Z [.tmp 6] Z [(0, .p (.place (Aq b) 0)), (1, .p (.int .i64 c)), (2, .p (.int .i64 a))] Z Z fun A hA => ?_
 unfold ER at h
 refine rs AA <| rl Z <| AB <| jb (fun d : Bool => ⟨47, [(0, lq (Aq b)), (1, li c), (2, li a), (17, lb d)], [], 0⟩) h (fun d m => ?_) (fun d t => ?_)
 .refine rg AA <| rn 3 Z <| gs 10 m Z Z Z (fun n => ?_) (fun o => ?_)
  .exact rl Z <| AL n (wf hA [] Z Z Z)
  exact rn 3 Z <| bq o fun ak f q => sx Z (AM (Bu _ _ _ f) (.inl Z) Z Z Z <| bq q fun al i s => sx Z (AM (J5 _ _ i) (.inl Z) Z Z Z <| rl Z <| AL s (wf hA [] Z Z Z)))
 refine cd Z t (fun u => ?_) (fun v => ?_)
 .refine rs AA <| rl Z <| AF <| AG ?_
  cases u
  exact er Z (Le.nil _)
 refine AE <| AC <| AB <| rs AA <| rn 2 Z <| bq v fun am j w => sx Z (AM (Bu _ _ _ j) (.inl Z) Z Z Z <| rl Z <| AH <| rs AA <| rl Z <| cd Z w (fun x => ?_) (fun z => ?_))
 .refine rs AA <| rl Z <| AF <| AO <| AG ?_
  cases x
  exact er (I5 Z (.one (.own (enc := Dy) ([(⟨AN (1 - a), 0⟩ : Bj)] : List Bj) Z Z))) Le.rfl
 refine rs AA <| rl Z <| cd Z z (fun aa => ?_) (fun ac => ?_)
 .refine rs AA <| rl Z <| rs AA <| rn 1 Z <| bq aa fun ai e ab => sx Z (W9 (l := ([1, 0, 3, 2] : List Int)) e Z Z Z Z <| sx Z (XB (g := fun y => .p (.int .i64 y)) e Z Z Z Z <| rl Z <| AF <| AO <| AG ?_))
  cases ab
  exact er (I5 Z (.one (.own (enc := Dy) ([(⟨ai, 0⟩ : Bj)] : List Bj) Z Z))) Le.rfl
 refine rs AA <| rl Z <| cd Z ac (fun ad => ?_) (fun ah => ?_)
 .refine AB <| rs AA <| rl Z <| cd Z ad (fun ae => ?_) (fun af => ?_)
  .refine rs AA <| rl Z <| AF <| AG <| AO <| AG ?_
   cases ae
   exact er (I5 Z (.one (.own (enc := Dy) ([(⟨1, 1⟩ : Bj), (⟨2, 2⟩ : Bj)] : List Bj) Z Z))) Le.rfl
  refine AE <| AC <| rs AA <| rn 2 Z <| bq af fun aj k ag => sx Z (ABw (l := ([0, 1, 2] : List Int)) (g := fun y => .int .i64 y) k Z Z Z Z <| rl Z <| AF <| AO <| AG ?_)
  cases ag
  exact er (I5 Z (.one (.own (enc := Dy) ([(⟨0, aj⟩ : Bj)] : List Bj) Z Z))) Le.rfl
 refine AE <| Ac <| AC <| rs AA <| rl Z <| AF ?_
 cases ah
 exact er Z (Le.nil _)
noncomputable def BX (a : (List Ab)) : Option (List Ab) :=
 MZ a (some []) ((Bt ([] : List Ab) a).bind fun b => some b)
theorem Mg (a : (List Ab)) (r : (List Ab)) (h : BX a = some r) : Az Tryz.prog 113 [.slice 3 (a.map Ax)] (· = .slice 3 (r.map Ax)) := by
 refine fn AA Tryz.func113 Z Z 8 Z [.tmp 2] Z [(0, .p (.slice 3 (a.map Ax)))] Z Z fun A hA => ?_
 unfold BX at h
 refine rs AA <| rl Z <| AB <| rs AA <| rn 1 Z <| sx Z (KV h Z Z Z (fun d => ?_) (fun e => ?_))
 .refine rl Z <| RL Z <| rs AA <| rl Z <| AF <| AG ?_
  cases d
  exact er Z (Le.nil _)
 refine rl Z <| Sr Z <| AE <| AC <| rs AA <| rn 2 Z <| bq e fun f b c => sx Z (BU (enc := Ax) (l := ([] : List Ab)) (m := a) b (fun _ => ⟨Z, Z⟩) Z Z Z Z Z Z <| rl Z <| AF ?_)
 have hr := Option.some.inj c; subst hr
 exact er (I5 Z (.one (.own (enc := Ax) f Z Z))) Le.rfl
theorem Ef (a : (List Ab)) (r : (List Ab)) (h : BX a = some r) : G5 Tryz.prog 113 [.slice 3 (a.map Ax)] 76 3 (r.map Ax) := by
 refine fnN (enc := Ax) (fun _ => ⟨Z, Z⟩) Tryz.func113 Z Z 8 Z 2 Z [(0, .p (.slice 3 (a.map Ax)))] Z Z fun A hA => ?_
 unfold BX at h
 refine rs AA <| rl Z <| AB <| rs AA <| rn 1 Z <| sx Z (KV h Z Z Z (fun d => ?_) (fun e => ?_))
 .refine rl Z <| RL Z <| rs AA <| rl Z <| AF <| AG ?_
  cases d
  exact AA3 Z
 refine rl Z <| Sr Z <| AE <| AC <| rs AA <| rn 2 Z <| bq e fun f b c => sx Z (BU (enc := Ax) (l := ([] : List Ab)) (m := a) b (fun _ => ⟨Z, Z⟩) Z Z Z Z Z Z <| rl Z <| AF ?_)
 have hr := Option.some.inj c; subst hr
 exact erN Z Z Z
noncomputable def CZ (a : Aw) (b : AI) : Option Int :=
 bif (Ah a.reads b).isSome then some ((Ah a.reads b).getD 0) else some (-1)
theorem Gt (a : Aw) (b : AI) (r : Int) (h : CZ a b = some r) : Az Tryz.prog 43 [.place (Aq a) 0, .agg (AT b)] (· = .int .i64 r) := by
 refine fn AA Tryz.func43 Z Z 18 Z [.tmp 4] Z [(0, .p (.place (Aq a) 0)), (1, .p (.agg (AT b)))] Z Z fun A hA => ?_
 unfold CZ at h
 refine rs AA <| rl Z <| AB <| AB ?_
 refine B3 AA mixed [0, 1, 2, 3, 4, 5, 6, 7, 8, 9, 10] 11 (by kernel_rfl) Z Z Z ?_
 refine Av 5 Z <| Au Z (Am Z (J0 (et := 3) (ke := (fun x => .agg (AT x))) (ve := (.int .i64)) (mp := a.reads) (y := b) 0 CI Z Z Z Z <| BN Z <| AC <| rs AA <| rl Z <| cd Z h (fun c => ?_) (fun d => ?_)))
 .refine rs AA <| rl Z <| AF <| AG ?_
  cases c
  exact er Z Le.rfl
 refine AE <| AC <| rs AA <| rl Z <| AF ?_
 cases d
 exact er Z Le.rfl
end Go.E
/- Plain functions, and walks in step with them. Written by a program (gen.py). No condition. -/
set_option maxRecDepth 100000
set_option maxHeartbeats 1000000
namespace Go.E
open Go Go.RowKit Go.Proofs
noncomputable def Lo (b : ((List Ab) × (List Int) × (List (List Bj)))) (d : (List Ab)) (a : Int × (List Ap)) : Option ((Int × (List Ap)) ⊕ ((List Ab) × (List Ap))) :=
 bif decide (a.1 < (b.1.length : Int)) then (((AY b.1 a.1).bind fun e => (AY b.2.1 a.1).bind fun f => bif (f != 0) then (AY b.2.1 a.1).bind fun g => (Bt a.2 [(⟨e.elem, g⟩ : Ap)]).bind fun h => some h else some a.2 : Option ((List Ap)))).bind fun (c : (List Ap)) => some (.inl (AN (a.1 + 1), c)) else some (.inr (d, a.2))
noncomputable def Lp (a : ((List Al) × (List Ab) × (List Int) × (List (List Bj)))) (c : Bj) (d : Ab) (f : (List Ab)) (b : Int × (List Ap)) : Option ((Int × (List Ap)) ⊕ ((List Ab) × (List Ap))) :=
 bif decide (b.1 < ((A4 a.2.1 (AN ((a.2.1.length : Int) - 1)) (⟨d.elem, d.in_, c.out⟩ : Ab)).length : Int)) then (((AY (A4 a.2.1 (AN ((a.2.1.length : Int) - 1)) (⟨d.elem, d.in_, c.out⟩ : Ab)) b.1).bind fun g => (AY (A4 a.2.2.1 (AN ((a.2.1.length : Int) - 1)) c.pos) b.1).bind fun h => bif (h != 0) then (AY (A4 a.2.2.1 (AN ((a.2.1.length : Int) - 1)) c.pos) b.1).bind fun i => (Bt b.2 [(⟨g.elem, i⟩ : Ap)]).bind fun j => some j else some b.2 : Option ((List Ap)))).bind fun (e : (List Ap)) => some (.inl (AN (b.1 + 1), e)) else some (.inr (f, b.2))
noncomputable def Lq (a : ((List Al) × (List Ab) × (List Int) × (List (List Bj)))) (c : Bj) (d : Ab) (f : (List Ab)) (b : Int × (List Ap)) : Option ((Int × (List Ap)) ⊕ ((List Ab) × (List Ap))) :=
 bif decide (b.1 < ((A4 a.2.1 (AN ((a.2.1.length : Int) - 1)) (⟨d.elem, d.in_, c.out⟩ : Ab)).length : Int)) then (((AY (A4 a.2.1 (AN ((a.2.1.length : Int) - 1)) (⟨d.elem, d.in_, c.out⟩ : Ab)) b.1).bind fun g => (AY (A4 a.2.2.1 (AN ((a.2.1.length : Int) - 1)) c.pos) b.1).bind fun h => bif (h != 0) then (AY (A4 a.2.2.1 (AN ((a.2.1.length : Int) - 1)) c.pos) b.1).bind fun i => (Bt b.2 [(⟨g.elem, i⟩ : Ap)]).bind fun j => some j else some b.2 : Option ((List Ap)))).bind fun (e : (List Ap)) => some (.inl (AN (b.1 + 1), e)) else some (.inr (f, b.2))
noncomputable def CD (i : Aw) (j : Int) (a : (List Al) × (List Ab) × (List Int) × (List (List Bj))) : Option (((List Al) × (List Ab) × (List Int) × (List (List Bj))) ⊕ ((Int × Int × (List Al) × (List Ab) × (List Int) × (List (List Bj))) ⊕ (List Al))) :=
 bif decide (0 < (a.2.1.length : Int)) then (AY a.2.2.2 (AN ((a.2.1.length : Int) - 1))).bind fun n => bif ((n.length : Int) == 0) then (((ME a.2.1 0 (AN ((a.2.1.length : Int) - 1))).bind fun o => (ME a.2.2.1 0 (AN ((a.2.1.length : Int) - 1))).bind fun p => (ME a.2.2.2 0 (AN ((a.2.1.length : Int) - 1))).bind fun q => some (o, p, q) : Option ((List Ab) × (List Int) × (List (List Bj))))).bind fun (d : (List Ab) × (List Int) × (List (List Bj))) => some (.inl (a.1, d.1, d.2.1, d.2.2)) else (AY a.2.2.2 (AN ((a.2.1.length : Int) - 1))).bind fun r => (AY r 0).bind fun c => (AY a.2.2.2 (AN ((a.2.1.length : Int) - 1))).bind fun k => (Kx k 1 (k.length : Int)).bind fun e => (AY a.2.2.2 (AN ((a.2.1.length : Int) - 1))).bind fun w => (AY a.2.1 (AN ((a.2.1.length : Int) - 1))).bind fun b => (AY a.2.2.1 (AN ((a.2.1.length : Int) - 1))).bind fun x => (AY (A4 a.2.1 (AN ((a.2.1.length : Int) - 1)) (⟨b.elem, b.in_, c.out⟩ : Ab)) (AN ((a.2.1.length : Int) - 1))).bind fun l => (CZ i (⟨l.elem, c.out⟩ : AI)).bind fun m => bif decide (0 <= m) then (((BX (A4 a.2.1 (AN ((a.2.1.length : Int) - 1)) (⟨b.elem, b.in_, c.out⟩ : Ab))).bind fun s => AQ (Lp a c b s) (0, ([] : List Ap)) : Option ((List Ab) × (List Ap)))).bind fun (g : (List Ab) × (List Ap)) => (Bt a.1 ([(⟨j, m, 1, g.1, g.2, ([] : List Ap), ([] : List Int), ([] : List Int), false⟩ : Al)])).bind fun t => some (.inl (t, A4 a.2.1 (AN ((a.2.1.length : Int) - 1)) (⟨b.elem, b.in_, c.out⟩ : Ab), A4 a.2.2.1 (AN ((a.2.1.length : Int) - 1)) c.pos, A4 a.2.2.2 (AN ((a.2.1.length : Int) - 1)) e)) else (Bd i (⟨l.elem, c.out⟩ : AI)).bind fun f => bif (!f.2) then (((BX (A4 a.2.1 (AN ((a.2.1.length : Int) - 1)) (⟨b.elem, b.in_, c.out⟩ : Ab))).bind fun u => AQ (Lq a c b u) (0, ([] : List Ap)) : Option ((List Ab) × (List Ap)))).bind fun (h : (List Ab) × (List Ap)) => (Bt a.1 ([(⟨j, (-1), 3, h.1, h.2, ([] : List Ap), ([] : List Int), ([] : List Int), false⟩ : Al)])).bind fun v => some (.inl (v, A4 a.2.1 (AN ((a.2.1.length : Int) - 1)) (⟨b.elem, b.in_, c.out⟩ : Ab), A4 a.2.2.1 (AN ((a.2.1.length : Int) - 1)) c.pos, A4 a.2.2.2 (AN ((a.2.1.length : Int) - 1)) e)) else some (.inr (.inl (f.1.elem, f.1.fin, a.1, A4 a.2.1 (AN ((a.2.1.length : Int) - 1)) (⟨b.elem, b.in_, c.out⟩ : Ab), A4 a.2.2.1 (AN ((a.2.1.length : Int) - 1)) c.pos, A4 a.2.2.2 (AN ((a.2.1.length : Int) - 1)) e))) else some (.inr (.inr a.1))
noncomputable def CM (d : Aw) (f : Int) (o : (AI × Bool)) (a : Int × Int × (List Al) × (List Ab) × (List Int) × (List (List Bj))) : Option ((Int × Int × (List Al) × (List Ab) × (List Int) × (List (List Bj))) ⊕ (List Al)) :=
 (((E0 (⟨o.1.elem, a.2.2.2.1, a.2.2.2.2.1, a.2.2.2.2.2⟩ : N4) a.1).bind fun g => bif g then (((Bt a.2.2.2.1 [(⟨a.1, a.2.1, (-1)⟩ : Ab)]).bind fun h => (Bt a.2.2.2.2.1 [0]).bind fun i => (ER d a.1 a.2.1).bind fun j => (Bt a.2.2.2.2.2 [j]).bind fun k => some (h, i, k) : Option ((List Ab) × (List Int) × (List (List Bj))))).bind fun (b : (List Ab) × (List Int) × (List (List Bj))) => (BT d a.1).bind fun l => bif (l == 4) then (((BX b.1).bind fun m => AQ (Lo b m) (0, ([] : List Ap)) : Option ((List Ab) × (List Ap)))).bind fun (e : (List Ab) × (List Ap)) => (Bt a.2.2.1 ([(⟨f, (-1), 2, e.1, e.2, ([] : List Ap), ([] : List Int), ([] : List Int), false⟩ : Al)])).bind fun n => some (n, b.1, b.2.1, b.2.2) else some (a.2.2.1, b.1, b.2.1, b.2.2) else some (a.2.2.1, a.2.2.2.1, a.2.2.2.2.1, a.2.2.2.2.2) : Option ((List Al) × (List Ab) × (List Int) × (List (List Bj))))).bind fun (c : (List Al) × (List Ab) × (List Int) × (List (List Bj))) => AQ (CD d f) (c.1, c.2.1, c.2.2.1, c.2.2.2)
noncomputable def Kd (a : Aw) (d : Int) : Option (List Al) :=
 (Cd a d).bind fun c => bif (!c.2) then some [] else (Bd a c.1).bind fun b => bif (!b.2) then some [] else AQ (CM a d c) (b.1.elem, b.1.fin, ([] : List Al), ([] : List Ab), ([] : List Int), ([] : List (List Bj)))
theorem YP (t : Aw) (g : Int) (r : (List Al)) (h : Kd t g = some r) : Az Tryz.prog 112 [.place (Aq t) 0, .int .i64 g] (· = .slice 9 (r.map BL)) := by
 refine fn AA Tryz.func112 Z Z 157 Z [.tmp 4] Z [(0, .p (.place (Aq t) 0)), (1, .p (.int .i64 g))] Z Z fun A hA => ?_
 unfold Kd at h
 refine rs AA <| rl Z <| sc <| rs AA <| rn 2 Z <| bq h fun j bu ef => sx Z (AM (HG _ _ _ bu) (.inl Z) Z Z Z <| rl Z <| AB <| rs AA <| rl Z <| cd Z ef (fun eg => ?_) (fun eh => ?_))
 .refine rs AA <| rl Z <| AF <| AG <| I6 ?_
  cases eg
  exact er Z (Le.nil _)
 refine AE <| AC <| rs AA <| rn 2 Z <| bq eh fun e2 a8 bv => sx Z (AM (CE _ _ _ a8) (.inl Z) Z Z Z <| rl Z <| AB <| rs AA <| rl Z <| cd Z bv (fun bw => ?_) (fun bx => ?_))
 .refine rs AA <| rl Z <| AF <| AG <| I6 ?_
  cases bw
  exact er Z (Le.nil _)
 refine AE <| AC <| rs AA <| rl Z <| rs AA <| rl Z <| AB <| KH <| AC <| AB <| AH ?_
 apply lp (a := r) (fun d : (Int × Int × (List Al) × (List Ab) × (List Int) × (List (List Bj))) => ⟨157, [(0, lq (Aq t)), (1, li g), (7, .lpb 0 0), (8, .lsl 1 9 0 d.2.2.1.length), (9, .lpb 2 0)], [(0, .box [li d.1, li d.2.1]), (1, .row 72 9 (d.2.2.1.map BL)), (2, .box [li j.1.elem, .lsl 3 3 0 d.2.2.2.1.length, .lsl 4 1 0 d.2.2.2.2.1.length, .lsl 5 1 0 d.2.2.2.2.2.length]), (3, .row 76 3 (d.2.2.2.1.map Ax)), (4, .row 3 1 (d.2.2.2.2.1.map Ad)), (5, .row 215 1 (d.2.2.2.2.2.map (Dq 2 Dy)))], 6⟩) bx
 . exact A9.trans (Cl 8 72 9 Z) (A9.trans (CP 2 1 76 3 Z Z Z Z) (A9.trans (CP 2 2 3 1 Z Z Z Z) (A9.trans (CP 2 3 215 1 Z Z Z Z) (wf hA [(0, 1), (1, 3), (2, 2), (3, 4), (4, 5), (5, 6)] Z Z Z))))
 intro d a7 a2
 unfold CM at a2
 refine AH <| sc <| jb (fun k : ((List Al) × (List Ab) × (List Int) × (List (List Bj))) => ⟨157, [(0, lq (Aq t)), (1, li g), (7, .lpb 0 0), (8, .lsl 1 9 0 k.1.length), (9, .lpb 2 0)], [(0, .box [li d.1, li d.2.1]), (1, .row 72 9 (k.1.map BL)), (2, .box [li j.1.elem, .lsl 3 3 0 k.2.1.length, .lsl 4 1 0 k.2.2.1.length, .lsl 5 1 0 k.2.2.2.length]), (3, .row 76 3 (k.2.1.map Ax)), (4, .row 3 1 (k.2.2.1.map Ad)), (5, .row 215 1 (k.2.2.2.map (Dq 2 Dy)))], 6⟩) a2 (fun k bz => ?_) (fun k cs => ?_)
 .refine rs AA <| rn 3 Z <| bq bz fun e3 a9 b0 => sx Z (AM (Rh _ _ _ a9) (.inl Z) Z Z (D1.eq (.cons (.box Z (.cons (.p _) (.cons (.own (enc := Ax) d.2.2.2.1 Z Z) (.cons (.own (enc := Ad) d.2.2.2.2.1 Z Z) (.cons (.own (enc := (Dq 2 Dy)) d.2.2.2.2.2 Z Z) .nil))))) (.cons (.one (.p _)) .nil))) <| rl Z <| cd Z b0 (fun b1 => ?_) (fun cr => ?_))
  .refine rs AA <| rn 3 Z <| sx Z (CT AA (fun f : ((List Ab) × (List Int) × (List (List Bj))) => .tup []) (fun f : ((List Ab) × (List Int) × (List (List Bj))) => [(0, .box [li d.1, li d.2.1]), (1, .row 72 9 (d.2.2.1.map BL)), (2, .box [li j.1.elem, .lsl 6 3 0 f.1.length, .lsl 7 1 0 f.2.1.length, .lsl 8 1 0 f.2.2.length]), (6, .row 76 3 (f.1.map Ax)), (7, .row 3 1 (f.2.1.map Ad)), (8, .row 215 1 (f.2.2.map (Dq 2 Dy)))]) 9 b1 Tryz.func147 44 [] [(0, .lpb 2 0), (1, lq (Aq t)), (2, .p (.agg [.int .i64 d.1, .int .i64 d.2.1]))] Z Z Z Z Z Z Z Z (fun A hA f b2 => ?_) (fun f b7 => ?_))
   .refine rs AA <| rl Z <| AB ?_
    refine B3 AA mixed [0, 1, 2, 3, 4, 5, 6, 7, 8, 9, 10, 11, 12, 13, 14] 15 (by kernel_rfl) Z Z Z ?_
    refine Av 11 Z <| bq b2 fun e4 ba b3 => Au Z (Jg Z (BU (enc := Ax) (l := d.2.2.2.1) (m := [(⟨d.1, d.2.1, (-1)⟩ : Ab)]) ba (fun _ => ⟨Z, Z⟩) Z Z Z Z Z Z <| BN Z <| AC <| rs AA <| rn 6 Z <| bq b3 fun e5 bb b4 => sx Z (BU (enc := Ad) (l := d.2.2.2.2.1) (m := [0]) bb (fun _ => ⟨Z, Z⟩) Z Z Z Z Z Z <| rl Z ?_)))
    refine B3 AA mixed [0, 1, 2, 3, 4, 5, 6, 7, 8, 9, 10, 11, 12, 13, 14, 15] 16 (by kernel_rfl) Z Z Z ?_
    refine Av 10 Z <| bq b4 fun ei bc b5 => Au Z (A7 (NH _ _ _ _ bc) (.inr Z) Z Z Z <| Av 1 Z <| bq b5 fun e6 be b6 => Au Z (Jg Z (BU (enc := (Dq 2 Dy)) (l := d.2.2.2.2.2) (m := [ei]) be (fun _ => ⟨Z, Z⟩) Z Z Z Z Z Z <| BN Z ?_)))
    cases b6
    exact MB (nt := 44) (sl := []) (wj hA (gi 6 [(6, 18), (7, 23), (8, 36)]) Z Z Z Z) Z
   refine rl Z <| rs AA <| rn 3 Z <| bq b7 fun e7 bf b8 => sx Z (AM (Bu _ _ _ bf) (.inl Z) Z Z Z <| rl Z <| cd Z b8 (fun b9 => ?_) (fun cq => ?_))
   .refine rg AA <| rn 3 Z <| sx Z (CT AA (fun n : ((List Ab) × (List Ap)) => .p (.agg [.int .i64 g, .int .i64 (-1), .int .i64 2, .slice 3 (n.1.map Ax), .slice 2 (n.2.map A1), .slice 2 (([] : List Ap).map A1), .slice 1 (([] : List Int).map Ad), .slice 1 (([] : List Int).map Ad), .bool false])) (fun n : ((List Ab) × (List Ap)) => [(0, .box [li d.1, li d.2.1]), (1, .row 72 9 (d.2.2.1.map BL)), (2, .box [li j.1.elem, .lsl 6 3 0 f.1.length, .lsl 7 1 0 f.2.1.length, .lsl 8 1 0 f.2.2.length]), (6, .row 76 3 (f.1.map Ax)), (7, .row 3 1 (f.2.1.map Ad)), (8, .row 215 1 (f.2.2.map (Dq 2 Dy))), (9, .box [li g, li (-1), li 2, ls 3 Ax n.1, ls 2 A1 n.2, ls 2 A1 ([] : List Ap), ls 1 Ad ([] : List Int), ls 1 Ad ([] : List Int), lb false])]) 10 b9 Tryz.func148 56 [.cell 8 72] [(0, .lpb 2 0), (1, li g), (2, li (-1)), (3, li 2)] Z Z Z Z Z Z Z Z (fun A hA n ca => ?_) (fun n co => ?_))
    .refine rs AA <| rl Z <| rs AA <| rn 7 Z <| bq ca fun ab bg cb => sx Z (N2 (Ef _ _ bg) (fun _ => Z) Z Z (D1.eq (.cons (.one (.own (enc := Ax) f.1 Z Z)) .nil)) <| rl Z <| AB <| rs AA <| rl Z <| AH ?_)
     apply lp (a := n) (fun u : (Int × (List Ap)) => ⟨56, [(0, .lpb 2 0), (8, .lpb 9 0), (9, .lpb 10 0), (24, .lsl 6 3 0 f.1.length), (25, li (f.1.length : Int)), (26, li u.1)], [(0, .box [li d.1, li d.2.1]), (1, .row 72 9 (d.2.2.1.map BL)), (2, .box [li j.1.elem, .lsl 6 3 0 f.1.length, .lsl 7 1 0 f.2.1.length, .lsl 8 1 0 f.2.2.length]), (6, .row 76 3 (f.1.map Ax)), (7, .row 3 1 (f.2.1.map Ad)), (8, .row 215 1 (f.2.2.map (Dq 2 Dy))), (9, .box [li 0, li 0, li 0, .p (.nils), .p (.nils), .p (.nils), .p (.nils), .p (.nils), lb false]), (10, .box [li g, li (-1), li 2, .lsl 11 3 0 ab.length, .lsl 12 2 0 u.2.length, .p (.nils), .p (.nils), .p (.nils), lb false]), (11, .row 76 3 (ab.map Ax)), (12, .row 185 2 (u.2.map A1))], 13⟩) cb
     . exact A9.trans (CP 11 4 185 2 Z Z Z Z) (wj hA (gi 10 [(10, 11), (11, 10), (12, 12)]) Z Z Z Z)
     intro u ey a3
     unfold Lo at a3
     refine rs AA <| rl Z <| AB <| cd Z a3 (fun cc => ?_) (fun cm => ?_)
     .refine AE <| AC <| jb (fun af : (List Ap) => ⟨56, [(0, .lpb 2 0), (8, .lpb 9 0), (9, .lpb 10 0), (24, .lsl 6 3 0 f.1.length), (25, li (f.1.length : Int)), (26, li u.1)], [(0, .box [li d.1, li d.2.1]), (1, .row 72 9 (d.2.2.1.map BL)), (2, .box [li j.1.elem, .lsl 6 3 0 f.1.length, .lsl 7 1 0 f.2.1.length, .lsl 8 1 0 f.2.2.length]), (6, .row 76 3 (f.1.map Ax)), (7, .row 3 1 (f.2.1.map Ad)), (8, .row 215 1 (f.2.2.map (Dq 2 Dy))), (9, .box [li 0, li 0, li 0, .p (.nils), .p (.nils), .p (.nils), .p (.nils), .p (.nils), lb false]), (10, .box [li g, li (-1), li 2, .lsl 11 3 0 ab.length, .lsl 12 2 0 af.length, .p (.nils), .p (.nils), .p (.nils), lb false]), (11, .row 76 3 (ab.map Ax)), (12, .row 185 2 (af.map A1))], 13⟩) cc (fun af ce => ?_) (fun af cl => ?_)
      .refine AH <| rs AA <| rn 1 Z <| bq ce fun ej aj cf => sx Z (Bi aj Z Z Z Z <| sx Z (CW aj Z Z Z <| rl Z <| rs AA <| rn 5 Z <| bq cf fun e8 ak cg => sx Z (Bi ak Z Z Z Z <| sx Z (CW ak Z Z Z <| rl Z <| cd Z cg (fun ch => ?_) (fun ck => ?_)))))
       .refine B3 AA mixed [0, 1, 2, 3, 4, 5, 6, 7, 8, 9, 10, 11, 12, 13, 14, 15] 16 (by kernel_rfl) Z Z Z ?_
        exact Av 9 Z <| bq ch fun ek al ci => Au Z (Am Z (Bi al Z Z Z Z <| Au Z (G9 Z (CW al Z Z Z <| Av 2 Z <| bq ci fun e9 bh cj => Au Z (Jg Z (BU (enc := A1) (l := u.2) (m := [(⟨ej.elem, ek⟩ : Ap)]) bh (fun _ => ⟨Z, Z⟩) Z Z Z Z Z Z <| BN Z <| Ac <| AL cj (wj hA (gi 12 [(12, 27)]) Z Z Z Z)))))))
       exact AE <| Ac <| AL ck (wj hA (gi 13 []) Z Z Z Z)
      exact rg AA <| rl Z <| Ar cl (wj hA (gi 13 []) Z Z Z Z)
     refine AU <| AX <| BK cm fun es cn => An <| AC <| rs AA <| rl Z <| AF ?_
     cases cn
     exact CX (nt := 56) (sl := [(8, .lpb 9 0)]) (A9.trans (Il 11 (Lm (enc := Ax) (l := ab) Z) (.cons 8 (.same _) .nil) (.cons 0 Z Z (.same _) (.cons 1 Z Z (.same _) (.cons 2 Z Z (.same _) (.cons 6 Z Z (.same _) (.cons 7 Z Z (.same _) (.cons 8 Z Z (.same _) (.cons 9 Z Z (.box (.cons (.same _) (.cons (.same _) (.cons (.same _) (.cons .hit (.cons (.same _) (.cons (.same _) (.cons (.same _) (.cons (.same _) (.cons (.same _) .nil)))))))))) (.cons 10 Z Z (.box (.cons (.same _) (.cons (.same _) (.cons (.same _) (.cons .hit (.cons (.same _) (.cons (.same _) (.cons (.same _) (.cons (.same _) (.cons (.same _) .nil)))))))))) (.cons 12 Z Z (.same _) .nil)))))))))) (A9.trans (Il 12 (Lm (enc := A1) (l := u.2) Z) (.cons 8 (.same _) .nil) (.cons 0 Z Z (.same _) (.cons 1 Z Z (.same _) (.cons 2 Z Z (.same _) (.cons 6 Z Z (.same _) (.cons 7 Z Z (.same _) (.cons 8 Z Z (.same _) (.cons 9 Z Z (.box (.cons (.same _) (.cons (.same _) (.cons (.same _) (.cons (.same _) (.cons .hit (.cons (.same _) (.cons (.same _) (.cons (.same _) (.cons (.same _) .nil)))))))))) (.cons 10 Z Z (.box (.cons (.same _) (.cons (.same _) (.cons (.same _) (.cons (.same _) (.cons .hit (.cons (.same _) (.cons (.same _) (.cons (.same _) (.cons (.same _) .nil)))))))))) .nil))))))))) (A9.trans (E1 (.cons 8 (.same _) .nil) (.cons 0 Z Z (.same _) (.cons 1 Z Z (.same _) (.cons 2 Z Z (.same _) (.cons 6 Z Z (.same _) (.cons 7 Z Z (.same _) (.cons 8 Z Z (.same _) (.cons 9 Z Z (.box (.cons (.same _) (.cons (.same _) (.cons (.same _) (.cons (.same _) (.cons (.same _) (.cons (.nil 2) (.cons (.same _) (.cons (.same _) (.cons (.same _) .nil)))))))))) (.cons 10 Z Z (.same _) .nil))))))))) (A9.trans (E1 (.cons 8 (.same _) .nil) (.cons 0 Z Z (.same _) (.cons 1 Z Z (.same _) (.cons 2 Z Z (.same _) (.cons 6 Z Z (.same _) (.cons 7 Z Z (.same _) (.cons 8 Z Z (.same _) (.cons 9 Z Z (.box (.cons (.same _) (.cons (.same _) (.cons (.same _) (.cons (.same _) (.cons (.same _) (.cons (.same _) (.cons (.nil 1) (.cons (.same _) (.cons (.same _) .nil)))))))))) (.cons 10 Z Z (.same _) .nil))))))))) (A9.trans (E1 (.cons 8 (.same _) .nil) (.cons 0 Z Z (.same _) (.cons 1 Z Z (.same _) (.cons 2 Z Z (.same _) (.cons 6 Z Z (.same _) (.cons 7 Z Z (.same _) (.cons 8 Z Z (.same _) (.cons 9 Z Z (.box (.cons (.same _) (.cons (.same _) (.cons (.same _) (.cons (.same _) (.cons (.same _) (.cons (.same _) (.cons (.same _) (.cons (.nil 1) (.cons (.same _) .nil)))))))))) (.cons 10 Z Z (.same _) .nil))))))))) (wj hA (gi 10 []) Z Z Z Z)))))) Z
    exact rn 1 Z <| bq co fun fa bi cp => sx Z (BU (enc := BL) (l := d.2.2.1) (m := [(⟨g, (-1), 2, n.1, n.2, ([] : List Ap), ([] : List Int), ([] : List Int), false⟩ : Al)]) bi (fun _ => ⟨Z, Z⟩) Z Z Z Z Z Z <| rl Z <| AL cp (wf hA [(0, 0), (1, 11), (2, 2), (3, 6), (4, 7), (5, 8)] Z Z Z))
   exact AE <| AL cq (wf hA (gi 3 [(3, 6), (4, 7), (5, 8)]) Z Z Z)
  exact AE <| AL cr (wf hA (gi 6 []) Z Z Z)
 refine AB <| KH <| AC <| AB <| AH ?_
 apply lp (a := a7) (fun b : ((List Al) × (List Ab) × (List Int) × (List (List Bj))) => ⟨157, [(0, lq (Aq t)), (1, li g), (7, .lpb 0 0), (8, .lsl 1 9 0 b.1.length), (9, .lpb 2 0)], [(0, .box [li d.1, li d.2.1]), (1, .row 72 9 (b.1.map BL)), (2, .box [li j.1.elem, .lsl 3 3 0 b.2.1.length, .lsl 4 1 0 b.2.2.1.length, .lsl 5 1 0 b.2.2.2.length]), (3, .row 76 3 (b.2.1.map Ax)), (4, .row 3 1 (b.2.2.1.map Ad)), (5, .row 215 1 (b.2.2.2.map (Dq 2 Dy)))], 6⟩) cs
 . exact wf hA (gi 6 []) Z Z Z
 intro b ez a4
 unfold CD at a4
 refine AB <| rs AA <| rl Z <| cd Z a4 (fun ct => ?_) (fun ec => ?_)
 .refine AE <| AC <| AH <| rs AA <| rl Z <| AB <| rs AA <| rn 5 Z <| bq ct fun fb am cu => sx Z (Bi am Z Z Z Z <| sx Z (CW am Z Z Z <| sx Z (Ae Z Z <| rl Z <| cd Z cu (fun cv => ?_) (fun c1 => ?_))))
  .refine rs AA <| rn 1 Z <| sx Z (CT AA (fun s : ((List Ab) × (List Int) × (List (List Bj))) => .tup []) (fun s : ((List Ab) × (List Int) × (List (List Bj))) => [(0, .box [li d.1, li d.2.1]), (1, .row 72 9 (b.1.map BL)), (2, .box [li j.1.elem, .lsl 3 3 0 s.1.length, .lsl 4 1 0 s.2.1.length, .lsl 5 1 0 s.2.2.length]), (3, .row 76 3 (s.1.map Ax)), (4, .row 3 1 (s.2.1.map Ad)), (5, .row 215 1 (s.2.2.map (Dq 2 Dy)))]) 6 cv Tryz.func149 36 [] [(0, .lpb 2 0)] Z Z Z Z Z Z Z Z (fun A hA s cw => ?_) (fun s c0 => ?_))
   .refine rs AA <| rl Z ?_
    refine B3 AA mixed [0, 1, 2, 3, 4, 5, 6, 7, 8, 9, 10, 11, 12, 13, 14, 15, 16, 17, 18, 19, 20, 21, 22, 23, 24, 25, 26, 27, 28, 29] 30 (by kernel_rfl) Z Z Z ?_
    refine Av 8 Z <| bq cw fun fc an cx => Au Z (Am Z (RZ (l := b.2.1) an Z Z Z Z <| Av 5 Z <| bq cx fun fd ao cy => Au Z (Am Z (RZ (l := b.2.2.1) ao Z Z Z Z <| Av 5 Z <| bq cy fun fe ap cz => Au Z (Am Z (RZ (l := b.2.2.2) ap Z Z Z Z <| BN Z ?_))))))
    cases cz
    exact MB (nt := 36) (sl := []) (A9.trans (Jj 3 an Z Z) (A9.trans (Jj 4 ao Z Z) (A9.trans (Jj 5 ap Z Z) (wj hA (gi 6 []) Z Z Z Z)))) Z
   exact rl Z <| AU <| AX <| An <| Ar c0 (wf hA (gi 6 []) Z Z Z)
  refine AE <| AC <| rs AA <| rn 5 Z <| bq c1 fun ff aq c2 => sx Z (Bi aq Z Z Z Z <| sx Z (CW aq Z Z Z <| bq c2 fun c bj c3 => sx Z (Aj bj Z Z Z <| rl Z <| AB ?_)))
  refine B3 AA mixed [0, 1, 2, 3, 4, 5, 6, 7, 8, 9, 10, 11, 12, 13, 14] 15 (by kernel_rfl) Z Z Z ?_
  refine Av 10 Z <| bq c3 fun fg ar c4 => Au Z (Am Z (Bi ar Z Z Z Z <| Au Z (G9 Z (CW ar Z Z Z <| bq c4 fun i bk c5 => Au Z (Am Z (To bk Z Z Z Z <| bq c5 fun fh au c6 => Au Z (Am Z (Bi au Z Z Z Z <| Au Z (Mz Z (Jz (z := i) au Z Z Z Z Z Z Z Z <| BN Z <| AC <| AB <| bq c6 fun e ai c7 => bq c7 fun fi ae c8 => ?_))))))))))
  refine ACW AA mixed (.picks [0, 1, 2, 3, 4, 5, 6, 7, 8, 9, 10, 11, 12, 14, 15] (.alt 13 [16, 17, 18] .done (.alt 16 [13, 17, 18] .done .nil))) 19 ⟨157, [(0, lq (Aq t)), (1, li g), (7, .lpb 0 0), (8, .lsl 1 9 0 b.1.length), (9, .lpb 2 0), (10, li (AN ((b.2.1.length : Int) - 1))), (11, .lpb 3 0)], [(0, .box [li d.1, li d.2.1]), (1, .row 72 9 (b.1.map BL)), (2, .box [li j.1.elem, .lsl 4 3 0 (A4 b.2.1 (AN ((b.2.1.length : Int) - 1)) (⟨e.elem, e.in_, c.out⟩ : Ab)).length, .lsl 5 1 0 (A4 b.2.2.1 (AN ((b.2.1.length : Int) - 1)) c.pos).length, .lsl 6 1 0 (A4 b.2.2.2 (AN ((b.2.1.length : Int) - 1)) i).length]), (3, .box [li c.out, li c.pos]), (4, .row 76 3 ((A4 b.2.1 (AN ((b.2.1.length : Int) - 1)) (⟨e.elem, e.in_, c.out⟩ : Ab)).map Ax)), (5, .row 3 1 ((A4 b.2.2.1 (AN ((b.2.1.length : Int) - 1)) c.pos).map Ad)), (6, .row 215 1 ((A4 b.2.2.2 (AN ((b.2.1.length : Int) - 1)) i).map (Dq 2 Dy)))], 7⟩ (by kernel_rfl) Z ?_ ?_
  .refine ABz <| Av 13 Z <| Au Z (Am Z (Bi ai Z Z Z Z <| BN Z <| Zy ?_ ?_))
   .exact Av 1 Z <| Au Z (Mz Z (Jz (z := (⟨e.elem, e.in_, c.out⟩ : Ab)) ai Z Z Z Z Z Z Z Z <| Au Z (Am Z (Bi ae Z Z Z Z <| Au Z (Mz Z (Jz (z := c.pos) ae Z Z Z Z Z Z Z Z <| BN Z <| Zz (wk (gi 3 [(3, 6), (4, 3), (5, 4), (6, 5)]) (free hA _) Z Z Z (.cons Z (.cons Z (.cons Z (.cons Z (.cons Z (.cons Z (.cons Z .nil))))))) (.cons Z Z (.cons Z Z (.cons Z (by simp only [BA]; rfl) (.cons Z Z (.cons Z Z (.cons Z Z (.cons Z Z .nil))))))))))))))
   refine Zy ?_ ?_
   .exact Au Z (Mz Z (Jz (z := (⟨e.elem, e.in_, c.out⟩ : Ab)) ai Z Z Z Z Z Z Z Z <| Av 1 Z <| Au Z (Am Z (Bi ae Z Z Z Z <| Au Z (Mz Z (Jz (z := c.pos) ae Z Z Z Z Z Z Z Z <| BN Z <| Zz (wk (gi 3 [(3, 6), (4, 3), (5, 4), (6, 5)]) (free hA _) Z Z Z (.cons Z (.cons Z (.cons Z (.cons Z (.cons Z (.cons Z (.cons Z .nil))))))) (.cons Z Z (.cons Z Z (.cons Z (by simp only [BA]; rfl) (.cons Z Z (.cons Z Z (.cons Z Z (.cons Z Z .nil))))))))))))))
   exact AB0
  refine AC <| AB ?_
  refine B3 AA mixed [0, 1, 2, 3, 4, 5, 6, 7, 8, 9, 10, 11, 12] 13 (by kernel_rfl) Z Z Z ?_
  refine Av 5 Z <| bq c8 fun x av c9 => Au Z (Am Z (Bi av Z Z Z (by simp only [BA]) <| Av 1 Z <| Au Z (G9 Z (CW av Z Z Z <| BN Z <| AC <| AB <| rs AA <| rn 2 Z <| bq c9 fun y bl da => sx Z (AM (Gt _ _ _ bl) (.inl Z) Z Z Z <| rl Z <| rs AA <| rl Z <| cd Z da (fun db => ?_) (fun ds => ?_))))))
  .refine rs AA <| rn 4 Z <| sx Z (CT AA (fun o : ((List Ab) × (List Ap)) => .p (.agg [.int .i64 g, .int .i64 y, .int .i64 1, .slice 3 (o.1.map Ax), .slice 2 (o.2.map A1), .slice 2 (([] : List Ap).map A1), .slice 1 (([] : List Int).map Ad), .slice 1 (([] : List Int).map Ad), .bool false])) (fun o : ((List Ab) × (List Ap)) => [(0, .box [li d.1, li d.2.1]), (1, .row 72 9 (b.1.map BL)), (2, .box [li j.1.elem, .lsl 4 3 0 (A4 b.2.1 (AN ((b.2.1.length : Int) - 1)) (⟨e.elem, e.in_, c.out⟩ : Ab)).length, .lsl 5 1 0 (A4 b.2.2.1 (AN ((b.2.1.length : Int) - 1)) c.pos).length, .lsl 6 1 0 (A4 b.2.2.2 (AN ((b.2.1.length : Int) - 1)) i).length]), (3, .box [li c.out, li c.pos]), (4, .row 76 3 ((A4 b.2.1 (AN ((b.2.1.length : Int) - 1)) (⟨e.elem, e.in_, c.out⟩ : Ab)).map Ax)), (5, .row 3 1 ((A4 b.2.2.1 (AN ((b.2.1.length : Int) - 1)) c.pos).map Ad)), (6, .row 215 1 ((A4 b.2.2.2 (AN ((b.2.1.length : Int) - 1)) i).map (Dq 2 Dy))), (18, .box [li x.elem, li c.out]), (20, .box [li g, li y, li 1, ls 3 Ax o.1, ls 2 A1 o.2, ls 2 A1 ([] : List Ap), ls 1 Ad ([] : List Int), ls 1 Ad ([] : List Int), lb false])]) 21 db Tryz.func148 56 [.cell 8 72] [(0, .lpb 2 0), (1, li g), (2, li y), (3, li 1)] Z Z Z Z Z Z Z Z (fun A hA o dc => ?_) (fun o dq => ?_))
   .refine rs AA <| rl Z <| rs AA <| rn 7 Z <| bq dc fun ac bm dd => sx Z (N2 (Ef _ _ bm) (fun _ => Z) Z Z (D1.eq (.cons (.one (.own (enc := Ax) (A4 b.2.1 (AN ((b.2.1.length : Int) - 1)) (⟨e.elem, e.in_, c.out⟩ : Ab)) Z (by simp only [BA]))) .nil)) <| rl Z <| AB <| rs AA <| rl Z <| AH ?_)
    apply lp (a := o) (fun v : (Int × (List Ap)) => ⟨56, [(0, .lpb 2 0), (8, .lpb 20 0), (9, .lpb 21 0), (24, .lsl 4 3 0 (A4 b.2.1 (AN ((b.2.1.length : Int) - 1)) (⟨e.elem, e.in_, c.out⟩ : Ab)).length), (25, li ((A4 b.2.1 (AN ((b.2.1.length : Int) - 1)) (⟨e.elem, e.in_, c.out⟩ : Ab)).length : Int)), (26, li v.1)], [(0, .box [li d.1, li d.2.1]), (1, .row 72 9 (b.1.map BL)), (2, .box [li j.1.elem, .lsl 4 3 0 (A4 b.2.1 (AN ((b.2.1.length : Int) - 1)) (⟨e.elem, e.in_, c.out⟩ : Ab)).length, .lsl 5 1 0 (A4 b.2.2.1 (AN ((b.2.1.length : Int) - 1)) c.pos).length, .lsl 6 1 0 (A4 b.2.2.2 (AN ((b.2.1.length : Int) - 1)) i).length]), (3, .box [li c.out, li c.pos]), (4, .row 76 3 ((A4 b.2.1 (AN ((b.2.1.length : Int) - 1)) (⟨e.elem, e.in_, c.out⟩ : Ab)).map Ax)), (5, .row 3 1 ((A4 b.2.2.1 (AN ((b.2.1.length : Int) - 1)) c.pos).map Ad)), (6, .row 215 1 ((A4 b.2.2.2 (AN ((b.2.1.length : Int) - 1)) i).map (Dq 2 Dy))), (18, .box [li x.elem, li c.out]), (20, .box [li 0, li 0, li 0, .p (.nils), .p (.nils), .p (.nils), .p (.nils), .p (.nils), lb false]), (21, .box [li g, li y, li 1, .lsl 22 3 0 ac.length, .lsl 23 2 0 v.2.length, .p (.nils), .p (.nils), .p (.nils), lb false]), (22, .row 76 3 (ac.map Ax)), (23, .row 185 2 (v.2.map A1))], 24⟩) dd
    . exact A9.trans (CP 22 4 185 2 Z Z Z Z) (wk (gi 21 [(21, 22), (22, 21), (23, 23)]) (Ko hA _ Z) Z Z Z (.cons Z (.cons Z (.cons Z (.cons (by simp only [BA]; rfl) (.cons Z (.cons Z .nil)))))) (.cons Z Z (.cons Z Z (.cons Z (by simp only [BA]; rfl) (.cons Z Z (.cons Z Z (.cons Z Z (.cons Z Z (.cons Z Z (.cons Z Z (.cons Z Z (.cons Z Z (.cons Z Z .nil)))))))))))))
    intro v e0 a5
    unfold Lp at a5
    refine rs AA <| rl Z <| AB <| cd Z a5 (fun de => ?_) (fun dn => ?_)
    .refine AE <| AC <| jb (fun ag : (List Ap) => ⟨56, [(0, .lpb 2 0), (8, .lpb 20 0), (9, .lpb 21 0), (24, .lsl 4 3 0 (A4 b.2.1 (AN ((b.2.1.length : Int) - 1)) (⟨e.elem, e.in_, c.out⟩ : Ab)).length), (25, li ((A4 b.2.1 (AN ((b.2.1.length : Int) - 1)) (⟨e.elem, e.in_, c.out⟩ : Ab)).length : Int)), (26, li v.1)], [(0, .box [li d.1, li d.2.1]), (1, .row 72 9 (b.1.map BL)), (2, .box [li j.1.elem, .lsl 4 3 0 (A4 b.2.1 (AN ((b.2.1.length : Int) - 1)) (⟨e.elem, e.in_, c.out⟩ : Ab)).length, .lsl 5 1 0 (A4 b.2.2.1 (AN ((b.2.1.length : Int) - 1)) c.pos).length, .lsl 6 1 0 (A4 b.2.2.2 (AN ((b.2.1.length : Int) - 1)) i).length]), (3, .box [li c.out, li c.pos]), (4, .row 76 3 ((A4 b.2.1 (AN ((b.2.1.length : Int) - 1)) (⟨e.elem, e.in_, c.out⟩ : Ab)).map Ax)), (5, .row 3 1 ((A4 b.2.2.1 (AN ((b.2.1.length : Int) - 1)) c.pos).map Ad)), (6, .row 215 1 ((A4 b.2.2.2 (AN ((b.2.1.length : Int) - 1)) i).map (Dq 2 Dy))), (18, .box [li x.elem, li c.out]), (20, .box [li 0, li 0, li 0, .p (.nils), .p (.nils), .p (.nils), .p (.nils), .p (.nils), lb false]), (21, .box [li g, li y, li 1, .lsl 22 3 0 ac.length, .lsl 23 2 0 ag.length, .p (.nils), .p (.nils), .p (.nils), lb false]), (22, .row 76 3 (ac.map Ax)), (23, .row 185 2 (ag.map A1))], 24⟩) de (fun ag df => ?_) (fun ag dm => ?_)
     .refine AH <| rs AA <| rn 1 Z <| bq df fun el aw dg => sx Z (Bi aw Z Z Z (by simp only [BA]) <| sx Z (CW aw Z Z Z <| rl Z <| rs AA <| rn 5 Z <| bq dg fun fj ax dh => sx Z (Bi ax Z Z Z (by simp only [BA]) <| sx Z (CW ax Z Z Z <| rl Z <| cd Z dh (fun di => ?_) (fun dl => ?_)))))
      .refine B3 AA mixed [0, 1, 2, 3, 4, 5, 6, 7, 8, 9, 10, 11, 12, 13, 14, 15] 16 (by kernel_rfl) Z Z Z ?_
       exact Av 9 Z <| bq di fun em ay dj => Au Z (Am Z (Bi ay Z Z Z (by simp only [BA]) <| Au Z (G9 Z (CW ay Z Z Z <| Av 2 Z <| bq dj fun fk bn dk => Au Z (Jg Z (BU (enc := A1) (l := v.2) (m := [(⟨el.elem, em⟩ : Ap)]) bn (fun _ => ⟨Z, Z⟩) Z Z Z Z Z Z <| BN Z <| Ac <| AL dk (wk (gi 23 [(23, 38)]) (Ko hA _ Z) Z Z Z (.cons Z (.cons Z (.cons Z (.cons (by simp only [BA]; rfl) (.cons Z (.cons Z .nil)))))) (.cons Z Z (.cons Z Z (.cons Z (by simp only [BA]; rfl) (.cons Z Z (.cons Z Z (.cons Z Z (.cons Z Z (.cons Z Z (.cons Z Z (.cons Z Z (.cons Z Z (.cons Z Z .nil)))))))))))))))))))
      exact AE <| Ac <| AL dl (wk (gi 24 []) (Ko hA _ Z) Z Z Z (.cons Z (.cons Z (.cons Z (.cons (by simp only [BA]; rfl) (.cons Z (.cons Z .nil)))))) (.cons Z Z (.cons Z Z (.cons Z (by simp only [BA]; rfl) (.cons Z Z (.cons Z Z (.cons Z Z (.cons Z Z (.cons Z Z (.cons Z Z (.cons Z Z (.cons Z Z (.cons Z Z .nil)))))))))))))
     exact rg AA <| rl Z <| Ar dm (wk (gi 24 []) (Ko hA _ Z) Z Z Z (.cons Z (.cons Z (.cons Z (.cons (by simp only [BA]; rfl) (.cons Z (.cons Z .nil)))))) (.cons Z Z (.cons Z Z (.cons Z (by simp only [BA]; rfl) (.cons Z Z (.cons Z Z (.cons Z Z (.cons Z Z (.cons Z Z (.cons Z Z (.cons Z Z (.cons Z Z (.cons Z Z .nil)))))))))))))
    refine AU <| AX <| BK dn fun et dp => An <| AC <| rs AA <| rl Z <| AF ?_
    cases dp
    exact CX (nt := 56) (sl := [(8, .lpb 20 0)]) (A9.trans (Il 22 (Lm (enc := Ax) (l := ac) Z) (.cons 8 (.same _) .nil) (.cons 0 Z Z (.same _) (.cons 1 Z Z (.same _) (.cons 2 Z Z (.same _) (.cons 3 Z Z (.same _) (.cons 4 Z Z (.same _) (.cons 5 Z Z (.same _) (.cons 6 Z Z (.same _) (.cons 18 Z Z (.same _) (.cons 20 Z Z (.box (.cons (.same _) (.cons (.same _) (.cons (.same _) (.cons .hit (.cons (.same _) (.cons (.same _) (.cons (.same _) (.cons (.same _) (.cons (.same _) .nil)))))))))) (.cons 21 Z Z (.box (.cons (.same _) (.cons (.same _) (.cons (.same _) (.cons .hit (.cons (.same _) (.cons (.same _) (.cons (.same _) (.cons (.same _) (.cons (.same _) .nil)))))))))) (.cons 23 Z Z (.same _) .nil)))))))))))) (A9.trans (Il 23 (Lm (enc := A1) (l := v.2) Z) (.cons 8 (.same _) .nil) (.cons 0 Z Z (.same _) (.cons 1 Z Z (.same _) (.cons 2 Z Z (.same _) (.cons 3 Z Z (.same _) (.cons 4 Z Z (.same _) (.cons 5 Z Z (.same _) (.cons 6 Z Z (.same _) (.cons 18 Z Z (.same _) (.cons 20 Z Z (.box (.cons (.same _) (.cons (.same _) (.cons (.same _) (.cons (.same _) (.cons .hit (.cons (.same _) (.cons (.same _) (.cons (.same _) (.cons (.same _) .nil)))))))))) (.cons 21 Z Z (.box (.cons (.same _) (.cons (.same _) (.cons (.same _) (.cons (.same _) (.cons .hit (.cons (.same _) (.cons (.same _) (.cons (.same _) (.cons (.same _) .nil)))))))))) .nil))))))))))) (A9.trans (E1 (.cons 8 (.same _) .nil) (.cons 0 Z Z (.same _) (.cons 1 Z Z (.same _) (.cons 2 Z Z (.same _) (.cons 3 Z Z (.same _) (.cons 4 Z Z (.same _) (.cons 5 Z Z (.same _) (.cons 6 Z Z (.same _) (.cons 18 Z Z (.same _) (.cons 20 Z Z (.box (.cons (.same _) (.cons (.same _) (.cons (.same _) (.cons (.same _) (.cons (.same _) (.cons (.nil 2) (.cons (.same _) (.cons (.same _) (.cons (.same _) .nil)))))))))) (.cons 21 Z Z (.same _) .nil))))))))))) (A9.trans (E1 (.cons 8 (.same _) .nil) (.cons 0 Z Z (.same _) (.cons 1 Z Z (.same _) (.cons 2 Z Z (.same _) (.cons 3 Z Z (.same _) (.cons 4 Z Z (.same _) (.cons 5 Z Z (.same _) (.cons 6 Z Z (.same _) (.cons 18 Z Z (.same _) (.cons 20 Z Z (.box (.cons (.same _) (.cons (.same _) (.cons (.same _) (.cons (.same _) (.cons (.same _) (.cons (.same _) (.cons (.nil 1) (.cons (.same _) (.cons (.same _) .nil)))))))))) (.cons 21 Z Z (.same _) .nil))))))))))) (A9.trans (E1 (.cons 8 (.same _) .nil) (.cons 0 Z Z (.same _) (.cons 1 Z Z (.same _) (.cons 2 Z Z (.same _) (.cons 3 Z Z (.same _) (.cons 4 Z Z (.same _) (.cons 5 Z Z (.same _) (.cons 6 Z Z (.same _) (.cons 18 Z Z (.same _) (.cons 20 Z Z (.box (.cons (.same _) (.cons (.same _) (.cons (.same _) (.cons (.same _) (.cons (.same _) (.cons (.same _) (.cons (.same _) (.cons (.nil 1) (.cons (.same _) .nil)))))))))) (.cons 21 Z Z (.same _) .nil))))))))))) (wk (gi 21 []) (Ko hA _ Z) Z Z Z (.cons Z .nil) (.cons Z Z (.cons Z Z (.cons Z (by simp only [BA]; rfl) (.cons Z Z (.cons Z Z (.cons Z Z (.cons Z Z (.cons Z Z (.cons Z Z .nil))))))))))))))) Z
   exact rn 1 Z <| bq dq fun fl bo dr => sx Z (BU (enc := BL) (l := b.1) (m := [(⟨g, y, 1, o.1, o.2, ([] : List Ap), ([] : List Int), ([] : List Int), false⟩ : Al)]) bo (fun _ => ⟨Z, Z⟩) Z Z Z Z Z Z <| rl Z <| AU <| AX <| An <| Ar dr (wk [(0, 0), (1, 22), (2, 2), (3, 4), (4, 5), (5, 6)] (free hA _) Z Z Z (.cons Z (.cons Z (.cons Z (.cons Z (.cons Z .nil))))) (.cons Z Z (.cons Z Z (.cons Z (by simp only [BA]; rfl) (.cons Z Z (.cons Z Z (.cons Z Z .nil))))))))
  refine AE <| AC <| rs AA <| rn 2 Z <| bq ds fun aa bp dt => sx Z (AM (CE _ _ _ bp) (.inl Z) Z Z Z <| rl Z <| AB <| rs AA <| rl Z <| cd Z dt (fun du => ?_) (fun ea => ?_))
  .refine rs AA <| rn 3 Z <| sx Z (CT AA (fun q : ((List Ab) × (List Ap)) => .p (.agg [.int .i64 g, .int .i64 (-1), .int .i64 3, .slice 3 (q.1.map Ax), .slice 2 (q.2.map A1), .slice 2 (([] : List Ap).map A1), .slice 1 (([] : List Int).map Ad), .slice 1 (([] : List Int).map Ad), .bool false])) (fun q : ((List Ab) × (List Ap)) => [(0, .box [li d.1, li d.2.1]), (1, .row 72 9 (b.1.map BL)), (2, .box [li j.1.elem, .lsl 4 3 0 (A4 b.2.1 (AN ((b.2.1.length : Int) - 1)) (⟨e.elem, e.in_, c.out⟩ : Ab)).length, .lsl 5 1 0 (A4 b.2.2.1 (AN ((b.2.1.length : Int) - 1)) c.pos).length, .lsl 6 1 0 (A4 b.2.2.2 (AN ((b.2.1.length : Int) - 1)) i).length]), (3, .box [li c.out, li c.pos]), (4, .row 76 3 ((A4 b.2.1 (AN ((b.2.1.length : Int) - 1)) (⟨e.elem, e.in_, c.out⟩ : Ab)).map Ax)), (5, .row 3 1 ((A4 b.2.2.1 (AN ((b.2.1.length : Int) - 1)) c.pos).map Ad)), (6, .row 215 1 ((A4 b.2.2.2 (AN ((b.2.1.length : Int) - 1)) i).map (Dq 2 Dy))), (18, .box [li x.elem, li c.out]), (20, .box [li aa.1.elem, li aa.1.fin]), (21, .box [li g, li (-1), li 3, ls 3 Ax q.1, ls 2 A1 q.2, ls 2 A1 ([] : List Ap), ls 1 Ad ([] : List Int), ls 1 Ad ([] : List Int), lb false])]) 22 du Tryz.func148 56 [.cell 8 72] [(0, .lpb 2 0), (1, li g), (2, li (-1)), (3, li 3)] Z Z Z Z Z Z Z Z (fun A hA q dv => ?_) (fun q d8 => ?_))
   .refine rs AA <| rl Z <| rs AA <| rn 7 Z <| bq dv fun ad br dw => sx Z (N2 (Ef _ _ br) (fun _ => Z) Z Z (D1.eq (.cons (.one (.own (enc := Ax) (A4 b.2.1 (AN ((b.2.1.length : Int) - 1)) (⟨e.elem, e.in_, c.out⟩ : Ab)) Z (by simp only [BA]))) .nil)) <| rl Z <| AB <| rs AA <| rl Z <| AH ?_)
    apply lp (a := q) (fun w : (Int × (List Ap)) => ⟨56, [(0, .lpb 2 0), (8, .lpb 21 0), (9, .lpb 22 0), (24, .lsl 4 3 0 (A4 b.2.1 (AN ((b.2.1.length : Int) - 1)) (⟨e.elem, e.in_, c.out⟩ : Ab)).length), (25, li ((A4 b.2.1 (AN ((b.2.1.length : Int) - 1)) (⟨e.elem, e.in_, c.out⟩ : Ab)).length : Int)), (26, li w.1)], [(0, .box [li d.1, li d.2.1]), (1, .row 72 9 (b.1.map BL)), (2, .box [li j.1.elem, .lsl 4 3 0 (A4 b.2.1 (AN ((b.2.1.length : Int) - 1)) (⟨e.elem, e.in_, c.out⟩ : Ab)).length, .lsl 5 1 0 (A4 b.2.2.1 (AN ((b.2.1.length : Int) - 1)) c.pos).length, .lsl 6 1 0 (A4 b.2.2.2 (AN ((b.2.1.length : Int) - 1)) i).length]), (3, .box [li c.out, li c.pos]), (4, .row 76 3 ((A4 b.2.1 (AN ((b.2.1.length : Int) - 1)) (⟨e.elem, e.in_, c.out⟩ : Ab)).map Ax)), (5, .row 3 1 ((A4 b.2.2.1 (AN ((b.2.1.length : Int) - 1)) c.pos).map Ad)), (6, .row 215 1 ((A4 b.2.2.2 (AN ((b.2.1.length : Int) - 1)) i).map (Dq 2 Dy))), (18, .box [li x.elem, li c.out]), (20, .box [li aa.1.elem, li aa.1.fin]), (21, .box [li 0, li 0, li 0, .p (.nils), .p (.nils), .p (.nils), .p (.nils), .p (.nils), lb false]), (22, .box [li g, li (-1), li 3, .lsl 23 3 0 ad.length, .lsl 24 2 0 w.2.length, .p (.nils), .p (.nils), .p (.nils), lb false]), (23, .row 76 3 (ad.map Ax)), (24, .row 185 2 (w.2.map A1))], 25⟩) dw
    . exact A9.trans (CP 23 4 185 2 Z Z Z Z) (wk (gi 22 [(22, 23), (23, 22), (24, 24)]) (Ko hA _ Z) Z Z Z (.cons Z (.cons Z (.cons Z (.cons (by simp only [BA]; rfl) (.cons Z (.cons Z .nil)))))) (.cons Z Z (.cons Z Z (.cons Z (by simp only [BA]; rfl) (.cons Z Z (.cons Z Z (.cons Z Z (.cons Z Z (.cons Z Z (.cons Z Z (.cons Z Z (.cons Z Z (.cons Z Z (.cons Z Z .nil))))))))))))))
    intro w e1 a6
    unfold Lq at a6
    refine rs AA <| rl Z <| AB <| cd Z a6 (fun dx => ?_) (fun d6 => ?_)
    .refine AE <| AC <| jb (fun ah : (List Ap) => ⟨56, [(0, .lpb 2 0), (8, .lpb 21 0), (9, .lpb 22 0), (24, .lsl 4 3 0 (A4 b.2.1 (AN ((b.2.1.length : Int) - 1)) (⟨e.elem, e.in_, c.out⟩ : Ab)).length), (25, li ((A4 b.2.1 (AN ((b.2.1.length : Int) - 1)) (⟨e.elem, e.in_, c.out⟩ : Ab)).length : Int)), (26, li w.1)], [(0, .box [li d.1, li d.2.1]), (1, .row 72 9 (b.1.map BL)), (2, .box [li j.1.elem, .lsl 4 3 0 (A4 b.2.1 (AN ((b.2.1.length : Int) - 1)) (⟨e.elem, e.in_, c.out⟩ : Ab)).length, .lsl 5 1 0 (A4 b.2.2.1 (AN ((b.2.1.length : Int) - 1)) c.pos).length, .lsl 6 1 0 (A4 b.2.2.2 (AN ((b.2.1.length : Int) - 1)) i).length]), (3, .box [li c.out, li c.pos]), (4, .row 76 3 ((A4 b.2.1 (AN ((b.2.1.length : Int) - 1)) (⟨e.elem, e.in_, c.out⟩ : Ab)).map Ax)), (5, .row 3 1 ((A4 b.2.2.1 (AN ((b.2.1.length : Int) - 1)) c.pos).map Ad)), (6, .row 215 1 ((A4 b.2.2.2 (AN ((b.2.1.length : Int) - 1)) i).map (Dq 2 Dy))), (18, .box [li x.elem, li c.out]), (20, .box [li aa.1.elem, li aa.1.fin]), (21, .box [li 0, li 0, li 0, .p (.nils), .p (.nils), .p (.nils), .p (.nils), .p (.nils), lb false]), (22, .box [li g, li (-1), li 3, .lsl 23 3 0 ad.length, .lsl 24 2 0 ah.length, .p (.nils), .p (.nils), .p (.nils), lb false]), (23, .row 76 3 (ad.map Ax)), (24, .row 185 2 (ah.map A1))], 25⟩) dx (fun ah dy => ?_) (fun ah d5 => ?_)
     .refine AH <| rs AA <| rn 1 Z <| bq dy fun eo az dz => sx Z (Bi az Z Z Z (by simp only [BA]) <| sx Z (CW az Z Z Z <| rl Z <| rs AA <| rn 5 Z <| bq dz fun fm a0 d0 => sx Z (Bi a0 Z Z Z (by simp only [BA]) <| sx Z (CW a0 Z Z Z <| rl Z <| cd Z d0 (fun d1 => ?_) (fun d4 => ?_)))))
      .refine B3 AA mixed [0, 1, 2, 3, 4, 5, 6, 7, 8, 9, 10, 11, 12, 13, 14, 15] 16 (by kernel_rfl) Z Z Z ?_
       exact Av 9 Z <| bq d1 fun ep a1 d2 => Au Z (Am Z (Bi a1 Z Z Z (by simp only [BA]) <| Au Z (G9 Z (CW a1 Z Z Z <| Av 2 Z <| bq d2 fun fo bs d3 => Au Z (Jg Z (BU (enc := A1) (l := w.2) (m := [(⟨eo.elem, ep⟩ : Ap)]) bs (fun _ => ⟨Z, Z⟩) Z Z Z Z Z Z <| BN Z <| Ac <| AL d3 (wk (gi 24 [(24, 39)]) (Ko hA _ Z) Z Z Z (.cons Z (.cons Z (.cons Z (.cons (by simp only [BA]; rfl) (.cons Z (.cons Z .nil)))))) (.cons Z Z (.cons Z Z (.cons Z (by simp only [BA]; rfl) (.cons Z Z (.cons Z Z (.cons Z Z (.cons Z Z (.cons Z Z (.cons Z Z (.cons Z Z (.cons Z Z (.cons Z Z (.cons Z Z .nil))))))))))))))))))))
      exact AE <| Ac <| AL d4 (wk (gi 25 []) (Ko hA _ Z) Z Z Z (.cons Z (.cons Z (.cons Z (.cons (by simp only [BA]; rfl) (.cons Z (.cons Z .nil)))))) (.cons Z Z (.cons Z Z (.cons Z (by simp only [BA]; rfl) (.cons Z Z (.cons Z Z (.cons Z Z (.cons Z Z (.cons Z Z (.cons Z Z (.cons Z Z (.cons Z Z (.cons Z Z (.cons Z Z .nil))))))))))))))
     exact rg AA <| rl Z <| Ar d5 (wk (gi 25 []) (Ko hA _ Z) Z Z Z (.cons Z (.cons Z (.cons Z (.cons (by simp only [BA]; rfl) (.cons Z (.cons Z .nil)))))) (.cons Z Z (.cons Z Z (.cons Z (by simp only [BA]; rfl) (.cons Z Z (.cons Z Z (.cons Z Z (.cons Z Z (.cons Z Z (.cons Z Z (.cons Z Z (.cons Z Z (.cons Z Z (.cons Z Z .nil))))))))))))))
    refine AU <| AX <| BK d6 fun eu d7 => An <| AC <| rs AA <| rl Z <| AF ?_
    cases d7
    exact CX (nt := 56) (sl := [(8, .lpb 21 0)]) (A9.trans (Il 23 (Lm (enc := Ax) (l := ad) Z) (.cons 8 (.same _) .nil) (.cons 0 Z Z (.same _) (.cons 1 Z Z (.same _) (.cons 2 Z Z (.same _) (.cons 3 Z Z (.same _) (.cons 4 Z Z (.same _) (.cons 5 Z Z (.same _) (.cons 6 Z Z (.same _) (.cons 18 Z Z (.same _) (.cons 20 Z Z (.same _) (.cons 21 Z Z (.box (.cons (.same _) (.cons (.same _) (.cons (.same _) (.cons .hit (.cons (.same _) (.cons (.same _) (.cons (.same _) (.cons (.same _) (.cons (.same _) .nil)))))))))) (.cons 22 Z Z (.box (.cons (.same _) (.cons (.same _) (.cons (.same _) (.cons .hit (.cons (.same _) (.cons (.same _) (.cons (.same _) (.cons (.same _) (.cons (.same _) .nil)))))))))) (.cons 24 Z Z (.same _) .nil))))))))))))) (A9.trans (Il 24 (Lm (enc := A1) (l := w.2) Z) (.cons 8 (.same _) .nil) (.cons 0 Z Z (.same _) (.cons 1 Z Z (.same _) (.cons 2 Z Z (.same _) (.cons 3 Z Z (.same _) (.cons 4 Z Z (.same _) (.cons 5 Z Z (.same _) (.cons 6 Z Z (.same _) (.cons 18 Z Z (.same _) (.cons 20 Z Z (.same _) (.cons 21 Z Z (.box (.cons (.same _) (.cons (.same _) (.cons (.same _) (.cons (.same _) (.cons .hit (.cons (.same _) (.cons (.same _) (.cons (.same _) (.cons (.same _) .nil)))))))))) (.cons 22 Z Z (.box (.cons (.same _) (.cons (.same _) (.cons (.same _) (.cons (.same _) (.cons .hit (.cons (.same _) (.cons (.same _) (.cons (.same _) (.cons (.same _) .nil)))))))))) .nil)))))))))))) (A9.trans (E1 (.cons 8 (.same _) .nil) (.cons 0 Z Z (.same _) (.cons 1 Z Z (.same _) (.cons 2 Z Z (.same _) (.cons 3 Z Z (.same _) (.cons 4 Z Z (.same _) (.cons 5 Z Z (.same _) (.cons 6 Z Z (.same _) (.cons 18 Z Z (.same _) (.cons 20 Z Z (.same _) (.cons 21 Z Z (.box (.cons (.same _) (.cons (.same _) (.cons (.same _) (.cons (.same _) (.cons (.same _) (.cons (.nil 2) (.cons (.same _) (.cons (.same _) (.cons (.same _) .nil)))))))))) (.cons 22 Z Z (.same _) .nil)))))))))))) (A9.trans (E1 (.cons 8 (.same _) .nil) (.cons 0 Z Z (.same _) (.cons 1 Z Z (.same _) (.cons 2 Z Z (.same _) (.cons 3 Z Z (.same _) (.cons 4 Z Z (.same _) (.cons 5 Z Z (.same _) (.cons 6 Z Z (.same _) (.cons 18 Z Z (.same _) (.cons 20 Z Z (.same _) (.cons 21 Z Z (.box (.cons (.same _) (.cons (.same _) (.cons (.same _) (.cons (.same _) (.cons (.same _) (.cons (.same _) (.cons (.nil 1) (.cons (.same _) (.cons (.same _) .nil)))))))))) (.cons 22 Z Z (.same _) .nil)))))))))))) (A9.trans (E1 (.cons 8 (.same _) .nil) (.cons 0 Z Z (.same _) (.cons 1 Z Z (.same _) (.cons 2 Z Z (.same _) (.cons 3 Z Z (.same _) (.cons 4 Z Z (.same _) (.cons 5 Z Z (.same _) (.cons 6 Z Z (.same _) (.cons 18 Z Z (.same _) (.cons 20 Z Z (.same _) (.cons 21 Z Z (.box (.cons (.same _) (.cons (.same _) (.cons (.same _) (.cons (.same _) (.cons (.same _) (.cons (.same _) (.cons (.same _) (.cons (.nil 1) (.cons (.same _) .nil)))))))))) (.cons 22 Z Z (.same _) .nil)))))))))))) (wk (gi 22 []) (Ko hA _ Z) Z Z Z (.cons Z .nil) (.cons Z Z (.cons Z Z (.cons Z (by simp only [BA]; rfl) (.cons Z Z (.cons Z Z (.cons Z Z (.cons Z Z (.cons Z Z (.cons Z Z (.cons Z Z .nil)))))))))))))))) Z
   exact rn 1 Z <| bq d8 fun fp bt d9 => sx Z (BU (enc := BL) (l := b.1) (m := [(⟨g, (-1), 3, q.1, q.2, ([] : List Ap), ([] : List Int), ([] : List Int), false⟩ : Al)]) bt (fun _ => ⟨Z, Z⟩) Z Z Z Z Z Z <| rl Z <| AU <| AX <| An <| Ar d9 (wk [(0, 0), (1, 23), (2, 2), (3, 4), (4, 5), (5, 6)] (free hA _) Z Z Z (.cons Z (.cons Z (.cons Z (.cons Z (.cons Z .nil))))) (.cons Z Z (.cons Z Z (.cons Z (by simp only [BA]; rfl) (.cons Z Z (.cons Z Z (.cons Z Z .nil))))))))
  exact AE <| AC <| rs AA <| rl Z <| AU <| L7 Z <| BK ea fun ev eb => L7 Z <| AX <| AA2 <| An <| Ar eb (wk (gi 3 [(3, 4), (4, 5), (5, 6)]) (free hA _) Z Z Z (.cons Z (.cons Z (.cons Z (.cons Z (.cons Z .nil))))) (.cons Z Z (.cons Z Z (.cons Z (by simp only [BA]; rfl) (.cons Z Z (.cons Z Z (.cons Z Z .nil)))))))
 refine AU <| AX <| BK ec fun ew ed => An <| AC <| AU <| AA2 <| L7 Z <| BK ed fun ex ee => An <| AC <| rs AA <| rl Z <| AF <| I6 ?_
 cases ee
 exact er (I5 Z (.one (.own (enc := BL) b.1 Z Z))) Le.rfl
end Go.E
/- Plain functions, and walks in step with them. Written by a program (gen.py). No condition. -/
set_option maxRecDepth 100000
set_option maxHeartbeats 1000000
namespace Go.E
open Go Go.RowKit Go.Proofs
noncomputable def El (b : Aw) (e : Int) (a : Int × (List Al)) : Option ((Int × (List Al)) ⊕ ((List Al) × Int)) :=
 bif decide (a.1 < e) then (Kd b a.1).bind fun c => (Bt a.2 c).bind fun d => some (.inl (AN (a.1 + 1), d)) else (bif decide (64 < (a.2.length : Int)) then some (([] : List Al), 3) else some (a.2, 0)).map .inr
noncomputable def JN (a : Aw) : Option ((List Al) × Int) :=
 (D4 a).bind fun b => AQ (El a b) (0, ([] : List Al))
theorem XO (c : Aw) (r : ((List Al) × Int)) (h : JN c = some r) : ZR Tryz.prog 81 [] 0 [lq (Aq c)] (.tup [.lsl 0 9 0 r.1.length, li r.2]) [(0, .row 72 9 (r.1.map BL))] 1 := by
 refine fnM AA Tryz.func81 21 [.tmp 2, .tmp 3] [(0, lq (Aq c))] Z Z Z Z Z Z (fun A hA => ?_)
 unfold JN at h
 refine rs AA <| rl Z <| rs AA <| rl Z <| AB <| rs AA <| rn 1 Z <| bq h fun u g s => sx Z (AM (QA _ _ g) (.inl Z) Z Z Z <| rl Z <| AH ?_)
 apply lp (a := r) (fun b : (Int × (List Al)) => ⟨21, [(0, lq (Aq c)), (4, .lsl 0 9 0 b.2.length), (7, li u), (8, li b.1)], [(0, .row 72 9 (b.2.map BL))], 1⟩) s
 . exact A9.trans (Cl 4 72 9 Z) (wj hA [(0, 0)] Z Z Z Z)
 intro b w d
 unfold El at d
 refine rs AA <| rl Z <| AB <| cd Z d (fun i => ?_) (fun n => ?_)
 .exact AE <| AC <| AB <| AH <| rs AA <| rl Z <| rg AA <| rn 3 Z <| bq i fun t e j => sx Z (AM (YP _ _ _ e) (.inr Z) Z Z Z <| bq j fun x f k => sx Z (BU (enc := BL) (l := b.2) (m := t) f (fun _ => ⟨Z, Z⟩) Z Z Z Z Z Z <| rl Z <| Ac <| AC <| rg AA <| rl Z <| Ar k (wj hA [(0, 1)] Z Z Z Z)))
 refine AU <| AX <| CF n fun v o => An <| AC <| AB <| rs AA <| rl Z <| cd Z o (fun p => ?_) (fun q => ?_)
 .refine rs AA <| rl Z <| AF <| AG ?_
  cases p
  exact CX (nt := 21) (sl := [(2, .lsl 0 9 0 ([] : List Al).length), (3, li 3)]) (A9.trans (Cl 2 72 9 Z) (wj hA [(0, 1)] Z Z Z Z)) Z
 refine AE <| AC <| rs AA <| rl Z <| AF ?_
 cases q
 exact CX (nt := 21) (sl := [(2, .lsl 0 9 0 b.2.length), (3, li 0)]) (wj hA [(0, 0)] Z Z Z Z) Z
noncomputable def Da (a : (List Ap)) : Option (List Ap) :=
 MZ a (some []) ((Bt ([] : List Ap) a).bind fun b => some b)
theorem Mh (a : (List Ap)) (r : (List Ap)) (h : Da a = some r) : Az Tryz.prog 114 [.slice 2 (a.map A1)] (· = .slice 2 (r.map A1)) := by
 refine fn AA Tryz.func114 Z Z 8 Z [.tmp 2] Z [(0, .p (.slice 2 (a.map A1)))] Z Z fun A hA => ?_
 unfold Da at h
 refine rs AA <| rl Z <| AB <| rs AA <| rn 1 Z <| sx Z (KV h Z Z Z (fun d => ?_) (fun e => ?_))
 .refine rl Z <| RL Z <| rs AA <| rl Z <| AF <| AG ?_
  cases d
  exact er Z (Le.nil _)
 refine rl Z <| Sr Z <| AE <| AC <| rs AA <| rn 2 Z <| bq e fun f b c => sx Z (BU (enc := A1) (l := ([] : List Ap)) (m := a) b (fun _ => ⟨Z, Z⟩) Z Z Z Z Z Z <| rl Z <| AF ?_)
 have hr := Option.some.inj c; subst hr
 exact er (I5 Z (.one (.own (enc := A1) f Z Z))) Le.rfl
noncomputable def B1 (a : Aw) : Option AK :=
 (Hu a.p).bind fun b => some b
theorem Hk (a : Aw) (r : AK) (h : B1 a = some r) : Az Tryz.prog 49 [.place (Aq a) 0] (· = .agg (AV r)) := by
 refine fn AA Tryz.func49 Z Z 8 Z [.cell 2 27] Z [(0, .p (.place (Aq a) 0))] Z Z fun A hA => ?_
 unfold B1 at h
 refine rs AA <| rl Z <| rs AA <| rn 4 Z <| bq h fun d b c => sx Z (AM (Rg _ _ b) (.inr Z) Z Z Z <| rl Z <| AF ?_)
 have hr := Option.some.inj c; subst hr
 exact er Z Le.rfl
noncomputable def E2 (g : Aw) (e : (Int × (List AI))) (c : Ab) (b : (List Int)) (a : Int × (List AI)) : Option ((Int × (List AI)) ⊕ ((Int × (List AI)) ⊕ (List AI))) :=
 bif decide (a.1 < (b.length : Int)) then (((AY b a.1).bind fun d => (Bd g (⟨c.elem, d⟩ : AI)).bind fun h => bif h.2 then (Bt a.2 [(⟨c.elem, d⟩ : AI)]).bind fun i => some i else some a.2 : Option ((List AI)))).bind fun (f : (List AI)) => some (.inl (AN (a.1 + 1), f)) else some (.inr (.inl (AN (e.1 + 1), a.2)))
noncomputable def Gw (c : Aw) (d : Al) (b : Int × (List AI)) : Option ((Int × (List AI)) ⊕ (List AI)) :=
 bif decide (b.1 < (d.steps.length : Int)) then (AY d.steps b.1).bind fun a => (((BT c a.elem).bind fun e => bif (e == 2) then some [AN (3 - (if a.out > a.in_ then a.out else a.in_))] else bif (e == 3) then bif decide (1 < a.in_) then some [0, 1] else some [2, 3] else some ([] : List Int) : Option ((List Int)))).bind fun (f : (List Int)) => AQ (E2 c b a f) (0, b.2) else some (.inr b.2)
noncomputable def HR (a : Aw) (b : Al) : Option (List AI) :=
 AQ (Gw a b) (0, ([] : List AI))
theorem Uh (e : Aw) (b : Al) (r : (List AI)) (h : HR e b = some r) : Az Tryz.prog 115 [.place (Aq e) 0, .agg (BL b)] (· = .slice 2 (r.map AT)) := by
 refine fn AA Tryz.func115 Z Z 67 Z [.tmp 4] Z [(0, .p (.place (Aq e) 0)), (1, .p (.agg (BL b)))] Z Z fun A hA => ?_
 unfold HR at h
 refine rs AA <| rl Z <| rs AA <| rl Z <| AB <| rs AA <| rn 2 Z <| sx Z (Ae Z Z <| rl Z <| AH ?_)
 apply lp (a := r) (fun c : (Int × (List AI)) => ⟨67, [(0, lq (Aq e)), (5, .lsl 0 2 0 c.2.length), (16, ls 3 Ax b.steps), (17, li (b.steps.length : Int)), (18, li c.1)], [(0, .row 40 2 (c.2.map AT))], 1⟩) h
 . exact A9.trans (Cl 5 40 2 Z) (wf hA [(0, 1)] Z Z Z)
 intro c o k
 unfold Gw at k
 refine rs AA <| rl Z <| AB <| cd Z k (fun v => ?_) (fun aq => ?_)
 .refine AE <| AC <| AB <| AH <| rs AA <| bq v fun i q w => sx Z (Aj q Z Z Z <| rl Z <| rs AA <| rl Z <| jb (fun d : (List Int) => ⟨67, [(0, lq (Aq e)), (5, .lsl 0 2 0 c.2.length), (7, .lpb 1 0), (8, .lsl 2 1 0 d.length), (16, ls 3 Ax b.steps), (17, li (b.steps.length : Int)), (18, li c.1)], [(0, .row 40 2 (c.2.map AT)), (1, bx (Ax i)), (2, .row 3 1 (d.map Ad))], 3⟩) w (fun d x => ?_) (fun d af => ?_))
  .refine rs AA <| rn 3 Z <| bq x fun ay s y => sx Z (AM (Bu _ _ _ s) (.inl Z) Z Z Z <| rl Z <| AH <| rs AA <| rl Z <| cd Z y (fun z => ?_) (fun aa => ?_))
   .exact rs AA <| rl Z <| rg AA <| rl Z <| Ac <| AL z (wf hA (gi 3 []) Z Z Z)
   refine rs AA <| rl Z <| cd Z aa (fun ab => ?_) (fun ae => ?_)
   .refine rs AA <| rl Z <| rs AA <| rl Z <| cd Z ab (fun ac => ?_) (fun ad => ?_)
    .exact rg AA <| rl Z <| Ac <| AL ac (wf hA [(0, 0), (1, 1), (2, 3)] Z Z Z)
    exact AE <| Ac <| AL ad (wf hA (gi 3 []) Z Z Z)
   exact AE <| Ac <| AL ae (A9.trans (Cl 8 3 1 Z) (wf hA (gi 3 []) Z Z Z))
  refine rs AA <| rl Z <| AH ?_
  apply lp (a := o) (fun f : (Int × (List AI)) => ⟨67, [(0, lq (Aq e)), (5, .lsl 0 2 0 f.2.length), (7, .lpb 1 0), (16, ls 3 Ax b.steps), (17, li (b.steps.length : Int)), (18, li c.1), (43, .lsl 2 1 0 d.length), (44, li (d.length : Int)), (45, li f.1)], [(0, .row 40 2 (f.2.map AT)), (1, bx (Ax i)), (2, .row 3 1 (d.map Ad))], 3⟩) af
  . exact wf hA (gi 3 []) Z Z Z
  intro f ax n
  unfold E2 at n
  refine rs AA <| rl Z <| AB <| cd Z n (fun ag => ?_) (fun ao => ?_)
  .refine AE <| AC <| jb (fun g : (List AI) => ⟨67, [(0, lq (Aq e)), (5, .lsl 0 2 0 g.length), (7, .lpb 1 0), (16, ls 3 Ax b.steps), (17, li (b.steps.length : Int)), (18, li c.1), (43, .lsl 2 1 0 d.length), (44, li (d.length : Int)), (45, li f.1)], [(0, .row 40 2 (g.map AT)), (1, bx (Ax i)), (2, .row 3 1 (d.map Ad))], 3⟩) ag (fun g ah => ?_) (fun g an => ?_)
   .refine AH <| rs AA <| bq ah fun au j ai => sx Z (Bi j Z Z Z Z <| sx Z (CW j Z Z Z <| rl Z <| rs AA <| rl Z <| rs AA <| rn 2 Z <| bq ai fun az t aj => sx Z (AM (CE _ _ _ t) (.inl Z) Z Z Z <| rl Z <| rs AA <| rl Z <| cd Z aj (fun ak => ?_) (fun am => ?_))))
    .exact rg AA <| rn 3 Z <| bq ak fun a0 u al => sx Z (BU (enc := AT) (l := f.2) (m := [(⟨i.elem, au⟩ : AI)]) u (fun _ => ⟨Z, Z⟩) Z Z Z Z Z Z <| rl Z <| Ac <| AL al (wf hA [(0, 6), (1, 1), (2, 2)] Z Z Z))
    exact AE <| Ac <| AL am (wf hA (gi 3 []) Z Z Z)
   exact rg AA <| rl Z <| Ar an (wf hA (gi 3 []) Z Z Z)
  exact AU <| AX <| BK ao fun av ap => An <| Ac <| AC <| rg AA <| rl Z <| Ar ap (wf hA [(0, 0)] Z Z Z)
 refine AU <| AX <| BK aq fun aw ar => An <| AC <| rs AA <| rl Z <| AF ?_
 cases ar
 exact er (I5 Z (.one (.own (enc := AT) c.2 Z Z))) Le.rfl
noncomputable def JO (a : Ab) (b : Int) : Option Bool :=
 some (a.elem == b)
theorem Ui (a : Ab) (b : Int) (r : Bool) (h : JO a b = some r) : Az Tryz.prog 151 [.agg (Ax a), .place (Ad b) 0] (· = .bool r) := by
 refine fn AA Tryz.func151 Z Z 8 Z [.tmp 3] Z [(0, .p (.agg (Ax a))), (1, .p (.place (Ad b) 0))] Z Z fun A hA => ?_
 unfold JO at h
 refine rs AA <| rl Z <| rs AA <| rl Z <| AF ?_
 cases h
 exact er Z Le.rfl
noncomputable def GR (b : Al) (c : Int) (a : Int) : Option (Int ⊕ Int) :=
 bif decide (a < (b.steps.length : Int)) then (AY b.steps a).bind fun d => (JO d c).bind fun e => bif e then some (.inr a) else some (.inl (AN (a + 1))) else some (.inr (-1))
noncomputable def JP (c : Al) (d : Int) : Option Bool :=
 ((((AQ (GR c d) 0 : Option (Int))).bind fun (b : Int) => some (decide (0 <= b)) : Option (Bool))).bind fun (a : Bool) => some a
theorem XP (b : Al) (d : Int) (r : Bool) (h : JP b d = some r) : Az Tryz.prog 117 [.agg (BL b), .int .i64 d] (· = .bool r) := by
 refine fn AA Tryz.func117 Z Z 9 Z [.tmp 4] Z [(0, .p (.agg (BL b))), (1, .p (.int .i64 d))] Z Z fun A hA => ?_
 unfold JP at h
 refine rs AA <| rl Z <| rs AA <| rn 3 Z <| sx Z (CT AA (fun e : Bool => lb e) (fun e : Bool => [(0, bx (BL b)), (1, .box [li d])]) 2 h Tryz.func150 9 [.tmp 4] [(0, ls 3 Ax b.steps), (1, .fn 151 [.lpb 1 0])] Z Z Z Z Z Z Z Z (fun A hA e k => ?_) (fun e x => ?_))
 .refine rs AA <| rl Z <| rs AA <| rn 2 Z <| sx Z (CT AA (fun c : Int => li c) (fun c : Int => [(0, bx (BL b)), (1, .box [li d])]) 2 k Tryz.func167 19 [.tmp 4] [(0, ls 3 Ax b.steps), (1, .fn 151 [.lpb 1 0])] Z Z Z Z Z Z Z Z (fun A hA c l => ?_) (fun c w => ?_))
  .refine rs AA <| rl Z <| AB <| rs AA <| rn 1 Z <| sx Z (Ae Z Z <| rl Z <| AH ?_)
   apply lp (a := c) (fun f : Int => ⟨19, [(0, ls 3 Ax b.steps), (1, .fn 151 [.lpb 1 0]), (7, li (b.steps.length : Int)), (8, li f)], [(0, bx (BL b)), (1, .box [li d])], 2⟩) l
   . exact wj hA [(0, 0), (1, 1)] Z Z Z Z
   intro f aa g
   unfold GR at g
   refine rs AA <| rl Z <| AB <| cd Z g (fun m => ?_) (fun u => ?_)
   .refine AE <| AC <| AB <| AH <| rs AA <| rl Z <| rs AA <| rn 3 Z <| bq m fun ab i n => sx Z (Aj i Z Z Z <| rn 1 Z <| bq n fun ac j o => sx Z (AM (Ui _ _ _ j) (.inl Z) Z Z (D1.eq (.cons (.one (.p _)) (.cons (.box Z (.cons (.p _) .nil)) .nil))) <| rl Z <| cd Z o (fun q => ?_) (fun t => ?_)))
    .refine rs AA <| rl Z <| AF <| AO <| AG <| A3 q fun y s => AO <| AG ?_
     have hr := Option.some.inj s; subst hr
     exact CX (nt := 19) (sl := [(4, li f)]) (wj hA [(0, 0), (1, 1)] Z Z Z Z) Z
    exact AE <| Ac <| AC <| rg AA <| rl Z <| Ar t (wj hA [(0, 0), (1, 1)] Z Z Z Z)
   refine AU <| AX <| BK u fun z v => An <| AC <| rs AA <| rl Z <| AF ?_
   cases v
   exact CX (nt := 19) (sl := [(4, li (-1))]) (wj hA [(0, 0), (1, 1)] Z Z Z Z) Z
  refine rl Z <| AF ?_
  cases w
  exact CX (nt := 9) (sl := [(4, lb (decide (0 <= c)))]) (wj hA [(0, 0), (1, 1)] Z Z Z Z) Z
 refine rl Z <| AF ?_
 have hr := Option.some.inj x; subst hr
 exact er Z Le.rfl
noncomputable def Cs (b : (List Int)) (c : Int) (a : Int) : Option (Int ⊕ Int) :=
 bif decide (a < (b.length : Int)) then (AY b a).bind fun d => bif (c == d) then some (.inr a) else some (.inl (AN (a + 1))) else some (.inr (-1))
noncomputable def E3 (a : (List Int)) (b : Int) : Option Int :=
 AQ (Cs a b) 0
theorem PN (b : (List Int)) (c : Int) (r : Int) (h : E3 b c = some r) : Az Tryz.prog 73 [.slice 1 (b.map Ad), .int .i64 c] (· = .int .i64 r) := by
 refine fn AA Tryz.func73 Z Z 19 Z [.tmp 4] Z [(0, .p (.slice 1 (b.map Ad))), (1, .p (.int .i64 c))] Z Z fun A hA => ?_
 unfold E3 at h
 refine rs AA <| rl Z <| AB <| rs AA <| rn 1 Z <| sx Z (Ae Z Z <| rl Z <| AH ?_)
 apply lp (a := r) (fun e : Int => ⟨19, [(0, ls 1 Ad b), (1, li c), (7, li (b.length : Int)), (8, li e)], [], 0⟩) h
 . exact wf hA [] Z Z Z
 intro e s d
 unfold Cs at d
 refine rs AA <| rl Z <| AB <| cd Z d (fun n => ?_) (fun l => ?_)
 .refine AE <| AC <| AB <| AH <| rs AA <| rl Z <| rs AA <| rn 3 Z <| bq n fun t f g => sx Z (Aj f Z Z Z <| rl Z <| cd Z g (fun i => ?_) (fun k => ?_))
  .refine rs AA <| rl Z <| AF <| AO <| AG <| A3 i fun o j => AO <| AG ?_
   have hr := Option.some.inj j; subst hr
   exact er Z Le.rfl
  exact AE <| Ac <| AC <| rg AA <| rl Z <| Ar k (wf hA [] Z Z Z)
 refine AU <| AX <| BK l fun q m => An <| AC <| rs AA <| rl Z <| AF ?_
 cases m
 exact er Z Le.rfl
noncomputable def Bb (a : (List Int)) (b : Int) : Option Bool :=
 (E3 a b).bind fun c => some (decide (0 <= c))
theorem Ct (a : (List Int)) (b : Int) (r : Bool) (h : Bb a b = some r) : Az Tryz.prog 46 [.slice 1 (a.map Ad), .int .i64 b] (· = .bool r) := by
 refine fn AA Tryz.func46 Z Z 9 Z [.tmp 4] Z [(0, .p (.slice 1 (a.map Ad))), (1, .p (.int .i64 b))] Z Z fun A hA => ?_
 unfold Bb at h
 refine rs AA <| rl Z <| rs AA <| rn 2 Z <| bq h fun e c d => sx Z (AM (PN _ _ _ c) (.inl Z) Z Z Z <| rl Z <| AF ?_)
 cases d
 exact er Z Le.rfl
noncomputable def CG (b : (List Ap)) (c : Ap) (a : Int) : Option (Int ⊕ Int) :=
 bif decide (a < (b.length : Int)) then (AY b a).bind fun d => bif (c == d) then some (.inr a) else some (.inl (AN (a + 1))) else some (.inr (-1))
noncomputable def Db (a : (List Ap)) (b : Ap) : Option Int :=
 AQ (CG a b) 0
theorem Mi (c : (List Ap)) (b : Ap) (r : Int) (h : Db c b = some r) : Az Tryz.prog 152 [.slice 2 (c.map A1), .agg (A1 b)] (· = .int .i64 r) := by
 refine fn AA Tryz.func152 Z Z 19 Z [.tmp 4] Z [(0, .p (.slice 2 (c.map A1))), (1, .p (.agg (A1 b)))] Z Z fun A hA => ?_
 unfold Db at h
 refine rs AA <| rl Z <| AB <| rs AA <| rn 1 Z <| sx Z (Ae Z Z <| rl Z <| AH ?_)
 apply lp (a := r) (fun e : Int => ⟨19, [(0, ls 2 A1 c), (3, .lpb 0 0), (7, li (c.length : Int)), (8, li e)], [(0, .box [li b.elem, li b.pos])], 1⟩) h
 . exact wf hA [(0, 0)] Z Z Z
 intro e t d
 unfold CG at d
 refine rs AA <| rl Z <| AB <| cd Z d (fun n => ?_) (fun l => ?_)
 .refine AE <| AC <| AB <| AH <| rs AA <| rl Z <| AB ?_
  refine B3 AA mixed [0, 1, 2, 3, 4, 5] 6 (by kernel_rfl) Z Z Z ?_
  refine Av 3 Z <| bq n fun o f g => Au Z (Am Z (Aj f Z Z Z <| Av 1 Z <| Au Z (PA (ZS b o) Z Z Z Z Z <| BN Z <| AC <| cd Z g (fun i => ?_) (fun k => ?_))))
  .refine rs AA <| rl Z <| AF <| AO <| AG <| A3 i fun q j => AO <| AG ?_
   have hr := Option.some.inj j; subst hr
   exact er Z Le.rfl
  exact AE <| Ac <| AC <| rg AA <| rl Z <| Ar k (wf hA [(0, 0)] Z Z Z)
 refine AU <| AX <| BK l fun s m => An <| AC <| rs AA <| rl Z <| AF ?_
 cases m
 exact er Z Le.rfl
noncomputable def Bq (a : (List Ap)) (b : Ap) : Option Bool :=
 (Db a b).bind fun c => some (decide (0 <= c))
theorem EA (a : (List Ap)) (b : Ap) (r : Bool) (h : Bq a b = some r) : Az Tryz.prog 119 [.slice 2 (a.map A1), .agg (A1 b)] (· = .bool r) := by
 refine fn AA Tryz.func119 Z Z 9 Z [.tmp 4] Z [(0, .p (.slice 2 (a.map A1))), (1, .p (.agg (A1 b)))] Z Z fun A hA => ?_
 unfold Bq at h
 refine rs AA <| rl Z <| rs AA <| rn 2 Z <| bq h fun e c d => sx Z (AM (Mi _ _ _ c) (.inl Z) Z Z Z <| rl Z <| AF ?_)
 cases d
 exact er Z Le.rfl
noncomputable def EB (e : Int) (c : (List Bj)) (a : Int) : Option (Int ⊕ (Int × Bool)) :=
 bif decide (a < (c.length : Int)) then (AY c a).bind fun b => ((bif (b.pos == 0) then some true else some (b.pos == e) : Option (Bool))).bind fun (d : Bool) => bif d then some (.inr (b.out, true)) else some (.inl (AN (a + 1))) else some (.inr (0, false))
noncomputable def D6 (a : Aw) (b : Int) (c : Int) (d : Int) : Option (Int × Bool) :=
 (ER a b c).bind fun e => AQ (EB d e) 0
theorem QC (f : Aw) (g : Int) (i : Int) (b : Int) (r : (Int × Bool)) (h : D6 f g i b = some r) : Az Tryz.prog 153 [.place (Aq f) 0, .int .i64 g, .int .i64 i, .int .i64 b] (· = .tup [.int .i64 r.1, .bool r.2]) := by
 refine fn AA Tryz.func153 Z Z 33 Z [.tmp 8, .tmp 9] Z [(0, .p (.place (Aq f) 0)), (1, .p (.int .i64 g)), (2, .p (.int .i64 i)), (3, .p (.int .i64 b))] Z Z fun A hA => ?_
 unfold D6 at h
 refine rs AA <| rl Z <| AB <| rs AA <| rn 3 Z <| bq h fun c l n => sx Z (AM (NH _ _ _ _ l) (.inr Z) Z Z Z <| sx Z (Ae Z Z <| rl Z <| AH ?_))
 apply lp (a := r) (fun d : Int => ⟨33, [(3, li b), (15, ls 2 Dy c), (16, li (c.length : Int)), (17, li d)], [], 0⟩) n
 . exact wf hA [] Z Z Z
 intro d ad j
 unfold EB at j
 refine rs AA <| rl Z <| AB <| cd Z j (fun o => ?_) (fun z => ?_)
 .refine AE <| AC <| AB <| AH <| rs AA <| bq o fun k m q => sx Z (Aj m Z Z Z <| rl Z <| jb (fun e : Bool => ⟨33, [(3, li b), (11, .lpb 0 0), (15, ls 2 Dy c), (16, li (c.length : Int)), (17, li d), (29, lb e)], [(0, .box [li k.out, li k.pos])], 1⟩) q (fun e s => ?_) (fun e v => ?_))
  .refine rg AA <| rn 4 Z <| gs 24 s Z Z Z (fun t => ?_) (fun u => ?_)
   .exact rl Z <| AL t (wf hA [(0, 0)] Z Z Z)
   exact rl Z <| AL u (wf hA [(0, 0)] Z Z Z)
  refine cd Z v (fun w => ?_) (fun y => ?_)
  .refine rs AA <| rl Z <| AF <| AO <| AG <| A3 w fun ab x => AO <| AG ?_
   cases x
   exact er Z Le.rfl
  exact AE <| Ac <| AC <| rg AA <| rl Z <| Ar y (wf hA [] Z Z Z)
 refine AU <| AX <| BK z fun ac aa => An <| AC <| rs AA <| rl Z <| AF ?_
 cases aa
 exact er Z Le.rfl
noncomputable def Hv (b : Aw) (c : Int) (d : Int) (e : Int) : Option (Int × Bool) :=
 (D6 b c d e).bind fun a => some (a.1, a.2)
theorem SW (a : Aw) (b : Int) (c : Int) (d : Int) (r : (Int × Bool)) (h : Hv a b c d = some r) : Az Tryz.prog 120 [.place (Aq a) 0, .int .i64 b, .int .i64 c, .int .i64 d] (· = .tup [.int .i64 r.1, .bool r.2]) := by
 refine fn AA Tryz.func120 Z Z 17 Z [.tmp 8, .tmp 9] Z [(0, .p (.place (Aq a) 0)), (1, .p (.int .i64 b)), (2, .p (.int .i64 c)), (3, .p (.int .i64 d))] Z Z fun A hA => ?_
 unfold Hv at h
 refine rs AA <| rl Z <| rs AA <| rn 4 Z <| bq h fun g e f => sx Z (AM (QC _ _ _ _ _ e) (.inl Z) Z Z Z <| rl Z <| AF ?_)
 cases f
 exact er Z Le.rfl
noncomputable def DC (d : Aw) (e : Al) (r : (List Ab)) (l : (List Ap)) (am : AK) (a : Bool × (List (AI × Bool)) × (List Ap) × (List Int) × (List Int) × (List AI)) : Option ((Bool × (List (AI × Bool)) × (List Ap) × (List Int) × (List Int) × (List AI)) ⊕ Al) :=
 bif decide (0 < (a.2.2.2.2.2.length : Int)) then (AY a.2.2.2.2.2 (AN ((a.2.2.2.2.2.length : Int) - 1))).bind fun b => (ME a.2.2.2.2.2 0 (AN ((a.2.2.2.2.2.length : Int) - 1))).bind fun c => (((JP (⟨e.frm, e.to, e.fin, r, l, a.2.2.1, a.2.2.2.1, a.2.2.2.2.1, a.1⟩ : Al) b.elem).bind fun an => bif an then some true else some ((Ah a.2.1 b).getD false) : Option (Bool))).bind fun (y : Bool) => bif y then some (.inl (a.1, a.2.1, a.2.2.1, a.2.2.2.1, a.2.2.2.2.1, c)) else (CZ d b).bind fun m => ((bif decide (0 <= m) then some (!am.hard) else some false : Option (Bool))).bind fun (z : Bool) => bif z then (((Bb a.2.2.2.2.1 m).bind fun ao => bif (!ao) then (Bt a.2.2.2.2.1 [m]).bind fun ap => some ap else some a.2.2.2.2.1 : Option ((List Int)))).bind fun (aa : (List Int)) => some (.inl (a.1, A2 b true a.2.1, a.2.2.1, a.2.2.2.1, aa, c)) else (BT d b.elem).bind fun s => bif (s == 4) then some (.inl (true, A2 b true a.2.1, a.2.2.1, a.2.2.2.1, a.2.2.2.2.1, c)) else bif (s == 2) then bif (b.fin == 0) then (((((Bb a.2.2.2.1 b.elem).bind fun aq => bif aq then some (true, a.1, a.2.2.2.1) else bif decide (12 <= (a.2.2.2.1.length : Int)) then some (false, true, a.2.2.2.1) else (Bt a.2.2.2.1 [b.elem]).bind fun ar => some (true, a.1, ar) : Option (Bool × Bool × (List Int)))).bind fun (h : Bool × Bool × (List Int)) => bif h.1 then (((Bd d (⟨b.elem, 2⟩ : AI)).bind fun t => bif t.2 then (Bt c [t.1]).bind fun au => some au else some c : Option ((List AI)))).bind fun (n : (List AI)) => (((Bd d (⟨b.elem, 1⟩ : AI)).bind fun u => bif u.2 then (Bt n [u.1]).bind fun av => some av else some n : Option ((List AI)))).bind fun (ab : (List AI)) => some (h.2.1, h.2.2, ab) else some (h.2.1, h.2.2, c) : Option (Bool × (List Int) × (List AI)))).bind fun (k : Bool × (List Int) × (List AI)) => some (.inl (k.1, A2 b true a.2.1, a.2.2.1, k.2.1, a.2.2.2.2.1, k.2.2)) else (((Bq l (⟨b.elem, b.fin⟩ : Ap)).bind fun ac => bif ac then some true else (Bq a.2.2.1 (⟨b.elem, b.fin⟩ : Ap)).bind fun ad => some ad : Option (Bool))).bind fun (v : Bool) => bif v then (((((Bb a.2.2.2.1 b.elem).bind fun ae => bif ae then some (true, a.1, a.2.2.2.1) else bif decide (12 <= (a.2.2.2.1.length : Int)) then some (false, true, a.2.2.2.1) else (Bt a.2.2.2.1 [b.elem]).bind fun af => some (true, a.1, af) : Option (Bool × Bool × (List Int)))).bind fun (f : Bool × Bool × (List Int)) => bif f.1 then (((Bd d (⟨b.elem, 0⟩ : AI)).bind fun o => bif o.2 then (Bt c [o.1]).bind fun ag => some ag else some c : Option ((List AI)))).bind fun (w : (List AI)) => some (f.2.1, f.2.2, w) else some (f.2.1, f.2.2, c) : Option (Bool × (List Int) × (List AI)))).bind fun (i : Bool × (List Int) × (List AI)) => some (.inl (i.1, A2 b true a.2.1, a.2.2.1, i.2.1, a.2.2.2.2.1, i.2.2)) else (Bq a.2.2.1 (⟨b.elem, AN (3 - b.fin)⟩ : Ap)).bind fun ah => bif (!ah) then (Bt a.2.2.1 [(⟨b.elem, AN (3 - b.fin)⟩ : Ap)]).bind fun ai => some (.inl (a.1, A2 b true a.2.1, ai, a.2.2.2.1, a.2.2.2.2.1, c)) else some (.inl (a.1, A2 b true a.2.1, a.2.2.1, a.2.2.2.1, a.2.2.2.2.1, c)) else (Hv d b.elem b.fin 0).bind fun p => ((bif p.2 then (((Bb a.2.2.2.1 b.elem).bind fun aj => bif aj then some (true, a.1, a.2.2.2.1) else bif decide (12 <= (a.2.2.2.1.length : Int)) then some (false, true, a.2.2.2.1) else (Bt a.2.2.2.1 [b.elem]).bind fun ak => some (true, a.1, ak) : Option (Bool × Bool × (List Int)))).bind fun (j : Bool × Bool × (List Int)) => some (j.1, j.2.1, j.2.2) else some (false, a.1, a.2.2.2.1) : Option (Bool × Bool × (List Int)))).bind fun (g : Bool × Bool × (List Int)) => bif g.1 then (((Bd d (⟨b.elem, p.1⟩ : AI)).bind fun q => bif q.2 then (Bt c [q.1]).bind fun al => some al else some c : Option ((List AI)))).bind fun (x : (List AI)) => some (.inl (g.2.1, A2 b true a.2.1, a.2.2.1, g.2.2, a.2.2.2.2.1, x)) else some (.inl (g.2.1, A2 b true a.2.1, a.2.2.1, g.2.2, a.2.2.2.2.1, c)) else some (.inr (⟨e.frm, e.to, e.fin, r, l, a.2.2.1, a.2.2.2.1, a.2.2.2.2.1, a.1⟩ : Al))
noncomputable def Em (b : Aw) (c : Al) (i : (List Ab)) (j : (List Ap)) (d : AK) (e : (List AI)) (a : Int × (List AI)) : Option ((Int × (List AI)) ⊕ Al) :=
 bif decide (0 <= a.1) then (AY e a.1).bind fun f => (Bd b f).bind fun g => (Bt a.2 [g.1]).bind fun h => some (.inl (AN (a.1 - 1), h)) else (AQ (DC b c i j d) (false, [], ([] : List Ap), ([] : List Int), ([] : List Int), a.2)).map .inr
noncomputable def E4 (b : Aw) (a : Al) : Option Al :=
 (BX a.steps).bind fun d => (Da a.needs).bind fun e => (B1 b).bind fun f => (HR b (⟨a.frm, a.to, a.fin, d, e, [], [], [], false⟩ : Al)).bind fun c => AQ (Em b a d e f c) (AN ((c.length : Int) - 1), ([] : List AI))
theorem XQ (e : Aw) (c : Al) (r : Al) (h : E4 e c = some r) : Az Tryz.prog 82 [.place (Aq e) 0, .agg (BL c)] (· = .agg (BL r)) := by
 refine fn AA Tryz.func82 Z Z 187 Z [.cell 4 72] Z [(0, .p (.place (Aq e) 0)), (1, .p (.agg (BL c)))] Z Z fun A hA => ?_
 unfold E4 at h
 refine rs AA <| rl Z <| sc <| AB ?_
 refine B3 AA mixed [0, 1, 2, 3, 4, 5, 6, 7, 8, 9] 10 (by kernel_rfl) Z Z Z ?_
 refine Av 2 Z <| bq h fun g a7 de => Au Z (A7 (Mg _ _ a7) (.inr Z) Z Z Z <| Av 2 Z <| bq de fun i a8 df => Au Z (A7 (Mh _ _ a8) (.inr Z) Z Z Z <| BN Z <| AC <| rs AA <| rl Z <| rs AA <| rn 1 Z <| bq df fun o a2 c6 => sx Z (AM (Hk _ _ a2) (.inr Z) Z Z Z <| rl Z <| rs AA <| rl Z <| rs AA <| rl Z <| rs AA <| rn 2 Z <| bq c6 fun e4 a3 c7 => sx Z (AM (Az.le (Uh _ _ _ a3) (.cons Le.rfl (.cons (Le.agg' (.cons Le.rfl (.cons Le.rfl (.cons Le.rfl (.cons Le.rfl (.cons Le.rfl (.cons (Le.nil _) (.cons (Le.nil _) (.cons (Le.nil _) (.cons Le.rfl .nil)))))))))) .nil))) (.inr Z) Z Z Z <| rl Z <| AB <| rs AA <| rn 1 Z <| sx Z (Ae Z Z <| rl Z <| AH ?_)))))
 apply lp (a := r) (fun v : (Int × (List AI)) => ⟨187, [(2, .lpb 0 0), (3, .lpb 1 0), (4, .lpb 2 0), (5, lb o.hard), (6, .lmap 3), (7, .lpb 4 0), (8, ls 2 AT e4), (9, li v.1)], [(0, .box [lq (Aq e)]), (1, .box [li c.frm, li c.to, li c.fin, ls 3 Ax g, ls 2 A1 i, .p (.nils), .p (.nils), .p (.nils), lb false]), (2, .box [li 0, li 0, li 0, .p (.nils), .p (.nils), .p (.nils), .p (.nils), .p (.nils), lb false]), (3, .map (Ao (fun x => .agg (AT x)) .bool [])), (4, .box [.lsl 5 2 0 v.2.length]), (5, .row 40 2 (v.2.map AT))], 6⟩) c7
 . exact A9.trans (CP 14 0 40 2 Z Z Z Z) (wf hA (gi 3 [(3, 13), (4, 14), (5, 15)]) Z Z Z)
 intro v e9 ai
 unfold Em at ai
 refine AB <| rs AA <| rl Z <| cd Z ai (fun c8 => ?_) (fun dc => ?_)
 .refine AE <| AC <| AB <| AH <| AB ?_
  refine B3 AA mixed [0, 1, 2, 3, 4, 5, 6, 7, 8, 9, 10, 11] 12 (by kernel_rfl) Z Z Z ?_
  exact Av 3 Z <| bq c8 fun fl a4 c9 => Au Z (Am Z (Aj a4 Z Z Z <| Av 1 Z <| bq c9 fun e5 a5 da => Au Z (A7 (CE _ _ _ a5) (.inl Z) Z Z Z <| BN Z <| AC <| rg AA <| rn 3 Z <| bq da fun fm a6 db => sx Z (BU (enc := AT) (l := v.2) (m := [e5.1]) a6 (fun _ => ⟨Z, Z⟩) Z Z Z Z Z Z <| rl Z <| Ac <| AC <| rg AA <| rl Z <| Ar db (wf hA (gi 5 [(5, 19)]) Z Z Z)))))
 refine AU <| AX <| CF dc fun am dd => An <| AC <| rs AA <| rl Z <| AB <| KH <| AC <| AB <| AH ?_
 apply lp (a := am) (fun b : (Bool × (List (AI × Bool)) × (List Ap) × (List Int) × (List Int) × (List AI)) => ⟨187, [(2, .lpb 0 0), (3, .lpb 1 0), (4, .lpb 2 0), (5, lb o.hard), (6, .lmap 3), (7, .lpb 4 0), (12, .fn 116 [.lpb 0 0, .lpb 4 0])], [(0, .box [lq (Aq e)]), (1, .box [li c.frm, li c.to, li c.fin, ls 3 Ax g, ls 2 A1 i, .lsl 5 2 0 b.2.2.1.length, .lsl 6 1 0 b.2.2.2.1.length, .lsl 7 1 0 b.2.2.2.2.1.length, lb b.1]), (2, .box [li 0, li 0, li 0, .p (.nils), .p (.nils), .p (.nils), .p (.nils), .p (.nils), lb false]), (3, .map (Ao (fun x => .agg (AT x)) .bool b.2.1)), (4, .box [.lsl 8 2 0 b.2.2.2.2.2.length]), (5, .row 185 2 (b.2.2.1.map A1)), (6, .row 3 1 (b.2.2.2.1.map Ad)), (7, .row 3 1 (b.2.2.2.2.1.map Ad)), (8, .row 40 2 (b.2.2.2.2.2.map AT))], 9⟩) dd
 . exact A9.trans (CP 1 5 185 2 Z Z Z Z) (A9.trans (CP 1 6 3 1 Z Z Z Z) (A9.trans (CP 1 7 3 1 Z Z Z Z) (wf hA (gi 5 [(5, 6), (6, 7), (7, 8), (8, 5)]) Z Z Z)))
 intro b fa aj
 unfold DC at aj
 refine AB <| rs AA <| rl Z <| cd Z aj (fun dg => ?_) (fun c4 => ?_)
 .refine AE <| AC <| AH <| rs AA <| rn 4 Z <| bq dg fun d ah dh => sx Z (Bi ah Z Z Z Z <| sx Z (CW ah Z Z Z <| rl Z <| rs AA <| rn 4 Z <| bq dh fun f ad di => sx Z (RZ (l := b.2.2.2.2.2) ad Z Z Z Z <| rl Z <| AB <| jb (fun af : Bool => ⟨187, [(2, .lpb 0 0), (3, .lpb 1 0), (4, .lpb 2 0), (5, lb o.hard), (6, .lmap 3), (7, .lpb 4 0), (12, .fn 116 [.lpb 0 0, .lpb 4 0]), (13, .lpb 5 0), (81, lb af)], [(0, .box [lq (Aq e)]), (1, .box [li c.frm, li c.to, li c.fin, ls 3 Ax g, ls 2 A1 i, .lsl 6 2 0 b.2.2.1.length, .lsl 7 1 0 b.2.2.2.1.length, .lsl 8 1 0 b.2.2.2.2.1.length, lb b.1]), (2, .box [li 0, li 0, li 0, .p (.nils), .p (.nils), .p (.nils), .p (.nils), .p (.nils), lb false]), (3, .map (Ao (fun x => .agg (AT x)) .bool b.2.1)), (4, .box [.lsl 9 2 0 f.length]), (5, .box [li d.elem, li d.fin]), (6, .row 185 2 (b.2.2.1.map A1)), (7, .row 3 1 (b.2.2.2.1.map Ad)), (8, .row 3 1 (b.2.2.2.2.1.map Ad)), (9, .row 40 2 (f.map AT))], 10⟩) di (fun af dj => ?_) (fun af dn => ?_))))
  .refine rg AA <| rn 3 Z <| bq dj fun fo a9 dk => sx Z (AM (XP _ _ _ a9) (.inl Z) Z Z (D1.eq (.cons (.agg (.cons (.p _) (.cons (.p _) (.cons (.p _) (.cons (.p _) (.cons (.p _) (.cons (.own (enc := A1) b.2.2.1 Z Z) (.cons (.own (enc := Ad) b.2.2.2.1 Z Z) (.cons (.own (enc := Ad) b.2.2.2.2.1 Z Z) (.cons (.p _) .nil)))))))))) (.cons (.one (.p _)) .nil))) <| rn 1 Z <| gs 77 dk Z Z Z (fun dl => ?_) (fun dm => ?_))
   .exact rl Z <| AL dl (A9.trans (Jj 8 ad Z Z) (wf hA (gi 5 [(5, 9), (6, 5), (7, 6), (8, 7), (9, 8)]) Z Z Z))
   exact rn 2 Z <| sx Z (K4 (et := 4) (ke := (fun x => .agg (AT x))) (ve := .bool) (mp := b.2.1) (y := d) false CI Z Z Z Z <| rl Z <| AL dm (A9.trans (Jj 8 ad Z Z) (wf hA (gi 5 [(5, 9), (6, 5), (7, 6), (8, 7), (9, 8)]) Z Z Z)))
  refine cd Z dn (fun dp => ?_) (fun dq => ?_)
  .exact AU <| AX <| An <| Ar dp (wf hA (gi 5 [(5, 6), (6, 7), (7, 8), (8, 9)]) Z Z Z)
  refine AE <| AC <| rs AA <| rn 2 Z <| sx Z (Gq (et := 4) (ke := (fun x => .agg (AT x))) (ve := .bool) (mp := b.2.1) (y := d) (z := true) CI Z Z Z Z Z Z <| rl Z <| AB <| rs AA <| rn 2 Z <| bq dq fun al ba dr => sx Z (AM (Gt _ _ _ ba) (.inl Z) Z Z Z <| rl Z <| jb (fun ag : Bool => ⟨187, [(2, .lpb 0 0), (3, .lpb 1 0), (4, .lpb 2 0), (5, lb o.hard), (6, .lmap 3), (7, .lpb 4 0), (12, .fn 116 [.lpb 0 0, .lpb 4 0]), (13, .lpb 5 0), (14, li al), (92, lb ag)], [(0, .box [lq (Aq e)]), (1, .box [li c.frm, li c.to, li c.fin, ls 3 Ax g, ls 2 A1 i, .lsl 6 2 0 b.2.2.1.length, .lsl 7 1 0 b.2.2.2.1.length, .lsl 8 1 0 b.2.2.2.2.1.length, lb b.1]), (2, .box [li 0, li 0, li 0, .p (.nils), .p (.nils), .p (.nils), .p (.nils), .p (.nils), lb false]), (3, .map (Ao (fun x => .agg (AT x)) .bool (A2 d true b.2.1))), (4, .box [.lsl 9 2 0 f.length]), (5, .box [li d.elem, li d.fin]), (6, .row 185 2 (b.2.2.1.map A1)), (7, .row 3 1 (b.2.2.2.1.map Ad)), (8, .row 3 1 (b.2.2.2.2.1.map Ad)), (9, .row 40 2 (f.map AT))], 10⟩) dr (fun ag ds => ?_) (fun ag dv => ?_)))
  .refine rg AA <| rn 3 Z <| gs 89 ds Z Z Z (fun dt => ?_) (fun du => ?_)
   .exact rl Z <| AL dt (wf hA (gi 10 []) Z Z Z)
   exact rl Z <| AL du (wf hA (gi 10 []) Z Z Z)
  refine cd Z dv (fun dw => ?_) (fun d3 => ?_)
  .refine jb (fun ac : (List Int) => ⟨187, [(2, .lpb 0 0), (3, .lpb 1 0), (4, .lpb 2 0), (5, lb o.hard), (6, .lmap 3), (7, .lpb 4 0), (12, .fn 116 [.lpb 0 0, .lpb 4 0])], [(0, .box [lq (Aq e)]), (1, .box [li c.frm, li c.to, li c.fin, ls 3 Ax g, ls 2 A1 i, .lsl 5 2 0 b.2.2.1.length, .lsl 6 1 0 b.2.2.2.1.length, .lsl 7 1 0 ac.length, lb b.1]), (2, .box [li 0, li 0, li 0, .p (.nils), .p (.nils), .p (.nils), .p (.nils), .p (.nils), lb false]), (3, .map (Ao (fun x => .agg (AT x)) .bool (A2 d true b.2.1))), (4, .box [.lsl 8 2 0 f.length]), (5, .row 185 2 (b.2.2.1.map A1)), (6, .row 3 1 (b.2.2.2.1.map Ad)), (7, .row 3 1 (ac.map Ad)), (8, .row 40 2 (f.map AT))], 9⟩) dw (fun ac dx => ?_) (fun ac d2 => ?_)
   .refine rs AA <| rn 3 Z <| bq dx fun fp bb dy => sx Z (AM (Ct _ _ _ bb) (.inl Z) Z Z (D1.eq (.cons (.one (.own (enc := Ad) b.2.2.2.2.1 Z Z)) (.cons (.one (.p _)) .nil))) <| rl Z <| cd Z dy (fun dz => ?_) (fun d1 => ?_))
    .exact rg AA <| rn 4 Z <| bq dz fun fq bc d0 => sx Z (BU (enc := Ad) (l := b.2.2.2.2.1) (m := [al]) bc (fun _ => ⟨Z, Z⟩) Z Z Z Z Z Z <| rl Z <| AL d0 (wf hA (gi 5 [(5, 6), (6, 7), (7, 11), (8, 9)]) Z Z Z))
    exact AE <| AL d1 (wf hA (gi 5 [(5, 6), (6, 7), (7, 8), (8, 9)]) Z Z Z)
   exact AU <| AX <| An <| Ar d2 (wf hA (gi 9 []) Z Z Z)
  refine AE <| AC <| rs AA <| rn 3 Z <| bq d3 fun fr be d4 => sx Z (AM (Bu _ _ _ be) (.inl Z) Z Z Z <| rl Z <| AH <| rs AA <| rl Z <| cd Z d4 (fun d5 => ?_) (fun d6 => ?_))
  .exact rg AA <| rl Z <| Ac <| Ac <| Ar d5 (wf hA (gi 5 [(5, 6), (6, 7), (7, 8), (8, 9)]) Z Z Z)
  refine rs AA <| rl Z <| cd Z d6 (fun d7 => ?_) (fun ci => ?_)
  .refine AB <| rs AA <| rl Z <| cd Z d7 (fun d8 => ?_) (fun e1 => ?_)
   .refine jb (fun t : (Bool × (List Int) × (List AI)) => ⟨187, [(2, .lpb 0 0), (3, .lpb 1 0), (4, .lpb 2 0), (5, lb o.hard), (6, .lmap 3), (7, .lpb 4 0), (12, .fn 116 [.lpb 0 0, .lpb 4 0])], [(0, .box [lq (Aq e)]), (1, .box [li c.frm, li c.to, li c.fin, ls 3 Ax g, ls 2 A1 i, .lsl 5 2 0 b.2.2.1.length, .lsl 6 1 0 t.2.1.length, .lsl 7 1 0 b.2.2.2.2.1.length, lb t.1]), (2, .box [li 0, li 0, li 0, .p (.nils), .p (.nils), .p (.nils), .p (.nils), .p (.nils), lb false]), (3, .map (Ao (fun x => .agg (AT x)) .bool (A2 d true b.2.1))), (4, .box [.lsl 8 2 0 t.2.2.length]), (5, .row 185 2 (b.2.2.1.map A1)), (6, .row 3 1 (t.2.1.map Ad)), (7, .row 3 1 (b.2.2.2.2.1.map Ad)), (8, .row 40 2 (t.2.2.map AT))], 9⟩) d8 (fun t d9 => ?_) (fun t e0 => ?_)
    .refine rs AA <| rn 2 Z <| sx Z (CT AA (fun j : (Bool × Bool × (List Int)) => lb j.1) (fun j : (Bool × Bool × (List Int)) => [(0, .box [lq (Aq e)]), (1, .box [li c.frm, li c.to, li c.fin, ls 3 Ax g, ls 2 A1 i, .lsl 6 2 0 b.2.2.1.length, .lsl 10 1 0 j.2.2.length, .lsl 8 1 0 b.2.2.2.2.1.length, lb j.2.1]), (2, .box [li 0, li 0, li 0, .p (.nils), .p (.nils), .p (.nils), .p (.nils), .p (.nils), lb false]), (3, .map (Ao (fun x => .agg (AT x)) .bool (A2 d true b.2.1))), (4, .box [.lsl 9 2 0 f.length]), (5, .box [li d.elem, li d.fin]), (6, .row 185 2 (b.2.2.1.map A1)), (8, .row 3 1 (b.2.2.2.2.1.map Ad)), (9, .row 40 2 (f.map AT)), (10, .row 3 1 (j.2.2.map Ad))]) 11 d9 Tryz.func118 30 [.tmp 4] [(0, .lpb 1 0), (1, li d.elem)] Z Z Z Z Z Z Z Z (fun A hA j ea => ?_) (fun j eh => ?_))
     .refine rs AA <| rl Z <| AB <| rs AA <| rn 5 Z <| bq ea fun fs bf eb => sx Z (AM (Ct _ _ _ bf) (.inl Z) Z Z (D1.eq (.cons (.one (.own (enc := Ad) b.2.2.2.1 Z Z)) (.cons (.one (.p _)) .nil))) <| rl Z <| cd Z eb (fun ec => ?_) (fun ed => ?_))
      .refine rs AA <| rl Z <| AF <| AG ?_
       cases ec
       exact CX (nt := 30) (sl := [(4, lb true)]) (wj hA (gi 7 [(8, 8), (9, 9), (10, 7), (7, 7)]) Z Z Z Z) Z
      refine AE <| AC <| AB <| rs AA <| rl Z <| cd Z ed (fun ee => ?_) (fun ef => ?_)
      .refine rs AA <| rl Z <| rs AA <| rl Z <| AF <| AG ?_
       cases ee
       exact CX (nt := 30) (sl := [(4, lb false)]) (wj hA (gi 7 [(8, 8), (9, 9), (10, 7), (7, 7)]) Z Z Z Z) Z
      refine AE <| AC <| rs AA <| rn 7 Z <| bq ef fun ft bg eg => sx Z (BU (enc := Ad) (l := b.2.2.2.1) (m := [d.elem]) bg (fun _ => ⟨Z, Z⟩) Z Z Z Z Z Z <| rl Z <| rs AA <| rl Z <| AF ?_)
      cases eg
      exact CX (nt := 30) (sl := [(4, lb true)]) (wj hA (gi 7 [(8, 8), (9, 9), (10, 11), (7, 7)]) Z Z Z Z) Z
     refine rl Z <| cd Z eh (fun ei => ?_) (fun ez => ?_)
     .refine rs AA <| rn 3 Z <| sx Z (CT AA (fun u : (List AI) => .tup []) (fun u : (List AI) => [(0, .box [lq (Aq e)]), (1, .box [li c.frm, li c.to, li c.fin, ls 3 Ax g, ls 2 A1 i, .lsl 6 2 0 b.2.2.1.length, .lsl 10 1 0 j.2.2.length, .lsl 8 1 0 b.2.2.2.2.1.length, lb j.2.1]), (2, .box [li 0, li 0, li 0, .p (.nils), .p (.nils), .p (.nils), .p (.nils), .p (.nils), lb false]), (3, .map (Ao (fun x => .agg (AT x)) .bool (A2 d true b.2.1))), (4, .box [.lsl 11 2 0 u.length]), (5, .box [li d.elem, li d.fin]), (6, .row 185 2 (b.2.2.1.map A1)), (8, .row 3 1 (b.2.2.2.2.1.map Ad)), (10, .row 3 1 (j.2.2.map Ad)), (11, .row 40 2 (u.map AT))]) 12 ei Tryz.func116 21 [] [(0, li d.elem), (1, li 2), (2, .lpb 0 0), (3, .lpb 4 0)] Z Z Z Z Z Z Z Z (fun A hA u ej => ?_) (fun u ep => ?_))
      .refine rs AA <| rn 4 Z <| bq ej fun e6 bh ek => sx Z (AM (CE _ _ _ bh) (.inl Z) Z Z Z <| rl Z <| rs AA <| rl Z <| cd Z ek (fun el => ?_) (fun eo => ?_))
       .refine rg AA <| rn 3 Z <| bq el fun fu bi em => sx Z (BU (enc := AT) (l := f) (m := [e6.1]) bi (fun _ => ⟨Z, Z⟩) Z Z Z Z Z Z <| rl Z ?_)
        have hr := Option.some.inj em; subst hr
        exact MB (nt := 21) (sl := []) (wj hA (gi 9 [(10, 10), (11, 13), (9, 9)]) Z Z Z Z) Z
       refine AE ?_
       have hr := Option.some.inj eo; subst hr
       exact MB (nt := 21) (sl := []) (wj hA (gi 9 [(10, 10), (11, 9), (9, 9)]) Z Z Z Z) Z
      refine rl Z <| rg AA <| rn 3 Z <| sx Z (CT AA (fun ab : (List AI) => .tup []) (fun ab : (List AI) => [(0, .box [lq (Aq e)]), (1, .box [li c.frm, li c.to, li c.fin, ls 3 Ax g, ls 2 A1 i, .lsl 6 2 0 b.2.2.1.length, .lsl 10 1 0 j.2.2.length, .lsl 8 1 0 b.2.2.2.2.1.length, lb j.2.1]), (2, .box [li 0, li 0, li 0, .p (.nils), .p (.nils), .p (.nils), .p (.nils), .p (.nils), lb false]), (3, .map (Ao (fun x => .agg (AT x)) .bool (A2 d true b.2.1))), (4, .box [.lsl 12 2 0 ab.length]), (5, .box [li d.elem, li d.fin]), (6, .row 185 2 (b.2.2.1.map A1)), (8, .row 3 1 (b.2.2.2.2.1.map Ad)), (10, .row 3 1 (j.2.2.map Ad)), (12, .row 40 2 (ab.map AT))]) 13 ep Tryz.func116 21 [] [(0, li d.elem), (1, li 1), (2, .lpb 0 0), (3, .lpb 4 0)] Z Z Z Z Z Z Z Z (fun A hA ab es => ?_) (fun ab ey => ?_))
      .refine rs AA <| rn 4 Z <| bq es fun e7 bj eu => sx Z (AM (CE _ _ _ bj) (.inl Z) Z Z Z <| rl Z <| rs AA <| rl Z <| cd Z eu (fun ev => ?_) (fun ex => ?_))
       .refine rg AA <| rn 3 Z <| bq ev fun fv bk ew => sx Z (BU (enc := AT) (l := u) (m := [e7.1]) bk (fun _ => ⟨Z, Z⟩) Z Z Z Z Z Z <| rl Z ?_)
        have hr := Option.some.inj ew; subst hr
        exact MB (nt := 21) (sl := []) (wj hA (gi 11 [(12, 14), (11, 11)]) Z Z Z Z) Z
       refine AE ?_
       have hr := Option.some.inj ex; subst hr
       exact MB (nt := 21) (sl := []) (wj hA (gi 11 [(12, 11), (11, 11)]) Z Z Z Z) Z
      exact rl Z <| AL ey (wf hA (gi 5 [(5, 6), (6, 10), (7, 8), (8, 12)]) Z Z Z)
     exact AE <| AL ez (wf hA (gi 5 [(5, 6), (6, 10), (7, 8), (8, 9)]) Z Z Z)
    exact AU <| AX <| L7 Z <| An <| Ar e0 (wf hA (gi 9 []) Z Z Z)
   refine AE <| AC <| rs AA <| rl Z <| AB <| jb (fun ae : Bool => ⟨187, [(2, .lpb 0 0), (3, .lpb 1 0), (4, .lpb 2 0), (5, lb o.hard), (6, .lmap 3), (7, .lpb 4 0), (12, .fn 116 [.lpb 0 0, .lpb 4 0]), (13, .lpb 5 0), (161, lb ae)], [(0, .box [lq (Aq e)]), (1, .box [li c.frm, li c.to, li c.fin, ls 3 Ax g, ls 2 A1 i, .lsl 6 2 0 b.2.2.1.length, .lsl 7 1 0 b.2.2.2.1.length, .lsl 8 1 0 b.2.2.2.2.1.length, lb b.1]), (2, .box [li 0, li 0, li 0, .p (.nils), .p (.nils), .p (.nils), .p (.nils), .p (.nils), lb false]), (3, .map (Ao (fun x => .agg (AT x)) .bool (A2 d true b.2.1))), (4, .box [.lsl 9 2 0 f.length]), (5, .box [li d.elem, li d.fin]), (6, .row 185 2 (b.2.2.1.map A1)), (7, .row 3 1 (b.2.2.2.1.map Ad)), (8, .row 3 1 (b.2.2.2.2.1.map Ad)), (9, .row 40 2 (f.map AT))], 10⟩) e1 (fun ae bl => ?_) (fun ae br => ?_)
   .refine rg AA <| rn 3 Z <| bq bl fun fb an bm => sx Z (AM (EA _ _ _ an) (.inl Z) Z Z Z <| rn 1 Z <| gs 156 bm Z Z Z (fun bn => ?_) (fun bo => ?_))
    .exact rl Z <| AL bn (wf hA (gi 10 []) Z Z Z)
    exact rn 3 Z <| bq bo fun fc ao bp => sx Z (AM (EA _ _ _ ao) (.inl Z) Z Z (D1.eq (.cons (.one (.own (enc := A1) b.2.2.1 Z Z)) (.cons (.one (.p _)) .nil))) <| rl Z <| AL bp (wf hA (gi 10 []) Z Z Z))
   refine cd Z br (fun bs => ?_) (fun cc => ?_)
   .refine jb (fun q : (Bool × (List Int) × (List AI)) => ⟨187, [(2, .lpb 0 0), (3, .lpb 1 0), (4, .lpb 2 0), (5, lb o.hard), (6, .lmap 3), (7, .lpb 4 0), (12, .fn 116 [.lpb 0 0, .lpb 4 0])], [(0, .box [lq (Aq e)]), (1, .box [li c.frm, li c.to, li c.fin, ls 3 Ax g, ls 2 A1 i, .lsl 5 2 0 b.2.2.1.length, .lsl 6 1 0 q.2.1.length, .lsl 7 1 0 b.2.2.2.2.1.length, lb q.1]), (2, .box [li 0, li 0, li 0, .p (.nils), .p (.nils), .p (.nils), .p (.nils), .p (.nils), lb false]), (3, .map (Ao (fun x => .agg (AT x)) .bool (A2 d true b.2.1))), (4, .box [.lsl 8 2 0 q.2.2.length]), (5, .row 185 2 (b.2.2.1.map A1)), (6, .row 3 1 (q.2.1.map Ad)), (7, .row 3 1 (b.2.2.2.2.1.map Ad)), (8, .row 40 2 (q.2.2.map AT))], 9⟩) bs (fun q bt => ?_) (fun q cb => ?_)
    .refine rs AA <| rn 2 Z <| sx Z (CT AA (fun k : (Bool × Bool × (List Int)) => lb k.1) (fun k : (Bool × Bool × (List Int)) => [(0, .box [lq (Aq e)]), (1, .box [li c.frm, li c.to, li c.fin, ls 3 Ax g, ls 2 A1 i, .lsl 6 2 0 b.2.2.1.length, .lsl 10 1 0 k.2.2.length, .lsl 8 1 0 b.2.2.2.2.1.length, lb k.2.1]), (2, .box [li 0, li 0, li 0, .p (.nils), .p (.nils), .p (.nils), .p (.nils), .p (.nils), lb false]), (3, .map (Ao (fun x => .agg (AT x)) .bool (A2 d true b.2.1))), (4, .box [.lsl 9 2 0 f.length]), (5, .box [li d.elem, li d.fin]), (6, .row 185 2 (b.2.2.1.map A1)), (8, .row 3 1 (b.2.2.2.2.1.map Ad)), (9, .row 40 2 (f.map AT)), (10, .row 3 1 (k.2.2.map Ad))]) 11 bt Tryz.func118 30 [.tmp 4] [(0, .lpb 1 0), (1, li d.elem)] Z Z Z Z Z Z Z Z (fun A hA k bu => ?_) (fun k b2 => ?_))
     .refine rs AA <| rl Z <| AB <| rs AA <| rn 5 Z <| bq bu fun fd ap bv => sx Z (AM (Ct _ _ _ ap) (.inl Z) Z Z (D1.eq (.cons (.one (.own (enc := Ad) b.2.2.2.1 Z Z)) (.cons (.one (.p _)) .nil))) <| rl Z <| cd Z bv (fun bw => ?_) (fun bx => ?_))
      .refine rs AA <| rl Z <| AF <| AG ?_
       cases bw
       exact CX (nt := 30) (sl := [(4, lb true)]) (wj hA (gi 7 [(8, 8), (9, 9), (10, 7), (7, 7)]) Z Z Z Z) Z
      refine AE <| AC <| AB <| rs AA <| rl Z <| cd Z bx (fun bz => ?_) (fun b0 => ?_)
      .refine rs AA <| rl Z <| rs AA <| rl Z <| AF <| AG ?_
       cases bz
       exact CX (nt := 30) (sl := [(4, lb false)]) (wj hA (gi 7 [(8, 8), (9, 9), (10, 7), (7, 7)]) Z Z Z Z) Z
      refine AE <| AC <| rs AA <| rn 7 Z <| bq b0 fun fe aq b1 => sx Z (BU (enc := Ad) (l := b.2.2.2.1) (m := [d.elem]) aq (fun _ => ⟨Z, Z⟩) Z Z Z Z Z Z <| rl Z <| rs AA <| rl Z <| AF ?_)
      cases b1
      exact CX (nt := 30) (sl := [(4, lb true)]) (wj hA (gi 7 [(8, 8), (9, 9), (10, 11), (7, 7)]) Z Z Z Z) Z
     refine rl Z <| cd Z b2 (fun b3 => ?_) (fun ca => ?_)
     .refine rg AA <| rn 3 Z <| sx Z (CT AA (fun w : (List AI) => .tup []) (fun w : (List AI) => [(0, .box [lq (Aq e)]), (1, .box [li c.frm, li c.to, li c.fin, ls 3 Ax g, ls 2 A1 i, .lsl 6 2 0 b.2.2.1.length, .lsl 10 1 0 k.2.2.length, .lsl 8 1 0 b.2.2.2.2.1.length, lb k.2.1]), (2, .box [li 0, li 0, li 0, .p (.nils), .p (.nils), .p (.nils), .p (.nils), .p (.nils), lb false]), (3, .map (Ao (fun x => .agg (AT x)) .bool (A2 d true b.2.1))), (4, .box [.lsl 11 2 0 w.length]), (5, .box [li d.elem, li d.fin]), (6, .row 185 2 (b.2.2.1.map A1)), (8, .row 3 1 (b.2.2.2.2.1.map Ad)), (10, .row 3 1 (k.2.2.map Ad)), (11, .row 40 2 (w.map AT))]) 12 b3 Tryz.func116 21 [] [(0, li d.elem), (1, li 0), (2, .lpb 0 0), (3, .lpb 4 0)] Z Z Z Z Z Z Z Z (fun A hA w b4 => ?_) (fun w b9 => ?_))
      .refine rs AA <| rn 4 Z <| bq b4 fun e2 ar b5 => sx Z (AM (CE _ _ _ ar) (.inl Z) Z Z Z <| rl Z <| rs AA <| rl Z <| cd Z b5 (fun b6 => ?_) (fun b8 => ?_))
       .refine rg AA <| rn 3 Z <| bq b6 fun ff au b7 => sx Z (BU (enc := AT) (l := f) (m := [e2.1]) au (fun _ => ⟨Z, Z⟩) Z Z Z Z Z Z <| rl Z ?_)
        have hr := Option.some.inj b7; subst hr
        exact MB (nt := 21) (sl := []) (wj hA (gi 9 [(10, 10), (11, 13), (9, 9)]) Z Z Z Z) Z
       refine AE ?_
       have hr := Option.some.inj b8; subst hr
       exact MB (nt := 21) (sl := []) (wj hA (gi 9 [(10, 10), (11, 9), (9, 9)]) Z Z Z Z) Z
      exact rl Z <| AL b9 (wf hA (gi 5 [(5, 6), (6, 10), (7, 8), (8, 11)]) Z Z Z)
     exact AE <| AL ca (wf hA (gi 5 [(5, 6), (6, 10), (7, 8), (8, 9)]) Z Z Z)
    exact AU <| AX <| L7 Z <| An <| Ar cb (wf hA (gi 9 []) Z Z Z)
   refine AE <| AC <| rs AA <| rl Z <| rs AA <| rn 3 Z <| bq cc fun fg av ce => sx Z (AM (EA _ _ _ av) (.inl Z) Z Z (D1.eq (.cons (.one (.own (enc := A1) b.2.2.1 Z Z)) (.cons (.one (.p _)) .nil))) <| rl Z <| cd Z ce (fun cf => ?_) (fun ch => ?_))
   .exact rg AA <| rn 4 Z <| bq cf fun fh aw cg => sx Z (BU (enc := A1) (l := b.2.2.1) (m := [(⟨d.elem, AN (3 - d.fin)⟩ : Ap)]) aw (fun _ => ⟨Z, Z⟩) Z Z Z Z Z Z <| rl Z <| Ac <| Ac <| Ar cg (wf hA (gi 5 [(5, 12), (6, 7), (7, 8), (8, 9)]) Z Z Z))
   exact AE <| Ac <| Ac <| Ar ch (wf hA (gi 5 [(5, 6), (6, 7), (7, 8), (8, 9)]) Z Z Z)
  refine rs AA <| rn 5 Z <| bq ci fun ak ax cj => sx Z (AM (SW _ _ _ _ _ ax) (.inl Z) Z Z Z <| rl Z <| jb (fun n : (Bool × Bool × (List Int)) => ⟨187, [(2, .lpb 0 0), (3, .lpb 1 0), (4, .lpb 2 0), (5, lb o.hard), (6, .lmap 3), (7, .lpb 4 0), (12, .fn 116 [.lpb 0 0, .lpb 4 0]), (13, .lpb 5 0), (17, li ak.1), (122, lb n.1)], [(0, .box [lq (Aq e)]), (1, .box [li c.frm, li c.to, li c.fin, ls 3 Ax g, ls 2 A1 i, .lsl 6 2 0 b.2.2.1.length, .lsl 7 1 0 n.2.2.length, .lsl 8 1 0 b.2.2.2.2.1.length, lb n.2.1]), (2, .box [li 0, li 0, li 0, .p (.nils), .p (.nils), .p (.nils), .p (.nils), .p (.nils), lb false]), (3, .map (Ao (fun x => .agg (AT x)) .bool (A2 d true b.2.1))), (4, .box [.lsl 9 2 0 f.length]), (5, .box [li d.elem, li d.fin]), (6, .row 185 2 (b.2.2.1.map A1)), (7, .row 3 1 (n.2.2.map Ad)), (8, .row 3 1 (b.2.2.2.2.1.map Ad)), (9, .row 40 2 (f.map AT))], 10⟩) cj (fun n ck => ?_) (fun n cv => ?_))
  .refine rg AA <| rn 2 Z <| gs 118 ck Z Z Z (fun cl => ?_) (fun cu => ?_)
   .refine rn 2 Z <| sx Z (CT AA (fun s : (Bool × Bool × (List Int)) => lb s.1) (fun s : (Bool × Bool × (List Int)) => [(0, .box [lq (Aq e)]), (1, .box [li c.frm, li c.to, li c.fin, ls 3 Ax g, ls 2 A1 i, .lsl 6 2 0 b.2.2.1.length, .lsl 10 1 0 s.2.2.length, .lsl 8 1 0 b.2.2.2.2.1.length, lb s.2.1]), (2, .box [li 0, li 0, li 0, .p (.nils), .p (.nils), .p (.nils), .p (.nils), .p (.nils), lb false]), (3, .map (Ao (fun x => .agg (AT x)) .bool (A2 d true b.2.1))), (4, .box [.lsl 9 2 0 f.length]), (5, .box [li d.elem, li d.fin]), (6, .row 185 2 (b.2.2.1.map A1)), (8, .row 3 1 (b.2.2.2.2.1.map Ad)), (9, .row 40 2 (f.map AT)), (10, .row 3 1 (s.2.2.map Ad))]) 11 cl Tryz.func118 30 [.tmp 4] [(0, .lpb 1 0), (1, li d.elem)] Z Z Z Z Z Z Z Z (fun A hA s cm => ?_) (fun s ct => ?_))
    .refine rs AA <| rl Z <| AB <| rs AA <| rn 5 Z <| bq cm fun fi ay cn => sx Z (AM (Ct _ _ _ ay) (.inl Z) Z Z (D1.eq (.cons (.one (.own (enc := Ad) b.2.2.2.1 Z Z)) (.cons (.one (.p _)) .nil))) <| rl Z <| cd Z cn (fun co => ?_) (fun cp => ?_))
     .refine rs AA <| rl Z <| AF <| AG ?_
      cases co
      exact CX (nt := 30) (sl := [(4, lb true)]) (wj hA (gi 7 [(8, 8), (9, 9), (10, 7), (7, 7)]) Z Z Z Z) Z
     refine AE <| AC <| AB <| rs AA <| rl Z <| cd Z cp (fun cq => ?_) (fun cr => ?_)
     .refine rs AA <| rl Z <| rs AA <| rl Z <| AF <| AG ?_
      cases cq
      exact CX (nt := 30) (sl := [(4, lb false)]) (wj hA (gi 7 [(8, 8), (9, 9), (10, 7), (7, 7)]) Z Z Z Z) Z
     refine AE <| AC <| rs AA <| rn 7 Z <| bq cr fun fj az cs => sx Z (BU (enc := Ad) (l := b.2.2.2.1) (m := [d.elem]) az (fun _ => ⟨Z, Z⟩) Z Z Z Z Z Z <| rl Z <| rs AA <| rl Z <| AF ?_)
     cases cs
     exact CX (nt := 30) (sl := [(4, lb true)]) (wj hA (gi 7 [(8, 8), (9, 9), (10, 11), (7, 7)]) Z Z Z Z) Z
    exact rl Z <| AL ct (wf hA (gi 7 [(7, 10), (8, 8), (9, 9)]) Z Z Z)
   exact rl Z <| AL cu (wf hA (gi 10 []) Z Z Z)
  refine cd Z cv (fun cw => ?_) (fun c3 => ?_)
  .refine rg AA <| rn 4 Z <| sx Z (CT AA (fun aa : (List AI) => .tup []) (fun aa : (List AI) => [(0, .box [lq (Aq e)]), (1, .box [li c.frm, li c.to, li c.fin, ls 3 Ax g, ls 2 A1 i, .lsl 6 2 0 b.2.2.1.length, .lsl 7 1 0 n.2.2.length, .lsl 8 1 0 b.2.2.2.2.1.length, lb n.2.1]), (2, .box [li 0, li 0, li 0, .p (.nils), .p (.nils), .p (.nils), .p (.nils), .p (.nils), lb false]), (3, .map (Ao (fun x => .agg (AT x)) .bool (A2 d true b.2.1))), (4, .box [.lsl 10 2 0 aa.length]), (5, .box [li d.elem, li d.fin]), (6, .row 185 2 (b.2.2.1.map A1)), (7, .row 3 1 (n.2.2.map Ad)), (8, .row 3 1 (b.2.2.2.2.1.map Ad)), (10, .row 40 2 (aa.map AT))]) 11 cw Tryz.func116 21 [] [(0, li d.elem), (1, li ak.1), (2, .lpb 0 0), (3, .lpb 4 0)] Z Z Z Z Z Z Z Z (fun A hA aa cx => ?_) (fun aa c2 => ?_))
   .refine rs AA <| rn 4 Z <| bq cx fun e3 a0 cy => sx Z (AM (CE _ _ _ a0) (.inl Z) Z Z Z <| rl Z <| rs AA <| rl Z <| cd Z cy (fun cz => ?_) (fun c1 => ?_))
    .refine rg AA <| rn 3 Z <| bq cz fun fk a1 c0 => sx Z (BU (enc := AT) (l := f) (m := [e3.1]) a1 (fun _ => ⟨Z, Z⟩) Z Z Z Z Z Z <| rl Z ?_)
     have hr := Option.some.inj c0; subst hr
     exact MB (nt := 21) (sl := []) (wj hA (gi 9 [(10, 12), (9, 9)]) Z Z Z Z) Z
    refine AE ?_
    have hr := Option.some.inj c1; subst hr
    exact MB (nt := 21) (sl := []) (wj hA (gi 9 [(10, 9), (9, 9)]) Z Z Z Z) Z
   exact rl Z <| Ac <| Ac <| Ar c2 (wf hA (gi 5 [(5, 6), (6, 7), (7, 8), (8, 10)]) Z Z Z)
  exact AE <| Ac <| Ac <| Ar c3 (wf hA (gi 5 [(5, 6), (6, 7), (7, 8), (8, 9)]) Z Z Z)
 refine AU <| AX <| BK c4 fun e8 c5 => An <| AC <| rs AA <| rl Z <| AF <| I6 ?_
 cases c5
 exact er (I5 Z (.agg (.cons (.p _) (.cons (.p _) (.cons (.p _) (.cons (.p _) (.cons (.p _) (.cons (.own (enc := A1) b.2.2.1 Z Z) (.cons (.own (enc := Ad) b.2.2.2.1 Z Z) (.cons (.own (enc := Ad) b.2.2.2.2.1 Z Z) (.cons (.p _) .nil))))))))))) Le.rfl
end Go.E
/- Plain functions, and walks in step with them. Written by a program (gen.py). No condition. -/
set_option maxRecDepth 100000
set_option maxHeartbeats 1000000
namespace Go.E
open Go Go.RowKit Go.Proofs
noncomputable def Ea (b : Aw) (f : ((List Al) × Int)) (a : Int × (List Al)) : Option ((Int × (List Al)) ⊕ (C4 × Int)) :=
 bif decide (a.1 < (f.1.length : Int)) then (AY a.2 a.1).bind fun c => (E4 b c).bind fun d => (AY a.2 a.1).bind fun g => some (.inl (AN (a.1 + 1), A4 a.2 a.1 d)) else ((B1 b).bind fun e => some ((⟨e, a.2⟩ : C4), 0)).map .inr
noncomputable def GS (d : AK) : Option (C4 × Int) :=
 (Ca d).bind fun a => I4 a.1 (bif (a.2 != 0) then some ((⟨(⟨[], [], [], [], 0, 0, 0, 0, false⟩ : AK), []⟩ : C4), a.2) else none) fun c => bif (a.2 != 0) then some ((⟨(⟨[], [], [], [], 0, 0, 0, 0, false⟩ : AK), []⟩ : C4), a.2) else (JN c).bind fun b => bif (b.2 != 0) then some ((⟨(⟨[], [], [], [], 0, 0, 0, 0, false⟩ : AK), []⟩ : C4), b.2) else AQ (Ea c b) (0, b.1)
theorem Tb (d : AK) (r : (C4 × Int)) (h : GS d = some r) : Az Tryz.prog 52 [.agg (AV d)] (· = .tup [.agg (Cq r.1), .int .i64 r.2]) := by
 refine fn AA Tryz.func52 Z Z 45 Z [.cell 2 35, .tmp 3] Z [(0, .p (.agg (AV d)))] Z Z fun A hA => ?_
 unfold GS at h
 refine rs AA <| rl Z <| rs AA <| rn 1 Z <| bq h fun af l b => sx Z (AM (PJ _ _ l) (.inr Z) Z Z Z ?_)
 revert b; rcases aj : af.1 with _ | ag <;> intro b
 .replace b := UM b
  refine rl Z <| AB <| rs AA <| rl Z <| cd Z b (fun ac => ?_) (fun m => ?_)
  .refine rs AA <| rl Z <| AF <| AG ?_
   cases ac
   exact er Z (Le.tup' (.cons (Le.agg' (.cons (Le.nil _) (.cons (Le.nil _) (.cons (Le.nil _) (.cons (Le.nil _) (.cons Le.rfl (.cons Le.rfl (.cons Le.rfl (.cons Le.rfl (.cons Le.rfl (.cons (Le.nil _) .nil))))))))))) (.cons Le.rfl .nil)))
  refine AE <| AC <| rs AA <| rn 1 Z ?_
  cases m
 replace b := UN b
 refine rl Z <| AB <| rs AA <| rl Z <| cd Z b (fun v => ?_) (fun x => ?_)
 .refine rs AA <| rl Z <| AF <| AG ?_
  cases v
  exact er Z (Le.tup' (.cons (Le.agg' (.cons (Le.nil _) (.cons (Le.nil _) (.cons (Le.nil _) (.cons (Le.nil _) (.cons Le.rfl (.cons Le.rfl (.cons Le.rfl (.cons Le.rfl (.cons Le.rfl (.cons (Le.nil _) .nil))))))))))) (.cons Le.rfl .nil)))
 refine AE <| AC <| rs AA <| rn 1 Z <| bq x fun ae k y => sx Z (WS (c' := 3) (XO _ _ k) [] Z trivial Z Z Z Z Z Z Z <| rl Z <| AB <| rs AA <| rl Z <| cd Z y (fun aa => ?_) (fun ab => ?_))
 .refine rs AA <| rl Z <| AF <| AG ?_
  cases aa
  exact er Z (Le.tup' (.cons (Le.agg' (.cons (Le.nil _) (.cons (Le.nil _) (.cons (Le.nil _) (.cons (Le.nil _) (.cons Le.rfl (.cons Le.rfl (.cons Le.rfl (.cons Le.rfl (.cons Le.rfl (.cons (Le.nil _) .nil))))))))))) (.cons Le.rfl .nil)))
 refine AE <| AC <| AB <| rs AA <| rl Z <| AH ?_
 apply lp (a := r) (fun c : (Int × (List Al)) => ⟨45, [(2, .lpb 0 0), (4, lq (Aq ag)), (6, .lsl 1 9 0 c.2.length), (27, li (ae.1.length : Int)), (28, li c.1)], [(0, .box [.p (.nils), .p (.nils), .p (.nils), .p (.nils), li 0, li 0, li 0, li 0, lb false, .p (.nils)]), (1, .row 72 9 (c.2.map BL))], 2⟩) ab
 . exact wf hA [(0, 1), (1, 2)] Z Z Z
 intro c ai g
 unfold Ea at g
 refine rs AA <| rl Z <| AB <| cd Z g (fun n => ?_) (fun t => ?_)
 .exact AE <| AC <| AB <| AH <| rs AA <| rl Z <| rg AA <| rn 5 Z <| bq n fun ak e o => sx Z (Bi e Z Z Z Z <| sx Z (CW e Z Z Z <| bq o fun ad i q => sx Z (AM (XQ _ _ _ i) (.inr Z) Z Z Z <| bq q fun al f s => sx Z (Bi f Z Z Z Z <| sx Z (Jz (z := ad) f Z Z Z Z Z Z Z Z <| rl Z <| Ac <| AC <| rg AA <| rl Z <| Ar s (wk [(0, 0), (1, 1)] (free hA _) Z Z Z (.cons Z (.cons Z (.cons (by simp only [BA]; rfl) (.cons Z (.cons Z .nil))))) (.cons Z Z (.cons Z Z .nil))))))))
 refine AU <| AX <| CF t fun ah u => An <| AC <| rs AA <| rn 1 Z <| bq u fun am j w => sx Z (AM (Hk _ _ j) (.inr Z) Z Z Z <| rl Z <| AF ?_)
 cases w
 exact er (UR Z (.cons (.agg (.cons (.p _) (.cons (.p _) (.cons (.p _) (.cons (.p _) (.cons (.p _) (.cons (.p _) (.cons (.p _) (.cons (.p _) (.cons (.p _) (.cons (.own (enc := BL) c.2 Z Z) .nil))))))))))) (.cons (.one (.p _)) .nil))) Le.rfl
noncomputable def Ge (a : AK) : Option (C4 × Bool) :=
 (HM a).bind fun c => bif (!c) then some ((⟨(⟨[], [], [], [], 0, 0, 0, 0, false⟩ : AK), []⟩ : C4), false) else (GS a).bind fun b => some (b.1, (b.2 == 0))
theorem QL (a : AK) (r : (C4 × Bool)) (h : Ge a = some r) : Az Tryz.prog 24 [.agg (AV a)] (· = .tup [.agg (Cq r.1), .bool r.2]) := by
 refine fn AA Tryz.func24 Z Z 18 Z [.cell 2 35, .tmp 3] Z [(0, .p (.agg (AV a)))] Z Z fun A hA => ?_
 unfold Ge at h
 refine rs AA <| rl Z <| AB <| rs AA <| rn 1 Z <| bq h fun j c d => sx Z (AM (PL _ _ c) (.inl Z) Z Z Z <| rl Z <| cd Z d (fun e => ?_) (fun f => ?_))
 .refine rs AA <| rl Z <| AF <| AG ?_
  cases e
  exact er Z (Le.tup' (.cons (Le.agg' (.cons (Le.nil _) (.cons (Le.nil _) (.cons (Le.nil _) (.cons (Le.nil _) (.cons Le.rfl (.cons Le.rfl (.cons Le.rfl (.cons Le.rfl (.cons Le.rfl (.cons (Le.nil _) .nil))))))))))) (.cons Le.rfl .nil)))
 refine AE <| AC <| rs AA <| rn 1 Z <| bq f fun i b g => sx Z (AM (Tb _ _ b) (.inr Z) Z Z Z <| rl Z <| rs AA <| rl Z <| AF ?_)
 cases g
 exact er Z Le.rfl
noncomputable def Ip (b : AK) : Option (Option Aw) :=
 (HM b).bind fun c => bif (!c) then some none else (Ca b).bind fun a => I4 a.1 (bif (a.2 != 0) then some none else some none) fun d => bif (a.2 != 0) then some none else some (some d)
theorem S3 (b : AK) (r : (Option Aw)) (h : Ip b = some r) : Az Tryz.prog 33 [.agg (AV b)] (· = XK Aq r) := by
 refine fn AA Tryz.func33 Z Z 16 Z [.tmp 2] Z [(0, .p (.agg (AV b)))] Z Z fun A hA => ?_
 unfold Ip at h
 refine rs AA <| rl Z <| AB <| rs AA <| rn 1 Z <| bq h fun o d e => sx Z (AM (PL _ _ d) (.inl Z) Z Z Z <| rl Z <| cd Z e (fun f => ?_) (fun g => ?_))
 .refine rs AA <| rl Z <| AF <| AG ?_
  cases f
  exact er Z Le.rfl
 refine AE <| AC <| rs AA <| rn 1 Z <| bq g fun m c a => sx Z (AM (PJ _ _ c) (.inr Z) Z Z Z ?_)
 revert a; rcases n : m.1 with _ | q <;> intro a
 .replace a := UM a
  refine rl Z <| AB <| rs AA <| rl Z <| cd Z a (fun i => ?_) (fun j => ?_)
  .refine rs AA <| rl Z <| AF <| AG ?_
   cases i
   exact er Z Le.rfl
  refine AE <| AC <| rs AA <| rl Z <| AF ?_
  cases j
  exact er Z Le.rfl
 replace a := UN a
 refine rl Z <| AB <| rs AA <| rl Z <| cd Z a (fun k => ?_) (fun l => ?_)
 .refine rs AA <| rl Z <| AF <| AG ?_
  cases k
  exact er Z Le.rfl
 refine AE <| AC <| rs AA <| rl Z <| AF ?_
 cases l
 exact er Z Le.rfl
noncomputable def HI : Option Ag :=
 some (⟨0, ([(⟨(⟨#[120]⟩ : ByteArray), 5, 10, 10, 5⟩ : A0)] : List A0), ([(⟨(⟨#[116]⟩ : ByteArray), 0, 0, 0, ([(⟨false, 0, 1, 1⟩ : Co), (⟨false, 0, 3, 4⟩ : Co), (⟨true, 0, 2, 0⟩ : Co)] : List Co)⟩ : CY)] : List CY)⟩ : Ag)
theorem KZ (r : Ag) (h : HI = some r) : Az Tryz.prog 34 [] (· = .agg (AZ r)) := by
 refine fn AA Tryz.func34 Z Z 10 Z [.cell 0 31] Z [] Z Z fun A hA => ?_
 unfold HI at h
 refine rs AA <| rl Z <| rs AA <| rn 1 Z <| sx Z (XC (sz := 5) (l := List.map BG ([(⟨(⟨#[120]⟩ : ByteArray), 5, 10, 10, 5⟩ : A0)] : List A0)) Z <| rn 3 Z <| sx Z (XC (sz := 4) (l := List.map Ee ([(⟨false, 0, 1, 1⟩ : Co), (⟨false, 0, 3, 4⟩ : Co), (⟨true, 0, 2, 0⟩ : Co)] : List Co)) Z <| rn 1 Z <| sx Z (XC (sz := 5) (l := List.map Bx ([(⟨(⟨#[116]⟩ : ByteArray), 0, 0, 0, ([(⟨false, 0, 1, 1⟩ : Co), (⟨false, 0, 3, 4⟩ : Co), (⟨true, 0, 2, 0⟩ : Co)] : List Co)⟩ : CY)] : List CY)) Z <| rl Z <| AF ?_)))
 cases h
 exact er Z Le.rfl
noncomputable def F1 (b : Ag) (a : Int) (c : Int) : Option ((List Co) × Bool) :=
 ((bif decide (a < 0) then some true else bif decide ((b.runs.length : Int) <= a) then some true else bif decide (c < 0) then some true else (AY b.runs a).bind fun e => some (decide ((e.legs.length : Int) < c)) : Option (Bool))).bind fun (d : Bool) => bif d then some ([], false) else (AY b.runs a).bind fun f => some (f.legs, true)
theorem N3 (a : Ag) (b : Int) (d : Int) (r : ((List Co) × Bool)) (h : F1 a b d = some r) : Az Tryz.prog 39 [.agg (AZ a), .int .i64 b, .int .i64 d] (· = .tup [.slice 4 (r.1.map Ee), .bool r.2]) := by
 refine fn AA Tryz.func39 Z Z 38 Z [.tmp 6, .tmp 7] Z [(0, .p (.agg (AZ a))), (1, .p (.int .i64 b)), (2, .p (.int .i64 d))] Z Z fun A hA => ?_
 unfold F1 at h
 refine rs AA <| rl Z <| AB <| jb (fun c : Bool => ⟨38, [(1, li b), (3, .lpb 0 0), (31, lb c)], [(0, bx (AZ a))], 1⟩) h (fun c g => ?_) (fun c q => ?_)
 .refine rg AA <| rn 3 Z <| gs 10 g Z Z Z (fun i => ?_) (fun j => ?_)
  .exact rl Z <| AL i (wf hA [(0, 0)] Z Z Z)
  refine rn 3 Z <| sx Z (Ae Z Z <| rn 3 Z <| gs 17 j Z Z Z (fun k => ?_) (fun l => ?_))
  .exact rl Z <| AL k (wf hA [(0, 0)] Z Z Z)
  refine rn 4 Z <| gs 21 l Z Z Z (fun m => ?_) (fun n => ?_)
  .exact rl Z <| AL m (wf hA [(0, 0)] Z Z Z)
  exact rn 4 Z <| bq n fun v e o => sx Z (Aj e Z Z Z <| rn 2 Z <| sx Z (Ae Z Z <| rl Z <| AL o (wf hA [(0, 0)] Z Z Z)))
 refine cd Z q (fun s => ?_) (fun t => ?_)
 .refine rs AA <| rl Z <| AF <| AG ?_
  cases s
  exact er Z (Le.tup' (.cons (Le.nil _) (.cons Le.rfl .nil)))
 refine AE <| AC <| rs AA <| rn 3 Z <| bq t fun w f u => sx Z (Aj f Z Z Z <| rl Z <| AF ?_)
 cases u
 exact er Z Le.rfl
noncomputable def If (b : Aw) (c : Int) : Option (Int × Bool) :=
 (Cd b c).bind fun a => some (a.1.elem, a.2)
theorem Tc (a : Aw) (b : Int) (r : (Int × Bool)) (h : If a b = some r) : Az Tryz.prog 70 [.place (Aq a) 0, .int .i64 b] (· = .tup [.int .i64 r.1, .bool r.2]) := by
 refine fn AA Tryz.func70 Z Z 17 Z [.tmp 4, .tmp 5] Z [(0, .p (.place (Aq a) 0)), (1, .p (.int .i64 b))] Z Z fun A hA => ?_
 unfold If at h
 refine rs AA <| rl Z <| rs AA <| rn 2 Z <| bq h fun e c d => sx Z (AM (HG _ _ _ c) (.inl Z) Z Z Z <| rl Z <| rs AA <| rl Z <| AF ?_)
 cases d
 exact er Z Le.rfl
noncomputable def Gh (b : Aw) (c : Int) : Option Int :=
 (If b c).bind fun a => bif (!a.2) then some (-1) else some a.1
theorem QM (a : Aw) (b : Int) (r : Int) (h : Gh a b = some r) : Az Tryz.prog 40 [.place (Aq a) 0, .int .i64 b] (· = .int .i64 r) := by
 refine fn AA Tryz.func40 Z Z 16 Z [.tmp 4] Z [(0, .p (.place (Aq a) 0)), (1, .p (.int .i64 b))] Z Z fun A hA => ?_
 unfold Gh at h
 refine rs AA <| rl Z <| rs AA <| rn 2 Z <| bq h fun g c d => sx Z (AM (Tc _ _ _ c) (.inl Z) Z Z Z <| rl Z <| AB <| rs AA <| rl Z <| cd Z d (fun e => ?_) (fun f => ?_))
 .refine rs AA <| rl Z <| AF <| AG ?_
  cases e
  exact er Z Le.rfl
 refine AE <| AC <| rs AA <| rl Z <| AF ?_
 cases f
 exact er Z Le.rfl
noncomputable def C3 (c : Aw) (d : Ag) (e : Int) (b : Int) : Option Int :=
 (F1 d e b).bind fun f => bif (!f.2) then some (-1) else bif (b == 0) then (AY d.runs e).bind fun g => (Gh c g.frm).bind fun h => some h else (AY f.1 (AN (b - 1))).bind fun a => bif (a.fin == 1) then (Gh c a.to).bind fun i => some i else bif (a.fin == 3) then some a.to else some (-1)
theorem HF (a : Aw) (b : Ag) (c : Int) (d : Int) (r : Int) (h : C3 a b c d = some r) : Az Tryz.prog 13 [.place (Aq a) 0, .agg (AZ b), .int .i64 c, .int .i64 d] (· = .int .i64 r) := by
 refine fn AA Tryz.func13 Z Z 48 Z [.tmp 8] Z [(0, .p (.place (Aq a) 0)), (1, .p (.agg (AZ b))), (2, .p (.int .i64 c)), (3, .p (.int .i64 d))] Z Z fun A hA => ?_
 unfold C3 at h
 refine rs AA <| rl Z <| rs AA <| rn 3 Z <| bq h fun ab g o => sx Z (AM (N3 _ _ _ _ g) (.inr Z) Z Z Z <| rl Z <| AB <| rs AA <| rl Z <| cd Z o (fun x => ?_) (fun y => ?_))
 .refine rs AA <| rl Z <| AF <| AG ?_
  cases x
  exact er Z Le.rfl
 refine AE <| AC <| AB <| rs AA <| rl Z <| cd Z y (fun k => ?_) (fun n => ?_)
 .refine rs AA <| rn 4 Z <| bq k fun z e l => sx Z (Aj e Z Z Z <| rn 2 Z <| bq l fun aa f m => sx Z (AM (QM _ _ _ f) (.inl Z) Z Z Z <| rl Z <| AF <| AG ?_))
  have hr := Option.some.inj m; subst hr
  exact er Z Le.rfl
 refine AE <| AC <| AB <| rs AA <| rn 3 Z <| bq n fun ac i q => sx Z (Aj i Z Z Z <| rl Z <| rs AA <| rl Z <| AH <| rs AA <| rl Z <| cd Z q (fun s => ?_) (fun u => ?_))
 .refine rs AA <| rn 3 Z <| bq s fun ad j t => sx Z (AM (QM _ _ _ j) (.inl Z) Z Z Z <| rl Z <| AF <| AO <| AG ?_)
  have hr := Option.some.inj t; subst hr
  exact er Z Le.rfl
 refine rs AA <| rl Z <| cd Z u (fun v => ?_) (fun w => ?_)
 .refine rs AA <| rl Z <| AF <| AO <| AG ?_
  cases v
  exact er Z Le.rfl
 refine AE <| Ac <| AC <| rs AA <| rl Z <| AF ?_
 cases w
 exact er Z Le.rfl
noncomputable def J3 (b : Aw) (a : Int) : Option Int :=
 (BT b a).bind fun c => bif (c == 4) then some (-1) else some a
theorem QI (a : Aw) (b : Int) (r : Int) (h : J3 a b = some r) : Az Tryz.prog 48 [.place (Aq a) 0, .int .i64 b] (· = .int .i64 r) := by
 refine fn AA Tryz.func48 Z Z 10 Z [.tmp 4] Z [(0, .p (.place (Aq a) 0)), (1, .p (.int .i64 b))] Z Z fun A hA => ?_
 unfold J3 at h
 refine rs AA <| rl Z <| AB <| rs AA <| rn 2 Z <| bq h fun g c d => sx Z (AM (Bu _ _ _ c) (.inl Z) Z Z Z <| rl Z <| cd Z d (fun e => ?_) (fun f => ?_))
 .refine rs AA <| rl Z <| AF <| AG ?_
  cases e
  exact er Z Le.rfl
 refine AE <| AC <| rs AA <| rl Z <| AF ?_
 have hr := Option.some.inj f; subst hr
 exact er Z Le.rfl
noncomputable def Hj (a : Aw) (b : Int) : Option (Int × Int) :=
 bif (Ah a.line b).isSome then (AY ([((Ah a.line b).getD (⟨0, 0⟩ : Bl)).a0, ((Ah a.line b).getD (⟨0, 0⟩ : Bl)).a1] : List Int) 0).bind fun c => (AY ([((Ah a.line b).getD (⟨0, 0⟩ : Bl)).a0, ((Ah a.line b).getD (⟨0, 0⟩ : Bl)).a1] : List Int) 1).bind fun d => some (c, d) else some ((-1), (-1))
theorem M7 (a : Aw) (b : Int) (r : (Int × Int)) (h : Hj a b = some r) : Az Tryz.prog 77 [.place (Aq a) 0, .int .i64 b] (· = .tup [.int .i64 r.1, .int .i64 r.2]) := by
 refine fn AA Tryz.func77 Z Z 22 Z [.tmp 4, .tmp 5] Z [(0, .p (.place (Aq a) 0)), (1, .p (.int .i64 b))] Z Z fun A hA => ?_
 unfold Hj at h
 refine rs AA <| rl Z <| AB <| rs AA <| rn 5 Z <| sx Z (J0 (et := 161) (ke := (.int .i64)) (ve := (fun x => .agg (FC x))) (mp := a.line) (y := b) (⟨0, 0⟩ : Bl) GJ Z Z Z Z <| rl Z <| rs AA <| rl Z <| cd Z h (fun e => ?_) (fun j => ?_))
 .refine AB ?_
  refine B3 AA mixed [0, 1, 2, 3, 4, 5] 6 (by kernel_rfl) Z Z Z ?_
  refine bq e fun k c f => Au Z (Am Z (W9 (l := ([((Ah a.line b).getD (⟨0, 0⟩ : Bl)).a0, ((Ah a.line b).getD (⟨0, 0⟩ : Bl)).a1] : List Int)) c Z Z Z Z <| Au Z (G9 Z (XB (g := fun y => .p (.int .i64 y)) c Z Z Z Z <| bq f fun m d i => Au Z (Am Z (W9 (l := ([((Ah a.line b).getD (⟨0, 0⟩ : Bl)).a0, ((Ah a.line b).getD (⟨0, 0⟩ : Bl)).a1] : List Int)) d Z Z Z Z <| Au Z (G9 Z (XB (g := fun y => .p (.int .i64 y)) d Z Z Z Z <| BN Z <| AC <| AF <| AG ?_))))))))
  cases i
  exact er Z Le.rfl
 refine AE <| AC <| rs AA <| rl Z <| AF ?_
 cases j
 exact er Z Le.rfl
noncomputable def IQ (b : Aw) (c : Ag) (d : Int) (e : Int) : Option (AI × Bool) :=
 bif (e == 0) then (AY c.runs d).bind fun l => (Cd b l.frm).bind fun f => some (f.1, f.2) else (AY c.runs d).bind fun m => (AY m.legs (AN (e - 1))).bind fun a => bif (a.fin == 1) then (Cd b a.to).bind fun g => some (g.1, g.2) else bif (a.fin == 3) then (Bd b (⟨a.to, 0⟩ : AI)).bind fun h => (Bd b (⟨a.to, 1⟩ : AI)).bind fun i => ((bif (!h.2) then some i.2 else some false : Option (Bool))).bind fun (j : Bool) => bif j then some ((⟨a.to, 0⟩ : AI), true) else ((bif h.2 then some (!i.2) else some false : Option (Bool))).bind fun (k : Bool) => some ((⟨a.to, 1⟩ : AI), k) else some ((⟨0, 0⟩ : AI), false)
theorem Vs (c : Aw) (d : Ag) (e : Int) (f : Int) (r : (AI × Bool)) (h : IQ c d e f = some r) : Az Tryz.prog 42 [.place (Aq c) 0, .agg (AZ d), .int .i64 e, .int .i64 f] (· = .tup [.agg (AT r.1), .bool r.2]) := by
 refine fn AA Tryz.func42 Z Z 82 Z [.cell 8 40, .tmp 9] Z [(0, .p (.place (Aq c) 0)), (1, .p (.agg (AZ d))), (2, .p (.int .i64 e)), (3, .p (.int .i64 f))] Z Z fun A hA => ?_
 unfold IQ at h
 refine rs AA <| rl Z <| AB <| rs AA <| rl Z <| cd Z h (fun w => ?_) (fun af => ?_)
 .refine rs AA <| rn 4 Z <| bq w fun aq i ad => sx Z (Aj i Z Z Z <| rn 2 Z <| bq ad fun ar j ae => sx Z (AM (HG _ _ _ j) (.inl Z) Z Z Z <| rl Z <| AF <| AG ?_))
  cases ae
  exact er Z Le.rfl
 refine AE <| AC <| AB <| rs AA <| rn 3 Z <| bq af fun au k ag => sx Z (Aj k Z Z Z <| rn 4 Z <| bq ag fun g l ah => sx Z (Aj l Z Z Z <| rl Z <| rs AA <| rl Z <| AH <| rs AA <| rl Z <| cd Z ah (fun ai => ?_) (fun ak => ?_)))
 .refine rs AA <| rn 3 Z <| bq ai fun av m aj => sx Z (AM (HG _ _ _ m) (.inl Z) Z Z Z <| rl Z <| AF <| AO <| AG ?_)
  cases aj
  exact er Z Le.rfl
 refine rs AA <| rl Z <| cd Z ak (fun al => ?_) (fun ac => ?_)
 .refine rs AA <| rn 4 Z <| bq al fun ao n am => sx Z (AM (CE _ _ _ n) (.inl Z) Z Z Z <| rl Z <| rs AA <| rn 4 Z <| bq am fun ap o an => sx Z (AM (CE _ _ _ o) (.inl Z) Z Z Z <| rl Z <| AB <| jb (fun a : Bool => ⟨82, [(8, .lpb 0 0), (10, .lpb 1 0), (12, lb ao.2), (14, lb ap.2), (69, lb a)], [(0, .box [li 0, li 0]), (1, bx (Ee g))], 2⟩) an (fun a q => ?_) (fun a u => ?_)))
  .refine rg AA <| rn 3 Z <| gs 67 q Z Z Z (fun s => ?_) (fun t => ?_)
   .exact rl Z <| AL s (wf hA [(0, 1), (1, 2)] Z Z Z)
   exact rl Z <| AL t (wf hA [(0, 1), (1, 2)] Z Z Z)
  refine cd Z u (fun v => ?_) (fun x => ?_)
  .refine rs AA <| rl Z <| AF <| AG <| AO <| AG ?_
   cases v
   exact er Z Le.rfl
  refine AE <| AC <| jb (fun b : Bool => ⟨82, [(8, .lpb 0 0), (9, lb b)], [(0, .box [li g.to, li 1])], 1⟩) x (fun b y => ?_) (fun b ab => ?_)
  .refine rg AA <| rn 5 Z <| gs 77 y Z Z Z (fun z => ?_) (fun aa => ?_)
   .exact rl Z <| AL z (wf hA [(0, 0)] Z Z Z)
   exact rl Z <| AL aa (wf hA [(0, 0)] Z Z Z)
  refine AF <| AO <| AG ?_
  cases ab
  exact er Z Le.rfl
 refine AE <| Ac <| AC <| rs AA <| rl Z <| AF ?_
 cases ac
 exact er Z Le.rfl
noncomputable def Hm (d : Aw) (e : Ag) (f : Int) (a : Int) : Option Int :=
 (F1 e f a).bind fun c => ((bif (!c.2) then some true else some (a == (c.1.length : Int)) : Option (Bool))).bind fun (g : Bool) => bif g then some (-1) else (IQ d e f a).bind fun b => ((bif (!b.2) then some true else (AY c.1 a).bind fun j => bif j.turn then (BT d b.1.elem).bind fun k => some (k != 1) else some false : Option (Bool))).bind fun (h : Bool) => bif h then some (-1) else (((AY c.1 a).bind fun l => bif l.turn then some (AN (1 - b.1.fin)) else some b.1.fin : Option (Int))).bind fun (i : Int) => (CZ d (⟨b.1.elem, i⟩ : AI)).bind fun m => some m
theorem Rd (a : Aw) (c : Ag) (d : Int) (b : Int) (r : Int) (h : Hm a c d b = some r) : Az Tryz.prog 15 [.place (Aq a) 0, .agg (AZ c), .int .i64 d, .int .i64 b] (· = .int .i64 r) := by
 refine fn AA Tryz.func15 Z Z 63 Z [.tmp 8] Z [(0, .p (.place (Aq a) 0)), (1, .p (.agg (AZ c))), (2, .p (.int .i64 d)), (3, .p (.int .i64 b))] Z Z fun A hA => ?_
 unfold Hm at h
 refine rs AA <| rl Z <| rs AA <| rn 3 Z <| bq h fun j l z => sx Z (AM (N3 _ _ _ _ l) (.inr Z) Z Z Z <| rl Z <| AB <| jb (fun e : Bool => ⟨63, [(0, lq (Aq a)), (2, li d), (3, li b), (5, .lpb 0 0), (9, ls 4 Ee j.1), (26, lb e)], [(0, bx (AZ c))], 1⟩) z (fun e s => ?_) (fun e v => ?_))
 .refine rg AA <| rn 3 Z <| gs 21 s Z Z Z (fun t => ?_) (fun u => ?_)
  .exact rl Z <| AL t (wf hA [(0, 0)] Z Z Z)
  exact rn 2 Z <| sx Z (Ae Z Z <| rl Z <| AL u (wf hA [(0, 0)] Z Z Z))
 refine cd Z v (fun w => ?_) (fun x => ?_)
 .refine rs AA <| rl Z <| AF <| AG ?_
  cases w
  exact er Z Le.rfl
 refine AE <| AC <| rs AA <| rn 4 Z <| bq x fun i k y => sx Z (AM (Vs _ _ _ _ _ k) (.inl Z) Z Z Z <| rl Z <| AB <| jb (fun f : Bool => ⟨63, [(0, lq (Aq a)), (3, li b), (9, ls 4 Ee j.1), (11, .lpb 0 0), (50, lb f)], [(0, .box [li i.1.elem, li i.1.fin])], 1⟩) y (fun f aa => ?_) (fun f ah => ?_))
 .refine rg AA <| rn 3 Z <| gs 37 aa Z Z Z (fun ab => ?_) (fun ac => ?_)
  .exact rl Z <| AL ab (wf hA [(0, 1)] Z Z Z)
  refine rn 2 Z <| bq ac fun aq m ad => sx Z (Aj m Z Z Z <| rn 3 Z <| gs 43 ad Z Z Z (fun ae => ?_) (fun ag => ?_))
  .exact rn 3 Z <| bq ae fun ar n af => sx Z (AM (Bu _ _ _ n) (.inl Z) Z Z Z <| rl Z <| AL af (wf hA [(0, 1)] Z Z Z))
  exact rl Z <| AL ag (wf hA [(0, 1)] Z Z Z)
 refine cd Z ah (fun ai => ?_) (fun aj => ?_)
 .refine rs AA <| rl Z <| AF <| AG ?_
  cases ai
  exact er Z Le.rfl
 refine AE <| AC <| jb (fun g : Int => ⟨63, [(0, lq (Aq a)), (11, .lpb 0 0)], [(0, .box [li i.1.elem, li g])], 1⟩) aj (fun g ak => ?_) (fun g ao => ?_)
 .refine rs AA <| rn 2 Z <| bq ak fun au o al => sx Z (Aj o Z Z Z <| rl Z <| cd Z al (fun am => ?_) (fun an => ?_))
  .exact rg AA <| rl Z <| AL am (wf hA [(0, 0)] Z Z Z)
  exact AE <| AL an (wf hA [(0, 0)] Z Z Z)
 refine rs AA <| rn 2 Z <| bq ao fun av q ap => sx Z (AM (Gt _ _ _ q) (.inl Z) Z Z Z <| rl Z <| AF ?_)
 have hr := Option.some.inj ap; subst hr
 exact er Z Le.rfl
noncomputable def JQ (a : Al) (b : Co) : Option Bool :=
 ((bif (a.fin != b.fin) then some true else some ((a.steps.length : Int) == 0) : Option (Bool))).bind fun (c : Bool) => bif c then some false else bif (b.fin == 1) then some (a.to == b.to) else (AY a.steps (AN ((a.steps.length : Int) - 1))).bind fun d => some (d.elem == b.to)
theorem XR (a : Al) (b : Co) (r : Bool) (h : JQ a b = some r) : Az Tryz.prog 45 [.agg (BL a), .agg (Ee b)] (· = .bool r) := by
 refine fn AA Tryz.func45 Z Z 36 Z [.tmp 4] Z [(0, .p (.agg (BL a))), (1, .p (.agg (Ee b)))] Z Z fun A hA => ?_
 unfold JQ at h
 refine rs AA <| rl Z <| AB <| jb (fun c : Bool => ⟨36, [(2, .lpb 0 0), (3, .lpb 1 0), (15, lb c)], [(0, bx (BL a)), (1, bx (Ee b))], 2⟩) h (fun c e => ?_) (fun c i => ?_)
 .refine rg AA <| rn 6 Z <| gs 10 e Z Z Z (fun f => ?_) (fun g => ?_)
  .exact rl Z <| AL f (wf hA [(0, 0), (1, 1)] Z Z Z)
  exact rn 2 Z <| sx Z (Ae Z Z <| rl Z <| AL g (wf hA [(0, 0), (1, 1)] Z Z Z))
 refine cd Z i (fun j => ?_) (fun k => ?_)
 .refine rs AA <| rl Z <| AF <| AG ?_
  cases j
  exact er Z Le.rfl
 refine AE <| AC <| AB <| rs AA <| rl Z <| cd Z k (fun l => ?_) (fun m => ?_)
 .refine rs AA <| rl Z <| AF <| AG ?_
  cases l
  exact er Z Le.rfl
 refine AE <| AC <| AB ?_
 refine B3 AA mixed [0, 1, 2, 3, 4, 5, 6, 7, 8, 9, 10, 11, 12] 13 (by kernel_rfl) Z Z Z ?_
 refine Av 4 Z <| Au Z (KT Z Z <| Av 1 Z <| bq m fun o d n => Au Z (Am Z (Aj d Z Z Z <| BN Z <| AC <| AF ?_)))
 cases n
 exact er Z Le.rfl
noncomputable def DO (a : Aw) (b : Int) : Option Int :=
 (EP a b).bind fun c => some c.length
theorem Lk (a : Aw) (b : Int) (r : Int) (h : DO a b = some r) : Az Tryz.prog 74 [.place (Aq a) 0, .int .i64 b] (· = .int .i64 r) := by
 refine fn AA Tryz.func74 Z Z 9 Z [.tmp 4] Z [(0, .p (.place (Aq a) 0)), (1, .p (.int .i64 b))] Z Z fun A hA => ?_
 unfold DO at h
 refine rs AA <| rl Z <| rs AA <| rn 2 Z <| bq h fun e c d => sx Z (AM (NG _ _ _ c) (.inl Z) Z Z Z <| rl Z <| AF ?_)
 cases d
 exact er Z Le.rfl
noncomputable def HS (a : Aw) (d : A0) (b : Int) : Option Bool :=
 (BT a b).bind fun c => bif (c == 4) then some true else bif (c == 1) then (DO a b).bind fun e => (B1 a).bind fun f => some (decide (AN (d.len + f.margin) <= e)) else some false
theorem Uj (a : Aw) (b : A0) (c : Int) (r : Bool) (h : HS a b c = some r) : Az Tryz.prog 47 [.place (Aq a) 0, .agg (BG b), .int .i64 c] (· = .bool r) := by
 refine fn AA Tryz.func47 Z Z 24 Z [.tmp 6] Z [(0, .p (.place (Aq a) 0)), (1, .p (.agg (BG b))), (2, .p (.int .i64 c))] Z Z fun A hA => ?_
 unfold HS at h
 refine rs AA <| rl Z <| AB <| rs AA <| rn 2 Z <| bq h fun o d g => sx Z (AM (Bu _ _ _ d) (.inl Z) Z Z Z <| rl Z <| AH <| rs AA <| rl Z <| cd Z g (fun i => ?_) (fun j => ?_))
 .refine rs AA <| rl Z <| AF <| AO <| AG ?_
  cases i
  exact er Z Le.rfl
 refine rs AA <| rl Z <| cd Z j (fun k => ?_) (fun n => ?_)
 .refine AB ?_
  refine B3 AA mixed [0, 1, 2, 3, 4, 5, 6, 7, 8, 9, 10] 11 (by kernel_rfl) Z Z Z ?_
  refine Av 2 Z <| bq k fun q e l => Au Z (A7 (Lk _ _ _ e) (.inl Z) Z Z Z <| Av 3 Z <| bq l fun s f m => Au Z (A7 (Hk _ _ f) (.inr Z) Z Z Z <| BN Z <| AC <| AF <| AO <| AG ?_))
  cases m
  exact er Z Le.rfl
 refine AE <| Ac <| AC <| rs AA <| rl Z <| AF ?_
 cases n
 exact er Z Le.rfl
noncomputable def Hw (f : Aw) (c : (List Al)) (g : Ag) (h : Int) (i : Int) (j : Int) (l : Int) (k : A0) (a : Int × (List Int)) : Option ((Int × (List Int)) ⊕ (List Int)) :=
 bif decide (a.1 < (c.length : Int)) then (((AY c a.1).bind fun b => ((bif (b.frm == j) then (AY g.runs h).bind fun m => (AY m.legs i).bind fun n => (JQ b n).bind fun o => bif o then bif (!b.bare) then (Bb b.zone l).bind fun p => bif (!p) then (AY b.steps (AN ((b.steps.length : Int) - 1))).bind fun q => (HS f k q.elem).bind fun r => some r else some false else some false else some false else some false : Option (Bool))).bind fun (e : Bool) => bif e then (Bt a.2 [a.1]).bind fun s => some s else some a.2 : Option ((List Int)))).bind fun (d : (List Int)) => some (.inl (AN (a.1 + 1), d)) else some (.inr a.2)
noncomputable def DW (c : Aw) (g : (List Al)) (a : Ag) (b : Int) (d : Int) : Option (List Int) :=
 (Hm c a b d).bind fun e => (C3 c a b d).bind fun l => ((bif decide (e < 0) then some true else (AY a.runs b).bind fun h => bif decide (h.stock < 0) then some true else (AY a.runs b).bind fun i => some (decide ((a.stock.length : Int) <= i.stock)) : Option (Bool))).bind fun (f : Bool) => bif f then some [] else (AY a.runs b).bind fun j => (AY a.stock j.stock).bind fun k => AQ (Hw c g a b d e l k) (0, ([] : List Int))
theorem ID (d : Aw) (c : (List Al)) (e : Ag) (f : Int) (g : Int) (r : (List Int)) (h : DW d c e f g = some r) : Az Tryz.prog 18 [.place (Aq d) 0, .slice 9 (c.map BL), .agg (AZ e), .int .i64 f, .int .i64 g] (· = .slice 1 (r.map Ad)) := by
 refine fn AA Tryz.func18 Z Z 116 Z [.tmp 10] Z [(0, .p (.place (Aq d) 0)), (1, .p (.slice 9 (c.map BL))), (2, .p (.agg (AZ e))), (3, .p (.int .i64 f)), (4, .p (.int .i64 g))] Z Z fun A hA => ?_
 unfold DW at h
 refine rs AA <| rl Z <| AB ?_
 refine B3 AA mixed [0, 1, 2, 3, 4, 5, 6, 7, 8, 9, 10, 11] 12 (by kernel_rfl) Z Z Z ?_
 refine Av 4 Z <| bq h fun j v av => Au Z (A7 (Rd _ _ _ _ _ v) (.inl Z) Z Z Z <| Av 4 Z <| bq av fun k y aw => Au Z (A7 (HF _ _ _ _ _ y) (.inl Z) Z Z Z <| BN Z <| AC <| AB <| jb (fun n : Bool => ⟨116, [(0, lq (Aq d)), (1, ls 9 BL c), (3, li f), (4, li g), (7, .lpb 0 0), (11, li j), (12, li k), (49, lb n)], [(0, bx (AZ e))], 1⟩) aw (fun n ah => ?_) (fun n ao => ?_)))
 .refine B3 AA mixed [0, 1, 2, 3, 4, 5, 6, 7, 8, 9, 10, 11, 12, 13, 14, 15, 16, 17, 18, 19, 20, 21, 22] 23 (by kernel_rfl) Z Z Z ?_
  refine Av 3 Z <| FF 29 ah Z Z Z (fun ai => ?_) (fun aj => ?_)
  .exact BN Z <| AL ai (wf hA [(0, 0)] Z Z Z)
  refine Av 3 Z <| bq aj fun bp t ak => Au Z (Am Z (Aj t Z Z Z <| Av 5 Z <| FF 38 ak Z Z Z (fun al => ?_) (fun am => ?_)))
  .exact BN Z <| AL al (wf hA [(0, 0)] Z Z Z)
  exact Av 3 Z <| bq am fun br u an => Au Z (Am Z (Aj u Z Z Z <| Av 4 Z <| Au Z (KT Z Z <| BN Z <| AL an (wf hA [(0, 0)] Z Z Z))))
 refine cd Z ao (fun ap => ?_) (fun aq => ?_)
 .refine rs AA <| rl Z <| AF <| AG ?_
  cases ap
  exact er Z (Le.nil _)
 refine AE <| AC <| AB ?_
 refine B3 AA mixed [0, 1, 2, 3, 4, 5, 6, 7, 8, 9, 10, 11] 12 (by kernel_rfl) Z Z Z ?_
 refine Av 5 Z <| bq aq fun bs w ar => Au Z (Am Z (Aj w Z Z Z <| Av 2 Z <| bq ar fun q x au => Au Z (Am Z (Aj x Z Z Z <| BN Z <| AC <| rs AA <| rl Z <| AB <| rs AA <| rn 1 Z <| sx Z (Ae Z Z <| rl Z <| AH ?_)))))
 apply lp (a := r) (fun b : (Int × (List Int)) => ⟨116, [(0, lq (Aq d)), (3, li f), (4, li g), (7, .lpb 0 0), (11, li j), (12, li k), (13, .lpb 1 0), (14, .lsl 2 1 0 b.2.length), (60, ls 9 BL c), (61, li (c.length : Int)), (62, li b.1)], [(0, bx (AZ e)), (1, bx (BG q)), (2, .row 3 1 (b.2.map Ad))], 3⟩) au
 . exact A9.trans (Cl 14 3 1 Z) (wf hA [(0, 0), (1, 11), (2, 13)] Z Z Z)
 intro b bo s
 unfold Hw at s
 refine rs AA <| rl Z <| AB <| cd Z s (fun ax => ?_) (fun bl => ?_)
 .refine AE <| AC <| jb (fun i : (List Int) => ⟨116, [(0, lq (Aq d)), (3, li f), (4, li g), (7, .lpb 0 0), (11, li j), (12, li k), (13, .lpb 1 0), (14, .lsl 2 1 0 i.length), (60, ls 9 BL c), (61, li (c.length : Int)), (62, li b.1)], [(0, bx (AZ e)), (1, bx (BG q)), (2, .row 3 1 (i.map Ad))], 3⟩) ax (fun i ay => ?_) (fun i bk => ?_)
  .refine AH <| rs AA <| rn 1 Z <| bq ay fun bt z az => sx Z (Aj z Z Z Z <| rl Z <| jb (fun o : Bool => ⟨116, [(0, lq (Aq d)), (3, li f), (4, li g), (7, .lpb 0 0), (11, li j), (12, li k), (13, .lpb 1 0), (14, .lsl 2 1 0 b.2.length), (15, li b.1), (60, ls 9 BL c), (61, li (c.length : Int)), (62, li b.1), (109, lb o)], [(0, bx (AZ e)), (1, bx (BG q)), (2, .row 3 1 (b.2.map Ad))], 3⟩) az (fun o a0 => ?_) (fun o bg => ?_))
   .refine B3 AA mixed [0, 1, 2, 3, 4, 5, 6, 7, 8, 9, 10, 11, 12, 13, 14, 15, 16, 17, 18, 19, 20, 21, 22, 23, 24, 25, 26, 27, 28, 29, 30, 31, 32, 33, 34, 35, 36, 37, 38, 39, 40, 41, 42] 43 (by kernel_rfl) Z Z Z ?_
    refine Av 5 Z <| FF 71 a0 Z Z Z (fun a1 => ?_) (fun bf => ?_)
    .refine Av 4 Z <| bq a1 fun bu aa a2 => Au Z (Am Z (Aj aa Z Z Z <| Av 3 Z <| bq a2 fun bv ab a3 => Au Z (Am Z (Aj ab Z Z Z <| Av 1 Z <| bq a3 fun bw ac a4 => Au Z (A7 (XR _ _ _ ac) (.inl Z) Z Z Z <| Av 2 Z <| FF 84 a4 Z Z Z (fun a5 => ?_) (fun be => ?_))))))
     .refine Av 5 Z <| FF 89 a5 Z Z Z (fun a6 => ?_) (fun bc => ?_)
      .refine Av 3 Z <| bq a6 fun bz ad a7 => Au Z (A7 (Ct _ _ _ ad) (.inl Z) Z Z Z <| Av 3 Z <| FF 96 a7 Z Z Z (fun a8 => ?_) (fun bb => ?_))
       .exact Av 6 Z <| Au Z (KT Z Z <| Av 1 Z <| bq a8 fun b0 ae a9 => Au Z (Am Z (Aj ae Z Z Z <| Av 2 Z <| bq a9 fun b1 af ba => Au Z (A7 (Uj _ _ _ _ af) (.inl Z) Z Z Z <| BN Z <| AL ba (wf hA (gi 3 []) Z Z Z)))))
       exact BN Z <| AL bb (wf hA (gi 3 []) Z Z Z)
      exact BN Z <| AL bc (wf hA (gi 3 []) Z Z Z)
     exact BN Z <| AL be (wf hA (gi 3 []) Z Z Z)
    exact BN Z <| AL bf (wf hA (gi 3 []) Z Z Z)
   refine cd Z bg (fun bh => ?_) (fun bj => ?_)
   .exact rg AA <| rn 3 Z <| bq bh fun b2 ag bi => sx Z (BU (enc := Ad) (l := b.2) (m := [b.1]) ag (fun _ => ⟨Z, Z⟩) Z Z Z Z Z Z <| rl Z <| Ac <| AL bi (wf hA [(0, 0), (1, 1), (2, 4)] Z Z Z))
   exact AE <| Ac <| AL bj (wf hA (gi 3 []) Z Z Z)
  exact rg AA <| rl Z <| Ar bk (wf hA (gi 3 []) Z Z Z)
 refine AU <| AX <| BK bl fun bn bm => An <| AC <| rs AA <| rl Z <| AF ?_
 cases bm
 exact er (I5 Z (.one (.own (enc := Ad) b.2 Z Z))) Le.rfl
end Go.E
/- Plain functions, and walks in step with them. Written by a program (gen.py). No condition. -/
set_option maxRecDepth 100000
set_option maxHeartbeats 1000000
namespace Go.E
open Go Go.RowKit Go.Proofs
noncomputable def Kz (a : (List (Int × Bool))) : Option (List Int) := SR a
theorem PG (a : (List (Int × Bool))) (r : (List Int)) (h : Kz a = some r) : G5 Tryz.prog 79 [.map (Ao (.int .i64) .bool a)] 3 1 (r.map Ad) := YJ YK rfl a r h
noncomputable def JB (a : Int) (b : (Option Aw)) : Option Bool :=
 I4 b (none) fun d => (BT d a).bind fun c => some (c == 4)
theorem PH (b : Int) (a : (Option Aw)) (r : Bool) (h : JB b a = some r) : Az Tryz.prog 80 [.int .i64 b, .place ((ABB Aq) a) 0] (· = .bool r) := by
 refine fn AA Tryz.func80 Z Z 8 Z [.tmp 3] Z [(0, .p (.int .i64 b)), (1, .p (.place ((ABB Aq) a) 0))] Z Z fun A hA => ?_
 unfold JB at h
 refine rs AA <| rl Z <| rs AA <| rn 2 Z ?_
 revert h; rcases e : a with _ | g <;> intro h
 .replace h := UM h
  cases h
 replace h := UN h
 refine bq h fun f c d => sx Z (AM (Bu _ _ _ c) (.inl Z) Z Z Z <| rl Z <| AF ?_)
 cases d
 exact er Z Le.rfl
noncomputable def OR (b : C2) (a : Int × (List (Int × Bool))) : Option ((Int × (List (Int × Bool))) ⊕ (List (Int × Bool))) :=
 bif decide (a.1 < (b.elems.length : Int)) then (AY b.elems a.1).bind fun c => some (.inl (AN (a.1 + 1), A2 c true a.2)) else some (.inr a.2)
noncomputable def OT (b : C2) (a : Int × (List (Int × Bool))) : Option ((Int × (List (Int × Bool))) ⊕ (List (Int × Bool))) :=
 bif decide (a.1 < (b.elems.length : Int)) then (AY b.elems a.1).bind fun c => some (.inl (AN (a.1 + 1), A2 c true a.2)) else some (.inr a.2)
noncomputable def OU (i : Aw) (d : (List C2)) (f : (Int × (List (Int × Bool)))) (e : Al) (a : Int × (List (Int × Bool))) : Option ((Int × (List (Int × Bool))) ⊕ ((Int × (List (Int × Bool))) ⊕ (List Int))) :=
 bif decide (a.1 < (e.zone.length : Int)) then (AY e.zone a.1).bind fun b => (((Hj i b).bind fun c => ((bif decide (0 <= c.1) then some (decide (c.1 < (d.length : Int))) else some false : Option (Bool))).bind fun (h : Bool) => bif h then (AY d c.1).bind fun j => AQ (OT j) (0, A2 b true a.2) else some (A2 b true a.2) : Option ((List (Int × Bool))))).bind fun (g : (List (Int × Bool))) => some (.inl (AN (a.1 + 1), g)) else some (.inr (.inl (AN (f.1 + 1), a.2)))
noncomputable def OV (e : Aw) (b : (List C2)) (j : (List Al)) (g : (Int × (List (Int × Bool)))) (k : Int) (f : Al) (a : Int × (List (Int × Bool))) : Option ((Int × (List (Int × Bool))) ⊕ ((Int × (List (Int × Bool))) ⊕ (List Int))) :=
 bif decide (a.1 < (f.steps.length : Int)) then (AY f.steps a.1).bind fun c => (((Hj e c.elem).bind fun d => ((bif decide (0 <= d.1) then some (decide (d.1 < (b.length : Int))) else some false : Option (Bool))).bind fun (i : Bool) => bif i then (AY b d.1).bind fun l => AQ (OR l) (0, A2 c.elem true a.2) else some (A2 c.elem true a.2) : Option ((List (Int × Bool))))).bind fun (h : (List (Int × Bool))) => some (.inl (AN (a.1 + 1), h)) else ((AY j k).bind fun m => AQ (OU e b g m) (0, a.2)).map .inr
noncomputable def OW (c : Aw) (b : (List Int)) (a : Int) : Option (Int ⊕ Int) :=
 bif decide (a < (b.length : Int)) then (AY b a).bind fun d => (JB d (some c)).bind fun e => bif e then some (.inr a) else some (.inl (AN (a + 1))) else some (.inr (-1))
noncomputable def OX (d : Aw) (a : Int × Int × (List Int)) : Option ((Int × Int × (List Int)) ⊕ (List Int)) :=
 bif decide (a.2.1 < (a.2.2.length : Int)) then (((AY a.2.2 a.2.1).bind fun c => (JB c (some d)).bind fun e => bif (!e) then (AY a.2.2 a.1).bind fun i => some (AN (a.1 + 1), A4 a.2.2 a.1 c) else some (a.1, a.2.2) : Option (Int × (List Int)))).bind fun (b : Int × (List Int)) => some (.inl (b.1, AN (a.2.1 + 1), b.2)) else ((ME a.2.2 a.1 (a.2.2.length : Int)).bind fun f => (Ua 0 a.2.2 f).bind fun g => (ME g 0 a.1).bind fun h => some h).map .inr
noncomputable def OY (b : Aw) (i : (List C2)) (e : (List Al)) (j : Ag) (k : Int) (l : Int) (f : (List Int)) (a : Int × (List (Int × Bool))) : Option ((Int × (List (Int × Bool))) ⊕ (List Int)) :=
 bif decide (a.1 < (f.length : Int)) then (AY f a.1).bind fun g => (AY e g).bind fun m => AQ (OV b i e a g m) (0, a.2) else ((C3 b j k l).bind fun n => (Kz (Lf n a.2)).bind fun d => ((((AQ (OW b d) 0 : Option (Int))).bind fun (c : Int) => bif (c == (-1)) then some d else AQ (OX b) (c, AN (c + 1), d) : Option ((List Int)))).bind fun (h : (List Int)) => some h).map .inr
noncomputable def N1 (a : Aw) (f : (List C2)) (b : (List Al)) (c : Ag) (d : Int) (e : Int) : Option (List Int) :=
 (DW a b c d e).bind fun g => AQ (OY a f b c d e g) (0, [])
theorem XG (b : Aw) (c : (List C2)) (j : (List Al)) (d : Ag) (k : Int) (m : Int) (r : (List Int)) (h : N1 b c j d k m = some r) : Az Tryz.prog 50 [.place (Aq b) 0, .slice 2 (c.map Bg), .slice 9 (j.map BL), .agg (AZ d), .int .i64 k, .int .i64 m] (· = .slice 1 (r.map Ad)) := by
 refine fn AA Tryz.func50 Z Z 74 Z [.tmp 12] Z [(0, .p (.place (Aq b) 0)), (1, .p (.slice 2 (c.map Bg))), (2, .p (.slice 9 (j.map BL))), (3, .p (.agg (AZ d))), (4, .p (.int .i64 k)), (5, .p (.int .i64 m))] Z Z fun A hA => ?_
 unfold N1 at h
 refine rs AA <| rl Z <| rs AA <| rl Z <| rs AA <| rl Z <| AB <| rs AA <| rn 5 Z <| bq h fun n a1 bi => sx Z (AM (ID _ _ _ _ _ _ a1) (.inr Z) Z Z Z <| sx Z (Ae Z Z <| rl Z <| AH ?_))
 apply lp (a := r) (fun e : (Int × (List (Int × Bool))) => ⟨74, [(2, ls 9 BL j), (4, li k), (5, li m), (6, .lpb 0 0), (9, .lpb 1 0), (13, .lpb 2 0), (14, .fn 76 [.lpb 2 0, .lpb 0 0, .lpb 3 0]), (28, ls 1 Ad n), (29, li (n.length : Int)), (30, li e.1)], [(0, .box [lq (Aq b)]), (1, bx (AZ d)), (2, .box [.lmap 4]), (3, .box [ls 2 Bg c]), (4, .map (Ao (.int .i64) .bool e.2))], 5⟩) bi
 . exact wf hA [(0, 0), (1, 2), (2, 4), (3, 1), (4, 3)] Z Z Z
 intro e a0 am
 unfold OY at am
 refine rs AA <| rl Z <| AB <| cd Z am (fun bj => ?_) (fun cr => ?_)
 .refine AE <| AC <| AB <| AH <| rs AA <| bq bj fun dm a2 bk => sx Z (Aj a2 Z Z Z <| rl Z <| AB <| rs AA <| rn 2 Z <| bq bk fun av a3 bl => sx Z (Aj a3 Z Z Z <| rn 2 Z <| sx Z (Ae Z Z <| rl Z <| AH ?_)))
  apply lp (a := a0) (fun s : (Int × (List (Int × Bool))) => ⟨74, [(2, ls 9 BL j), (4, li k), (5, li m), (6, .lpb 0 0), (9, .lpb 1 0), (13, .lpb 2 0), (14, .fn 76 [.lpb 2 0, .lpb 0 0, .lpb 3 0]), (16, li dm), (28, ls 1 Ad n), (29, li (n.length : Int)), (30, li e.1), (38, ls 3 Ax av.steps), (39, li (av.steps.length : Int)), (40, li s.1)], [(0, .box [lq (Aq b)]), (1, bx (AZ d)), (2, .box [.lmap 4]), (3, .box [ls 2 Bg c]), (4, .map (Ao (.int .i64) .bool s.2))], 5⟩) bl
  . exact wf hA (gi 5 []) Z Z Z
  intro s d2 an
  unfold OV at an
  refine rs AA <| rl Z <| AB <| cd Z an (fun bm => ?_) (fun b5 => ?_)
  .refine AE <| AC <| AB <| AH <| rs AA <| bq bm fun o a4 bn => sx Z (Aj a4 Z Z Z <| rl Z <| rg AA <| rn 3 Z <| sx Z (CT AA (fun u : (List (Int × Bool)) => .tup []) (fun u : (List (Int × Bool)) => [(0, .box [lq (Aq b)]), (1, bx (AZ d)), (2, .box [.lmap 4]), (3, .box [ls 2 Bg c]), (4, .map (Ao (.int .i64) .bool u)), (5, bx (Ax o))]) 6 bn Tryz.func76 38 [] [(0, li o.elem), (1, .lpb 2 0), (2, .lpb 0 0), (3, .lpb 3 0)] Z Z Z Z Z Z Z Z (fun A hA u bo => ?_) (fun u b4 => ?_)))
   .refine rs AA <| rn 2 Z <| sx Z (Gq (et := 4) (ke := (.int .i64)) (ve := .bool) (mp := s.2) (y := o.elem) (z := true) GJ Z Z Z Z Z Z <| rl Z <| rs AA <| rn 2 Z <| bq bo fun dn a5 bp => sx Z (AM (M7 _ _ _ a5) (.inl Z) Z Z Z <| rl Z <| jb (fun ad : Bool => ⟨38, [(1, .lpb 2 0), (3, .lpb 3 0), (5, li dn.1), (24, lb ad)], [(0, .box [lq (Aq b)]), (1, bx (AZ d)), (2, .box [.lmap 4]), (3, .box [ls 2 Bg c]), (4, .map (Ao (.int .i64) .bool (A2 o.elem true s.2))), (5, bx (Ax o))], 6⟩) bp (fun ad br => ?_) (fun ad bu => ?_)))
    .refine rg AA <| rn 3 Z <| gs 19 br Z Z Z (fun bs => ?_) (fun bt => ?_)
     .exact rn 2 Z <| sx Z (Ae Z Z <| rl Z <| AL bs (wj hA (gi 6 []) Z Z Z Z))
     exact rl Z <| AL bt (wj hA (gi 6 []) Z Z Z Z)
    refine cd Z bu (fun bv => ?_) (fun b3 => ?_)
    .refine rs AA <| rn 2 Z <| bq bv fun aw a6 bw => sx Z (Aj a6 Z Z Z <| rn 2 Z <| sx Z (Ae Z Z <| rl Z <| AH ?_))
     apply lp (a := u) (fun aa : (Int × (List (Int × Bool))) => ⟨38, [(1, .lpb 2 0), (29, ls 1 Ad aw.elems), (30, li (aw.elems.length : Int)), (31, li aa.1)], [(0, .box [lq (Aq b)]), (1, bx (AZ d)), (2, .box [.lmap 4]), (3, .box [ls 2 Bg c]), (4, .map (Ao (.int .i64) .bool aa.2)), (5, bx (Ax o))], 6⟩) bw
     . exact wj hA (gi 6 []) Z Z Z Z
     intro aa d3 ao
     unfold OR at ao
     refine rs AA <| rl Z <| AB <| cd Z ao (fun bz => ?_) (fun b1 => ?_)
     .exact AE <| AC <| AB <| AH <| rs AA <| bq bz fun dp a7 b0 => sx Z (Aj a7 Z Z Z <| rl Z <| rg AA <| rn 2 Z <| sx Z (Gq (et := 4) (ke := (.int .i64)) (ve := .bool) (mp := aa.2) (y := dp) (z := true) GJ Z Z Z Z Z Z <| rl Z <| Ac <| AC <| rg AA <| rl Z <| Ar b0 (wj hA (gi 6 []) Z Z Z Z)))
     refine AU <| AX <| BK b1 fun dv b2 => An ?_
     cases b2
     exact MB (nt := 38) (sl := []) (wj hA (gi 6 []) Z Z Z Z) Z
    refine AE ?_
    cases b3
    exact MB (nt := 38) (sl := []) (wj hA (gi 6 []) Z Z Z Z) Z
   exact rl Z <| Ac <| AC <| rg AA <| rl Z <| Ar b4 (wf hA (gi 5 []) Z Z Z)
  refine AU <| AX <| CF b5 fun az b6 => An <| AC <| rs AA <| rn 2 Z <| bq b6 fun ax a8 b7 => sx Z (Aj a8 Z Z Z <| rn 2 Z <| sx Z (Ae Z Z <| rl Z <| AH ?_))
  apply lp (a := az) (fun t : (Int × (List (Int × Bool))) => ⟨74, [(2, ls 9 BL j), (4, li k), (5, li m), (6, .lpb 0 0), (9, .lpb 1 0), (13, .lpb 2 0), (14, .fn 76 [.lpb 2 0, .lpb 0 0, .lpb 3 0]), (28, ls 1 Ad n), (29, li (n.length : Int)), (30, li e.1), (53, ls 1 Ad ax.zone), (54, li (ax.zone.length : Int)), (55, li t.1)], [(0, .box [lq (Aq b)]), (1, bx (AZ d)), (2, .box [.lmap 4]), (3, .box [ls 2 Bg c]), (4, .map (Ao (.int .i64) .bool t.2))], 5⟩) b7
  . exact wf hA (gi 5 []) Z Z Z
  intro t d4 ap
  unfold OU at ap
  refine rs AA <| rl Z <| AB <| cd Z ap (fun b8 => ?_) (fun cp => ?_)
  .refine AE <| AC <| AB <| AH <| rs AA <| bq b8 fun af a9 b9 => sx Z (Aj a9 Z Z Z <| rl Z <| rg AA <| rn 2 Z <| sx Z (CT AA (fun v : (List (Int × Bool)) => .tup []) (fun v : (List (Int × Bool)) => [(0, .box [lq (Aq b)]), (1, bx (AZ d)), (2, .box [.lmap 4]), (3, .box [ls 2 Bg c]), (4, .map (Ao (.int .i64) .bool v))]) 5 b9 Tryz.func76 38 [] [(0, li af), (1, .lpb 2 0), (2, .lpb 0 0), (3, .lpb 3 0)] Z Z Z Z Z Z Z Z (fun A hA v ca => ?_) (fun v co => ?_)))
   .refine rs AA <| rn 2 Z <| sx Z (Gq (et := 4) (ke := (.int .i64)) (ve := .bool) (mp := t.2) (y := af) (z := true) GJ Z Z Z Z Z Z <| rl Z <| rs AA <| rn 2 Z <| bq ca fun dq ba cb => sx Z (AM (M7 _ _ _ ba) (.inl Z) Z Z Z <| rl Z <| jb (fun ae : Bool => ⟨38, [(1, .lpb 2 0), (3, .lpb 3 0), (5, li dq.1), (24, lb ae)], [(0, .box [lq (Aq b)]), (1, bx (AZ d)), (2, .box [.lmap 4]), (3, .box [ls 2 Bg c]), (4, .map (Ao (.int .i64) .bool (A2 af true t.2)))], 5⟩) cb (fun ae cc => ?_) (fun ae cg => ?_)))
    .refine rg AA <| rn 3 Z <| gs 19 cc Z Z Z (fun ce => ?_) (fun cf => ?_)
     .exact rn 2 Z <| sx Z (Ae Z Z <| rl Z <| AL ce (wj hA (gi 5 []) Z Z Z Z))
     exact rl Z <| AL cf (wj hA (gi 5 []) Z Z Z Z)
    refine cd Z cg (fun ch => ?_) (fun cn => ?_)
    .refine rs AA <| rn 2 Z <| bq ch fun ay bb ci => sx Z (Aj bb Z Z Z <| rn 2 Z <| sx Z (Ae Z Z <| rl Z <| AH ?_))
     apply lp (a := v) (fun ab : (Int × (List (Int × Bool))) => ⟨38, [(1, .lpb 2 0), (29, ls 1 Ad ay.elems), (30, li (ay.elems.length : Int)), (31, li ab.1)], [(0, .box [lq (Aq b)]), (1, bx (AZ d)), (2, .box [.lmap 4]), (3, .box [ls 2 Bg c]), (4, .map (Ao (.int .i64) .bool ab.2))], 5⟩) ci
     . exact wj hA (gi 5 []) Z Z Z Z
     intro ab d5 aq
     unfold OT at aq
     refine rs AA <| rl Z <| AB <| cd Z aq (fun cj => ?_) (fun cl => ?_)
     .exact AE <| AC <| AB <| AH <| rs AA <| bq cj fun dr bc ck => sx Z (Aj bc Z Z Z <| rl Z <| rg AA <| rn 2 Z <| sx Z (Gq (et := 4) (ke := (.int .i64)) (ve := .bool) (mp := ab.2) (y := dr) (z := true) GJ Z Z Z Z Z Z <| rl Z <| Ac <| AC <| rg AA <| rl Z <| Ar ck (wj hA (gi 5 []) Z Z Z Z)))
     refine AU <| AX <| BK cl fun dw cm => An ?_
     cases cm
     exact MB (nt := 38) (sl := []) (wj hA (gi 5 []) Z Z Z Z) Z
    refine AE ?_
    cases cn
    exact MB (nt := 38) (sl := []) (wj hA (gi 5 []) Z Z Z Z) Z
   exact rl Z <| Ac <| AC <| rg AA <| rl Z <| Ar co (wf hA (gi 5 []) Z Z Z)
  exact AU <| AX <| BK cp fun dx cq => An <| Ac <| AC <| rg AA <| rl Z <| Ar cq (wf hA (gi 5 []) Z Z Z)
 refine AU <| AX <| CF cr fun dy cs => An <| AC <| AB ?_
 refine ACV false AA mixed [0, 1, 2, 3, 4, 5] 7 Z Z (by kernel_rfl) (by kernel_rfl) Z Z ?_
 refine Av 5 Z <| bq cs fun q be ct => Au Z (A7 (HF _ _ _ _ _ be) (.inl Z) Z Z Z <| BN Z <| (ABu (et := 4) (ke := (.int .i64)) (ve := .bool) (mp := e.2) (y := q) GJ Z Z Z Z Z Z Z Z <| AC <| rs AA <| rn 1 Z <| bq ct fun i bf cu => sx Z (N2 (PG _ _ bf) (fun _ => Z) Z Z (D1.eq (.cons (.one (.mapd Z)) .nil)) <| rn 1 Z <| sx Z (CT AA (fun g : (List Int) => .lsl 12 1 0 g.length) (fun g : (List Int) => [(0, .box [lq (Aq b)]), (1, bx (AZ d)), (2, .box [.lmap 4]), (3, .box [ls 2 Bg c]), (4, .mapd (Ao (.int .i64) .bool (Lf q e.2))), (12, .row 3 1 (g.map Ad))]) 13 cu Tryz.func78 42 [.tmp 4] [(0, .lsl 12 1 0 i.length), (1, .fn 80 [.lpb 0 0])] Z Z Z Z Z Z Z Z (fun A hA g cv => ?_) (fun g dl => ?_)))))
 .refine rs AA <| rl Z <| rs AA <| rn 2 Z <| sx Z (CT AA (fun w : Int => li w) (fun w : Int => [(0, .box [lq (Aq b)]), (1, bx (AZ d)), (2, .box [.lmap 4]), (3, .box [ls 2 Bg c]), (4, .mapd (Ao (.int .i64) .bool (Lf q e.2))), (12, .row 3 1 (i.map Ad))]) 13 cv Tryz.func108 19 [.tmp 4] [(0, .lsl 12 1 0 i.length), (1, .fn 80 [.lpb 0 0])] Z Z Z Z Z Z Z Z (fun A hA w cw => ?_) (fun w c5 => ?_))
  .refine rs AA <| rl Z <| AB <| rs AA <| rl Z <| AH ?_
   apply lp (a := w) (fun ac : Int => ⟨19, [(0, .lsl 12 1 0 i.length), (1, .fn 80 [.lpb 0 0]), (7, li (i.length : Int)), (8, li ac)], [(0, .box [lq (Aq b)]), (1, bx (AZ d)), (2, .box [.lmap 4]), (3, .box [ls 2 Bg c]), (4, .mapd (Ao (.int .i64) .bool (Lf q e.2))), (12, .row 3 1 (i.map Ad))], 13⟩) cw
   . exact wj hA (gi 13 []) Z Z Z Z
   intro ac d6 ar
   unfold OW at ar
   refine rs AA <| rl Z <| AB <| cd Z ar (fun cx => ?_) (fun c3 => ?_)
   .refine AE <| AC <| AB <| AH <| rs AA <| rl Z <| rs AA <| rn 3 Z <| bq cx fun d8 ag cy => sx Z (Bi ag Z Z Z Z <| sx Z (CW ag Z Z Z <| bq cy fun d9 bg cz => sx Z (AM (PH _ _ _ bg) (.inl Z) Z Z (D1.eq (.cons (.one (.p _)) (.cons (.box Z (.cons (.p _) .nil)) .nil))) <| rl Z <| cd Z cz (fun c0 => ?_) (fun c2 => ?_))))
    .refine rs AA <| rl Z <| AF <| AO <| AG <| A3 c0 fun dz c1 => AO <| AG ?_
     have hr := Option.some.inj c1; subst hr
     exact CX (nt := 19) (sl := [(4, li ac)]) (wj hA (gi 13 []) Z Z Z Z) Z
    exact AE <| Ac <| AC <| rg AA <| rl Z <| Ar c2 (wj hA (gi 13 []) Z Z Z Z)
   refine AU <| AX <| BK c3 fun d0 c4 => An <| AC <| rs AA <| rl Z <| AF ?_
   cases c4
   exact CX (nt := 19) (sl := [(4, li (-1))]) (wj hA (gi 13 []) Z Z Z Z) Z
  refine rl Z <| AB <| rs AA <| rl Z <| cd Z c5 (fun c6 => ?_) (fun c7 => ?_)
  .refine rs AA <| rl Z <| AF <| AG ?_
   have hr := Option.some.inj c6; subst hr
   exact CX (nt := 42) (sl := [(4, .lsl 12 1 0 i.length)]) (wj hA (gi 13 []) Z Z Z Z) Z
  refine AE <| AC <| AB <| rs AA <| rl Z <| AH ?_
  apply lp (a := g) (fun f : (Int × Int × (List Int)) => ⟨42, [(0, .lsl 12 1 0 f.2.2.length), (1, .fn 80 [.lpb 0 0]), (5, li f.1), (6, li f.2.1)], [(0, .box [lq (Aq b)]), (1, bx (AZ d)), (2, .box [.lmap 4]), (3, .box [ls 2 Bg c]), (4, .mapd (Ao (.int .i64) .bool (Lf q e.2))), (12, .row 3 1 (f.2.2.map Ad))], 13⟩) c7
  . exact wj hA (gi 13 []) Z Z Z Z
  intro f d7 au
  unfold OX at au
  refine AB <| rs AA <| rl Z <| cd Z au (fun c8 => ?_) (fun dg => ?_)
  .refine AE <| AC <| jb (fun x : (Int × (List Int)) => ⟨42, [(0, .lsl 12 1 0 x.2.length), (1, .fn 80 [.lpb 0 0]), (5, li x.1), (6, li f.2.1)], [(0, .box [lq (Aq b)]), (1, bx (AZ d)), (2, .box [.lmap 4]), (3, .box [ls 2 Bg c]), (4, .mapd (Ao (.int .i64) .bool (Lf q e.2))), (12, .row 3 1 (x.2.map Ad))], 13⟩) c8 (fun x c9 => ?_) (fun x df => ?_)
   .refine AH <| rs AA <| rn 2 Z <| bq c9 fun ds ah da => sx Z (Bi ah Z Z Z Z <| sx Z (CW ah Z Z Z <| rl Z <| rs AA <| rn 2 Z <| bq da fun ea bh db => sx Z (AM (PH _ _ _ bh) (.inl Z) Z Z (D1.eq (.cons (.one (.p _)) (.cons (.box Z (.cons (.p _) .nil)) .nil))) <| rl Z <| cd Z db (fun dc => ?_) (fun de => ?_))))
    .exact rs AA <| rn 3 Z <| bq dc fun eb ai dd => sx Z (Bi ai Z Z Z Z <| sx Z (Jz (z := ds) ai Z Z Z Z Z Z Z Z <| rl Z <| rg AA <| rl Z <| Ac <| AL dd (wk (gi 13 []) (Ko hA _ Z) Z Z Z (.cons (by simp only [BA]; rfl) (.cons Z (.cons Z (.cons Z .nil)))) (.cons Z Z (.cons Z Z (.cons Z Z (.cons Z Z (.cons Z Z (.cons Z Z .nil)))))))))
    exact AE <| Ac <| AL de (wj hA (gi 13 []) Z Z Z Z)
   exact rg AA <| rl Z <| Ar df (wj hA (gi 13 []) Z Z Z Z)
  refine AU <| AX <| CF dg fun d1 dh => An <| AC <| rs AA <| rn 2 Z <| bq dh fun ec aj di => sx Z (Zx (l := f.2.2) aj Z Z Z Z Z <| bq di fun dt ak dj => sx Z (ABy (enc := Ad) (l := f.2.2) (z := 0) aj Z ak Z Z Z Z Z Z Z <| rl Z <| rs AA <| rn 2 Z <| bq dj fun du al dk => sx Z (RZ (l := dt) al Z (by first | rfl | exact ZP ak) Z Z <| rl Z <| AF ?_)))
  have hr := Option.some.inj dk; subst hr
  exact CX (nt := 42) (sl := [(4, .lsl 12 1 0 du.length)]) (A9.trans (Jj 12 al Z Z) (wj hA (gi 13 []) Z Z Z Z)) Z
 refine rl Z <| AF ?_
 have hr := Option.some.inj dl; subst hr
 exact er (I5 Z (.one (.own (enc := Ad) g Z Z))) Le.rfl
noncomputable def M8 (b : Aw) (f : (List Al)) (c : Ag) (d : Int) (k : ((List Co) × Bool)) (e : (List Int)) (l : AK) (a : Int × (List PI)) : Option ((Int × (List PI)) ⊕ Px) :=
 bif decide (a.1 < (k.1.length : Int)) then (N1 b l.lines f c d a.1).bind fun g => (C3 b c d (AN (a.1 + 1))).bind fun h => (J3 b h).bind fun i => (Bt a.2 [(⟨g, i⟩ : PI)]).bind fun j => some (.inl (AN (a.1 + 1), j)) else some (.inr (⟨e, a.2⟩ : Px))
noncomputable def Mc (a : Aw) (h : (List Al)) (b : Ag) (c : Int) (d : Int) : Option Px :=
 (F1 b c d).bind fun f => bif (!f.2) then some (⟨[], []⟩ : Px) else (((C3 a b c d).bind fun i => (J3 a i).bind fun e => bif decide (0 <= e) then some [e] else some ([] : List Int) : Option ((List Int)))).bind fun (g : (List Int)) => (B1 a).bind fun j => AQ (M8 a h b c f g j) (d, ([] : List PI))
theorem Ve (d : Aw) (e : (List Al)) (f : Ag) (g : Int) (i : Int) (r : Px) (h : Mc d e f g i = some r) : Az Tryz.prog 21 [.place (Aq d) 0, .slice 9 (e.map BL), .agg (AZ f), .int .i64 g, .int .i64 i] (· = .agg (ABC r)) := by
 refine fn AA Tryz.func21 Z Z 71 Z [.cell 10 56] Z [(0, .p (.place (Aq d) 0)), (1, .p (.slice 9 (e.map BL))), (2, .p (.agg (AZ f))), (3, .p (.int .i64 g)), (4, .p (.int .i64 i))] Z Z fun A hA => ?_
 unfold Mc at h
 refine rs AA <| rl Z <| rs AA <| rl Z <| rs AA <| rn 3 Z <| bq h fun k v al => sx Z (AM (N3 _ _ _ _ v) (.inr Z) Z Z Z <| rl Z <| AB <| rs AA <| rl Z <| cd Z al (fun am => ?_) (fun an => ?_))
 .refine rs AA <| rl Z <| AF <| AG ?_
  cases am
  exact er Z (Le.agg' (.cons (Le.nil _) (.cons (Le.nil _) .nil)))
 refine AE <| AC <| jb (fun b : (List Int) => ⟨71, [(0, lq (Aq d)), (1, ls 9 BL e), (3, li g), (4, li i), (7, .lpb 0 0), (10, .lpb 1 0), (11, .lpb 2 0), (12, ls 4 Ee k.1)], [(0, bx (AZ f)), (1, .box [.p (.nils), .p (.nils)]), (2, .box [.lsl 3 1 0 b.length, .p (.nils)]), (3, .row 3 1 (b.map Ad))], 4⟩) an (fun b aa => ?_) (fun b aj => ?_)
 .refine rs AA <| rn 5 Z <| bq aa fun ax t af => sx Z (AM (HF _ _ _ _ _ t) (.inl Z) Z Z Z <| bq af fun ay u ag => sx Z (AM (QI _ _ _ u) (.inl Z) Z Z Z <| rl Z <| rs AA <| rl Z <| cd Z ag (fun ah => ?_) (fun ai => ?_)))
  .exact rg AA <| rl Z <| AL ah (wf hA (gi 4 []) Z Z Z)
  exact AE <| AL ai (A9.trans (CP 2 0 3 1 Z Z Z Z) (wf hA (gi 4 []) Z Z Z))
 refine rs AA <| rn 1 Z <| bq aj fun aq w ak => sx Z (AM (Hk _ _ w) (.inr Z) Z Z Z <| rl Z <| AB <| rs AA <| rl Z <| AH ?_)
 apply lp (a := r) (fun c : (Int × (List PI)) => ⟨71, [(0, lq (Aq d)), (1, ls 9 BL e), (3, li g), (7, .lpb 0 0), (10, .lpb 1 0), (11, .lpb 2 0), (12, ls 4 Ee k.1), (15, ls 2 Bg aq.lines), (16, li c.1)], [(0, bx (AZ f)), (1, .box [.p (.nils), .p (.nils)]), (2, .box [.lsl 3 1 0 b.length, .lsl 4 2 0 c.2.length]), (3, .row 3 1 (b.map Ad)), (4, .row 88 2 (c.2.map Tu))], 5⟩) ak
 . exact A9.trans (CP 2 1 88 2 Z Z Z Z) (wf hA (gi 5 []) Z Z Z)
 intro c au j
 unfold M8 at j
 refine AB <| rs AA <| rn 2 Z <| sx Z (Ae Z Z <| rl Z <| cd Z j (fun x => ?_) (fun ad => ?_))
 .refine AE <| AC <| AB <| AH ?_
  refine B3 AA mixed [0, 1, 2, 3, 4, 5, 6, 7, 8, 9, 10, 11, 12, 13, 14, 15, 16, 17, 18, 19, 20, 21] 22 (by kernel_rfl) Z Z Z ?_
  exact Av 8 Z <| bq x fun ao n y => Au Z (A7 (XG _ _ _ _ _ _ _ n) (.inr Z) Z Z Z <| Av 6 Z <| bq y fun av o z => Au Z (A7 (HF _ _ _ _ _ o) (.inl Z) Z Z Z <| bq z fun ap q ab => Au Z (A7 (QI _ _ _ q) (.inl Z) Z Z Z <| Av 2 Z <| bq ab fun aw s ac => Au Z (Jg Z (BU (enc := Tu) (l := c.2) (m := [(⟨ao, ap⟩ : PI)]) s (fun _ => ⟨Z, Z⟩) Z Z Z Z Z Z <| BN Z <| Ac <| AC <| rg AA <| rl Z <| Ar ac (wf hA (gi 4 [(4, 24)]) Z Z Z))))))
 refine AU <| AX <| BK ad fun ar ae => An <| AC <| rs AA <| rl Z <| AF ?_
 cases ae
 exact er (I5 Z (.agg (.cons (.own (enc := Ad) b Z Z) (.cons (.own (enc := Tu) c.2 Z Z) .nil)))) Le.rfl
noncomputable def Ia (a : Bw) : Option Bool :=
 some a.auto
theorem TV (a : Bw) (r : Bool) (h : Ia a = some r) : Az Tryz.prog 54 [.agg (BW a)] (· = .bool r) := by
 refine fn AA Tryz.func54 Z Z 5 Z [.tmp 2] Z [(0, .p (.agg (BW a)))] Z Z fun A hA => ?_
 unfold Ia at h
 refine rs AA <| rl Z <| rs AA <| rl Z <| AF ?_
 cases h
 exact er Z Le.rfl
noncomputable def FK (a : CY) : Option Bool :=
 some (decide (12 < (a.legs.length : Int)))
theorem P7 (a : CY) (r : Bool) (h : FK a = some r) : Az Tryz.prog 85 [.agg (Bx a)] (· = .bool r) := by
 refine fn AA Tryz.func85 Z Z 7 Z [.tmp 2] Z [(0, .p (.agg (Bx a)))] Z Z fun A hA => ?_
 unfold FK at h
 refine rs AA <| rl Z <| rs AA <| rn 2 Z <| sx Z (Ae Z Z <| rl Z <| AF ?_)
 cases h
 exact er Z Le.rfl
noncomputable def EF (a : Int) (c : Int) : Option Bool :=
 ((bif decide (1 <= a) then some (decide (a <= c)) else some false : Option (Bool))).bind fun (b : Bool) => some b
theorem J4 (b : Int) (c : Int) (r : Bool) (h : EF b c = some r) : Az Tryz.prog 168 [.int .i64 b, .int .i64 c] (· = .bool r) := by
 refine fn AA Tryz.func168 Z Z 12 Z [.tmp 4] Z [(0, .p (.int .i64 b)), (1, .p (.int .i64 c))] Z Z fun A hA => ?_
 unfold EF at h
 refine rs AA <| rl Z <| jb (fun a : Bool => ⟨12, [(4, lb a)], [], 0⟩) h (fun a d => ?_) (fun a g => ?_)
 .refine rg AA <| rn 3 Z <| gs 7 d Z Z Z (fun e => ?_) (fun f => ?_)
  .exact rl Z <| AL e (wf hA [] Z Z Z)
  exact rl Z <| AL f (wf hA [] Z Z Z)
 refine AF ?_
 have hr := Option.some.inj g; subst hr
 exact er Z Le.rfl
noncomputable def IE (a : A0) : Option Bool :=
 (((B9 a.name).bind fun c => bif c then (EF a.len 4000).bind fun d => bif d then (EF a.top 60).bind fun e => bif e then (EF a.acc 10).bind fun f => bif f then (EF a.brake 10).bind fun g => some g else some false else some false else some false else some false : Option (Bool))).bind fun (b : Bool) => some b
theorem Vf (b : A0) (r : Bool) (h : IE b = some r) : Az Tryz.prog 154 [.agg (BG b)] (· = .bool r) := by
 refine fn AA Tryz.func154 Z Z 26 Z [.tmp 2] Z [(0, .p (.agg (BG b)))] Z Z fun A hA => ?_
 unfold IE at h
 refine rs AA <| rl Z <| jb (fun a : Bool => ⟨26, [(2, lb a)], [], 0⟩) h (fun a i => ?_) (fun a y => ?_)
 .refine rg AA <| rn 2 Z <| bq i fun z c j => sx Z (AM (IF _ _ c) (.inl Z) Z Z Z <| rn 1 Z <| gs 6 j Z Z Z (fun k => ?_) (fun x => ?_))
  .refine rn 2 Z <| bq k fun aa d l => sx Z (AM (J4 _ _ _ d) (.inl Z) Z Z Z <| rn 2 Z <| gs 11 l Z Z Z (fun m => ?_) (fun w => ?_))
   .refine rn 2 Z <| bq m fun ab e n => sx Z (AM (J4 _ _ _ e) (.inl Z) Z Z Z <| rn 2 Z <| gs 16 n Z Z Z (fun o => ?_) (fun v => ?_))
    .refine rn 2 Z <| bq o fun ac f q => sx Z (AM (J4 _ _ _ f) (.inl Z) Z Z Z <| rn 2 Z <| gs 21 q Z Z Z (fun s => ?_) (fun u => ?_))
     .exact rn 2 Z <| bq s fun ad g t => sx Z (AM (J4 _ _ _ g) (.inl Z) Z Z Z <| rl Z <| AL t (wf hA [] Z Z Z))
     exact rl Z <| AL u (wf hA [] Z Z Z)
    exact rl Z <| AL v (wf hA [] Z Z Z)
   exact rl Z <| AL w (wf hA [] Z Z Z)
  exact rl Z <| AL x (wf hA [] Z Z Z)
 refine AF ?_
 have hr := Option.some.inj y; subst hr
 exact er Z Le.rfl
noncomputable def DL (c : (Int × Int)) (d : A0) (b : (List A0)) (a : Int) : Option (Int ⊕ (Int ⊕ ((Int × Int) ⊕ Int))) :=
 bif decide (a < (b.length : Int)) then (AY b a).bind fun e => bif (e.name.toList == d.name.toList) then some (.inr (.inl 4)) else some (.inl (AN (a + 1))) else some (.inr (.inl c.1))
noncomputable def DM (b : (List A0)) (a : Int × Int) : Option ((Int × Int) ⊕ Int) :=
 bif decide (a.2 < (b.length : Int)) then D9 (((AY b a.2).bind fun c => (IE c).bind fun e => bif (!e) then some (.inr (.inr 1)) else (Kx b 0 a.2).bind fun f => AQ (DL a c f) 0 : Option (Int ⊕ ((Int × Int) ⊕ Int)))) fun (d : Int) => some (.inl (d, AN (a.2 + 1))) else some (.inr a.1)
noncomputable def GK (a : (List A0)) : Option Int :=
 bif decide (4 < (a.length : Int)) then some 3 else AQ (DM a) (0, 0)
theorem TW (b : (List A0)) (r : Int) (h : GK b = some r) : Az Tryz.prog 122 [.slice 5 (b.map BG)] (· = .int .i64 r) := by
 refine fn AA Tryz.func122 Z Z 37 Z [.tmp 2] Z [(0, .p (.slice 5 (b.map BG)))] Z Z fun A hA => ?_
 unfold GK at h
 refine rs AA <| rl Z <| sc <| AB <| rs AA <| rn 1 Z <| sx Z (Ae Z Z <| rl Z <| cd Z h (fun q => ?_) (fun s => ?_))
 .refine rs AA <| rl Z <| AF <| AG <| I6 ?_
  cases q
  exact er Z Le.rfl
 refine AE <| AC <| rs AA <| rl Z <| AB <| KH <| AC <| AB <| rs AA <| rn 1 Z <| sx Z (Ae Z Z <| rl Z <| AH ?_)
 apply lp (a := r) (fun c : (Int × Int) => ⟨37, [(0, ls 5 BG b), (3, li c.1), (11, ls 5 BG b), (12, li (b.length : Int)), (13, li c.2)], [], 0⟩) s
 . exact wf hA [] Z Z Z
 intro c j d
 unfold DM at d
 refine rs AA <| rl Z <| AB <| cd Z d (fun t => ?_) (fun ak => ?_)
 .refine AE <| AC ?_
  apply jn (a := j) (fun g : Int => ⟨37, [(0, ls 5 BG b), (3, li g), (11, ls 5 BG b), (12, li (b.length : Int)), (13, li c.2)], [], 0⟩) t
  .intro k u
   refine AH <| rs AA <| rn 1 Z <| bq u fun am l v => sx Z (Aj l Z Z Z <| rl Z <| AB <| rs AA <| rn 1 Z <| bq v fun av m w => sx Z (AM (Vf _ _ m) (.inl Z) Z Z Z <| rl Z <| cd Z w (fun x => ?_) (fun aa => ?_)))
   .refine rs AA <| rl Z <| AF <| AG <| AO <| A3 x fun an y => A3 y fun ao z => AO <| AG <| I6 ?_
    cases z
    exact er Z Le.rfl
   refine AE <| AC <| rs AA <| rn 2 Z <| bq aa fun i n ab => sx Z (To n Z Z Z Z <| sx Z (Ae Z Z <| rl Z <| AH ?_))
   apply lp (a := k) (fun f : Int => ⟨37, [(0, ls 5 BG b), (3, li c.1), (5, .lpb 0 0), (11, ls 5 BG b), (12, li (b.length : Int)), (13, li c.2), (23, ls 5 BG i), (24, li (i.length : Int)), (25, li f)], [(0, bx (BG am))], 1⟩) ab
   . exact wf hA [(0, 0)] Z Z Z
   intro f au e
   unfold DL at e
   refine rs AA <| rl Z <| AB <| cd Z e (fun ac => ?_) (fun ah => ?_)
   .refine AE <| AC <| AB <| AH <| rs AA <| bq ac fun aw o ad => sx Z (Aj o Z Z Z <| rl Z <| rs AA <| rl Z <| cd Z ad (fun ae => ?_) (fun ag => ?_))
    .exact rs AA <| rl Z <| AU <| L7 Z <| AX <| BK ae fun ap af => L7 Z <| An <| Ar af (wf hA [] Z Z Z)
    exact AE <| Ac <| AC <| rg AA <| rl Z <| Ar ag (wf hA [(0, 0)] Z Z Z)
   exact AU <| AX <| BK ah fun aq ai => An <| Ac <| Ar ai (wf hA [] Z Z Z)
  intro g aj
  exact rg AA <| rl Z <| Ar aj (wf hA [] Z Z Z)
 refine AU <| AX <| BK ak fun ar al => An <| AC <| rs AA <| rl Z <| AF <| I6 ?_
 cases al
 exact er Z Le.rfl
end Go.E
/- Plain functions, and walks in step with them. Written by a program (gen.py). No condition. -/
set_option maxRecDepth 100000
set_option maxHeartbeats 1000000
namespace Go.E
open Go Go.RowKit Go.Proofs
noncomputable def Gs (a : A0) (b : AK) : Option Bool :=
 ((bif decide (b.top < a.top) then some true else some (decide (a.brake < b.brake)) : Option (Bool))).bind fun (c : Bool) => some c
theorem Ra (b : A0) (c : AK) (r : Bool) (h : Gs b c = some r) : Az Tryz.prog 124 [.agg (BG b), .place (AV c) 0] (· = .bool r) := by
 refine fn AA Tryz.func124 Z Z 16 Z [.tmp 3] Z [(0, .p (.agg (BG b))), (1, .p (.place (AV c) 0))] Z Z fun A hA => ?_
 unfold Gs at h
 refine rs AA <| rl Z <| jb (fun a : Bool => ⟨16, [(3, lb a)], [], 0⟩) h (fun a d => ?_) (fun a g => ?_)
 .refine rg AA <| rn 6 Z <| gs 9 d Z Z Z (fun e => ?_) (fun f => ?_)
  .exact rl Z <| AL e (wf hA [] Z Z Z)
  exact rl Z <| AL f (wf hA [] Z Z Z)
 refine AF ?_
 have hr := Option.some.inj g; subst hr
 exact er Z Le.rfl
noncomputable def EX (c : AK) (b : (List A0)) (a : Int) : Option (Int ⊕ Int) :=
 bif decide (a < (b.length : Int)) then (AY b a).bind fun d => (Gs d c).bind fun e => bif e then some (.inr a) else some (.inl (AN (a + 1))) else some (.inr (-1))
noncomputable def GL (e : AK) (a : (List A0)) : Option Int :=
 (GK a).bind fun b => bif (b != 0) then some b else ((((AQ (EX e a) 0 : Option (Int))).bind fun (d : Int) => some (decide (0 <= d)) : Option (Bool))).bind fun (c : Bool) => bif c then some 9 else some 0
theorem TX (d : AK) (b : (List A0)) (r : Int) (h : GL d b = some r) : Az Tryz.prog 86 [.agg (AV d), .slice 5 (b.map BG)] (· = .int .i64 r) := by
 refine fn AA Tryz.func86 Z Z 14 Z [.tmp 4] Z [(0, .p (.agg (AV d))), (1, .p (.slice 5 (b.map BG)))] Z Z fun A hA => ?_
 unfold GL at h
 refine rs AA <| rl Z <| AB <| rs AA <| rn 1 Z <| bq h fun aj k l => sx Z (AM (TW _ _ k) (.inl Z) Z Z Z <| rl Z <| rs AA <| rl Z <| cd Z l (fun m => ?_) (fun n => ?_))
 .refine rs AA <| rl Z <| AF <| AG ?_
  have hr := Option.some.inj m; subst hr
  exact er Z Le.rfl
 refine AE <| AC <| AB <| rs AA <| rn 2 Z <| sx Z (CT AA (fun e : Bool => lb e) (fun e : Bool => [(0, bx (AV d))]) 1 n Tryz.func123 9 [.tmp 4] [(0, ls 5 BG b), (1, .fn 124 [.lpb 0 0])] Z Z Z Z Z Z Z Z (fun A hA e o => ?_) (fun e ab => ?_))
 .refine rs AA <| rl Z <| rs AA <| rn 2 Z <| sx Z (CT AA (fun c : Int => li c) (fun c : Int => [(0, bx (AV d))]) 1 o Tryz.func155 19 [.tmp 4] [(0, ls 5 BG b), (1, .fn 124 [.lpb 0 0])] Z Z Z Z Z Z Z Z (fun A hA c q => ?_) (fun c aa => ?_))
  .refine rs AA <| rl Z <| AB <| rs AA <| rn 1 Z <| sx Z (Ae Z Z <| rl Z <| AH ?_)
   apply lp (a := c) (fun f : Int => ⟨19, [(0, ls 5 BG b), (1, .fn 124 [.lpb 0 0]), (7, li (b.length : Int)), (8, li f)], [(0, bx (AV d))], 1⟩) q
   . exact wj hA [(0, 0)] Z Z Z Z
   intro f ag g
   unfold EX at g
   refine rs AA <| rl Z <| AB <| cd Z g (fun s => ?_) (fun y => ?_)
   .refine AE <| AC <| AB <| AH <| rs AA <| rl Z <| rs AA <| rn 3 Z <| bq s fun ah i t => sx Z (Aj i Z Z Z <| rn 1 Z <| bq t fun ai j u => sx Z (AM (Ra _ _ _ j) (.inl Z) Z Z (D1.eq (.cons (.one (.p _)) (.cons (.box Z (.cons (.p _) (.cons (.p _) (.cons (.p _) (.cons (.p _) (.cons (.p _) (.cons (.p _) (.cons (.p _) (.cons (.p _) (.cons (.p _) .nil)))))))))) .nil))) <| rl Z <| cd Z u (fun v => ?_) (fun x => ?_)))
    .refine rs AA <| rl Z <| AF <| AO <| AG <| A3 v fun ae w => AO <| AG ?_
     have hr := Option.some.inj w; subst hr
     exact CX (nt := 19) (sl := [(4, li f)]) (wj hA [(0, 0)] Z Z Z Z) Z
    exact AE <| Ac <| AC <| rg AA <| rl Z <| Ar x (wj hA [(0, 0)] Z Z Z Z)
   refine AU <| AX <| BK y fun af z => An <| AC <| rs AA <| rl Z <| AF ?_
   cases z
   exact CX (nt := 19) (sl := [(4, li (-1))]) (wj hA [(0, 0)] Z Z Z Z) Z
  refine rl Z <| AF ?_
  cases aa
  exact CX (nt := 9) (sl := [(4, lb (decide (0 <= c)))]) (wj hA [(0, 0)] Z Z Z Z) Z
 refine rl Z <| cd Z ab (fun ac => ?_) (fun ad => ?_)
 .refine rs AA <| rl Z <| AF <| AG ?_
  cases ac
  exact er Z Le.rfl
 refine AE <| AC <| rs AA <| rl Z <| AF ?_
 cases ad
 exact er Z Le.rfl
noncomputable def CL (a : Int) (c : Int) : Option Bool :=
 ((bif decide (0 <= a) then some (decide (a <= c)) else some false : Option (Bool))).bind fun (b : Bool) => some b
theorem EY (b : Int) (c : Int) (r : Bool) (h : CL b c = some r) : Az Tryz.prog 87 [.int .i64 b, .int .i64 c] (· = .bool r) := by
 refine fn AA Tryz.func87 Z Z 12 Z [.tmp 4] Z [(0, .p (.int .i64 b)), (1, .p (.int .i64 c))] Z Z fun A hA => ?_
 unfold CL at h
 refine rs AA <| rl Z <| jb (fun a : Bool => ⟨12, [(4, lb a)], [], 0⟩) h (fun a d => ?_) (fun a g => ?_)
 .refine rg AA <| rn 3 Z <| gs 7 d Z Z Z (fun e => ?_) (fun f => ?_)
  .exact rl Z <| AL e (wf hA [] Z Z Z)
  exact rl Z <| AL f (wf hA [] Z Z Z)
 refine AF ?_
 have hr := Option.some.inj g; subst hr
 exact er Z Le.rfl
noncomputable def EL (a : AK) (b : Int) : Option Int :=
 (CL b (AN ((a.elems.length : Int) - 1))).bind fun d => bif (!d) then some 0 else (AY a.elems b).bind fun c => some c.kind
theorem M9 (a : AK) (b : Int) (r : Int) (h : EL a b = some r) : Az Tryz.prog 157 [.agg (AV a), .int .i64 b] (· = .int .i64 r) := by
 refine fn AA Tryz.func157 Z Z 18 Z [.tmp 4] Z [(0, .p (.agg (AV a))), (1, .p (.int .i64 b))] Z Z fun A hA => ?_
 unfold EL at h
 refine rs AA <| rl Z <| AB <| rs AA <| rn 3 Z <| sx Z (Ae Z Z <| rn 1 Z <| bq h fun k d e => sx Z (AM (EY _ _ _ d) (.inl Z) Z Z Z <| rl Z <| cd Z e (fun f => ?_) (fun g => ?_)))
 .refine rs AA <| rl Z <| AF <| AG ?_
  cases f
  exact er Z Le.rfl
 refine AE <| AC <| rs AA <| rn 3 Z <| bq g fun j c i => sx Z (Aj c Z Z Z <| rl Z <| AF ?_)
 cases i
 exact er Z Le.rfl
noncomputable def Er (b : AK) (a : Co) : Option Bool :=
 bif (a.fin == 1) then (CL a.to (AN ((b.signals.length : Int) - 1))).bind fun c => some c else bif (a.fin == 2) then (EL b a.to).bind fun d => some (d == 4) else bif (a.fin == 3) then (EL b a.to).bind fun e => some (e == 1) else some false
theorem Rb (a : AK) (b : Co) (r : Bool) (h : Er a b = some r) : Az Tryz.prog 126 [.agg (AV a), .agg (Ee b)] (· = .bool r) := by
 refine fn AA Tryz.func126 Z Z 30 Z [.tmp 4] Z [(0, .p (.agg (AV a))), (1, .p (.agg (Ee b)))] Z Z fun A hA => ?_
 unfold Er at h
 refine rs AA <| rl Z <| AB <| rs AA <| rl Z <| AH <| rs AA <| rl Z <| cd Z h (fun f => ?_) (fun i => ?_)
 .refine rs AA <| rn 4 Z <| sx Z (Ae Z Z <| rn 1 Z <| bq f fun q c g => sx Z (AM (EY _ _ _ c) (.inl Z) Z Z Z <| rl Z <| AF <| AO <| AG ?_))
  have hr := Option.some.inj g; subst hr
  exact er Z Le.rfl
 refine rs AA <| rl Z <| cd Z i (fun j => ?_) (fun l => ?_)
 .refine rs AA <| rn 3 Z <| bq j fun s d k => sx Z (AM (M9 _ _ _ d) (.inl Z) Z Z Z <| rl Z <| AF <| AO <| AG ?_)
  cases k
  exact er Z Le.rfl
 refine rs AA <| rl Z <| cd Z l (fun m => ?_) (fun o => ?_)
 .refine rs AA <| rn 3 Z <| bq m fun t e n => sx Z (AM (M9 _ _ _ e) (.inl Z) Z Z Z <| rl Z <| AF <| AO <| AG ?_)
  cases n
  exact er Z Le.rfl
 refine AE <| Ac <| AC <| rs AA <| rl Z <| AF ?_
 cases o
 exact er Z Le.rfl
noncomputable def DN (e : AK) (c : CY) (a : Int × Int) : Option ((Int × Int) ⊕ Bool) :=
 bif decide (a.2 < (c.legs.length : Int)) then (AY c.legs a.2).bind fun b => (((CL b.at_ 2000).bind fun f => bif (!f) then some true else bif decide (b.at_ < a.1) then some true else (Er e b).bind fun g => some (!g) : Option (Bool))).bind fun (d : Bool) => bif d then some (.inr false) else some (.inl (b.at_, AN (a.2 + 1))) else some (.inr true)
noncomputable def GM (b : AK) (d : Ag) (a : CY) : Option Bool :=
 (((B9 a.name).bind fun e => bif (!e) then some true else (CL a.stock (AN ((d.stock.length : Int) - 1))).bind fun f => bif (!f) then some true else (CL a.frm (AN ((b.signals.length : Int) - 1))).bind fun g => bif (!g) then some true else (CL a.left 4000).bind fun h => some (!h) : Option (Bool))).bind fun (c : Bool) => bif c then some false else AQ (DN b a) (0, 0)
theorem TY (c : AK) (g : Ag) (b : CY) (r : Bool) (h : GM c g b = some r) : Az Tryz.prog 89 [.agg (AV c), .agg (AZ g), .agg (Bx b)] (· = .bool r) := by
 refine fn AA Tryz.func89 Z Z 66 Z [.tmp 6] Z [(0, .p (.agg (AV c))), (1, .p (.agg (AZ g))), (2, .p (.agg (Bx b)))] Z Z fun A hA => ?_
 unfold GM at h
 refine rs AA <| rl Z <| AB <| jb (fun e : Bool => ⟨66, [(3, .lpb 0 0), (5, .lpb 1 0), (39, lb e)], [(0, bx (AV c)), (1, bx (Bx b))], 2⟩) h (fun e s => ?_) (fun e af => ?_)
 .refine rg AA <| rn 2 Z <| bq s fun a1 j t => sx Z (AM (IF _ _ j) (.inl Z) Z Z Z <| rn 2 Z <| gs 14 t Z Z Z (fun u => ?_) (fun v => ?_))
  .exact rl Z <| AL u (wf hA [(0, 0), (1, 2)] Z Z Z)
  refine rn 4 Z <| sx Z (Ae Z Z <| rn 1 Z <| bq v fun a2 k w => sx Z (AM (EY _ _ _ k) (.inl Z) Z Z Z <| rn 3 Z <| gs 24 w Z Z Z (fun y => ?_) (fun z => ?_)))
  .exact rl Z <| AL y (wf hA [(0, 0), (1, 2)] Z Z Z)
  refine rn 4 Z <| sx Z (Ae Z Z <| rn 1 Z <| bq z fun a3 l aa => sx Z (AM (EY _ _ _ l) (.inl Z) Z Z Z <| rn 3 Z <| gs 34 aa Z Z Z (fun ab => ?_) (fun ad => ?_)))
  .exact rl Z <| AL ab (wf hA [(0, 0), (1, 2)] Z Z Z)
  exact rn 2 Z <| bq ad fun a4 n ae => sx Z (AM (EY _ _ _ n) (.inl Z) Z Z Z <| rl Z <| AL ae (wf hA [(0, 0), (1, 2)] Z Z Z))
 refine cd Z af (fun ao => ?_) (fun aw => ?_)
 .refine rs AA <| rl Z <| AF <| AG ?_
  cases ao
  exact er Z Le.rfl
 refine AE <| AC <| rs AA <| rl Z <| AB <| rs AA <| rn 2 Z <| sx Z (Ae Z Z <| rl Z <| AH ?_)
 apply lp (a := r) (fun d : (Int × Int) => ⟨66, [(3, .lpb 0 0), (7, li d.1), (41, ls 4 Ee b.legs), (42, li (b.legs.length : Int)), (43, li d.2)], [(0, bx (AV c))], 1⟩) aw
 . exact wf hA [(0, 0)] Z Z Z
 intro d a0 i
 unfold DN at i
 refine rs AA <| rl Z <| AB <| cd Z i (fun x => ?_) (fun au => ?_)
 .refine AE <| AC <| AB <| AH <| rs AA <| bq x fun ax m ac => sx Z (Aj m Z Z Z <| rl Z <| AB <| jb (fun f : Bool => ⟨66, [(3, .lpb 0 0), (9, .lpb 1 0), (41, ls 4 Ee b.legs), (42, li (b.legs.length : Int)), (43, li d.2), (62, lb f)], [(0, bx (AV c)), (1, bx (Ee ax))], 2⟩) ac (fun f ag => ?_) (fun f an => ?_))
  .refine rg AA <| rn 2 Z <| bq ag fun a5 o ah => sx Z (AM (EY _ _ _ o) (.inl Z) Z Z Z <| rn 2 Z <| gs 51 ah Z Z Z (fun ai => ?_) (fun aj => ?_))
   .exact rl Z <| AL ai (wf hA [(0, 0), (1, 1)] Z Z Z)
   refine rn 6 Z <| gs 57 aj Z Z Z (fun ak => ?_) (fun al => ?_)
   .exact rl Z <| AL ak (wf hA [(0, 0), (1, 1)] Z Z Z)
   exact rn 2 Z <| bq al fun a6 q am => sx Z (AM (Rb _ _ _ q) (.inl Z) Z Z Z <| rl Z <| AL am (wf hA [(0, 0), (1, 1)] Z Z Z))
  refine cd Z an (fun ap => ?_) (fun ar => ?_)
  .refine rs AA <| rl Z <| AF <| AG <| AO <| AG <| A3 ap fun ay aq => AO <| AG ?_
   cases aq
   exact er Z Le.rfl
  exact AE <| AC <| rg AA <| rl Z <| Ac <| AC <| rg AA <| rl Z <| Ar ar (wf hA [(0, 0)] Z Z Z)
 refine AU <| AX <| BK au fun az av => An <| AC <| rs AA <| rl Z <| AF ?_
 cases av
 exact er Z Le.rfl
noncomputable def FL (a : CY) (b : AK) (c : Ag) : Option Bool :=
 (GM b c a).bind fun d => some (!d)
theorem P8 (a : CY) (b : AK) (c : Ag) (r : Bool) (h : FL a b c = some r) : Az Tryz.prog 88 [.agg (Bx a), .place (AV b) 0, .place (AZ c) 0] (· = .bool r) := by
 refine fn AA Tryz.func88 Z Z 10 Z [.tmp 4] Z [(0, .p (.agg (Bx a))), (1, .p (.place (AV b) 0)), (2, .p (.place (AZ c) 0))] Z Z fun A hA => ?_
 unfold FL at h
 refine rs AA <| rl Z <| rs AA <| rn 3 Z <| bq h fun f d e => sx Z (AM (TY _ _ _ _ d) (.inl Z) Z Z Z <| rl Z <| AF ?_)
 cases e
 exact er Z Le.rfl
noncomputable def FM (a : CY) (b : CY) : Option Bool :=
 some (a.name.toList == b.name.toList)
theorem P9 (a : CY) (b : CY) (r : Bool) (h : FM a b = some r) : Az Tryz.prog 90 [.agg (Bx a), .place (Bx b) 0] (· = .bool r) := by
 refine fn AA Tryz.func90 Z Z 9 Z [.tmp 3] Z [(0, .p (.agg (Bx a))), (1, .p (.place (Bx b) 0))] Z Z fun A hA => ?_
 unfold FM at h
 refine rs AA <| rl Z <| rs AA <| rl Z <| AF ?_
 cases h
 exact er Z Le.rfl
noncomputable def Dg (b : Ag) (a : Int) : Option (Int ⊕ Int) :=
 bif decide (a < (b.runs.length : Int)) then (AY b.runs a).bind fun c => (FK c).bind fun d => bif d then some (.inr a) else some (.inl (AN (a + 1))) else some (.inr (-1))
noncomputable def Dh (c : AK) (b : Ag) (a : Int) : Option (Int ⊕ Int) :=
 bif decide (a < (b.runs.length : Int)) then (AY b.runs a).bind fun d => (FL d c b).bind fun e => bif e then some (.inr a) else some (.inl (AN (a + 1))) else some (.inr (-1))
noncomputable def Di (c : CY) (b : (List CY)) (a : Int) : Option (Int ⊕ Int) :=
 bif decide (a < (b.length : Int)) then (AY b a).bind fun d => (FM d c).bind fun e => bif e then some (.inr a) else some (.inl (AN (a + 1))) else some (.inr (-1))
noncomputable def Dj (b : Ag) (a : Int) : Option (Int ⊕ Int) :=
 bif decide (a < (b.runs.length : Int)) then (AY b.runs a).bind fun e => (Kx b.runs 0 a).bind fun f => ((((AQ (Di e f) 0 : Option (Int))).bind fun (d : Int) => some (decide (0 <= d)) : Option (Bool))).bind fun (c : Bool) => bif c then some (.inr 4) else some (.inl (AN (a + 1))) else some (.inr 0)
noncomputable def Es (b : AK) (a : Ag) : Option Int :=
 ((bif decide (8 < (a.runs.length : Int)) then some true else ((((AQ (Dg a) 0 : Option (Int))).bind fun (g : Int) => some (decide (0 <= g)) : Option (Bool))).bind fun (f : Bool) => some f : Option (Bool))).bind fun (e : Bool) => bif e then some 3 else (GL b a.stock).bind fun c => bif (c != 0) then some c else (((CL a.begin 86399).bind fun j => bif (!j) then some true else ((((AQ (Dh b a) 0 : Option (Int))).bind fun (d : Int) => some (decide (0 <= d)) : Option (Bool))).bind fun (i : Bool) => some i : Option (Bool))).bind fun (h : Bool) => bif h then some 1 else AQ (Dj a) 0
theorem Rc (c : AK) (b : Ag) (r : Int) (h : Es c b = some r) : Az Tryz.prog 55 [.agg (AV c), .agg (AZ b)] (· = .int .i64 r) := by
 refine fn AA Tryz.func55 Z Z 49 Z [.tmp 4] Z [(0, .p (.agg (AV c))), (1, .p (.agg (AZ b)))] Z Z fun A hA => ?_
 unfold Es at h
 refine rs AA <| rl Z <| AB <| jb (fun o : Bool => ⟨49, [(2, .lpb 0 0), (3, .lpb 1 0), (16, lb o)], [(0, bx (AV c)), (1, bx (AZ b))], 2⟩) h (fun o az => ?_) (fun o b1 => ?_)
 .refine rg AA <| rn 2 Z <| sx Z (Ae Z Z <| rn 2 Z <| gs 12 az Z Z Z (fun a0 => ?_) (fun a1 => ?_))
  .exact rl Z <| AL a0 (wf hA [(0, 0), (1, 1)] Z Z Z)
  refine rn 2 Z <| sx Z (CT AA (fun i : Bool => lb i) (fun i : Bool => [(0, bx (AV c)), (1, bx (AZ b))]) 2 a1 Tryz.func84 9 [.tmp 4] [(0, ls 5 Bx b.runs), (1, .fn 85 [])] Z Z Z Z Z Z Z Z (fun A hA i bm => ?_) (fun i b0 => ?_))
  .refine rs AA <| rl Z <| rs AA <| rn 2 Z <| sx Z (CT AA (fun f : Int => li f) (fun f : Int => [(0, bx (AV c)), (1, bx (AZ b))]) 2 bm Tryz.func121 19 [.tmp 4] [(0, ls 5 Bx b.runs), (1, .fn 85 [])] Z Z Z Z Z Z Z Z (fun A hA f bn => ?_) (fun f bz => ?_))
   .refine rs AA <| rl Z <| AB <| rs AA <| rn 1 Z <| sx Z (Ae Z Z <| rl Z <| AH ?_)
    apply lp (a := f) (fun n : Int => ⟨19, [(0, ls 5 Bx b.runs), (1, .fn 85 []), (7, li (b.runs.length : Int)), (8, li n)], [(0, bx (AV c)), (1, bx (AZ b))], 2⟩) bn
    . exact wj hA [(0, 0), (1, 1)] Z Z Z Z
    intro n co w
    unfold Dg at w
    refine rs AA <| rl Z <| AB <| cd Z w (fun bo => ?_) (fun bv => ?_)
    .refine AE <| AC <| AB <| AH <| rs AA <| rl Z <| rs AA <| rn 3 Z <| bq bo fun ct ae bp => sx Z (Aj ae Z Z Z <| rn 1 Z <| bq bp fun cu af br => sx Z (AM (P7 _ _ af) (.inl Z) Z Z Z <| rl Z <| cd Z br (fun bs => ?_) (fun bu => ?_)))
     .refine rs AA <| rl Z <| AF <| AO <| AG <| A3 bs fun cj bt => AO <| AG ?_
      have hr := Option.some.inj bt; subst hr
      exact CX (nt := 19) (sl := [(4, li n)]) (wj hA [(0, 0), (1, 1)] Z Z Z Z) Z
     exact AE <| Ac <| AC <| rg AA <| rl Z <| Ar bu (wj hA [(0, 0), (1, 1)] Z Z Z Z)
    refine AU <| AX <| BK bv fun ck bw => An <| AC <| rs AA <| rl Z <| AF ?_
    cases bw
    exact CX (nt := 19) (sl := [(4, li (-1))]) (wj hA [(0, 0), (1, 1)] Z Z Z Z) Z
   refine rl Z <| AF ?_
   cases bz
   exact CX (nt := 9) (sl := [(4, lb (decide (0 <= f)))]) (wj hA [(0, 0), (1, 1)] Z Z Z Z) Z
  exact rl Z <| AL b0 (wf hA [(0, 0), (1, 1)] Z Z Z)
 refine cd Z b1 (fun b2 => ?_) (fun b3 => ?_)
 .refine rs AA <| rl Z <| AF <| AG ?_
  cases b2
  exact er Z Le.rfl
 refine AE <| AC <| AB <| rs AA <| rn 3 Z <| bq b3 fun cv ag b4 => sx Z (AM (TX _ _ _ ag) (.inl Z) Z Z Z <| rl Z <| rs AA <| rl Z <| cd Z b4 (fun b5 => ?_) (fun b6 => ?_))
 .refine rs AA <| rl Z <| AF <| AG ?_
  have hr := Option.some.inj b5; subst hr
  exact er Z Le.rfl
 refine AE <| AC <| AB <| jb (fun q : Bool => ⟨49, [(3, .lpb 0 0), (33, lb q)], [(0, bx (AZ b))], 1⟩) b6 (fun q b7 => ?_) (fun q av => ?_)
 .refine rg AA <| rn 2 Z <| bq b7 fun cw ah b8 => sx Z (AM (EY _ _ _ ah) (.inl Z) Z Z Z <| rn 2 Z <| gs 28 b8 Z Z Z (fun b9 => ?_) (fun ca => ?_))
  .exact rl Z <| AL b9 (wf hA [(0, 1)] Z Z Z)
  refine rn 3 Z <| sx Z (CT AA (fun j : Bool => lb j) (fun j : Bool => [(0, bx (AV c)), (1, bx (AZ b))]) 2 ca Tryz.func84 9 [.tmp 4] [(0, ls 5 Bx b.runs), (1, .fn 88 [.lpb 0 0, .lpb 1 0])] Z Z Z Z Z Z Z Z (fun A hA j cb => ?_) (fun j au => ?_))
  .refine rs AA <| rl Z <| rs AA <| rn 2 Z <| sx Z (CT AA (fun d : Int => li d) (fun d : Int => [(0, bx (AV c)), (1, bx (AZ b))]) 2 cb Tryz.func121 19 [.tmp 4] [(0, ls 5 Bx b.runs), (1, .fn 88 [.lpb 0 0, .lpb 1 0])] Z Z Z Z Z Z Z Z (fun A hA d ai => ?_) (fun d ar => ?_))
   .refine rs AA <| rl Z <| AB <| rs AA <| rn 1 Z <| sx Z (Ae Z Z <| rl Z <| AH ?_)
    apply lp (a := d) (fun l : Int => ⟨19, [(0, ls 5 Bx b.runs), (1, .fn 88 [.lpb 0 0, .lpb 1 0]), (7, li (b.runs.length : Int)), (8, li l)], [(0, bx (AV c)), (1, bx (AZ b))], 2⟩) ai
    . exact wj hA [(0, 0), (1, 1)] Z Z Z Z
    intro l cl t
    unfold Dh at t
    refine rs AA <| rl Z <| AB <| cd Z t (fun aj => ?_) (fun ap => ?_)
    .refine AE <| AC <| AB <| AH <| rs AA <| rl Z <| rs AA <| rn 3 Z <| bq aj fun cp y ak => sx Z (Aj y Z Z Z <| rn 1 Z <| bq ak fun cq z al => sx Z (AM (P8 _ _ _ _ z) (.inl Z) Z Z (D1.eq (.cons (.one (.p _)) (.cons (.box Z (.cons (.p _) (.cons (.p _) (.cons (.p _) (.cons (.p _) (.cons (.p _) (.cons (.p _) (.cons (.p _) (.cons (.p _) (.cons (.p _) .nil)))))))))) (.cons (.box Z (.cons (.p _) (.cons (.p _) (.cons (.p _) .nil)))) .nil)))) <| rl Z <| cd Z al (fun am => ?_) (fun ao => ?_)))
     .refine rs AA <| rl Z <| AF <| AO <| AG <| A3 am fun cc an => AO <| AG ?_
      have hr := Option.some.inj an; subst hr
      exact CX (nt := 19) (sl := [(4, li l)]) (wj hA [(0, 0), (1, 1)] Z Z Z Z) Z
     exact AE <| Ac <| AC <| rg AA <| rl Z <| Ar ao (wj hA [(0, 0), (1, 1)] Z Z Z Z)
    refine AU <| AX <| BK ap fun ce aq => An <| AC <| rs AA <| rl Z <| AF ?_
    cases aq
    exact CX (nt := 19) (sl := [(4, li (-1))]) (wj hA [(0, 0), (1, 1)] Z Z Z Z) Z
   refine rl Z <| AF ?_
   cases ar
   exact CX (nt := 9) (sl := [(4, lb (decide (0 <= d)))]) (wj hA [(0, 0), (1, 1)] Z Z Z Z) Z
  exact rl Z <| AL au (wf hA [(0, 1)] Z Z Z)
 refine cd Z av (fun aw => ?_) (fun ax => ?_)
 .refine rs AA <| rl Z <| AF <| AG ?_
  cases aw
  exact er Z Le.rfl
 refine AE <| AC <| AB <| rs AA <| rn 2 Z <| sx Z (Ae Z Z <| rl Z <| AH ?_)
 apply lp (a := r) (fun x : Int => ⟨49, [(3, .lpb 0 0), (35, ls 5 Bx b.runs), (36, li (b.runs.length : Int)), (37, li x)], [(0, bx (AZ b))], 1⟩) ax
 . exact wf hA [(0, 0)] Z Z Z
 intro x cm u
 unfold Dj at u
 refine rs AA <| rl Z <| AB <| cd Z u (fun ay => ?_) (fun bk => ?_)
 .refine AE <| AC <| AB <| AH <| rs AA <| rn 1 Z <| bq ay fun s aa a2 => sx Z (Aj aa Z Z Z <| rl Z <| rs AA <| rn 3 Z <| bq a2 fun k ab a3 => sx Z (To ab Z Z Z Z <| rn 1 Z <| sx Z (CT AA (fun g : Bool => lb g) (fun g : Bool => [(0, bx (AZ b)), (1, bx (Bx s))]) 2 a3 Tryz.func84 9 [.tmp 4] [(0, ls 5 Bx k), (1, .fn 90 [.lpb 1 0])] Z Z Z Z Z Z Z Z (fun A hA g a4 => ?_) (fun g bg => ?_))))
  .refine rs AA <| rl Z <| rs AA <| rn 2 Z <| sx Z (CT AA (fun e : Int => li e) (fun e : Int => [(0, bx (AZ b)), (1, bx (Bx s))]) 2 a4 Tryz.func121 19 [.tmp 4] [(0, ls 5 Bx k), (1, .fn 90 [.lpb 1 0])] Z Z Z Z Z Z Z Z (fun A hA e a5 => ?_) (fun e bf => ?_))
   .refine rs AA <| rl Z <| AB <| rs AA <| rn 1 Z <| sx Z (Ae Z Z <| rl Z <| AH ?_)
    apply lp (a := e) (fun m : Int => ⟨19, [(0, ls 5 Bx k), (1, .fn 90 [.lpb 1 0]), (7, li (k.length : Int)), (8, li m)], [(0, bx (AZ b)), (1, bx (Bx s))], 2⟩) a5
    . exact wj hA [(0, 0), (1, 1)] Z Z Z Z
    intro m cn v
    unfold Di at v
    refine rs AA <| rl Z <| AB <| cd Z v (fun a6 => ?_) (fun bc => ?_)
    .refine AE <| AC <| AB <| AH <| rs AA <| rl Z <| rs AA <| rn 3 Z <| bq a6 fun cr ac a7 => sx Z (Aj ac Z Z Z <| rn 1 Z <| bq a7 fun cs ad a8 => sx Z (AM (P9 _ _ _ ad) (.inl Z) Z Z (D1.eq (.cons (.one (.p _)) (.cons (.box Z (.cons (.p _) (.cons (.p _) (.cons (.p _) (.cons (.p _) (.cons (.p _) .nil)))))) .nil))) <| rl Z <| cd Z a8 (fun a9 => ?_) (fun bb => ?_)))
     .refine rs AA <| rl Z <| AF <| AO <| AG <| A3 a9 fun cf ba => AO <| AG ?_
      have hr := Option.some.inj ba; subst hr
      exact CX (nt := 19) (sl := [(4, li m)]) (wj hA [(0, 0), (1, 1)] Z Z Z Z) Z
     exact AE <| Ac <| AC <| rg AA <| rl Z <| Ar bb (wj hA [(0, 0), (1, 1)] Z Z Z Z)
    refine AU <| AX <| BK bc fun cg be => An <| AC <| rs AA <| rl Z <| AF ?_
    cases be
    exact CX (nt := 19) (sl := [(4, li (-1))]) (wj hA [(0, 0), (1, 1)] Z Z Z Z) Z
   refine rl Z <| AF ?_
   cases bf
   exact CX (nt := 9) (sl := [(4, lb (decide (0 <= e)))]) (wj hA [(0, 0), (1, 1)] Z Z Z Z) Z
  refine rl Z <| cd Z bg (fun bh => ?_) (fun bj => ?_)
  .refine rs AA <| rl Z <| AF <| AO <| AG <| A3 bh fun ch bi => AO <| AG ?_
   cases bi
   exact er Z Le.rfl
  exact AE <| Ac <| AC <| rg AA <| rl Z <| Ar bj (wf hA [(0, 0)] Z Z Z)
 refine AU <| AX <| BK bk fun ci bl => An <| AC <| rs AA <| rl Z <| AF ?_
 cases bl
 exact er Z Le.rfl
noncomputable def IG (c : Aw) (d : Ag) (b : Int) : Option (JC × Bool) :=
 ((bif decide (b < 0) then some true else some (decide ((d.runs.length : Int) <= b)) : Option (Bool))).bind fun (f : Bool) => bif f then some ((⟨ByteArray.empty, 0, (⟨0, 0⟩ : AI), 0⟩ : JC), false) else (AY d.runs b).bind fun a => (Cd c a.frm).bind fun e => (((BT c e.1.elem).bind fun h => bif (h == 4) then some 0 else some a.left : Option (Int))).bind fun (g : Int) => some ((⟨a.name, a.stock, e.1, g⟩ : JC), true)
theorem Vg (a : Aw) (b : Ag) (c : Int) (r : (JC × Bool)) (h : IG a b c = some r) : Az Tryz.prog 11 [.place (Aq a) 0, .agg (AZ b), .int .i64 c] (· = .tup [.agg (NA r.1), .bool r.2]) := by
 refine fn AA Tryz.func11 Z Z 49 Z [.cell 6 42, .tmp 7] Z [(0, .p (.place (Aq a) 0)), (1, .p (.agg (AZ b))), (2, .p (.int .i64 c))] Z Z fun A hA => ?_
 unfold IG at h
 refine rs AA <| rl Z <| AB <| jb (fun d : Bool => ⟨49, [(0, lq (Aq a)), (2, li c), (4, .lpb 0 0), (6, .lpb 1 0), (20, lb d)], [(0, bx (AZ b)), (1, .box [.p (.str ByteArray.empty), li 0, li 0, li 0, li 0])], 2⟩) h (fun d l => ?_) (fun d o => ?_)
 .refine rg AA <| rn 3 Z <| gs 14 l Z Z Z (fun m => ?_) (fun n => ?_)
  .exact rl Z <| AL m (wf hA [(0, 0), (1, 1)] Z Z Z)
  exact rn 3 Z <| sx Z (Ae Z Z <| rl Z <| AL n (wf hA [(0, 0), (1, 1)] Z Z Z))
 refine cd Z o (fun q => ?_) (fun s => ?_)
 .refine rs AA <| rl Z <| AF <| AG ?_
  cases q
  exact er Z Le.rfl
 refine AE <| AC <| rs AA <| rn 3 Z <| bq s fun f i t => sx Z (Aj i Z Z Z <| rl Z <| rs AA <| rn 3 Z <| bq t fun g j u => sx Z (AM (HG _ _ _ j) (.inl Z) Z Z Z <| rl Z <| rs AA <| rl Z <| jb (fun e : Int => ⟨49, [(6, .lpb 0 0), (11, .lpb 1 0)], [(0, .box [.p (.str ByteArray.empty), li 0, li 0, li 0, li 0]), (1, .box [.p (.str f.name), li f.stock, li g.1.elem, li g.1.fin, li e])], 2⟩) u (fun e v => ?_) (fun e z => ?_)))
 .refine rs AA <| rn 3 Z <| bq v fun aa k w => sx Z (AM (Bu _ _ _ k) (.inl Z) Z Z Z <| rl Z <| cd Z w (fun x => ?_) (fun y => ?_))
  .exact rg AA <| rl Z <| AL x (wf hA [(0, 1), (1, 4)] Z Z Z)
  exact AE <| AL y (wf hA [(0, 1), (1, 4)] Z Z Z)
 refine rs AA <| rl Z <| AF ?_
 cases z
 exact er Z Le.rfl
end Go.E
/- Plain functions, and walks in step with them. Written by a program (gen.py). No condition. -/
set_option maxRecDepth 100000
set_option maxHeartbeats 1000000
namespace Go.E
open Go Go.RowKit Go.Proofs
noncomputable def Gb (c : Aw) (a : AI) : Option Bool :=
 ((bif decide (0 <= a.fin) then (BT c a.elem).bind fun d => (FB d).bind fun e => some (decide (a.fin < e)) else some false : Option (Bool))).bind fun (b : Bool) => some b
theorem QJ (b : Aw) (c : AI) (r : Bool) (h : Gb b c = some r) : Az Tryz.prog 136 [.place (Aq b) 0, .agg (AT c)] (· = .bool r) := by
 refine fn AA Tryz.func136 Z Z 18 Z [.tmp 4] Z [(0, .p (.place (Aq b) 0)), (1, .p (.agg (AT c)))] Z Z fun A hA => ?_
 unfold Gb at h
 refine rs AA <| rl Z <| jb (fun a : Bool => ⟨18, [(4, lb a)], [], 0⟩) h (fun a k => ?_) (fun a j => ?_)
 .refine B3 AA mixed [0, 1, 2, 3, 4, 5, 6, 7, 8, 9, 10, 11, 12, 13] 14 (by kernel_rfl) Z Z Z ?_
  refine Av 4 Z <| FF 8 k Z Z Z (fun l => ?_) (fun i => ?_)
  .exact Av 5 Z <| bq l fun m d f => Au Z (A7 (Bu _ _ _ d) (.inl Z) Z Z Z <| bq f fun n e g => Au Z (A7 (J5 _ _ e) (.inl Z) Z Z Z <| BN Z <| AL g (wf hA [] Z Z Z)))
  exact BN Z <| AL i (wf hA [] Z Z Z)
 refine AF ?_
 have hr := Option.some.inj j; subst hr
 exact er Z Le.rfl
noncomputable def FV (c : Aw) (d : Int) (a : JC) : Option (F2 × Int) :=
 (BT c a.at_.elem).bind fun b => (DO c a.at_.elem).bind fun e => ((bif decide (d < 1) then some true else bif decide (4000 < d) then some true else bif (b != 4) then bif (b != 1) then some true else (Gb c a.at_).bind fun j => some (!j) else (Gb c a.at_).bind fun k => some (!k) : Option (Bool))).bind fun (i : Bool) => bif i then some ((⟨0, [], 0, 0, 0⟩ : F2), 1) else (CZ c a.at_).bind fun l => bif decide (l < 0) then some ((⟨0, [], 0, 0, 0⟩ : F2), 7) else ((bif (b == 4) then bif (a.left != 0) then some true else bif (b == 1) then bif decide (a.left < 0) then some true else some (decide (e < a.left)) else some false else bif (b == 1) then bif decide (a.left < 0) then some true else some (decide (e < a.left)) else some false : Option (Bool))).bind fun (f : Bool) => bif f then some ((⟨0, [], 0, 0, 0⟩ : F2), 1) else ((bif (b == 1) then some (decide (e < AN (a.left + d))) else some false : Option (Bool))).bind fun (g : Bool) => bif g then some ((⟨0, [], 0, 0, 0⟩ : F2), 9) else ((bif (b == 4) then some 1 else some 2 : Option (Int))).bind fun (h : Int) => some ((⟨h, [a.at_], a.left, 0, 0⟩ : F2), 0)
theorem Ub (c : Aw) (b : Int) (a : JC) (r : (F2 × Int)) (h : FV c b a = some r) : Az Tryz.prog 92 [.place (Aq c) 0, .int .i64 b, .agg (NA a)] (· = .tup [.agg (XH r.1), .int .i64 r.2]) := by
 refine fn AA Tryz.func92 Z Z 97 Z [.cell 6 117, .tmp 7] Z [(0, .p (.place (Aq c) 0)), (1, .p (.int .i64 b)), (2, .p (.agg (NA a)))] Z Z fun A hA => ?_
 unfold FV at h
 refine rs AA <| rl Z <| AB ?_
 refine B3 AA mixed [0, 1, 2, 3, 4, 5, 6, 7, 8, 9, 10, 11] 12 (by kernel_rfl) Z Z Z ?_
 refine Av 4 Z <| bq h fun i n a5 => Au Z (A7 (Bu _ _ _ n) (.inl Z) Z Z Z <| Av 4 Z <| bq a5 fun j o a6 => Au Z (A7 (Lk _ _ _ o) (.inl Z) Z Z Z <| BN Z <| AC <| AB <| AH <| jb (fun g : Bool => ⟨97, [(0, lq (Aq c)), (1, li b), (5, .lpb 0 0), (6, .lpb 1 0), (8, li i), (9, li j), (21, lb g)], [(0, bx (NA a)), (1, .box [li 0, .p (.nils), li 0, li 0, li 0])], 2⟩) a6 (fun g a7 => ?_) (fun g x => ?_)))
 .refine rg AA <| rn 3 Z <| gs 24 a7 Z Z Z (fun a8 => ?_) (fun a9 => ?_)
  .exact rl Z <| AL a8 (wf hA [(0, 0), (1, 1)] Z Z Z)
  refine rn 4 Z <| gs 28 a9 Z Z Z (fun ba => ?_) (fun bb => ?_)
  .exact rl Z <| AL ba (wf hA [(0, 0), (1, 1)] Z Z Z)
  refine rn 3 Z <| gs 31 bb Z Z Z (fun q => ?_) (fun v => ?_)
  .refine rn 5 Z <| gs 36 q Z Z Z (fun s => ?_) (fun t => ?_)
   .exact rl Z <| AL s (wf hA [(0, 0), (1, 1)] Z Z Z)
   exact rn 3 Z <| bq t fun bc k u => sx Z (AM (QJ _ _ _ k) (.inl Z) Z Z Z <| rl Z <| AL u (wf hA [(0, 0), (1, 1)] Z Z Z))
  exact rn 8 Z <| bq v fun be l w => sx Z (AM (QJ _ _ _ l) (.inl Z) Z Z Z <| rl Z <| AL w (wf hA [(0, 0), (1, 1)] Z Z Z))
 refine cd Z x (fun y => ?_) (fun z => ?_)
 .refine rs AA <| rl Z <| AF <| AO <| AG ?_
  cases y
  exact er Z (Le.tup' (.cons (Le.agg' (.cons Le.rfl (.cons (Le.nil _) (.cons Le.rfl (.cons Le.rfl (.cons Le.rfl .nil)))))) (.cons Le.rfl .nil)))
 refine rs AA <| rn 3 Z <| bq z fun bf m aa => sx Z (AM (Gt _ _ _ m) (.inl Z) Z Z Z <| rl Z <| cd Z aa (fun ab => ?_) (fun ac => ?_))
 .refine rs AA <| rl Z <| AF <| AO <| AG ?_
  cases ab
  exact er Z (Le.tup' (.cons (Le.agg' (.cons Le.rfl (.cons (Le.nil _) (.cons Le.rfl (.cons Le.rfl (.cons Le.rfl .nil)))))) (.cons Le.rfl .nil)))
 refine jb (fun d : Bool => ⟨97, [(1, li b), (5, .lpb 0 0), (6, .lpb 1 0), (8, li i), (9, li j), (51, lb d)], [(0, bx (NA a)), (1, .box [li 0, .p (.nils), li 0, li 0, li 0])], 2⟩) ac (fun d ad => ?_) (fun d aq => ?_)
 .refine rg AA <| rn 3 Z <| gs 54 ad Z Z Z (fun ae => ?_) (fun al => ?_)
  .refine rn 5 Z <| gs 59 ae Z Z Z (fun af => ?_) (fun ag => ?_)
   .exact rl Z <| AL af (wf hA [(0, 0), (1, 1)] Z Z Z)
   refine rn 3 Z <| gs 62 ag Z Z Z (fun ah => ?_) (fun ak => ?_)
   .refine rn 4 Z <| gs 66 ah Z Z Z (fun ai => ?_) (fun aj => ?_)
    .exact rl Z <| AL ai (wf hA [(0, 0), (1, 1)] Z Z Z)
    exact rl Z <| AL aj (wf hA [(0, 0), (1, 1)] Z Z Z)
   exact rl Z <| AL ak (wf hA [(0, 0), (1, 1)] Z Z Z)
  refine rn 8 Z <| gs 62 al Z Z Z (fun am => ?_) (fun ap => ?_)
  .refine rn 4 Z <| gs 66 am Z Z Z (fun an => ?_) (fun ao => ?_)
   .exact rl Z <| AL an (wf hA [(0, 0), (1, 1)] Z Z Z)
   exact rl Z <| AL ao (wf hA [(0, 0), (1, 1)] Z Z Z)
  exact rl Z <| AL ap (wf hA [(0, 0), (1, 1)] Z Z Z)
 refine cd Z aq (fun ar => ?_) (fun au => ?_)
 .refine rs AA <| rl Z <| AF <| AO <| AG ?_
  cases ar
  exact er Z (Le.tup' (.cons (Le.agg' (.cons Le.rfl (.cons (Le.nil _) (.cons Le.rfl (.cons Le.rfl (.cons Le.rfl .nil)))))) (.cons Le.rfl .nil)))
 refine jb (fun e : Bool => ⟨97, [(5, .lpb 0 0), (6, .lpb 1 0), (8, li i), (75, lb e)], [(0, bx (NA a)), (1, .box [li 0, .p (.nils), li 0, li 0, li 0])], 2⟩) au (fun e av => ?_) (fun e ay => ?_)
 .refine rg AA <| rn 3 Z <| gs 78 av Z Z Z (fun aw => ?_) (fun ax => ?_)
  .exact rl Z <| AL aw (wf hA [(0, 0), (1, 1)] Z Z Z)
  exact rl Z <| AL ax (wf hA [(0, 0), (1, 1)] Z Z Z)
 refine cd Z ay (fun az => ?_) (fun a0 => ?_)
 .refine rs AA <| rl Z <| AF <| AO <| AG ?_
  cases az
  exact er Z (Le.tup' (.cons (Le.agg' (.cons Le.rfl (.cons (Le.nil _) (.cons Le.rfl (.cons Le.rfl (.cons Le.rfl .nil)))))) (.cons Le.rfl .nil)))
 refine AE <| Ac <| AC <| rs AA <| rl Z <| jb (fun f : Int => ⟨97, [(6, .lpb 0 0), (10, .lpb 1 0)], [(0, .box [li 0, .p (.nils), li 0, li 0, li 0]), (1, .box [li f, .lsl 2 2 0 [a.at_].length, li a.left, li 0, li 0]), (2, .row 40 2 ([a.at_].map AT))], 3⟩) a0 (fun f a1 => ?_) (fun f a4 => ?_)
 .refine rs AA <| rl Z <| cd Z a1 (fun a2 => ?_) (fun a3 => ?_)
  .exact rg AA <| rl Z <| AL a2 (wf hA [(0, 1), (1, 3), (2, 2)] Z Z Z)
  exact AE <| AL a3 (wf hA [(0, 1), (1, 3), (2, 2)] Z Z Z)
 refine rs AA <| rl Z <| AF ?_
 cases a4
 exact er (UR Z (.cons (.agg (.cons (.p _) (.cons (.own (enc := AT) ([a.at_] : List AI) Z Z) (.cons (.p _) (.cons (.p _) (.cons (.p _) .nil)))))) (.cons (.one (.p _)) .nil))) Le.rfl
noncomputable def Cp (e : Aw) (b : F2) (a : Int × (List Int)) : Option ((Int × (List Int)) ⊕ (List Int)) :=
 bif decide (a.1 < (b.trail.length : Int)) then (((AY b.trail a.1).bind fun c => (BT e c.elem).bind fun f => bif (f != 4) then (Bt a.2 [c.elem]).bind fun g => some g else some a.2 : Option ((List Int)))).bind fun (d : (List Int)) => some (.inl (AN (a.1 + 1), d)) else ((Py a.2).bind fun h => (Tv h).bind fun i => some i).map .inr
noncomputable def Gc (a : Aw) (b : F2) : Option (List Int) :=
 AQ (Cp a b) (0, ([] : List Int))
theorem Vh (d : Aw) (c : F2) (r : (List Int)) (h : Gc d c = some r) : Az Tryz.prog 93 [.place (Aq d) 0, .agg (XH c)] (· = .slice 1 (r.map Ad)) := by
 refine fn AA Tryz.func93 Z Z 30 Z [.tmp 4] Z [(0, .p (.place (Aq d) 0)), (1, .p (.agg (XH c)))] Z Z fun A hA => ?_
 unfold Gc at h
 refine rs AA <| rl Z <| rs AA <| rl Z <| AB <| rs AA <| rn 2 Z <| sx Z (Ae Z Z <| rl Z <| AH ?_)
 apply lp (a := r) (fun b : (Int × (List Int)) => ⟨30, [(0, lq (Aq d)), (5, .lsl 0 1 0 b.2.length), (9, ls 2 AT c.trail), (10, li (c.trail.length : Int)), (11, li b.1)], [(0, .row 3 1 (b.2.map Ad))], 1⟩) h
 . exact A9.trans (Cl 5 3 1 Z) (wf hA [(0, 1)] Z Z Z)
 intro b ai i
 unfold Cp at i
 refine rs AA <| rl Z <| AB <| cd Z i (fun q => ?_) (fun aa => ?_)
 .refine AE <| AC <| jb (fun f : (List Int) => ⟨30, [(0, lq (Aq d)), (5, .lsl 0 1 0 f.length), (9, ls 2 AT c.trail), (10, li (c.trail.length : Int)), (11, li b.1)], [(0, .row 3 1 (f.map Ad))], 1⟩) q (fun f s => ?_) (fun f z => ?_)
  .refine AH <| rs AA <| bq s fun ae j u => sx Z (Aj j Z Z Z <| rl Z <| rs AA <| rn 3 Z <| bq u fun aj k v => sx Z (AM (Bu _ _ _ k) (.inl Z) Z Z Z <| rl Z <| cd Z v (fun w => ?_) (fun y => ?_)))
   .exact rg AA <| rn 4 Z <| bq w fun ak n x => sx Z (BU (enc := Ad) (l := b.2) (m := [ae.elem]) n (fun _ => ⟨Z, Z⟩) Z Z Z Z Z Z <| rl Z <| Ac <| AL x (wf hA [(0, 3)] Z Z Z))
   exact AE <| Ac <| AL y (wf hA [(0, 0)] Z Z Z)
  exact rg AA <| rl Z <| Ar z (wf hA [(0, 0)] Z Z Z)
 refine AU <| AX <| CF aa fun ah ab => An <| AC <| rs AA <| rn 1 Z <| bq ab fun af g ac => sx Z (ABD (t := 50) (e := 3) (enc := Ad) (l := b.2) AA YK Z Z g Z Z Z Z Z Z <| rl Z <| rs AA <| rn 1 Z <| bq ac fun ag o ad => sx Z (ABE (t := 50) (e := 3) (enc := Ad) (l := af) AA ABF Z Z o Z (by first | rfl | exact YL g) Z Z Z Z <| rl Z <| AF ?_))
 have hr := Option.some.inj ad; subst hr
 exact er (I5 Z (.one (.own (enc := Ad) ag Z Z))) Le.rfl
noncomputable def Ds (d : (Int × Int × (List (Int × Bool)))) (b : (List Int)) (a : Int × Int × (List (Int × Bool))) : Option ((Int × Int × (List (Int × Bool))) ⊕ ((Int × Int × (List (Int × Bool))) ⊕ Int)) :=
 bif decide (a.2.1 < (b.length : Int)) then (AY b a.2.1).bind fun c => ((bif ((Ah a.2.2 c).getD false) then some 18 else some a.1 : Option (Int))).bind fun (e : Int) => some (.inl (e, AN (a.2.1 + 1), A2 c true a.2.2)) else some (.inr (.inl (a.1, AN (d.2.1 + 1), a.2.2)))
noncomputable def Et (c : Aw) (b : Ag) (a : Int × Int × (List (Int × Bool))) : Option ((Int × Int × (List (Int × Bool))) ⊕ Int) :=
 bif decide (a.2.1 < (b.runs.length : Int)) then (AY b.runs a.2.1).bind fun e => (IG c b a.2.1).bind fun f => (AY b.stock e.stock).bind fun g => (FV c g.len f.1).bind fun d => bif (d.2 != 0) then some (.inr d.2) else (Gc c d.1).bind fun h => AQ (Ds a h) (a.1, 0, a.2.2) else some (.inr a.1)
noncomputable def HH (a : Aw) (b : Ag) : Option Int :=
 AQ (Et a b) (0, 0, [])
theorem Uc (e : Aw) (b : Ag) (r : Int) (h : HH e b = some r) : Az Tryz.prog 57 [.place (Aq e) 0, .agg (AZ b)] (· = .int .i64 r) := by
 refine fn AA Tryz.func57 Z Z 63 Z [.tmp 4] Z [(0, .p (.place (Aq e) 0)), (1, .p (.agg (AZ b)))] Z Z fun A hA => ?_
 unfold HH at h
 refine rs AA <| rl Z <| rs AA <| rl Z <| AB <| rs AA <| rn 2 Z <| sx Z (Ae Z Z <| rl Z <| AH ?_)
 apply lp (a := r) (fun d : (Int × Int × (List (Int × Bool))) => ⟨63, [(0, lq (Aq e)), (3, .lpb 0 0), (5, li d.1), (6, .lmap 1), (17, ls 5 Bx b.runs), (18, li (b.runs.length : Int)), (19, li d.2.1)], [(0, bx (AZ b)), (1, .map (Ao (.int .i64) .bool d.2.2))], 2⟩) h
 . exact wf hA [(0, 0), (1, 1)] Z Z Z
 intro d l j
 unfold Et at j
 refine rs AA <| rl Z <| AB <| cd Z j (fun u => ?_) (fun an => ?_)
 .refine AE <| AC <| AB <| AH <| rs AA <| rn 1 Z <| bq u fun av m v => sx Z (Aj m Z Z Z <| rl Z <| rs AA <| rn 3 Z <| bq v fun aw n w => sx Z (AM (Vg _ _ _ _ n) (.inl Z) Z Z Z <| rl Z <| AB ?_))
  refine B3 AA mixed [0, 1, 2, 3, 4, 5, 6, 7, 8, 9, 10, 11, 12, 13, 14, 15] 16 (by kernel_rfl) Z Z Z ?_
  refine Av 5 Z <| bq w fun ax o x => Au Z (Am Z (Aj o Z Z Z <| Av 3 Z <| bq x fun ay q aa => Au Z (A7 (Ub _ _ _ _ q) (.inr Z) Z Z Z <| BN Z <| AC <| AB <| rs AA <| rl Z <| cd Z aa (fun ab => ?_) (fun ad => ?_))))
  .refine rs AA <| rl Z <| AF <| AG <| AO <| AG <| A3 ab fun ap ac => AO <| AG ?_
   cases ac
   exact er Z Le.rfl
  refine AE <| AC <| rs AA <| rn 2 Z <| bq ad fun f s ae => sx Z (AM (Vh _ _ _ s) (.inr Z) Z Z Z <| sx Z (Ae Z Z <| rl Z <| AH ?_))
  apply lp (a := l) (fun c : (Int × Int × (List (Int × Bool))) => ⟨63, [(0, lq (Aq e)), (3, .lpb 0 0), (5, li c.1), (6, .lmap 1), (17, ls 5 Bx b.runs), (18, li (b.runs.length : Int)), (19, li d.2.1), (49, ls 1 Ad f), (50, li (f.length : Int)), (51, li c.2.1)], [(0, bx (AZ b)), (1, .map (Ao (.int .i64) .bool c.2.2))], 2⟩) ae
  . exact wf hA [(0, 0), (1, 1)] Z Z Z
  intro c au k
  unfold Ds at k
  refine rs AA <| rl Z <| AB <| cd Z k (fun af => ?_) (fun al => ?_)
  .refine AE <| AC <| AB <| AH <| rs AA <| bq af fun i t ag => sx Z (Aj t Z Z Z <| rl Z <| jb (fun g : Int => ⟨63, [(0, lq (Aq e)), (3, .lpb 0 0), (5, li g), (6, .lmap 1), (14, li i), (17, ls 5 Bx b.runs), (18, li (b.runs.length : Int)), (19, li d.2.1), (49, ls 1 Ad f), (50, li (f.length : Int)), (51, li c.2.1)], [(0, bx (AZ b)), (1, .map (Ao (.int .i64) .bool c.2.2))], 2⟩) ag (fun g ah => ?_) (fun g ak => ?_))
   .refine rs AA <| rn 2 Z <| sx Z (K4 (et := 4) (ke := (.int .i64)) (ve := .bool) (mp := c.2.2) (y := i) false GJ Z Z Z Z <| rl Z <| cd Z ah (fun ai => ?_) (fun aj => ?_))
    .exact rg AA <| rl Z <| AL ai (wf hA [(0, 0), (1, 1)] Z Z Z)
    exact AE <| AL aj (wf hA [(0, 0), (1, 1)] Z Z Z)
   exact rg AA <| rn 2 Z <| sx Z (Gq (et := 4) (ke := (.int .i64)) (ve := .bool) (mp := c.2.2) (y := i) (z := true) GJ Z Z Z Z Z Z <| rl Z <| Ac <| AC <| rg AA <| rl Z <| Ar ak (wf hA [(0, 0), (1, 1)] Z Z Z))
  exact AU <| AX <| BK al fun aq am => An <| Ac <| AC <| rg AA <| rl Z <| Ar am (wf hA [(0, 0), (1, 1)] Z Z Z)
 refine AU <| AX <| BK an fun ar ao => An <| AC <| rs AA <| rl Z <| AF ?_
 cases ao
 exact er Z Le.rfl
noncomputable def FW (b : C4) (a : Int) : Option (Int ⊕ Int) :=
 bif decide (a < (b.plan.signals.length : Int)) then (AY b.plan.signals a).bind fun c => (Ia c).bind fun d => bif d then some (.inr a) else some (.inl (AN (a + 1))) else some (.inr (-1))
noncomputable def Hl (c : C4) (d : Ag) (g : Aw) (b : Int) (e : CY) (a : Int) : Option (Int ⊕ (Int ⊕ Int)) :=
 bif decide (a < (e.legs.length : Int)) then (DW g c.roads d b a).bind fun f => bif ((f.length : Int) == 0) then some (.inr (.inr 10)) else some (.inl (AN (a + 1))) else some (.inr (.inl (AN (b + 1))))
noncomputable def FX (e : C4) (c : Ag) (g : Aw) (b : Int) : Option (Int ⊕ Int) :=
 bif decide (b < (c.runs.length : Int)) then (AY c.runs b).bind fun a => ((bif ((a.legs.length : Int) == 0) then some true else (AY a.legs (AN ((a.legs.length : Int) - 1))).bind fun f => some (f.fin != 2) : Option (Bool))).bind fun (d : Bool) => bif d then some (.inr 10) else AQ (Hl e c g b a) 0 else some (.inr 0)
noncomputable def Gd (b : C4) (c : Ag) : Option Int :=
 ((((AQ (FW b) 0 : Option (Int))).bind fun (h : Int) => some (decide (0 <= h)) : Option (Bool))).bind fun (g : Bool) => bif g then some 7 else (Es b.plan c).bind fun d => bif (d != 0) then some d else (Ca b.plan).bind fun a => I4 a.1 (bif (a.2 != 0) then some a.2 else none) fun f => bif (a.2 != 0) then some a.2 else (HH f c).bind fun e => bif (e != 0) then some e else AQ (FX b c f) 0
theorem QK (c : C4) (b : Ag) (r : Int) (h : Gd c b = some r) : Az Tryz.prog 25 [.agg (Cq c), .agg (AZ b)] (· = .int .i64 r) := by
 refine fn AA Tryz.func25 Z Z 78 Z [.tmp 4] Z [(0, .p (.agg (Cq c))), (1, .p (.agg (AZ b)))] Z Z fun A hA => ?_
 unfold Gd at h
 refine rs AA <| rl Z <| AB <| rs AA <| rn 3 Z <| sx Z (CT AA (fun g : Bool => lb g) (fun g : Bool => [(0, bx (Cq c)), (1, bx (AZ b))]) 2 h Tryz.func53 9 [.tmp 4] [(0, ls 4 BW c.plan.signals), (1, .fn 54 [])] Z Z Z Z Z Z Z Z (fun A hA g ab => ?_) (fun g am => ?_))
 .refine rs AA <| rl Z <| rs AA <| rn 2 Z <| sx Z (CT AA (fun f : Int => li f) (fun f : Int => [(0, bx (Cq c)), (1, bx (AZ b))]) 2 ab Tryz.func83 19 [.tmp 4] [(0, ls 4 BW c.plan.signals), (1, .fn 54 [])] Z Z Z Z Z Z Z Z (fun A hA f ac => ?_) (fun f al => ?_))
  .refine rs AA <| rl Z <| AB <| rs AA <| rn 1 Z <| sx Z (Ae Z Z <| rl Z <| AH ?_)
   apply lp (a := f) (fun i : Int => ⟨19, [(0, ls 4 BW c.plan.signals), (1, .fn 54 []), (7, li (c.plan.signals.length : Int)), (8, li i)], [(0, bx (Cq c)), (1, bx (AZ b))], 2⟩) ac
   . exact wj hA [(0, 0), (1, 1)] Z Z Z Z
   intro i bv l
   unfold FW at l
   refine rs AA <| rl Z <| AB <| cd Z l (fun ad => ?_) (fun aj => ?_)
   .refine AE <| AC <| AB <| AH <| rs AA <| rl Z <| rs AA <| rn 3 Z <| bq ad fun b0 t ae => sx Z (Aj t Z Z Z <| rn 1 Z <| bq ae fun b1 u af => sx Z (AM (TV _ _ u) (.inl Z) Z Z Z <| rl Z <| cd Z af (fun ag => ?_) (fun ai => ?_)))
    .refine rs AA <| rl Z <| AF <| AO <| AG <| A3 ag fun bn ah => AO <| AG ?_
     have hr := Option.some.inj ah; subst hr
     exact CX (nt := 19) (sl := [(4, li i)]) (wj hA [(0, 0), (1, 1)] Z Z Z Z) Z
    exact AE <| Ac <| AC <| rg AA <| rl Z <| Ar ai (wj hA [(0, 0), (1, 1)] Z Z Z Z)
   refine AU <| AX <| BK aj fun bo ak => An <| AC <| rs AA <| rl Z <| AF ?_
   cases ak
   exact CX (nt := 19) (sl := [(4, li (-1))]) (wj hA [(0, 0), (1, 1)] Z Z Z Z) Z
  refine rl Z <| AF ?_
  cases al
  exact CX (nt := 9) (sl := [(4, lb (decide (0 <= f)))]) (wj hA [(0, 0), (1, 1)] Z Z Z Z) Z
 refine rl Z <| cd Z am (fun an => ?_) (fun ao => ?_)
 .refine rs AA <| rl Z <| AF <| AG ?_
  cases an
  exact er Z Le.rfl
 refine AE <| AC <| AB <| rs AA <| rn 3 Z <| bq ao fun b2 v ap => sx Z (AM (Rc _ _ _ v) (.inl Z) Z Z Z <| rl Z <| rs AA <| rl Z <| cd Z ap (fun aq => ?_) (fun ar => ?_))
 .refine rs AA <| rl Z <| AF <| AG ?_
  have hr := Option.some.inj aq; subst hr
  exact er Z Le.rfl
 refine AE <| AC <| rs AA <| rn 2 Z <| bq ar fun bm w d => sx Z (AM (PJ _ _ w) (.inr Z) Z Z Z ?_)
 revert d; rcases bz : bm.1 with _ | k <;> intro d
 .replace d := UM d
  refine rl Z <| AB <| rs AA <| rl Z <| cd Z d (fun au => ?_) (fun av => ?_)
  .refine rs AA <| rl Z <| AF <| AG ?_
   cases au
   exact er Z Le.rfl
  refine AE <| AC <| AB <| rs AA <| rn 2 Z ?_
  cases av
 replace d := UN d
 refine rl Z <| AB <| rs AA <| rl Z <| cd Z d (fun aw => ?_) (fun ax => ?_)
 .refine rs AA <| rl Z <| AF <| AG ?_
  cases aw
  exact er Z Le.rfl
 refine AE <| AC <| AB <| rs AA <| rn 2 Z <| bq ax fun b3 x ay => sx Z (AM (Uc _ _ _ x) (.inl Z) Z Z Z <| rl Z <| rs AA <| rl Z <| cd Z ay (fun az => ?_) (fun a0 => ?_))
 .refine rs AA <| rl Z <| AF <| AG ?_
  have hr := Option.some.inj az; subst hr
  exact er Z Le.rfl
 refine AE <| AC <| AB <| rs AA <| rn 2 Z <| sx Z (Ae Z Z <| rl Z <| AH ?_)
 apply lp (a := r) (fun e : Int => ⟨78, [(2, .lpb 0 0), (3, .lpb 1 0), (6, lq (Aq k)), (38, ls 5 Bx b.runs), (39, li (b.runs.length : Int)), (40, li e)], [(0, bx (Cq c)), (1, bx (AZ b))], 2⟩) a0
 . exact wf hA [(0, 0), (1, 1)] Z Z Z
 intro e s m
 unfold FX at m
 refine rs AA <| rl Z <| AB <| cd Z m (fun a1 => ?_) (fun bk => ?_)
 .refine AE <| AC <| AB <| AH <| rs AA <| rn 1 Z <| bq a1 fun q y a2 => sx Z (Aj y Z Z Z <| rl Z <| AB <| jb (fun j : Bool => ⟨78, [(2, .lpb 0 0), (3, .lpb 1 0), (6, lq (Aq k)), (8, li e), (9, .lpb 2 0), (38, ls 5 Bx b.runs), (39, li (b.runs.length : Int)), (40, li e), (60, lb j)], [(0, bx (Cq c)), (1, bx (AZ b)), (2, bx (Bx q))], 3⟩) a2 (fun j a3 => ?_) (fun j a7 => ?_))
  .refine rg AA <| rn 2 Z <| sx Z (Ae Z Z <| rn 2 Z <| gs 49 a3 Z Z Z (fun a4 => ?_) (fun a5 => ?_))
   .exact rl Z <| AL a4 (wf hA (gi 3 []) Z Z Z)
   exact rn 4 Z <| sx Z (Ae Z Z <| rn 1 Z <| bq a5 fun b4 z a6 => sx Z (Aj z Z Z Z <| rl Z <| AL a6 (wf hA (gi 3 []) Z Z Z)))
  refine cd Z a7 (fun a8 => ?_) (fun ba => ?_)
  .refine rs AA <| rl Z <| AF <| AG <| AO <| AG <| A3 a8 fun bp a9 => AO <| AG ?_
   cases a9
   exact er Z Le.rfl
  refine AE <| AC <| rs AA <| rn 2 Z <| sx Z (Ae Z Z <| rl Z <| AH ?_)
  apply lp (a := s) (fun o : Int => ⟨78, [(2, .lpb 0 0), (3, .lpb 1 0), (6, lq (Aq k)), (8, li e), (38, ls 5 Bx b.runs), (39, li (b.runs.length : Int)), (40, li e), (63, li (q.legs.length : Int)), (64, li o)], [(0, bx (Cq c)), (1, bx (AZ b))], 2⟩) ba
  . exact wf hA [(0, 0), (1, 1)] Z Z Z
  intro o bw n
  unfold Hl at n
  refine rs AA <| rl Z <| AB <| cd Z n (fun bb => ?_) (fun bi => ?_)
  .refine AE <| AC <| AB <| AH <| rs AA <| rl Z <| rs AA <| rn 6 Z <| bq bb fun b5 aa bc => sx Z (AM (ID _ _ _ _ _ _ aa) (.inr Z) Z Z Z <| sx Z (Ae Z Z <| rl Z <| cd Z bc (fun be => ?_) (fun bh => ?_)))
   .refine rs AA <| rl Z <| AF <| AO <| AG <| A3 be fun br bf => AO <| AO <| AG <| A3 bf fun bs bg => AO <| AG ?_
    cases bg
    exact er Z Le.rfl
   exact AE <| Ac <| AC <| rg AA <| rl Z <| Ar bh (wf hA [(0, 0), (1, 1)] Z Z Z)
  exact AU <| AX <| BK bi fun bt bj => An <| Ac <| AC <| rg AA <| rl Z <| Ar bj (wf hA [(0, 0), (1, 1)] Z Z Z)
 refine AU <| AX <| BK bk fun bu bl => An <| AC <| rs AA <| rl Z <| AF ?_
 cases bl
 exact er Z Le.rfl
noncomputable def Ll (b : (List Int)) (c : (List Int)) (a : Int) : Option (Int ⊕ Bool) :=
 bif decide (a < (b.length : Int)) then (AY b a).bind fun d => (AY c a).bind fun e => bif (d != e) then some (.inr false) else some (.inl (AN (a + 1))) else some (.inr true)
noncomputable def Ks (a : (List Int)) (b : (List Int)) : Option Bool :=
 bif ((a.length : Int) != (b.length : Int)) then some false else AQ (Ll a b) 0
theorem TZ (b : (List Int)) (c : (List Int)) (r : Bool) (h : Ks b c = some r) : Az Tryz.prog 17 [.slice 1 (b.map Ad), .slice 1 (c.map Ad)] (· = .bool r) := by
 refine fn AA Tryz.func17 Z Z 26 Z [.tmp 4] Z [(0, .p (.slice 1 (b.map Ad))), (1, .p (.slice 1 (c.map Ad)))] Z Z fun A hA => ?_
 unfold Ks at h
 refine rs AA <| rl Z <| AB <| rs AA <| rn 1 Z <| sx Z (Ae Z Z <| rn 1 Z <| sx Z (Ae Z Z <| rl Z <| cd Z h (fun s => ?_) (fun t => ?_)))
 .refine rs AA <| rl Z <| AF <| AG ?_
  cases s
  exact er Z Le.rfl
 refine AE <| AC <| AB <| rs AA <| rl Z <| AH ?_
 apply lp (a := r) (fun e : Int => ⟨26, [(0, ls 1 Ad b), (1, ls 1 Ad c), (5, li e)], [], 0⟩) t
 . exact wf hA [] Z Z Z
 intro e w d
 unfold Ll at d
 refine AB <| rs AA <| rn 2 Z <| sx Z (Ae Z Z <| rl Z <| cd Z d (fun i => ?_) (fun o => ?_))
 .refine AE <| AC <| AB <| AH <| AB ?_
  refine B3 AA mixed [0, 1, 2, 3, 4, 5, 6, 7, 8] 9 (by kernel_rfl) Z Z Z ?_
  refine Av 2 Z <| bq i fun x f j => Au Z (Am Z (Aj f Z Z Z <| Av 3 Z <| bq j fun y g k => Au Z (Am Z (Aj g Z Z Z <| BN Z <| AC <| cd Z k (fun l => ?_) (fun n => ?_)))))
  .refine rs AA <| rl Z <| AF <| AO <| AG <| A3 l fun u m => AO <| AG ?_
   cases m
   exact er Z Le.rfl
  exact AE <| Ac <| AC <| rg AA <| rl Z <| Ar n (wf hA [] Z Z Z)
 refine AU <| AX <| BK o fun v q => An <| AC <| rs AA <| rl Z <| AF ?_
 cases q
 exact er Z Le.rfl
noncomputable def J6 : Option Bool :=
 (Nz).bind fun d => (Ge d).bind fun a => (Ip d).bind fun l => I4 l (((bif (!a.2) then some () else some () : Option (Unit))).bind fun (s : Unit) => some false) fun b => ((bif (!a.2) then some true else some false : Option (Bool))).bind fun (e : Bool) => bif e then some false else (HI).bind fun m => (Mc b a.1.roads m 0 1).bind fun c => (((HI).bind fun n => (Gd a.1 n).bind fun o => bif (o == 0) then (HI).bind fun p => (C3 b p 0 2).bind fun q => bif (q == 4) then (HI).bind fun r => (Hm b r 0 2).bind fun g => bif (g == 4) then (HI).bind fun h => (DW b a.1.roads h 0 1).bind fun i => bif ((i.length : Int) == 1) then (Ks c.at_ ([1] : (List Int))).bind fun j => bif j then bif ((c.legs.length : Int) == 2) then (AY c.legs 0).bind fun k => some (k.fin == 4) else some false else some false else some false else some false else some false else some false : Option (Bool))).bind fun (f : Bool) => some f
theorem Vi (r : Bool) (h : J6 = some r) : Az Tryz.prog 9 [] (· = .bool r) := by
 refine fn AA Tryz.func9 Z Z 70 Z [.tmp 0] Z [] Z Z fun A hA => ?_
 unfold J6 at h
 refine rs AA <| rl Z <| rs AA <| bq h fun bk m au => sx Z (AM (XE _ m) (.inr Z) Z Z Z <| rl Z <| rs AA <| rn 1 Z <| bq au fun e q a3 => sx Z (AM (QL _ _ q) (.inr Z) Z Z Z <| rl Z <| rs AA <| rn 1 Z <| bq a3 fun bb l a => sx Z (AM (S3 _ _ l) (.inr Z) Z Z Z ?_)))
 revert a; rcases be : bb with _ | bc <;> intro a
 .replace a := UM a
  refine rl Z <| AB <| jb (fun d : Unit => ⟨70, [(2, .lpb 0 0), (4, .p (.nilp)), (19, lb true)], [(0, bx (Cq e.1))], 1⟩) a (fun d ao => ?_) (fun d ar => ?_)
  .refine rg AA <| rn 3 Z <| gs 16 ao Z Z Z (fun ap => ?_) (fun aq => ?_)
   .exact rl Z <| AL ap (wf hA [(0, 1)] Z Z Z)
   exact rl Z <| AL aq (wf hA [(0, 1)] Z Z Z)
  refine RL Z <| rs AA <| rl Z <| AF <| AG ?_
  cases ar
  exact er Z Le.rfl
 replace a := UN a
 refine rl Z <| AB <| jb (fun b : Bool => ⟨70, [(2, .lpb 0 0), (4, lq (Aq bc)), (19, lb b)], [(0, bx (Cq e.1))], 1⟩) a (fun b av => ?_) (fun b ay => ?_)
 .refine rg AA <| rn 3 Z <| gs 16 av Z Z Z (fun aw => ?_) (fun ax => ?_)
  .exact rl Z <| AL aw (wf hA [(0, 1)] Z Z Z)
  exact rl Z <| AL ax (wf hA [(0, 1)] Z Z Z)
 refine cd Z ay (fun az => ?_) (fun a0 => ?_)
 .refine rs AA <| rl Z <| AF <| AG ?_
  cases az
  exact er Z Le.rfl
 refine AE <| AC <| AB ?_
 refine B3 AA mixed [0, 1, 2, 3, 4, 5, 6] 7 (by kernel_rfl) Z Z Z ?_
 refine Av 3 Z <| bq a0 fun bl n a1 => Au Z (A7 (KZ _ n) (.inr Z) Z Z Z <| bq a1 fun bm o a2 => Au Z (A7 (Ve _ _ _ _ _ _ o) (.inr Z) Z Z Z <| BN Z <| AC <| jb (fun c : Bool => ⟨70, [(0, lb c)], [], 0⟩) a2 (fun c a4 => ?_) (fun c an => ?_)))
 .refine B3 AA mixed [0, 1, 2, 3, 4, 5, 6, 7, 8, 9, 10, 11, 12, 13, 14, 15, 16, 17, 18, 19, 20, 21, 22, 23, 24, 25, 26, 27, 28, 29, 30, 31, 32, 33, 34, 35, 36, 37, 38, 39, 40, 41, 42, 43, 44, 45] 46 (by kernel_rfl) Z Z Z ?_
  refine Av 1 Z <| bq a4 fun bn s a5 => Au Z (A7 (KZ _ s) (.inr Z) Z Z Z <| bq a5 fun bo t a6 => Au Z (A7 (QK _ _ _ t) (.inl Z) Z Z Z <| Av 2 Z <| FF 29 a6 Z Z Z (fun a7 => ?_) (fun am => ?_)))
  .refine Av 1 Z <| bq a7 fun bp u a8 => Au Z (A7 (KZ _ u) (.inr Z) Z Z Z <| bq a8 fun br v a9 => Au Z (A7 (HF _ _ _ _ _ v) (.inl Z) Z Z Z <| Av 3 Z <| FF 35 a9 Z Z Z (fun ba => ?_) (fun al => ?_)))
   .refine Av 1 Z <| bq ba fun bs w x => Au Z (A7 (KZ _ w) (.inr Z) Z Z Z <| bq x fun bf f y => Au Z (A7 (Rd _ _ _ _ _ f) (.inl Z) Z Z Z <| Av 3 Z <| FF 41 y Z Z Z (fun z => ?_) (fun ak => ?_)))
    .refine Av 3 Z <| bq z fun bg g aa => Au Z (A7 (KZ _ g) (.inr Z) Z Z Z <| bq aa fun bh i ab => Au Z (A7 (ID _ _ _ _ _ _ i) (.inr Z) Z Z Z <| Au Z (KT Z Z <| Av 3 Z <| FF 50 ab Z Z Z (fun ac => ?_) (fun aj => ?_))))
     .refine Av 3 Z <| bq ac fun bi j ad => Au Z (A7 (TZ _ _ _ j) (.inl Z) Z Z (D1.eq (.cons (.one (.p _)) (.cons (.one (.own (enc := Ad) ([1] : List Int) Z Z)) .nil))) <| Av 2 Z <| FF 56 ad Z Z Z (fun ae => ?_) (fun ai => ?_))
      .refine Av 2 Z <| Au Z (KT Z Z <| Av 3 Z <| FF 62 ae Z Z Z (fun af => ?_) (fun ah => ?_))
       .exact Av 2 Z <| bq af fun bj k ag => Au Z (Am Z (Aj k Z Z Z <| BN Z <| AL ag (wf hA [] Z Z Z)))
       exact BN Z <| AL ah (wf hA [] Z Z Z)
      exact BN Z <| AL ai (wf hA [] Z Z Z)
     exact BN Z <| AL aj (wf hA [] Z Z Z)
    exact BN Z <| AL ak (wf hA [] Z Z Z)
   exact BN Z <| AL al (wf hA [] Z Z Z)
  exact BN Z <| AL am (wf hA [] Z Z Z)
 refine AF ?_
 have hr := Option.some.inj an; subst hr
 exact er Z Le.rfl
end Go.E
/- Plain functions, and walks in step with them. Written by a program (gen.py). No condition. -/
set_option maxRecDepth 100000
set_option maxHeartbeats 1000000
namespace Go.E
open Go Go.RowKit Go.Proofs
noncomputable def HJ (b : Ag) (a : Int) : Option (Int ⊕ Bool) :=
 bif decide (a < (b.stock.length : Int)) then (AY b.stock a).bind fun c => bif decide (100 < (c.name.size : Int)) then some (.inr false) else some (.inl (AN (a + 1))) else some (.inr true)
noncomputable def JD (b : Ag) (a : Int) : Option (Int ⊕ Bool) :=
 bif decide (a < (b.runs.length : Int)) then (AY b.runs a).bind fun c => ((bif decide (20 < (c.legs.length : Int)) then some true else some (decide (100 < (c.name.size : Int))) : Option (Bool))).bind fun (d : Bool) => bif d then some (.inr false) else some (.inl (AN (a + 1))) else (AQ (HJ b) 0).map .inr
noncomputable def Ka (a : Ag) : Option Bool :=
 ((bif decide (10 < (a.stock.length : Int)) then some true else some (decide (12 < (a.runs.length : Int))) : Option (Bool))).bind fun (b : Bool) => bif b then some false else AQ (JD a) 0
theorem YM (b : Ag) (r : Bool) (h : Ka b = some r) : Az Tryz.prog 23 [.agg (AZ b)] (· = .bool r) := by
 refine fn AA Tryz.func23 Z Z 47 Z [.tmp 2] Z [(0, .p (.agg (AZ b)))] Z Z fun A hA => ?_
 unfold Ka at h
 refine rs AA <| rl Z <| AB <| jb (fun d : Bool => ⟨47, [(1, .lpb 0 0), (16, lb d)], [(0, bx (AZ b))], 1⟩) h (fun d m => ?_) (fun d q => ?_)
 .refine rg AA <| rn 2 Z <| sx Z (Ae Z Z <| rn 2 Z <| gs 11 m Z Z Z (fun n => ?_) (fun o => ?_))
  .exact rl Z <| AL n (wf hA [(0, 0)] Z Z Z)
  exact rn 2 Z <| sx Z (Ae Z Z <| rl Z <| AL o (wf hA [(0, 0)] Z Z Z))
 refine cd Z q (fun s => ?_) (fun t => ?_)
 .refine rs AA <| rl Z <| AF <| AG ?_
  cases s
  exact er Z Le.rfl
 refine AE <| AC <| AB <| rs AA <| rn 2 Z <| sx Z (Ae Z Z <| rl Z <| AH ?_)
 apply lp (a := r) (fun c : Int => ⟨47, [(1, .lpb 0 0), (18, ls 5 Bx b.runs), (19, li (b.runs.length : Int)), (20, li c)], [(0, bx (AZ b))], 1⟩) t
 . exact wf hA [(0, 0)] Z Z Z
 intro c ap f
 unfold JD at f
 refine rs AA <| rl Z <| AB <| cd Z f (fun u => ?_) (fun ad => ?_)
 .refine AE <| AC <| AB <| AH <| rs AA <| bq u fun ar k v => sx Z (Aj k Z Z Z <| rl Z <| jb (fun e : Bool => ⟨47, [(1, .lpb 0 0), (18, ls 5 Bx b.runs), (19, li (b.runs.length : Int)), (20, li c), (33, lb e)], [(0, bx (AZ b))], 1⟩) v (fun e w => ?_) (fun e z => ?_))
  .refine rg AA <| rn 2 Z <| sx Z (Ae Z Z <| rn 2 Z <| gs 28 w Z Z Z (fun x => ?_) (fun y => ?_))
   .exact rl Z <| AL x (wf hA [(0, 0)] Z Z Z)
   exact rl Z <| AL y (wf hA [(0, 0)] Z Z Z)
  refine cd Z z (fun aa => ?_) (fun ac => ?_)
  .refine rs AA <| rl Z <| AF <| AO <| AG <| A3 aa fun am ab => AO <| AG ?_
   cases ab
   exact er Z Le.rfl
  exact AE <| Ac <| AC <| rg AA <| rl Z <| Ar ac (wf hA [(0, 0)] Z Z Z)
 refine AU <| AX <| CF ad fun j ae => An <| AC <| AB <| rs AA <| rn 2 Z <| sx Z (Ae Z Z <| rl Z <| AH ?_)
 apply lp (a := j) (fun i : Int => ⟨47, [(36, ls 5 BG b.stock), (37, li (b.stock.length : Int)), (38, li i)], [], 0⟩) ae
 . exact wf hA [] Z Z Z
 intro i aq g
 unfold HJ at g
 refine rs AA <| rl Z <| AB <| cd Z g (fun af => ?_) (fun ak => ?_)
 .refine AE <| AC <| AB <| AH <| rs AA <| bq af fun au l ag => sx Z (Aj l Z Z Z <| rl Z <| rs AA <| rl Z <| cd Z ag (fun ah => ?_) (fun aj => ?_))
  .refine rs AA <| rl Z <| AF <| AO <| AG <| A3 ah fun an ai => AO <| AG ?_
   cases ai
   exact er Z Le.rfl
  exact AE <| Ac <| AC <| rg AA <| rl Z <| Ar aj (wf hA [] Z Z Z)
 refine AU <| AX <| BK ak fun ao al => An <| AC <| rs AA <| rl Z <| AF ?_
 cases al
 exact er Z Le.rfl
noncomputable def Dk (a : Int) (c : Int) (d : Int) : Option Bool :=
 ((bif decide (c <= a) then some (decide (a <= d)) else some false : Option (Bool))).bind fun (b : Bool) => some b
theorem JE (b : Int) (c : Int) (d : Int) (r : Bool) (h : Dk b c d = some r) : Az Tryz.prog 62 [.int .i64 b, .int .i64 c, .int .i64 d] (· = .bool r) := by
 refine fn AA Tryz.func62 Z Z 15 Z [.tmp 6] Z [(0, .p (.int .i64 b)), (1, .p (.int .i64 c)), (2, .p (.int .i64 d))] Z Z fun A hA => ?_
 unfold Dk at h
 refine rs AA <| rl Z <| jb (fun a : Bool => ⟨15, [(6, lb a)], [], 0⟩) h (fun a e => ?_) (fun a i => ?_)
 .refine rg AA <| rn 4 Z <| gs 10 e Z Z Z (fun f => ?_) (fun g => ?_)
  .exact rl Z <| AL f (wf hA [] Z Z Z)
  exact rl Z <| AL g (wf hA [] Z Z Z)
 refine AF ?_
 have hr := Option.some.inj i; subst hr
 exact er Z Le.rfl
noncomputable def HK (a : A0) : Option Bool :=
 (((Cn a.name).bind fun c => bif c then (Dk a.len 1 4000).bind fun d => bif d then (Dk a.top 1 60).bind fun e => bif e then (Dk a.acc 1 10).bind fun f => bif f then (Dk a.brake 1 10).bind fun g => some g else some false else some false else some false else some false : Option (Bool))).bind fun (b : Bool) => some b
theorem PK (b : A0) (r : Bool) (h : HK b = some r) : Az Tryz.prog 31 [.agg (BG b)] (· = .bool r) := by
 refine fn AA Tryz.func31 Z Z 26 Z [.tmp 2] Z [(0, .p (.agg (BG b)))] Z Z fun A hA => ?_
 unfold HK at h
 refine rs AA <| rl Z <| jb (fun a : Bool => ⟨26, [(2, lb a)], [], 0⟩) h (fun a i => ?_) (fun a y => ?_)
 .refine rg AA <| rn 2 Z <| bq i fun z c j => sx Z (AM (KX _ _ c) (.inl Z) Z Z Z <| rn 1 Z <| gs 6 j Z Z Z (fun k => ?_) (fun x => ?_))
  .refine rn 2 Z <| bq k fun aa d l => sx Z (AM (JE _ _ _ _ d) (.inl Z) Z Z Z <| rn 2 Z <| gs 11 l Z Z Z (fun m => ?_) (fun w => ?_))
   .refine rn 2 Z <| bq m fun ab e n => sx Z (AM (JE _ _ _ _ e) (.inl Z) Z Z Z <| rn 2 Z <| gs 16 n Z Z Z (fun o => ?_) (fun v => ?_))
    .refine rn 2 Z <| bq o fun ac f q => sx Z (AM (JE _ _ _ _ f) (.inl Z) Z Z Z <| rn 2 Z <| gs 21 q Z Z Z (fun s => ?_) (fun u => ?_))
     .exact rn 2 Z <| bq s fun ad g t => sx Z (AM (JE _ _ _ _ g) (.inl Z) Z Z Z <| rl Z <| AL t (wf hA [] Z Z Z))
     exact rl Z <| AL u (wf hA [] Z Z Z)
    exact rl Z <| AL v (wf hA [] Z Z Z)
   exact rl Z <| AL w (wf hA [] Z Z Z)
  exact rl Z <| AL x (wf hA [] Z Z Z)
 refine AF ?_
 have hr := Option.some.inj y; subst hr
 exact er Z Le.rfl
noncomputable def Ib (b : (List A0)) (c : ByteArray) (a : Int) : Option (Int ⊕ Int) :=
 bif decide (a < (b.length : Int)) then (AY b a).bind fun d => bif (d.name.toList == c.toList) then some (.inr a) else some (.inl (AN (a + 1))) else some (.inr (-1))
noncomputable def JF (a : (List A0)) (b : ByteArray) : Option Int :=
 AQ (Ib a b) 0
theorem XI (b : (List A0)) (c : ByteArray) (r : Int) (h : JF b c = some r) : Az Tryz.prog 143 [.slice 5 (b.map BG), .str c] (· = .int .i64 r) := by
 refine fn AA Tryz.func143 Z Z 20 Z [.tmp 4] Z [(0, .p (.slice 5 (b.map BG))), (1, .p (.str c))] Z Z fun A hA => ?_
 unfold JF at h
 refine rs AA <| rl Z <| AB <| rs AA <| rn 1 Z <| sx Z (Ae Z Z <| rl Z <| AH ?_)
 apply lp (a := r) (fun e : Int => ⟨20, [(1, .p (.str c)), (7, ls 5 BG b), (8, li (b.length : Int)), (9, li e)], [], 0⟩) h
 . exact wf hA [] Z Z Z
 intro e s d
 unfold Ib at d
 refine rs AA <| rl Z <| AB <| cd Z d (fun n => ?_) (fun l => ?_)
 .refine AE <| AC <| AB <| AH <| rs AA <| rn 1 Z <| bq n fun t f g => sx Z (Aj f Z Z Z <| rl Z <| rs AA <| rl Z <| cd Z g (fun i => ?_) (fun k => ?_))
  .refine rs AA <| rl Z <| AF <| AO <| AG <| A3 i fun o j => AO <| AG ?_
   have hr := Option.some.inj j; subst hr
   exact er Z Le.rfl
  exact AE <| Ac <| AC <| rg AA <| rl Z <| Ar k (wf hA [] Z Z Z)
 refine AU <| AX <| BK l fun q m => An <| AC <| rs AA <| rl Z <| AF ?_
 cases m
 exact er Z Le.rfl
noncomputable def EM (b : (List A0)) (a : Int) : Option (Int ⊕ Int) :=
 bif decide (a < (b.length : Int)) then (AY b a).bind fun c => (JF b c.name).bind fun d => bif (d != a) then some (.inr 4) else some (.inl (AN (a + 1))) else some (.inr 0)
noncomputable def Hn (b : (List A0)) (a : Int) : Option (Int ⊕ Int) :=
 bif decide (a < (b.length : Int)) then (AY b a).bind fun c => (HK c).bind fun d => bif (!d) then some (.inr 1) else some (.inl (AN (a + 1))) else (AQ (EM b) 0).map .inr
noncomputable def IH (a : (List A0)) : Option Int :=
 bif decide (4 < (a.length : Int)) then some 3 else AQ (Hn a) 0
theorem Vj (b : (List A0)) (r : Int) (h : IH b = some r) : Az Tryz.prog 102 [.slice 5 (b.map BG)] (· = .int .i64 r) := by
 refine fn AA Tryz.func102 Z Z 34 Z [.tmp 2] Z [(0, .p (.slice 5 (b.map BG)))] Z Z fun A hA => ?_
 unfold IH at h
 refine rs AA <| rl Z <| AB <| rs AA <| rn 1 Z <| sx Z (Ae Z Z <| rl Z <| cd Z h (fun x => ?_) (fun af => ?_))
 .refine rs AA <| rl Z <| AF <| AG ?_
  cases x
  exact er Z Le.rfl
 refine AE <| AC <| AB <| rs AA <| rn 1 Z <| sx Z (Ae Z Z <| rl Z <| AH ?_)
 apply lp (a := r) (fun f : Int => ⟨34, [(0, ls 5 BG b), (10, ls 5 BG b), (11, li (b.length : Int)), (12, li f)], [], 0⟩) af
 . exact wf hA [] Z Z Z
 intro f aj c
 unfold Hn at c
 refine rs AA <| rl Z <| AB <| cd Z c (fun m => ?_) (fun u => ?_)
 .refine AE <| AC <| AB <| AH <| rs AA <| bq m fun al i n => sx Z (Aj i Z Z Z <| rl Z <| rs AA <| rn 1 Z <| bq n fun am j o => sx Z (AM (PK _ _ j) (.inl Z) Z Z Z <| rl Z <| cd Z o (fun q => ?_) (fun t => ?_)))
  .refine rs AA <| rl Z <| AF <| AO <| AG <| A3 q fun ag s => AO <| AG ?_
   cases s
   exact er Z Le.rfl
  exact AE <| Ac <| AC <| rg AA <| rl Z <| Ar t (wf hA [] Z Z Z)
 refine AU <| AX <| CF u fun g v => An <| AC <| AB <| rs AA <| rn 1 Z <| sx Z (Ae Z Z <| rl Z <| AH ?_)
 apply lp (a := g) (fun e : Int => ⟨34, [(0, ls 5 BG b), (20, ls 5 BG b), (21, li (b.length : Int)), (22, li e)], [], 0⟩) v
 . exact wf hA [] Z Z Z
 intro e ak d
 unfold EM at d
 refine rs AA <| rl Z <| AB <| cd Z d (fun w => ?_) (fun ad => ?_)
 .refine AE <| AC <| AB <| AH <| rs AA <| rn 1 Z <| bq w fun an k y => sx Z (Aj k Z Z Z <| rl Z <| rs AA <| rn 3 Z <| bq y fun ao l z => sx Z (AM (XI _ _ _ l) (.inl Z) Z Z Z <| rl Z <| cd Z z (fun aa => ?_) (fun ac => ?_)))
  .refine rs AA <| rl Z <| AF <| AO <| AG <| A3 aa fun ah ab => AO <| AG ?_
   cases ab
   exact er Z Le.rfl
  exact AE <| Ac <| AC <| rg AA <| rl Z <| Ar ac (wf hA [] Z Z Z)
 refine AU <| AX <| BK ad fun ai ae => An <| AC <| rs AA <| rl Z <| AF ?_
 cases ae
 exact er Z Le.rfl
noncomputable def Ho (b : AK) (c : (List A0)) (a : Int) : Option (Int ⊕ Int) :=
 bif decide (a < (c.length : Int)) then (AY c a).bind fun d => ((bif decide (b.top < d.top) then some true else some (decide (d.brake < b.brake)) : Option (Bool))).bind fun (e : Bool) => bif e then some (.inr 9) else some (.inl (AN (a + 1))) else some (.inr 0)
noncomputable def II (c : AK) (a : (List A0)) : Option Int :=
 (IH a).bind fun b => bif (b != 0) then some b else AQ (Ho c a) 0
theorem Vk (c : AK) (b : (List A0)) (r : Int) (h : II c b = some r) : Az Tryz.prog 66 [.agg (AV c), .slice 5 (b.map BG)] (· = .int .i64 r) := by
 refine fn AA Tryz.func66 Z Z 32 Z [.tmp 4] Z [(0, .p (.agg (AV c))), (1, .p (.slice 5 (b.map BG)))] Z Z fun A hA => ?_
 unfold II at h
 refine rs AA <| rl Z <| AB <| rs AA <| rn 1 Z <| bq h fun ad i j => sx Z (AM (Vj _ _ i) (.inl Z) Z Z Z <| rl Z <| rs AA <| rl Z <| cd Z j (fun k => ?_) (fun l => ?_))
 .refine rs AA <| rl Z <| AF <| AG ?_
  have hr := Option.some.inj k; subst hr
  exact er Z Le.rfl
 refine AE <| AC <| AB <| rs AA <| rn 1 Z <| sx Z (Ae Z Z <| rl Z <| AH ?_)
 apply lp (a := r) (fun d : Int => ⟨32, [(2, .lpb 0 0), (13, ls 5 BG b), (14, li (b.length : Int)), (15, li d)], [(0, bx (AV c))], 1⟩) l
 . exact wf hA [(0, 0)] Z Z Z
 intro d ab f
 unfold Ho at f
 refine rs AA <| rl Z <| AB <| cd Z f (fun m => ?_) (fun x => ?_)
 .refine AE <| AC <| AB <| AH <| rs AA <| bq m fun ac g n => sx Z (Aj g Z Z Z <| rl Z <| jb (fun e : Bool => ⟨32, [(2, .lpb 0 0), (13, ls 5 BG b), (14, li (b.length : Int)), (15, li d), (30, lb e)], [(0, bx (AV c))], 1⟩) n (fun e o => ?_) (fun e t => ?_))
  .refine rg AA <| rn 6 Z <| gs 24 o Z Z Z (fun q => ?_) (fun s => ?_)
   .exact rl Z <| AL q (wf hA [(0, 0)] Z Z Z)
   exact rl Z <| AL s (wf hA [(0, 0)] Z Z Z)
  refine cd Z t (fun u => ?_) (fun w => ?_)
  .refine rs AA <| rl Z <| AF <| AO <| AG <| A3 u fun z v => AO <| AG ?_
   cases v
   exact er Z Le.rfl
  exact AE <| Ac <| AC <| rg AA <| rl Z <| Ar w (wf hA [(0, 0)] Z Z Z)
 refine AU <| AX <| BK x fun aa y => An <| AC <| rs AA <| rl Z <| AF ?_
 cases y
 exact er Z Le.rfl
noncomputable def Ce (a : Int) (c : Int) (d : Int) : Option Bool :=
 ((bif decide (c <= a) then some (decide (a <= d)) else some false : Option (Bool))).bind fun (b : Bool) => some b
theorem FY (b : Int) (c : Int) (d : Int) (r : Bool) (h : Ce b c d = some r) : Az Tryz.prog 67 [.int .i64 b, .int .i64 c, .int .i64 d] (· = .bool r) := by
 refine fn AA Tryz.func67 Z Z 15 Z [.tmp 6] Z [(0, .p (.int .i64 b)), (1, .p (.int .i64 c)), (2, .p (.int .i64 d))] Z Z fun A hA => ?_
 unfold Ce at h
 refine rs AA <| rl Z <| jb (fun a : Bool => ⟨15, [(6, lb a)], [], 0⟩) h (fun a e => ?_) (fun a i => ?_)
 .refine rg AA <| rn 4 Z <| gs 10 e Z Z Z (fun f => ?_) (fun g => ?_)
  .exact rl Z <| AL f (wf hA [] Z Z Z)
  exact rl Z <| AL g (wf hA [] Z Z Z)
 refine AF ?_
 have hr := Option.some.inj i; subst hr
 exact er Z Le.rfl
noncomputable def HL (a : AK) (b : Int) : Option Int :=
 (EG a b).bind fun c => some c
theorem S4 (a : AK) (b : Int) (r : Int) (h : HL a b = some r) : Az Tryz.prog 30 [.agg (AV a), .int .i64 b] (· = .int .i64 r) := by
 refine fn AA Tryz.func30 Z Z 8 Z [.tmp 4] Z [(0, .p (.agg (AV a))), (1, .p (.int .i64 b))] Z Z fun A hA => ?_
 unfold HL at h
 refine rs AA <| rl Z <| rs AA <| rn 2 Z <| bq h fun e c d => sx Z (AM (Iq _ _ _ c) (.inl Z) Z Z Z <| rl Z <| AF ?_)
 have hr := Option.some.inj d; subst hr
 exact er Z Le.rfl
noncomputable def GN (c : AK) (d : (List Co)) (b : Int × Int) : Option ((Int × Int) ⊕ Bool) :=
 bif decide (b.2 < (d.length : Int)) then D9 (((AY d b.2).bind fun a => (Ce a.at_ b.1 2000).bind fun f => bif (!f) then some (.inr (.inr false)) else bif (a.fin == 1) then (Ce a.to 0 (AN ((c.signals.length : Int) - 1))).bind fun g => bif (!g) then some (.inr (.inr false)) else some (.inl a.at_) else bif (a.fin == 2) then (HL c a.to).bind fun h => bif (h != 4) then some (.inr (.inr false)) else some (.inl a.at_) else bif (a.fin == 3) then (HL c a.to).bind fun i => bif (i != 1) then some (.inr (.inr false)) else some (.inl a.at_) else some (.inr (.inr false)) : Option (Int ⊕ ((Int × Int) ⊕ Bool)))) fun (e : Int) => some (.inl (e, AN (b.2 + 1))) else some (.inr true)
noncomputable def JG (a : AK) (b : (List Co)) : Option Bool :=
 AQ (GN a b) (0, 0)
theorem XJ (c : AK) (b : (List Co)) (r : Bool) (h : JG c b = some r) : Az Tryz.prog 68 [.agg (AV c), .slice 4 (b.map Ee)] (· = .bool r) := by
 refine fn AA Tryz.func68 Z Z 48 Z [.tmp 4] Z [(0, .p (.agg (AV c))), (1, .p (.slice 4 (b.map Ee)))] Z Z fun A hA => ?_
 unfold JG at h
 refine rs AA <| rl Z <| rs AA <| rl Z <| AB <| rs AA <| rn 1 Z <| sx Z (Ae Z Z <| rl Z <| AH ?_)
 apply lp (a := r) (fun d : (Int × Int) => ⟨48, [(2, .lpb 0 0), (5, li d.1), (8, ls 4 Ee b), (9, li (b.length : Int)), (10, li d.2)], [(0, bx (AV c))], 1⟩) h
 . exact wf hA [(0, 0)] Z Z Z
 intro d g e
 unfold GN at e
 refine rs AA <| rl Z <| AB <| cd Z e (fun n => ?_) (fun ax => ?_)
 .refine AE <| AC ?_
  apply jn (a := g) (fun f : Int => ⟨48, [(2, .lpb 0 0), (5, li f), (8, ls 4 Ee b), (9, li (b.length : Int)), (10, li d.2)], [(0, bx (AV c))], 1⟩) n
  .intro ba o
   refine AH <| rs AA <| bq o fun bb i q => sx Z (Aj i Z Z Z <| rl Z <| AB <| rs AA <| rn 3 Z <| bq q fun bc j s => sx Z (AM (FY _ _ _ _ j) (.inl Z) Z Z Z <| rl Z <| cd Z s (fun t => ?_) (fun w => ?_)))
   .refine rs AA <| rl Z <| AF <| AG <| AO <| A3 t fun az u => A3 u fun a0 v => AO <| AG ?_
    cases v
    exact er Z Le.rfl
   refine AE <| AC <| rs AA <| rl Z <| rs AA <| rl Z <| AH <| rs AA <| rl Z <| cd Z w (fun x => ?_) (fun ad => ?_)
   .refine rs AA <| rn 4 Z <| sx Z (Ae Z Z <| rn 1 Z <| bq x fun be k y => sx Z (AM (FY _ _ _ _ k) (.inl Z) Z Z Z <| rl Z <| cd Z y (fun z => ?_) (fun ac => ?_)))
    .refine rs AA <| rl Z <| AF <| AO <| AO <| A3 z fun a1 aa => A3 aa fun a2 ab => AO <| AG ?_
     cases ab
     exact er Z Le.rfl
    exact AE <| Ac <| Ac <| Ar ac (wf hA [(0, 0)] Z Z Z)
   refine rs AA <| rl Z <| cd Z ad (fun ae => ?_) (fun ak => ?_)
   .refine rs AA <| rn 3 Z <| bq ae fun bf l af => sx Z (AM (S4 _ _ _ l) (.inl Z) Z Z Z <| rl Z <| cd Z af (fun ag => ?_) (fun aj => ?_))
    .refine rs AA <| rl Z <| AF <| AO <| AO <| A3 ag fun a3 ah => A3 ah fun a4 ai => AO <| AG ?_
     cases ai
     exact er Z Le.rfl
    exact AE <| Ac <| Ac <| Ar aj (wf hA [(0, 0)] Z Z Z)
   refine rs AA <| rl Z <| cd Z ak (fun al => ?_) (fun ar => ?_)
   .refine rs AA <| rn 3 Z <| bq al fun bg m am => sx Z (AM (S4 _ _ _ m) (.inl Z) Z Z Z <| rl Z <| cd Z am (fun an => ?_) (fun aq => ?_))
    .refine rs AA <| rl Z <| AF <| AO <| AO <| A3 an fun a5 ao => A3 ao fun a6 ap => AO <| AG ?_
     cases ap
     exact er Z Le.rfl
    exact AE <| Ac <| Ac <| Ar aq (wf hA [(0, 0)] Z Z Z)
   refine rs AA <| rl Z <| AF <| AO <| AO <| A3 ar fun a7 au => A3 au fun a8 av => AO <| AG ?_
   cases av
   exact er Z Le.rfl
  intro f aw
  exact rg AA <| rl Z <| Ar aw (wf hA [(0, 0)] Z Z Z)
 refine AU <| AX <| BK ax fun a9 ay => An <| AC <| rs AA <| rl Z <| AF ?_
 cases ay
 exact er Z Le.rfl
noncomputable def Hp (c : Int) (d : CY) (b : (List CY)) (a : Int) : Option (Int ⊕ (Int ⊕ Int)) :=
 bif decide (a < (b.length : Int)) then (AY b a).bind fun e => bif (d.name.toList == e.name.toList) then some (.inr (.inr 4)) else some (.inl (AN (a + 1))) else some (.inr (.inl (AN (c + 1))))
noncomputable def EN (b : Ag) (a : Int) : Option (Int ⊕ Int) :=
 bif decide (a < (b.runs.length : Int)) then (AY b.runs a).bind fun c => (Kx b.runs 0 a).bind fun d => AQ (Hp a c d) 0 else some (.inr 0)
noncomputable def Hq (d : AK) (b : Ag) (c : Int) : Option (Int ⊕ Int) :=
 bif decide (c < (b.runs.length : Int)) then (AY b.runs c).bind fun a => (((Cn a.name).bind fun f => bif (!f) then some true else (Ce a.stock 0 (AN ((b.stock.length : Int) - 1))).bind fun g => bif (!g) then some true else (Ce a.frm 0 (AN ((d.signals.length : Int) - 1))).bind fun h => bif (!h) then some true else (Ce a.left 0 4000).bind fun i => bif (!i) then some true else (JG d a.legs).bind fun j => some (!j) : Option (Bool))).bind fun (e : Bool) => bif e then some (.inr 1) else some (.inl (AN (c + 1))) else (AQ (EN b) 0).map .inr
noncomputable def Hr (c : AK) (a : Ag) (b : Int) : Option (Int ⊕ Int) :=
 bif decide (b < (a.runs.length : Int)) then (AY a.runs b).bind fun e => bif decide (12 < (e.legs.length : Int)) then some (.inr 3) else some (.inl (AN (b + 1))) else ((II c a.stock).bind fun d => bif (d != 0) then some d else (Ce a.begin 0 86399).bind fun f => bif (!f) then some 1 else AQ (Hq c a) 0).map .inr
noncomputable def IJ (b : AK) (a : Ag) : Option Int :=
 bif decide (8 < (a.runs.length : Int)) then some 3 else AQ (Hr b a) 0
theorem Vl (c : AK) (b : Ag) (r : Int) (h : IJ c b = some r) : Az Tryz.prog 36 [.agg (AV c), .agg (AZ b)] (· = .int .i64 r) := by
 refine fn AA Tryz.func36 Z Z 110 Z [.tmp 4] Z [(0, .p (.agg (AV c))), (1, .p (.agg (AZ b)))] Z Z fun A hA => ?_
 unfold IJ at h
 refine rs AA <| rl Z <| AB <| rs AA <| rn 2 Z <| sx Z (Ae Z Z <| rl Z <| cd Z h (fun a6 => ?_) (fun a7 => ?_))
 .refine rs AA <| rl Z <| AF <| AG ?_
  cases a6
  exact er Z Le.rfl
 refine AE <| AC <| AB <| rs AA <| rn 2 Z <| sx Z (Ae Z Z <| rl Z <| AH ?_)
 apply lp (a := r) (fun m : Int => ⟨110, [(2, .lpb 0 0), (3, .lpb 1 0), (19, ls 5 Bx b.runs), (20, li (b.runs.length : Int)), (21, li m)], [(0, bx (AV c)), (1, bx (AZ b))], 2⟩) a7
 . exact wf hA [(0, 0), (1, 1)] Z Z Z
 intro m b8 k
 unfold Hr at k
 refine rs AA <| rl Z <| AB <| cd Z k (fun bw => ?_) (fun aj => ?_)
 .refine AE <| AC <| AB <| AH <| rs AA <| bq bw fun b9 t af => sx Z (Aj t Z Z Z <| rl Z <| rs AA <| rn 2 Z <| sx Z (Ae Z Z <| rl Z <| cd Z af (fun ag => ?_) (fun ai => ?_)))
  .refine rs AA <| rl Z <| AF <| AO <| AG <| A3 ag fun b0 ah => AO <| AG ?_
   cases ah
   exact er Z Le.rfl
  exact AE <| Ac <| AC <| rg AA <| rl Z <| Ar ai (wf hA [(0, 0), (1, 1)] Z Z Z)
 refine AU <| AX <| CF aj fun o ak => An <| AC <| AB <| rs AA <| rn 3 Z <| bq ak fun ca u al => sx Z (AM (Vk _ _ _ u) (.inl Z) Z Z Z <| rl Z <| rs AA <| rl Z <| cd Z al (fun am => ?_) (fun an => ?_))
 .refine rs AA <| rl Z <| AF <| AG ?_
  have hr := Option.some.inj am; subst hr
  exact er Z Le.rfl
 refine AE <| AC <| AB <| rs AA <| rn 2 Z <| bq an fun cb v ao => sx Z (AM (FY _ _ _ _ v) (.inl Z) Z Z Z <| rl Z <| cd Z ao (fun ap => ?_) (fun ar => ?_))
 .refine rs AA <| rl Z <| AF <| AG ?_
  cases ap
  exact er Z Le.rfl
 refine AE <| AC <| AB <| rs AA <| rn 2 Z <| sx Z (Ae Z Z <| rl Z <| AH ?_)
 apply lp (a := o) (fun e : Int => ⟨110, [(2, .lpb 0 0), (3, .lpb 1 0), (42, ls 5 Bx b.runs), (43, li (b.runs.length : Int)), (44, li e)], [(0, bx (AV c)), (1, bx (AZ b))], 2⟩) ar
 . exact wf hA [(0, 0), (1, 1)] Z Z Z
 intro e b7 j
 unfold Hq at j
 refine rs AA <| rl Z <| AB <| cd Z j (fun a8 => ?_) (fun bu => ?_)
 .refine AE <| AC <| AB <| AH <| rs AA <| bq a8 fun ce z a9 => sx Z (Aj z Z Z Z <| rl Z <| jb (fun f : Bool => ⟨110, [(2, .lpb 0 0), (3, .lpb 1 0), (42, ls 5 Bx b.runs), (43, li (b.runs.length : Int)), (44, li e), (84, lb f)], [(0, bx (AV c)), (1, bx (AZ b))], 2⟩) a9 (fun f ba => ?_) (fun f bp => ?_))
  .refine rg AA <| rn 2 Z <| bq ba fun cf aa bb => sx Z (AM (KX _ _ aa) (.inl Z) Z Z Z <| rn 2 Z <| gs 52 bb Z Z Z (fun bc => ?_) (fun be => ?_))
   .exact rl Z <| AL bc (wf hA [(0, 0), (1, 1)] Z Z Z)
   refine rn 4 Z <| sx Z (Ae Z Z <| rn 1 Z <| bq be fun cg ab bf => sx Z (AM (FY _ _ _ _ ab) (.inl Z) Z Z Z <| rn 3 Z <| gs 62 bf Z Z Z (fun bg => ?_) (fun bh => ?_)))
   .exact rl Z <| AL bg (wf hA [(0, 0), (1, 1)] Z Z Z)
   refine rn 4 Z <| sx Z (Ae Z Z <| rn 1 Z <| bq bh fun ch ac bi => sx Z (AM (FY _ _ _ _ ac) (.inl Z) Z Z Z <| rn 3 Z <| gs 72 bi Z Z Z (fun bj => ?_) (fun bk => ?_)))
   .exact rl Z <| AL bj (wf hA [(0, 0), (1, 1)] Z Z Z)
   refine rn 2 Z <| bq bk fun ci ad bl => sx Z (AM (FY _ _ _ _ ad) (.inl Z) Z Z Z <| rn 3 Z <| gs 78 bl Z Z Z (fun bm => ?_) (fun bn => ?_))
   .exact rl Z <| AL bm (wf hA [(0, 0), (1, 1)] Z Z Z)
   exact rn 3 Z <| bq bn fun cj ae bo => sx Z (AM (XJ _ _ _ ae) (.inl Z) Z Z Z <| rl Z <| AL bo (wf hA [(0, 0), (1, 1)] Z Z Z))
  refine cd Z bp (fun br => ?_) (fun bt => ?_)
  .refine rs AA <| rl Z <| AF <| AO <| AG <| A3 br fun b5 bs => AO <| AG ?_
   cases bs
   exact er Z Le.rfl
  exact AE <| Ac <| AC <| rg AA <| rl Z <| Ar bt (wf hA [(0, 0), (1, 1)] Z Z Z)
 refine AU <| AX <| CF bu fun q bv => An <| AC <| AB <| rs AA <| rn 2 Z <| sx Z (Ae Z Z <| rl Z <| AH ?_)
 apply lp (a := q) (fun d : Int => ⟨110, [(3, .lpb 0 0), (87, ls 5 Bx b.runs), (88, li (b.runs.length : Int)), (89, li d)], [(0, bx (AZ b))], 1⟩) bv
 . exact wf hA [(0, 1)] Z Z Z
 intro d s g
 unfold EN at g
 refine rs AA <| rl Z <| AB <| cd Z g (fun aq => ?_) (fun a4 => ?_)
 .refine AE <| AC <| AB <| AH <| rs AA <| rn 1 Z <| bq aq fun bz w au => sx Z (Aj w Z Z Z <| rl Z <| rs AA <| rn 3 Z <| bq au fun n x av => sx Z (To x Z Z Z Z <| sx Z (Ae Z Z <| rl Z <| AH ?_)))
  apply lp (a := s) (fun l : Int => ⟨110, [(3, .lpb 0 0), (11, .lpb 1 0), (87, ls 5 Bx b.runs), (88, li (b.runs.length : Int)), (89, li d), (97, ls 5 Bx n), (98, li (n.length : Int)), (99, li l)], [(0, bx (AZ b)), (1, bx (Bx bz))], 2⟩) av
  . exact wf hA [(0, 0), (1, 1)] Z Z Z
  intro l b6 i
  unfold Hp at i
  refine rs AA <| rl Z <| AB <| cd Z i (fun aw => ?_) (fun a2 => ?_)
  .refine AE <| AC <| AB <| AH <| rs AA <| bq aw fun cc y ax => sx Z (Aj y Z Z Z <| rl Z <| rs AA <| rl Z <| cd Z ax (fun ay => ?_) (fun a1 => ?_))
   .refine rs AA <| rl Z <| AF <| AO <| AG <| A3 ay fun b1 az => AO <| AO <| AG <| A3 az fun b2 a0 => AO <| AG ?_
    cases a0
    exact er Z Le.rfl
   exact AE <| Ac <| AC <| rg AA <| rl Z <| Ar a1 (wf hA [(0, 0), (1, 1)] Z Z Z)
  exact AU <| AX <| BK a2 fun b3 a3 => An <| Ac <| AC <| rg AA <| rl Z <| Ar a3 (wf hA [(0, 0)] Z Z Z)
 refine AU <| AX <| BK a4 fun b4 a5 => An <| AC <| rs AA <| rl Z <| AF ?_
 cases a5
 exact er Z Le.rfl
end Go.E
/- Plain functions, and walks in step with them. Written by a program (gen.py). No condition. -/
set_option maxRecDepth 100000
set_option maxHeartbeats 1000000
namespace Go.E
open Go Go.RowKit Go.Proofs
noncomputable def IK (a : AK) (c : Ag) : Option (C4 × (Option Aw) × Bool) :=
 (((Ka c).bind fun f => bif (!f) then some true else (HM a).bind fun g => bif (!g) then some true else (IJ a c).bind fun h => some (h != 0) : Option (Bool))).bind fun (d : Bool) => bif d then some ((⟨(⟨[], [], [], [], 0, 0, 0, 0, false⟩ : AK), []⟩ : C4), none, false) else (Ge a).bind fun b => (Ip a).bind fun i => I4 i (((bif b.2 then some () else some () : Option (Unit))).bind fun (k : Unit) => some (b.1, none, false)) fun j => ((bif b.2 then some true else some false : Option (Bool))).bind fun (e : Bool) => some (b.1, some j, e)
theorem Vm (b : AK) (e : Ag) (r : (C4 × (Option Aw) × Bool)) (h : IK b e = some r) : Az Tryz.prog 10 [.agg (AV b), .agg (AZ e)] (· = .tup [.agg (Cq r.1), XK Aq r.2.1, .bool r.2.2]) := by
 refine fn AA Tryz.func10 Z Z 39 Z [.cell 4 35, .tmp 5, .tmp 6] Z [(0, .p (.agg (AV b))), (1, .p (.agg (AZ e)))] Z Z fun A hA => ?_
 unfold IK at h
 refine rs AA <| rl Z <| AB <| jb (fun c : Bool => ⟨39, [(2, .lpb 0 0), (4, .lpb 1 0), (23, lb c)], [(0, bx (AV b)), (1, .box [.p (.nils), .p (.nils), .p (.nils), .p (.nils), li 0, li 0, li 0, li 0, lb false, .p (.nils)])], 2⟩) h (fun c n => ?_) (fun c x => ?_)
 .refine rg AA <| rn 1 Z <| bq n fun am i o => sx Z (AM (YM _ _ i) (.inl Z) Z Z Z <| rn 2 Z <| gs 13 o Z Z Z (fun q => ?_) (fun s => ?_))
  .exact rl Z <| AL q (wf hA [(0, 0), (1, 2)] Z Z Z)
  refine rn 1 Z <| bq s fun an j t => sx Z (AM (PL _ _ j) (.inl Z) Z Z Z <| rn 3 Z <| gs 18 t Z Z Z (fun u => ?_) (fun v => ?_))
  .exact rl Z <| AL u (wf hA [(0, 0), (1, 2)] Z Z Z)
  exact rn 2 Z <| bq v fun ao k w => sx Z (AM (Vl _ _ _ k) (.inl Z) Z Z Z <| rl Z <| AL w (wf hA [(0, 0), (1, 2)] Z Z Z))
 refine cd Z x (fun y => ?_) (fun z => ?_)
 .refine rs AA <| rl Z <| AF <| AG ?_
  cases y
  exact er Z (Le.tup' (.cons (Le.agg' (.cons (Le.nil _) (.cons (Le.nil _) (.cons (Le.nil _) (.cons (Le.nil _) (.cons Le.rfl (.cons Le.rfl (.cons Le.rfl (.cons Le.rfl (.cons Le.rfl (.cons (Le.nil _) .nil))))))))))) (.cons Le.rfl (.cons Le.rfl .nil))))
 refine AE <| AC <| rs AA <| rn 1 Z <| bq z fun g l aa => sx Z (AM (QL _ _ l) (.inr Z) Z Z Z <| rl Z <| rs AA <| rn 1 Z <| bq aa fun aj m a => sx Z (AM (S3 _ _ m) (.inr Z) Z Z Z ?_))
 revert a; rcases al : aj with _ | ak <;> intro a
 .replace a := UM a
  refine rl Z <| jb (fun f : Unit => ⟨39, [(4, .lpb 0 0), (5, .p (.nilp)), (6, lb false)], [(0, bx (Cq g.1))], 1⟩) a (fun f ab => ?_) (fun f ae => ?_)
  .refine rg AA <| rn 4 Z <| gs 35 ab Z Z Z (fun ac => ?_) (fun ad => ?_)
   .exact rl Z <| AL ac (wf hA [(0, 1)] Z Z Z)
   exact rl Z <| AL ad (wf hA [(0, 1)] Z Z Z)
  refine AF ?_
  cases ae
  exact er Z Le.rfl
 replace a := UN a
 refine rl Z <| jb (fun d : Bool => ⟨39, [(4, .lpb 0 0), (5, lq (Aq ak)), (6, lb d)], [(0, bx (Cq g.1))], 1⟩) a (fun d af => ?_) (fun d ai => ?_)
 .refine rg AA <| rn 4 Z <| gs 35 af Z Z Z (fun ag => ?_) (fun ah => ?_)
  .exact rl Z <| AL ag (wf hA [(0, 1)] Z Z Z)
  exact rl Z <| AL ah (wf hA [(0, 1)] Z Z Z)
 refine AF ?_
 cases ai
 exact er Z Le.rfl
noncomputable def SS (b : AK) (a : Int) : Option (AI × Bool) :=
 ((bif decide (a < 0) then some true else some (decide ((b.signals.length : Int) <= a)) : Option (Bool))).bind fun (c : Bool) => bif c then some ((⟨0, 0⟩ : AI), false) else (AY b.signals a).bind fun d => some (d.at_, true)
end Go.E
/- Plain functions, and walks in step with them. Written by a program (gen.py). No condition. -/
set_option maxRecDepth 100000
set_option maxHeartbeats 1000000
namespace Go.E
open Go Go.RowKit Go.Proofs
end Go.E
/- Plain functions, and walks in step with them. Written by a program (gen.py). No condition. -/
set_option maxRecDepth 100000
set_option maxHeartbeats 1000000
namespace Go.E
open Go Go.RowKit Go.Proofs
noncomputable def J7 (c : AK) (d : Int) (a : JC) : Option (F2 × Int) :=
 (HL c a.at_.elem).bind fun b => ((bif decide (d < 1) then some true else bif decide (4000 < d) then some true else bif (b != 4) then bif (b != 1) then some true else bif decide (a.at_.fin < 0) then some true else (Ep b).bind fun h => some (decide (h <= a.at_.fin)) else bif decide (a.at_.fin < 0) then some true else (Ep b).bind fun i => some (decide (i <= a.at_.fin)) : Option (Bool))).bind fun (g : Bool) => bif g then some ((⟨0, [], 0, 0, 0⟩ : F2), 1) else (Eu c a.at_).bind fun j => bif decide (j < 0) then some ((⟨0, [], 0, 0, 0⟩ : F2), 7) else (Gf c a.at_.elem).bind fun e => ((bif decide (a.left < 0) then some true else some (decide (e < a.left)) : Option (Bool))).bind fun (f : Bool) => bif f then some ((⟨0, [], 0, 0, 0⟩ : F2), 1) else bif (b == 4) then some ((⟨1, [a.at_], 0, 0, 0⟩ : F2), 0) else bif decide (e < AN (a.left + d)) then some ((⟨0, [], 0, 0, 0⟩ : F2), 9) else some ((⟨2, [a.at_], a.left, 0, 0⟩ : F2), 0)
end Go.E
