/- Plain functions, and walks in step with them. Written by a program (gen.py). No condition. -/
import Derived.Test.YtlmjaeojocjhkaaGreatJ3
set_option linter.unusedVariables false
set_option linter.unusedSimpArgs false
set_option maxRecDepth 100000
set_option maxHeartbeats 1000000
namespace Go.E
open Go Go.RowKit Go.Proofs
noncomputable def Ns (b : Int) (a : Int × Int) : Option ((Int × Int) ⊕ Int) :=
 bif decide (0 < a.1) then some (.inl (AP (a.1 - b), AP (a.2 + a.1))) else some (.inr a.2)
noncomputable def KY (b : Int) (a : Int) : Option Int :=
 ((bif decide (b < 0) then some true else bif decide (60 < b) then some true else bif decide (a < 1) then some true else some (decide (10 < a)) : Option (Bool))).bind fun (c : Bool) => bif c then some 0 else AO (Ns a) (AP (b - a), 0)
theorem Wc (c : Int) (b : Int) (r : Int) (h : KY c b = some r) : Aw Tryz.prog 161 [.int .i64 c, .int .i64 b] (· = .int .i64 r) := by
 refine fn AA Tryz.func161 Z Z 32 Z [.tmp 4] Z [(0, .p (.int .i64 c)), (1, .p (.int .i64 b))] Z Z fun A hA => ?_
 unfold KY at h
 refine rs AA <| rl Z <| AB <| jb (fun e : Bool => ⟨32, [(0, li c), (1, li b), (19, lb e)], [], 0⟩) h (fun e g => ?_) (fun e o => ?_)
 .refine rg AA <| rn 3 Z <| gs 8 g Z Z Z (fun i => ?_) (fun j => ?_)
  .exact rl Z <| AL i (wf hA [] Z Z Z)
  refine rn 4 Z <| gs 12 j Z Z Z (fun k => ?_) (fun l => ?_)
  .exact rl Z <| AL k (wf hA [] Z Z Z)
  refine rn 4 Z <| gs 16 l Z Z Z (fun m => ?_) (fun n => ?_)
  .exact rl Z <| AL m (wf hA [] Z Z Z)
  exact rl Z <| AL n (wf hA [] Z Z Z)
 refine cd Z o (fun q => ?_) (fun s => ?_)
 .refine rs AA <| rl Z <| AF <| AG ?_
  cases q
  exact er Z Le.rfl
 refine AE <| AC <| rs AA <| rl Z <| AB <| rs AA <| rl Z <| AH ?_
 apply lp (a := r) (fun d : (Int × Int) => ⟨32, [(0, li d.1), (1, li b), (5, li d.2)], [], 0⟩) s
 . exact wf hA [] Z Z Z
 intro d x f
 unfold Ns at f
 refine AB <| rs AA <| rl Z <| cd Z f (fun t => ?_) (fun u => ?_)
 .exact AE <| AC <| AB <| AH <| rg AA <| rl Z <| Ad <| AC <| rg AA <| rl Z <| Aq t (wf hA [] Z Z Z)
 refine AT <| AZ <| BG u fun w v => An <| AC <| rs AA <| rl Z <| AF ?_
 cases v
 exact er Z Le.rfl
noncomputable def ER (b : AK) (a : Int) : Option (Int ⊕ Bool) :=
 bif decide (a < (b.elems.length : Int)) then (AY b.elems a).bind fun c => ((bif (c.kind != 4) then some (decide (c.length < b.top)) else some false : Option (Bool))).bind fun (d : Bool) => bif d then some (.inr false) else some (.inl (AP (a + 1))) else some (.inr true)
noncomputable def F2 (a : AK) (b : Int) : Option (Int ⊕ Bool) :=
 bif decide (b < (a.signals.length : Int)) then (AY a.signals b).bind fun e => (AY a.elems e.at_.elem).bind fun c => ((bif (c.kind == 1) then some (decide (c.length < a.margin)) else some false : Option (Bool))).bind fun (d : Bool) => bif d then some (.inr false) else some (.inl (AP (b + 1))) else (AO (ER a) 0).map .inr
noncomputable def If (a : AK) : Option Bool :=
 (KY a.top a.brake).bind fun b => bif decide (a.margin < AP (a.top + b)) then some false else AO (F2 a) 0
theorem Wd (b : AK) (r : Bool) (h : If b = some r) : Aw Tryz.prog 135 [.agg (AN b)] (· = .bool r) := by
 refine fn AA Tryz.func135 Z Z 62 Z [.tmp 2] Z [(0, .p (.agg (AN b)))] Z Z fun A hA => ?_
 unfold If at h
 refine rs AA <| rl Z <| AB <| AB ?_
 refine B0 AA mixed [0, 1, 2, 3, 4, 5, 6, 7, 8, 9, 10] 11 (by kernel_rfl) Z Z Z ?_
 refine Au 8 Z <| bq h fun a0 n o => As Z (A0 (Wc _ _ _ n) (.inl Z) Z Z Z <| BK Z <| AC <| cd Z o (fun q => ?_) (fun s => ?_))
 .refine rs AA <| rl Z <| AF <| AG ?_
  cases q
  exact er Z Le.rfl
 refine AE <| AC <| AB <| rs AA <| rn 2 Z <| sx Z (Ae Z Z <| rl Z <| AH ?_)
 apply lp (a := r) (fun c : Int => ⟨62, [(1, .lpb 0 0), (20, ls 4 BY b.signals), (21, li (b.signals.length : Int)), (22, li c)], [(0, bx (AN b))], 1⟩) s
 . exact wf hA [(0, 0)] Z Z Z
 intro c av g
 unfold F2 at g
 refine rs AA <| rl Z <| AB <| cd Z g (fun t => ?_) (fun ad => ?_)
 .refine AE <| AC <| AB <| AH <| rs AA <| bq t fun ax k u => sx Z (Ab k Z Z Z <| rl Z <| rs AA <| rn 5 Z <| bq u fun ay l v => sx Z (Ab l Z Z Z <| rl Z <| jb (fun e : Bool => ⟨62, [(1, .lpb 0 0), (20, ls 4 BY b.signals), (21, li (b.signals.length : Int)), (22, li c), (42, lb e)], [(0, bx (AN b))], 1⟩) v (fun e w => ?_) (fun e z => ?_)))
  .refine rg AA <| rn 4 Z <| gs 36 w Z Z Z (fun x => ?_) (fun y => ?_)
   .exact rl Z <| AL x (wf hA [(0, 0)] Z Z Z)
   exact rl Z <| AL y (wf hA [(0, 0)] Z Z Z)
  refine cd Z z (fun aa => ?_) (fun ac => ?_)
  .refine rs AA <| rl Z <| AF <| AQ <| AG <| A3 aa fun aq ab => AQ <| AG ?_
   cases ab
   exact er Z Le.rfl
  exact AE <| Ad <| AC <| rg AA <| rl Z <| Aq ac (wf hA [(0, 0)] Z Z Z)
 refine AT <| AZ <| CF ad fun j ae => An <| AC <| AB <| rs AA <| rn 2 Z <| sx Z (Ae Z Z <| rl Z <| AH ?_)
 apply lp (a := j) (fun d : Int => ⟨62, [(1, .lpb 0 0), (45, ls 3 CE b.elems), (46, li (b.elems.length : Int)), (47, li d)], [(0, bx (AN b))], 1⟩) ae
 . exact wf hA [(0, 0)] Z Z Z
 intro d aw i
 unfold ER at i
 refine rs AA <| rl Z <| AB <| cd Z i (fun af => ?_) (fun ao => ?_)
 .refine AE <| AC <| AB <| AH <| rs AA <| bq af fun az m ag => sx Z (Ab m Z Z Z <| rl Z <| jb (fun f : Bool => ⟨62, [(1, .lpb 0 0), (45, ls 3 CE b.elems), (46, li (b.elems.length : Int)), (47, li d), (60, lb f)], [(0, bx (AN b))], 1⟩) ag (fun f ah => ?_) (fun f ak => ?_))
  .refine rg AA <| rn 4 Z <| gs 54 ah Z Z Z (fun ai => ?_) (fun aj => ?_)
   .exact rl Z <| AL ai (wf hA [(0, 0)] Z Z Z)
   exact rl Z <| AL aj (wf hA [(0, 0)] Z Z Z)
  refine cd Z ak (fun al => ?_) (fun an => ?_)
  .refine rs AA <| rl Z <| AF <| AQ <| AG <| A3 al fun ar am => AQ <| AG ?_
   cases am
   exact er Z Le.rfl
  exact AE <| Ad <| AC <| rg AA <| rl Z <| Aq an (wf hA [(0, 0)] Z Z Z)
 refine AT <| AZ <| BG ao fun au ap => An <| AC <| rs AA <| rl Z <| AF ?_
 cases ap
 exact er Z Le.rfl
noncomputable def Dq (b : AK) (a : Int × (List (ByteArray × Bool))) : Option ((Int × (List (ByteArray × Bool))) ⊕ Bool) :=
 bif decide (a.1 < (b.elems.length : Int)) then (Fy a.1 b).bind fun c => bif ((Am a.2 c).getD false) then some (.inr true) else (Fy a.1 b).bind fun d => some (.inl (AP (a.1 + 1), A1 d true a.2)) else some (.inr false)
noncomputable def Dr (b : AK) (a : Int × (List (ByteArray × Bool))) : Option ((Int × (List (ByteArray × Bool))) ⊕ Bool) :=
 bif decide (a.1 < (b.signals.length : Int)) then (Fz a.1 b).bind fun c => bif ((Am a.2 c).getD false) then some (.inr true) else (Fz a.1 b).bind fun d => some (.inl (AP (a.1 + 1), A1 d true a.2)) else some (.inr false)
noncomputable def Ds (b : AK) (a : Int × (List (ByteArray × Bool))) : Option ((Int × (List (ByteArray × Bool))) ⊕ Bool) :=
 bif decide (a.1 < (b.lines.length : Int)) then (F0 a.1 b).bind fun c => bif ((Am a.2 c).getD false) then some (.inr true) else (F0 a.1 b).bind fun d => some (.inl (AP (a.1 + 1), A1 d true a.2)) else some (.inr false)
noncomputable def Hb (a : AK) : Option Int :=
 ((bif decide (40 < (a.elems.length : Int)) then some true else bif decide (24 < (a.signals.length : Int)) then some true else bif decide (4 < (a.lines.length : Int)) then some true else some (decide (80 < (a.joins.length : Int))) : Option (Bool))).bind fun (c : Bool) => bif c then some 3 else (Fx a).bind fun h => bif (!h) then some 1 else ((((AO (Dq a) (0, []) : Option (Bool))).bind fun (e : Bool) => bif e then some true else ((AO (Dr a) (0, []) : Option (Bool))).bind fun (f : Bool) => bif f then some true else ((AO (Ds a) (0, []) : Option (Bool))).bind fun (g : Bool) => some g : Option (Bool))).bind fun (d : Bool) => bif d then some 4 else (Gg a).bind fun b => bif (!b.2) then some 6 else (F1 a b.1).bind fun i => bif (!i) then some 7 else (Ha a b.1).bind fun j => bif (!j) then some 8 else (If a).bind fun k => bif (!k) then some 9 else some 0
theorem VS (b : AK) (r : Int) (h : Hb b = some r) : Aw Tryz.prog 91 [.agg (AN b)] (· = .int .i64 r) := by
 refine fn AA Tryz.func91 Z Z 71 Z [.tmp 2] Z [(0, .p (.agg (AN b)))] Z Z fun A hA => ?_
 unfold Hb at h
 refine rs AA <| rl Z <| AB <| jb (fun j : Bool => ⟨71, [(1, .lpb 0 0), (26, lb j)], [(0, bx (AN b))], 1⟩) h (fun j ad => ?_) (fun j ak => ?_)
 .refine rg AA <| rn 2 Z <| sx Z (Ae Z Z <| rn 2 Z <| gs 9 ad Z Z Z (fun ae => ?_) (fun af => ?_))
  .exact rl Z <| AL ae (wf hA [(0, 0)] Z Z Z)
  refine rn 2 Z <| sx Z (Ae Z Z <| rn 3 Z <| gs 15 af Z Z Z (fun ag => ?_) (fun ah => ?_))
  .exact rl Z <| AL ag (wf hA [(0, 0)] Z Z Z)
  refine rn 2 Z <| sx Z (Ae Z Z <| rn 3 Z <| gs 21 ah Z Z Z (fun ai => ?_) (fun aj => ?_))
  .exact rl Z <| AL ai (wf hA [(0, 0)] Z Z Z)
  exact rn 2 Z <| sx Z (Ae Z Z <| rl Z <| AL aj (wf hA [(0, 0)] Z Z Z))
 refine cd Z ak (fun al => ?_) (fun am => ?_)
 .refine rs AA <| rl Z <| AF <| AG ?_
  cases al
  exact er Z Le.rfl
 refine AE <| AC <| AB <| rs AA <| rn 1 Z <| bq am fun cq s a2 => sx Z (AM (TG _ _ s) (.inl Z) Z Z Z <| rl Z <| cd Z a2 (fun a4 => ?_) (fun a6 => ?_))
 .refine rs AA <| rl Z <| AF <| AG ?_
  cases a4
  exact er Z Le.rfl
 refine AE <| AC <| AB <| jb (fun k : Bool => ⟨71, [(1, .lpb 0 0), (48, lb k)], [(0, bx (AN b))], 1⟩) a6 (fun k an => ?_) (fun k bt => ?_)
 .refine rg AA <| rn 2 Z <| sx Z (Ae Z Z <| rn 1 Z <| sx Z (CX AA (fun f : Bool => lb f) (fun f : Bool => [(0, bx (AN b))]) 1 an Tryz.func128 22 [.tmp 4] [(0, li (b.elems.length : Int)), (1, .fn 129 [.lpb 0 0])] Z Z Z Z Z Z Z Z (fun A hA f ao => ?_) (fun f az => ?_)))
  .refine rs AA <| rl Z <| rs AA <| rl Z <| AB <| rs AA <| rl Z <| AH ?_
   apply lp (a := f) (fun c : (Int × (List (ByteArray × Bool))) => ⟨22, [(1, .fn 129 [.lpb 0 0]), (5, .lmap 1), (8, li (b.elems.length : Int)), (9, li c.1)], [(0, bx (AN b)), (1, .map (Ao .str .bool c.2))], 2⟩) ao
   . exact wj hA [(0, 0), (1, 1)] Z Z Z Z
   intro c cn l
   unfold Dq at l
   refine rs AA <| rl Z <| AB <| cd Z l (fun ap => ?_) (fun ax => ?_)
   .refine AE <| AC <| AB <| AH <| rs AA <| rl Z <| AB <| rs AA <| rn 3 Z <| bq ap fun ca o aq => sx Z (AM (Np _ _ _ o) (.inl Z) Z Z (D1.eq (.cons (.one (.p _)) (.cons (.box Z (.cons (.p _) (.cons (.p _) (.cons (.p _) (.cons (.p _) (.cons (.p _) (.cons (.p _) (.cons (.p _) (.cons (.p _) (.cons (.p _) .nil)))))))))) .nil))) <| sx Z (La (et := 4) (ke := .str) (ve := .bool) (mp := c.2) (y := ca) false Nt Z Z Z Z <| rl Z <| cd Z aq (fun ar => ?_) (fun av => ?_)))
    .refine rs AA <| rl Z <| AF <| AG <| AQ <| AG <| A3 ar fun ch au => AQ <| AG ?_
     cases au
     exact Ca (nt := 22) (sl := [(4, lb true)]) (wj hA [(0, 0)] Z Z Z Z) Z
    exact AE <| AC <| rg AA <| rn 3 Z <| bq av fun cb q aw => sx Z (AM (Np _ _ _ q) (.inl Z) Z Z (D1.eq (.cons (.one (.p _)) (.cons (.box Z (.cons (.p _) (.cons (.p _) (.cons (.p _) (.cons (.p _) (.cons (.p _) (.cons (.p _) (.cons (.p _) (.cons (.p _) (.cons (.p _) .nil)))))))))) .nil))) <| sx Z (G7 (et := 4) (ke := .str) (ve := .bool) (mp := c.2) (y := cb) (z := true) Nt Z Z Z Z Z Z <| rl Z <| Ad <| AC <| rg AA <| rl Z <| Aq aw (wj hA [(0, 0), (1, 1)] Z Z Z Z)))
   refine AT <| AZ <| BG ax fun ci ay => An <| AC <| rs AA <| rl Z <| AF ?_
   cases ay
   exact Ca (nt := 22) (sl := [(4, lb false)]) (wj hA [(0, 0)] Z Z Z Z) Z
  refine rn 1 Z <| gs 35 az Z Z Z (fun a0 => ?_) (fun a1 => ?_)
  .exact rl Z <| AL a0 (wf hA [(0, 0)] Z Z Z)
  refine rn 2 Z <| sx Z (Ae Z Z <| rn 1 Z <| sx Z (CX AA (fun g : Bool => lb g) (fun g : Bool => [(0, bx (AN b))]) 1 a1 Tryz.func128 22 [.tmp 4] [(0, li (b.signals.length : Int)), (1, .fn 130 [.lpb 0 0])] Z Z Z Z Z Z Z Z (fun A hA g a3 => ?_) (fun g bf => ?_)))
  .refine rs AA <| rl Z <| rs AA <| rl Z <| AB <| rs AA <| rl Z <| AH ?_
   apply lp (a := g) (fun d : (Int × (List (ByteArray × Bool))) => ⟨22, [(1, .fn 130 [.lpb 0 0]), (5, .lmap 1), (8, li (b.signals.length : Int)), (9, li d.1)], [(0, bx (AN b)), (1, .map (Ao .str .bool d.2))], 2⟩) a3
   . exact wj hA [(0, 0), (1, 1)] Z Z Z Z
   intro d co m
   unfold Dr at m
   refine rs AA <| rl Z <| AB <| cd Z m (fun a5 => ?_) (fun bc => ?_)
   .refine AE <| AC <| AB <| AH <| rs AA <| rl Z <| AB <| rs AA <| rn 3 Z <| bq a5 fun cc t a7 => sx Z (AM (Nq _ _ _ t) (.inl Z) Z Z (D1.eq (.cons (.one (.p _)) (.cons (.box Z (.cons (.p _) (.cons (.p _) (.cons (.p _) (.cons (.p _) (.cons (.p _) (.cons (.p _) (.cons (.p _) (.cons (.p _) (.cons (.p _) .nil)))))))))) .nil))) <| sx Z (La (et := 4) (ke := .str) (ve := .bool) (mp := d.2) (y := cc) false Nt Z Z Z Z <| rl Z <| cd Z a7 (fun a8 => ?_) (fun ba => ?_)))
    .refine rs AA <| rl Z <| AF <| AG <| AQ <| AG <| A3 a8 fun cj a9 => AQ <| AG ?_
     cases a9
     exact Ca (nt := 22) (sl := [(4, lb true)]) (wj hA [(0, 0)] Z Z Z Z) Z
    exact AE <| AC <| rg AA <| rn 3 Z <| bq ba fun ce u bb => sx Z (AM (Nq _ _ _ u) (.inl Z) Z Z (D1.eq (.cons (.one (.p _)) (.cons (.box Z (.cons (.p _) (.cons (.p _) (.cons (.p _) (.cons (.p _) (.cons (.p _) (.cons (.p _) (.cons (.p _) (.cons (.p _) (.cons (.p _) .nil)))))))))) .nil))) <| sx Z (G7 (et := 4) (ke := .str) (ve := .bool) (mp := d.2) (y := ce) (z := true) Nt Z Z Z Z Z Z <| rl Z <| Ad <| AC <| rg AA <| rl Z <| Aq bb (wj hA [(0, 0), (1, 1)] Z Z Z Z)))
   refine AT <| AZ <| BG bc fun ck be => An <| AC <| rs AA <| rl Z <| AF ?_
   cases be
   exact Ca (nt := 22) (sl := [(4, lb false)]) (wj hA [(0, 0)] Z Z Z Z) Z
  refine rn 2 Z <| gs 42 bf Z Z Z (fun bg => ?_) (fun bh => ?_)
  .exact rl Z <| AL bg (wf hA [(0, 0)] Z Z Z)
  refine rn 2 Z <| sx Z (Ae Z Z <| rn 1 Z <| sx Z (CX AA (fun i : Bool => lb i) (fun i : Bool => [(0, bx (AN b))]) 1 bh Tryz.func128 22 [.tmp 4] [(0, li (b.lines.length : Int)), (1, .fn 131 [.lpb 0 0])] Z Z Z Z Z Z Z Z (fun A hA i bi => ?_) (fun i bs => ?_)))
  .refine rs AA <| rl Z <| rs AA <| rl Z <| AB <| rs AA <| rl Z <| AH ?_
   apply lp (a := i) (fun e : (Int × (List (ByteArray × Bool))) => ⟨22, [(1, .fn 131 [.lpb 0 0]), (5, .lmap 1), (8, li (b.lines.length : Int)), (9, li e.1)], [(0, bx (AN b)), (1, .map (Ao .str .bool e.2))], 2⟩) bi
   . exact wj hA [(0, 0), (1, 1)] Z Z Z Z
   intro e cp n
   unfold Ds at n
   refine rs AA <| rl Z <| AB <| cd Z n (fun bj => ?_) (fun bp => ?_)
   .refine AE <| AC <| AB <| AH <| rs AA <| rl Z <| AB <| rs AA <| rn 3 Z <| bq bj fun cf v bk => sx Z (AM (Nr _ _ _ v) (.inl Z) Z Z (D1.eq (.cons (.one (.p _)) (.cons (.box Z (.cons (.p _) (.cons (.p _) (.cons (.p _) (.cons (.p _) (.cons (.p _) (.cons (.p _) (.cons (.p _) (.cons (.p _) (.cons (.p _) .nil)))))))))) .nil))) <| sx Z (La (et := 4) (ke := .str) (ve := .bool) (mp := e.2) (y := cf) false Nt Z Z Z Z <| rl Z <| cd Z bk (fun bl => ?_) (fun bn => ?_)))
    .refine rs AA <| rl Z <| AF <| AG <| AQ <| AG <| A3 bl fun cl bm => AQ <| AG ?_
     cases bm
     exact Ca (nt := 22) (sl := [(4, lb true)]) (wj hA [(0, 0)] Z Z Z Z) Z
    exact AE <| AC <| rg AA <| rn 3 Z <| bq bn fun cg w bo => sx Z (AM (Nr _ _ _ w) (.inl Z) Z Z (D1.eq (.cons (.one (.p _)) (.cons (.box Z (.cons (.p _) (.cons (.p _) (.cons (.p _) (.cons (.p _) (.cons (.p _) (.cons (.p _) (.cons (.p _) (.cons (.p _) (.cons (.p _) .nil)))))))))) .nil))) <| sx Z (G7 (et := 4) (ke := .str) (ve := .bool) (mp := e.2) (y := cg) (z := true) Nt Z Z Z Z Z Z <| rl Z <| Ad <| AC <| rg AA <| rl Z <| Aq bo (wj hA [(0, 0), (1, 1)] Z Z Z Z)))
   refine AT <| AZ <| BG bp fun cm br => An <| AC <| rs AA <| rl Z <| AF ?_
   cases br
   exact Ca (nt := 22) (sl := [(4, lb false)]) (wj hA [(0, 0)] Z Z Z Z) Z
  exact rl Z <| AL bs (wf hA [(0, 0)] Z Z Z)
 refine cd Z bt (fun bu => ?_) (fun bv => ?_)
 .refine rs AA <| rl Z <| AF <| AG ?_
  cases bu
  exact er Z Le.rfl
 refine AE <| AC <| rs AA <| rn 1 Z <| bq bv fun cr x bw => sx Z (AM (UM _ _ x) (.inr Z) Z Z Z <| rl Z <| AB <| AH <| rs AA <| rl Z <| cd Z bw (fun bz => ?_) (fun b0 => ?_))
 .refine rs AA <| rl Z <| AF <| AQ <| AG ?_
  cases bz
  exact er Z Le.rfl
 refine rs AA <| rn 2 Z <| bq b0 fun cs aa b1 => sx Z (AM (TH _ _ _ aa) (.inl Z) Z Z Z <| rl Z <| cd Z b1 (fun b2 => ?_) (fun b3 => ?_))
 .refine rs AA <| rl Z <| AF <| AQ <| AG ?_
  cases b2
  exact er Z Le.rfl
 refine rs AA <| rn 2 Z <| bq b3 fun ct ab b4 => sx Z (AM (VR _ _ _ ab) (.inl Z) Z Z Z <| rl Z <| cd Z b4 (fun b5 => ?_) (fun b6 => ?_))
 .refine rs AA <| rl Z <| AF <| AQ <| AG ?_
  cases b5
  exact er Z Le.rfl
 refine rs AA <| rn 1 Z <| bq b6 fun cu ac b7 => sx Z (AM (Wd _ _ ac) (.inl Z) Z Z Z <| rl Z <| cd Z b7 (fun b8 => ?_) (fun b9 => ?_))
 .refine rs AA <| rl Z <| AF <| AQ <| AG ?_
  cases b8
  exact er Z Le.rfl
 refine AE <| Ad <| AC <| rs AA <| rl Z <| AF ?_
 cases b9
 exact er Z Le.rfl
noncomputable def DY (a : (List C2)) : Option (List C2) :=
 M2 a (some []) ((Bs ([] : List C2) a).bind fun b => some b)
theorem NA (a : (List C2)) (r : (List C2)) (h : DY a = some r) : Aw Tryz.prog 103 [.slice 3 (a.map CE)] (· = .slice 3 (r.map CE)) := by
 refine fn AA Tryz.func103 Z Z 8 Z [.tmp 2] Z [(0, .p (.slice 3 (a.map CE)))] Z Z fun A hA => ?_
 unfold DY at h
 refine rs AA <| rl Z <| AB <| rs AA <| rn 1 Z <| sx Z (Kt h Z Z Z (fun d => ?_) (fun e => ?_))
 .refine rl Z <| R8 Z <| rs AA <| rl Z <| AF <| AG ?_
  cases d
  exact er Z (Le.nil _)
 refine rl Z <| Td Z <| AE <| AC <| rs AA <| rn 2 Z <| bq e fun f b c => sx Z (BW (enc := CE) (l := ([] : List C2)) (m := a) b (fun _ => ⟨Z, Z⟩) Z Z Z Z Z Z <| rl Z <| AF ?_)
 have hr := Option.some.inj c; subst hr
 exact er (IA Z (.one (.own (enc := CE) f Z Z))) Le.rfl
noncomputable def DZ (a : (List DG)) : Option (List DG) :=
 M2 a (some []) ((Bs ([] : List DG) a).bind fun b => some b)
theorem NB (a : (List DG)) (r : (List DG)) (h : DZ a = some r) : Aw Tryz.prog 104 [.slice 4 (a.map C1)] (· = .slice 4 (r.map C1)) := by
 refine fn AA Tryz.func104 Z Z 8 Z [.tmp 2] Z [(0, .p (.slice 4 (a.map C1)))] Z Z fun A hA => ?_
 unfold DZ at h
 refine rs AA <| rl Z <| AB <| rs AA <| rn 1 Z <| sx Z (Kt h Z Z Z (fun d => ?_) (fun e => ?_))
 .refine rl Z <| R8 Z <| rs AA <| rl Z <| AF <| AG ?_
  cases d
  exact er Z (Le.nil _)
 refine rl Z <| Td Z <| AE <| AC <| rs AA <| rn 2 Z <| bq e fun f b c => sx Z (BW (enc := C1) (l := ([] : List DG)) (m := a) b (fun _ => ⟨Z, Z⟩) Z Z Z Z Z Z <| rl Z <| AF ?_)
 have hr := Option.some.inj c; subst hr
 exact er (IA Z (.one (.own (enc := C1) f Z Z))) Le.rfl
noncomputable def C6 (a : (List By)) : Option (List By) :=
 M2 a (some []) ((Bs ([] : List By) a).bind fun b => some b)
theorem MJ (a : (List By)) (r : (List By)) (h : C6 a = some r) : Aw Tryz.prog 105 [.slice 4 (a.map BY)] (· = .slice 4 (r.map BY)) := by
 refine fn AA Tryz.func105 Z Z 8 Z [.tmp 2] Z [(0, .p (.slice 4 (a.map BY)))] Z Z fun A hA => ?_
 unfold C6 at h
 refine rs AA <| rl Z <| AB <| rs AA <| rn 1 Z <| sx Z (Kt h Z Z Z (fun d => ?_) (fun e => ?_))
 .refine rl Z <| R8 Z <| rs AA <| rl Z <| AF <| AG ?_
  cases d
  exact er Z (Le.nil _)
 refine rl Z <| Td Z <| AE <| AC <| rs AA <| rn 2 Z <| bq e fun f b c => sx Z (BW (enc := BY) (l := ([] : List By)) (m := a) b (fun _ => ⟨Z, Z⟩) Z Z Z Z Z Z <| rl Z <| AF ?_)
 have hr := Option.some.inj c; subst hr
 exact er (IA Z (.one (.own (enc := BY) f Z Z))) Le.rfl
noncomputable def Da (a : (List CG)) : Option (List CG) :=
 M2 a (some []) ((Bs ([] : List CG) a).bind fun b => some b)
theorem MT (a : (List CG)) (r : (List CG)) (h : Da a = some r) : HK Tryz.prog 106 [.slice 2 (a.map BZ)] 147 2 (r.map BZ) := by
 refine fnN (enc := BZ) (fun _ => ⟨Z, Z⟩) Tryz.func106 Z Z 8 Z 2 Z [(0, .p (.slice 2 (a.map BZ)))] Z Z fun A hA => ?_
 unfold Da at h
 refine rs AA <| rl Z <| AB <| rs AA <| rn 1 Z <| sx Z (Kt h Z Z Z (fun d => ?_) (fun e => ?_))
 .refine rl Z <| R8 Z <| rs AA <| rl Z <| AF <| AG ?_
  cases d
  exact ABv Z
 refine rl Z <| Td Z <| AE <| AC <| rs AA <| rn 2 Z <| bq e fun f b c => sx Z (BW (enc := BZ) (l := ([] : List CG)) (m := a) b (fun _ => ⟨Z, Z⟩) Z Z Z Z Z Z <| rl Z <| AF ?_)
 have hr := Option.some.inj c; subst hr
 exact erN Z Z Z
noncomputable def FH (a : (List Int)) : Option (List Int) :=
 M2 a (some []) ((Bs ([] : List Int) a).bind fun b => some b)
theorem Py (a : (List Int)) (r : (List Int)) (h : FH a = some r) : Aw Tryz.prog 107 [.slice 1 (a.map Aa)] (· = .slice 1 (r.map Aa)) := by
 refine fn AA Tryz.func107 Z Z 8 Z [.tmp 2] Z [(0, .p (.slice 1 (a.map Aa)))] Z Z fun A hA => ?_
 unfold FH at h
 refine rs AA <| rl Z <| AB <| rs AA <| rn 1 Z <| sx Z (Kt h Z Z Z (fun d => ?_) (fun e => ?_))
 .refine rl Z <| R8 Z <| rs AA <| rl Z <| AF <| AG ?_
  cases d
  exact er Z (Le.nil _)
 refine rl Z <| Td Z <| AE <| AC <| rs AA <| rn 2 Z <| bq e fun f b c => sx Z (BW (enc := Aa) (l := ([] : List Int)) (m := a) b (fun _ => ⟨Z, Z⟩) Z Z Z Z Z Z <| rl Z <| AF ?_)
 have hr := Option.some.inj c; subst hr
 exact er (IA Z (.one (.own (enc := Aa) f Z Z))) Le.rfl
end Go.E
/- Plain functions, and walks in step with them. Written by a program (gen.py). No condition. -/
set_option maxRecDepth 100000
set_option maxHeartbeats 1000000
namespace Go.E
open Go Go.RowKit Go.Proofs
noncomputable def Gh (b : AK) (h : (List C2)) (i : (List DG)) (c : (List By)) (g : (List CG)) (a : Int × (List CG)) : Option ((Int × (List CG)) ⊕ AK) :=
 bif decide (a.1 < (g.length : Int)) then (AY a.2 a.1).bind fun d => (FH d.elems).bind fun e => (AY a.2 a.1).bind fun f => some (.inl (AP (a.1 + 1), A5 a.2 a.1 (⟨f.name, e⟩ : CG))) else some (.inr (⟨h, i, c, a.2, b.top, b.brake, b.margin, b.throw, b.hard⟩ : AK))
noncomputable def H3 (a : AK) : Option AK :=
 (DY a.elems).bind fun d => (DZ a.joins).bind fun e => (C6 a.signals).bind fun c => (Da a.lines).bind fun b => AO (Gh a d e c b) (0, b)
theorem SU (b : AK) (r : AK) (h : H3 b = some r) : Aw Tryz.prog 75 [.agg (AN b)] (· = .agg (AN r)) := by
 refine fn AA Tryz.func75 Z Z 40 Z [.cell 2 27] Z [(0, .p (.agg (AN b)))] Z Z fun A hA => ?_
 unfold H3 at h
 refine rs AA <| rl Z <| AB ?_
 refine B0 AA mixed [0, 1, 2, 3, 4, 5, 6, 7, 8, 9, 10, 11, 12, 13, 14] 15 (by kernel_rfl) Z Z Z ?_
 refine Au 2 Z <| bq h fun ad k x => As Z (A0 (NA _ _ k) (.inr Z) Z Z Z <| Au 2 Z <| bq x fun ae l m => As Z (A0 (NB _ _ l) (.inr Z) Z Z Z <| Au 2 Z <| bq m fun y g t => As Z (A0 (MJ _ _ g) (.inr Z) Z Z Z <| BK Z <| AC <| rs AA <| rn 2 Z <| bq t fun ac j w => sx Z (ABD (MT _ _ j) Z Z Z Z <| rl Z <| AB <| rs AA <| rl Z <| AH ?_))))
 apply lp (a := r) (fun c : (Int × (List CG)) => ⟨40, [(1, .lpb 0 0), (2, .lpb 1 0), (22, li (ac.length : Int)), (23, li c.1)], [(0, .box [ls 3 CE ad, ls 4 C1 ae, ls 4 BY y, .lsl 2 2 0 c.2.length, li b.top, li b.brake, li b.margin, li b.throw, lb b.hard]), (1, .box [.p (.nils), .p (.nils), .p (.nils), .p (.nils), li 0, li 0, li 0, li 0, lb false]), (2, .row 147 2 (c.2.map BZ))], 3⟩) w
 . exact wf hA [(0, 0), (1, 1), (2, 17)] Z Z Z
 intro c ag f
 unfold Gh at f
 refine rs AA <| rl Z <| AB <| cd Z f (fun n => ?_) (fun u => ?_)
 .refine AE <| AC <| AB <| AH <| rs AA <| rl Z ?_
  refine B0 AA mixed [0, 1, 2, 3, 4, 5, 6, 7, 8, 9, 10, 11, 12] 13 (by kernel_rfl) Z Z Z ?_
  exact Au 6 Z <| bq n fun ah d o => As Z (Al Z (B3 d Z Z Z Z <| Au 1 Z <| As Z (HN Z (DJ d Z Z Z <| bq o fun aa i q => As Z (A0 (Py _ _ i) (.inr Z) Z Z Z <| bq q fun ab e s => As Z (Al Z (B3 e Z Z Z Z <| Au 1 Z <| As Z (NZ Z (Mc (z := (⟨ab.name, aa⟩ : CG)) e Z Z Z Z Z Z Z Z <| BK Z <| Ad <| AC <| rg AA <| rl Z <| Aq s (wk (gi 3 []) (free hA _) Z Z Z (.cons Z (.cons Z (.cons Z (.cons Z .nil)))) (.cons Z (by simp only [BH]; rfl) (.cons Z Z (.cons Z Z .nil)))))))))))))
 refine AT <| AZ <| BG u fun af v => An <| AC <| rs AA <| rl Z <| AF ?_
 cases v
 exact er (IA Z (.agg (.cons (.p _) (.cons (.p _) (.cons (.p _) (.cons (.own (enc := BZ) c.2 Z Z) (.cons (.p _) (.cons (.p _) (.cons (.p _) (.cons (.p _) (.cons (.p _) .nil))))))))))) Le.rfl
noncomputable def Dj (e : (Int × (List (AI × AI)))) (c : (Int × (List (Int × Bo)) × (List (Int × Int)))) (d : CG) (a : Int × Int × (List (Int × Bo)) × (List (Int × Int))) : Option ((Int × Int × (List (Int × Bo)) × (List (Int × Int))) ⊕ ((Int × (List (Int × Bo)) × (List (Int × Int))) ⊕ ((Option Az) × Int))) :=
 bif decide (a.2.1 < (d.elems.length : Int)) then (AY d.elems a.2.1).bind fun b => some (.inl (((Am e.2 (⟨b, AP (1 - a.1)⟩ : AI)).getD (⟨0, 0⟩ : AI)).fin, AP (a.2.1 + 1), A1 b (⟨c.1, a.2.1⟩ : Bo) a.2.2.1, A1 b a.1 a.2.2.2)) else some (.inr (.inl (AP (c.1 + 1), a.2.2.1, a.2.2.2)))
noncomputable def Ch (d : AK) (j : AK) (b : (Int × (List (AI × AI)))) (f : (Int × (List (AI × Int)))) (a : Int × (List (Int × Bo)) × (List (Int × Int))) : Option ((Int × (List (Int × Bo)) × (List (Int × Int))) ⊕ ((Option Az) × Int)) :=
 bif decide (a.1 < (d.lines.length : Int)) then (AY d.lines a.1).bind fun c => ((bif decide (1 < (c.elems.length : Int)) then (AY c.elems 0).bind fun e => ((bif (Am b.2 (⟨e, 0⟩ : AI)).isSome then (AY c.elems 1).bind fun i => some ((((Am b.2 (⟨e, 0⟩ : AI)).getD (⟨0, 0⟩ : AI)).elem) == i) else some false : Option (Bool))).bind fun (h : Bool) => bif h then some 1 else some 0 else some 0 : Option (Int))).bind fun (g : Int) => AO (Dj b a c) (g, 0, a.2.1, a.2.2) else some (.inr (some (⟨j, b.2, f.2, a.2.1, a.2.2⟩ : Az), 0))
noncomputable def Dk (b : AK) (d : AK) (c : (Int × (List (AI × AI)))) (a : Int × (List (AI × Int))) : Option ((Int × (List (AI × Int))) ⊕ ((Option Az) × Int)) :=
 bif decide (a.1 < (b.signals.length : Int)) then (AY b.signals a.1).bind fun e => some (.inl (AP (a.1 + 1), A1 e.at_ a.1 a.2)) else (AO (Ch b d c a) (0, [], [])).map .inr
noncomputable def Dl (e : AK) (f : AK) (c : Int × (List (AI × AI))) : Option ((Int × (List (AI × AI))) ⊕ ((Option Az) × Int)) :=
 bif decide (c.1 < (e.joins.length : Int)) then (AY e.joins c.1).bind fun d => some (.inl (AP (c.1 + 1), A1 d.b d.a (A1 d.a d.b c.2))) else (AO (Dk e f c) (0, [])).map .inr
noncomputable def Cp (a : AK) : Option ((Option Az) × Int) :=
 (Hb a).bind fun b => bif (b != 0) then some (none, b) else (H3 a).bind fun c => AO (Dl a c) (0, [])
theorem Pw (d : AK) (r : ((Option Az) × Int)) (h : Cp d = some r) : Aw Tryz.prog 56 [.agg (AN d)] (· = .tup [X8 Ar r.1, .int .i64 r.2]) := by
 refine fn AA Tryz.func56 Z Z 148 Z [.tmp 2, .tmp 3] Z [(0, .p (.agg (AN d)))] Z Z fun A hA => ?_
 unfold Cp at h
 refine rs AA <| rl Z <| AB <| rs AA <| rn 1 Z <| bq h fun br ah aj => sx Z (AM (VS _ _ ah) (.inl Z) Z Z Z <| rl Z <| rs AA <| rl Z <| cd Z aj (fun al => ?_) (fun ay => ?_))
 .refine rs AA <| rl Z <| AF <| AG ?_
  cases al
  exact er Z Le.rfl
 refine AE <| AC <| rs AA <| rn 1 Z <| bq ay fun c af a8 => sx Z (AM (SU _ _ af) (.inr Z) Z Z Z <| rl Z <| AB <| rs AA <| rn 2 Z <| sx Z (Ae Z Z <| rl Z <| AH ?_))
 apply lp (a := r) (fun f : (Int × (List (AI × AI))) => ⟨148, [(1, .lpb 0 0), (5, .lpb 1 0), (31, ls 4 C1 d.joins), (32, li (d.joins.length : Int)), (33, li f.1)], [(0, bx (AN d)), (1, .box [ls 3 CE c.elems, ls 4 C1 c.joins, ls 4 BY c.signals, ls 2 BZ c.lines, li c.top, li c.brake, li c.margin, li c.throw, lb c.hard, .lmap 2, .lmap 3, .lmap 4, .lmap 5]), (2, .map (Ao (fun x => .agg (AW x)) (fun x => .agg (AW x)) f.2)), (3, .map (Ao (fun x => .agg (AW x)) (.int .i64) [])), (4, .map (Ao (.int .i64) (fun x => .agg (FZ x)) [])), (5, .map (Ao (.int .i64) (.int .i64) []))], 6⟩) a8
 . exact wf hA [(0, 0), (1, 5), (2, 1), (3, 2), (4, 3), (5, 4)] Z Z Z
 intro f bo t
 unfold Dl at t
 refine rs AA <| rl Z <| AB <| cd Z t (fun be => ?_) (fun bg => ?_)
 .refine AE <| AC <| AB <| AH <| rs AA <| bq be fun i ai bf => sx Z (Ab ai Z Z Z <| rl Z ?_)
  refine B0 AA mixed [0, 1, 2, 3, 4, 5, 6, 7, 8, 9, 10, 11, 12, 13, 14, 15, 16, 17, 18, 19, 20, 21] 22 (by kernel_rfl) Z Z Z ?_
  exact Au 16 Z <| As Z (Al Z (SG (et := 40) (ke := (fun x => .agg (AW x))) (ve := (fun x => .agg (AW x))) (mp := f.2) (y := i.a) (⟨0, 0⟩ : AI) CN Z Z Z Z Z Z <| Au 1 Z <| As Z (Al Z (SH (ke := (fun x => .agg (AW x))) (ve := (fun x => .agg (AW x))) (mp := f.2) (y := i.a) (z := (⟨0, 0⟩ : AI)) (w := i.b) Z Z Z Z Z <| As Z (Al Z (SG (et := 40) (ke := (fun x => .agg (AW x))) (ve := (fun x => .agg (AW x))) (mp := A1 i.a i.b f.2) (y := i.b) (⟨0, 0⟩ : AI) CN Z Z Z Z Z Z <| Au 1 Z <| As Z (Al Z (SH (ke := (fun x => .agg (AW x))) (ve := (fun x => .agg (AW x))) (mp := A1 i.a i.b f.2) (y := i.b) (z := (⟨0, 0⟩ : AI)) (w := i.a) Z Z Z Z Z <| BK Z <| Ad <| AC <| rg AA <| rl Z <| Aq bf (wf hA (gi 6 []) Z Z Z)))))))))
 refine AT <| AZ <| CF bg fun v bh => An <| AC <| AB <| rs AA <| rn 2 Z <| sx Z (Ae Z Z <| rl Z <| AH ?_)
 apply lp (a := v) (fun j : (Int × (List (AI × Int))) => ⟨148, [(1, .lpb 0 0), (5, .lpb 1 0), (59, ls 4 BY d.signals), (60, li (d.signals.length : Int)), (61, li j.1)], [(0, bx (AN d)), (1, .box [ls 3 CE c.elems, ls 4 C1 c.joins, ls 4 BY c.signals, ls 2 BZ c.lines, li c.top, li c.brake, li c.margin, li c.throw, lb c.hard, .lmap 2, .lmap 3, .lmap 4, .lmap 5]), (2, .map (Ao (fun x => .agg (AW x)) (fun x => .agg (AW x)) f.2)), (3, .map (Ao (fun x => .agg (AW x)) (.int .i64) j.2)), (4, .map (Ao (.int .i64) (fun x => .agg (FZ x)) [])), (5, .map (Ao (.int .i64) (.int .i64) []))], 6⟩) bh
 . exact wf hA (gi 6 []) Z Z Z
 intro j bn s
 unfold Dk at s
 refine rs AA <| rl Z <| AB <| cd Z s (fun a9 => ?_) (fun bb => ?_)
 .refine AE <| AC <| AB <| AH <| rs AA <| rn 1 Z <| bq a9 fun bj ag ba => sx Z (Ab ag Z Z Z <| rl Z ?_)
  refine B0 AA mixed [0, 1, 2, 3, 4, 5, 6, 7] 8 (by kernel_rfl) Z Z Z ?_
  exact Au 7 Z <| As Z (Al Z (G7 (et := 3) (ke := (fun x => .agg (AW x))) (ve := (.int .i64)) (mp := j.2) (y := bj.at_) (z := j.1) CN Z Z Z Z Z Z <| BK Z <| Ad <| AC <| rg AA <| rl Z <| Aq ba (wf hA (gi 6 []) Z Z Z)))
 refine AT <| AZ <| CF bb fun u bc => An <| AC <| AB <| rs AA <| rn 2 Z <| sx Z (Ae Z Z <| rl Z <| AH ?_)
 apply lp (a := u) (fun e : (Int × (List (Int × Bo)) × (List (Int × Int))) => ⟨148, [(5, .lpb 0 0), (75, ls 2 BZ d.lines), (76, li (d.lines.length : Int)), (77, li e.1)], [(0, .box [ls 3 CE c.elems, ls 4 C1 c.joins, ls 4 BY c.signals, ls 2 BZ c.lines, li c.top, li c.brake, li c.margin, li c.throw, lb c.hard, .lmap 1, .lmap 2, .lmap 3, .lmap 4]), (1, .map (Ao (fun x => .agg (AW x)) (fun x => .agg (AW x)) f.2)), (2, .map (Ao (fun x => .agg (AW x)) (.int .i64) j.2)), (3, .map (Ao (.int .i64) (fun x => .agg (FZ x)) e.2.1)), (4, .map (Ao (.int .i64) (.int .i64) e.2.2))], 5⟩) bc
 . exact wf hA [(0, 1), (1, 2), (2, 3), (3, 4), (4, 5)] Z Z Z
 intro e aa o
 unfold Ch at o
 refine rs AA <| rl Z <| AB <| cd Z o (fun ak => ?_) (fun a6 => ?_)
 .refine AE <| AC <| AB <| AH <| rs AA <| rn 1 Z <| bq ak fun k ab am => sx Z (Ab ab Z Z Z <| rl Z <| rs AA <| rl Z <| jb (fun m : Int => ⟨148, [(5, .lpb 0 0), (10, li e.1), (11, .lpb 1 0), (12, li m), (75, ls 2 BZ d.lines), (76, li (d.lines.length : Int)), (77, li e.1)], [(0, .box [ls 3 CE c.elems, ls 4 C1 c.joins, ls 4 BY c.signals, ls 2 BZ c.lines, li c.top, li c.brake, li c.margin, li c.throw, lb c.hard, .lmap 2, .lmap 3, .lmap 4, .lmap 5]), (1, .box [.p (.str k.name), ls 1 Aa k.elems]), (2, .map (Ao (fun x => .agg (AW x)) (fun x => .agg (AW x)) f.2)), (3, .map (Ao (fun x => .agg (AW x)) (.int .i64) j.2)), (4, .map (Ao (.int .i64) (fun x => .agg (FZ x)) e.2.1)), (5, .map (Ao (.int .i64) (.int .i64) e.2.2))], 6⟩) am (fun m an => ?_) (fun m a1 => ?_))
  .refine rs AA <| rn 2 Z <| sx Z (Ae Z Z <| rl Z <| cd Z an (fun ao => ?_) (fun a0 => ?_))
   .refine AB ?_
    refine B0 AA mixed [0, 1, 2, 3, 4, 5, 6, 7, 8, 9, 10, 11, 12, 13, 14, 15] 16 (by kernel_rfl) Z Z Z ?_
    refine Au 6 Z <| bq ao fun bi ac ap => As Z (Al Z (Ab ac Z Z Z <| Au 2 Z <| As Z (Al Z (KR (et := 40) (ke := (fun x => .agg (AW x))) (ve := (fun x => .agg (AW x))) (mp := f.2) (y := (⟨bi, 0⟩ : AI)) (⟨0, 0⟩ : AI) CN Z Z Z Z <| BK Z <| AC <| jb (fun n : Bool => ⟨148, [(5, .lpb 0 0), (10, li e.1), (11, .lpb 1 0), (12, li 0), (75, ls 2 BZ d.lines), (76, li (d.lines.length : Int)), (77, li e.1), (108, lb n)], [(0, .box [ls 3 CE c.elems, ls 4 C1 c.joins, ls 4 BY c.signals, ls 2 BZ c.lines, li c.top, li c.brake, li c.margin, li c.throw, lb c.hard, .lmap 2, .lmap 3, .lmap 4, .lmap 5]), (1, .box [.p (.str k.name), ls 1 Aa k.elems]), (2, .map (Ao (fun x => .agg (AW x)) (fun x => .agg (AW x)) f.2)), (3, .map (Ao (fun x => .agg (AW x)) (.int .i64) j.2)), (4, .map (Ao (.int .i64) (fun x => .agg (FZ x)) e.2.1)), (5, .map (Ao (.int .i64) (.int .i64) e.2.2))], 6⟩) ap (fun n aq => ?_) (fun n aw => ?_)))))
    .refine B0 AA mixed [0, 1, 2, 3, 4, 5, 6, 7, 8, 9] 10 (by kernel_rfl) Z Z Z ?_
     refine Au 2 Z <| Ec 100 aq Z Z Z (fun ar => ?_) (fun av => ?_)
     .exact Au 4 Z <| bq ar fun bp ad au => As Z (Al Z (Ab ad Z Z Z <| BK Z <| AL au (wf hA [(0, 0), (1, 5), (2, 1), (3, 2), (4, 3), (5, 4)] Z Z Z)))
     exact BK Z <| AL av (wf hA [(0, 0), (1, 5), (2, 1), (3, 2), (4, 3), (5, 4)] Z Z Z)
    refine cd Z aw (fun ax => ?_) (fun az => ?_)
    .exact rg AA <| rl Z <| AL ax (wf hA (gi 6 []) Z Z Z)
    exact AE <| AL az (wf hA (gi 6 []) Z Z Z)
   exact AE <| AL a0 (wf hA [(0, 0), (1, 5), (2, 1), (3, 2), (4, 3), (5, 4)] Z Z Z)
  refine rs AA <| rn 2 Z <| sx Z (Ae Z Z <| rl Z <| AH ?_)
  apply lp (a := aa) (fun g : (Int × Int × (List (Int × Bo)) × (List (Int × Int))) => ⟨148, [(5, .lpb 0 0), (10, li e.1), (12, li g.1), (75, ls 2 BZ d.lines), (76, li (d.lines.length : Int)), (77, li e.1), (110, ls 1 Aa k.elems), (111, li (k.elems.length : Int)), (112, li g.2.1)], [(0, .box [ls 3 CE c.elems, ls 4 C1 c.joins, ls 4 BY c.signals, ls 2 BZ c.lines, li c.top, li c.brake, li c.margin, li c.throw, lb c.hard, .lmap 1, .lmap 2, .lmap 3, .lmap 4]), (1, .map (Ao (fun x => .agg (AW x)) (fun x => .agg (AW x)) f.2)), (2, .map (Ao (fun x => .agg (AW x)) (.int .i64) j.2)), (3, .map (Ao (.int .i64) (fun x => .agg (FZ x)) g.2.2.1)), (4, .map (Ao (.int .i64) (.int .i64) g.2.2.2))], 5⟩) a1
  . exact wf hA [(0, 0), (1, 2), (2, 3), (3, 4), (4, 5)] Z Z Z
  intro g bm q
  unfold Dj at q
  refine rs AA <| rl Z <| AB <| cd Z q (fun a2 => ?_) (fun a4 => ?_)
  .refine AE <| AC <| AB <| AH <| rs AA <| rn 1 Z <| bq a2 fun l ae a3 => sx Z (Ab ae Z Z Z <| rl Z <| AB ?_)
   refine B0 AA mixed [0, 1, 2, 3, 4, 5, 6, 7, 8, 9, 10, 11, 12, 13, 14, 15, 16, 17, 18, 19] 20 (by kernel_rfl) Z Z Z ?_
   exact Au 14 Z <| As Z (Al Z (SG (et := 161) (ke := (.int .i64)) (ve := (fun x => .agg (FZ x))) (mp := g.2.2.1) (y := l) (⟨0, 0⟩ : Bo) Gd Z Z Z Z Z Z <| Au 1 Z <| As Z (Al Z (SH (ke := (.int .i64)) (ve := (fun x => .agg (FZ x))) (mp := g.2.2.1) (y := l) (z := (⟨0, 0⟩ : Bo)) (w := (⟨e.1, g.2.1⟩ : Bo)) Z Z Z Z Z <| As Z (Al Z (SG (et := 3) (ke := (.int .i64)) (ve := (.int .i64)) (mp := g.2.2.2) (y := l) 0 Gd Z Z Z Z Z Z <| Au 1 Z <| As Z (Al Z (SH (ke := (.int .i64)) (ve := (.int .i64)) (mp := g.2.2.2) (y := l) (z := 0) (w := g.1) Z Z Z Z Z <| BK Z <| AC <| rg AA <| rn 8 Z <| sx Z (La (et := 40) (ke := (fun x => .agg (AW x))) (ve := (fun x => .agg (AW x))) (mp := f.2) (y := (⟨l, AP (1 - g.1)⟩ : AI)) (⟨0, 0⟩ : AI) CN Z Z Z Z <| rl Z <| Ad <| AC <| rg AA <| rl Z <| Aq a3 (wf hA (gi 5 []) Z Z Z))))))))))
  exact AT <| AZ <| BG a4 fun bk a5 => An <| Ad <| AC <| rg AA <| rl Z <| Aq a5 (wf hA (gi 5 []) Z Z Z)
 refine AT <| AZ <| BG a6 fun bl a7 => An <| AC <| rs AA <| rl Z <| AF ?_
 cases a7
 exact er (VE Z (.cons (.box Z (.cons (.p _) (.cons (.p _) (.cons (.p _) (.cons (.p _) (.cons (.p _) (.cons (.p _) (.cons (.p _) (.cons (.p _) (.cons (.p _) (.cons (.map Z) (.cons (.map Z) (.cons (.map Z) (.cons (.map Z) .nil)))))))))))))) (.cons (.one (.p _)) .nil))) Le.rfl
noncomputable def D4 (a : Az) : Option Int :=
 some (a.p.signals.length : Int)
theorem Qr (a : Az) (r : Int) (h : D4 a = some r) : Aw Tryz.prog 111 [.place (Ar a) 0] (· = .int .i64 r) := by
 refine fn AA Tryz.func111 Z Z 9 Z [.tmp 2] Z [(0, .p (.place (Ar a) 0))] Z Z fun A hA => ?_
 unfold D4 at h
 refine rs AA <| rl Z <| rs AA <| rn 5 Z <| sx Z (Ae Z Z <| rl Z <| AF ?_)
 cases h
 exact er Z Le.rfl
noncomputable def Cf (b : Az) (a : Int) : Option (AI × Bool) :=
 ((bif decide (a < 0) then some true else some (decide ((b.p.signals.length : Int) <= a)) : Option (Bool))).bind fun (c : Bool) => bif c then some ((⟨0, 0⟩ : AI), false) else (AY b.p.signals a).bind fun d => some (d.at_, true)
theorem HT (a : Az) (b : Int) (r : (AI × Bool)) (h : Cf a b = some r) : Aw Tryz.prog 37 [.place (Ar a) 0, .int .i64 b] (· = .tup [.agg (AW r.1), .bool r.2]) := by
 refine fn AA Tryz.func37 Z Z 28 Z [.cell 4 40, .tmp 5] Z [(0, .p (.place (Ar a) 0)), (1, .p (.int .i64 b))] Z Z fun A hA => ?_
 unfold Cf at h
 refine rs AA <| rl Z <| AB <| jb (fun c : Bool => ⟨28, [(0, lq (Ar a)), (1, li b), (4, .lpb 0 0), (17, lb c)], [(0, .box [li 0, li 0])], 1⟩) h (fun c e => ?_) (fun c i => ?_)
 .refine rg AA <| rn 3 Z <| gs 8 e Z Z Z (fun f => ?_) (fun g => ?_)
  .exact rl Z <| AL f (wf hA [(0, 0)] Z Z Z)
  exact rn 6 Z <| sx Z (Ae Z Z <| rl Z <| AL g (wf hA [(0, 0)] Z Z Z))
 refine cd Z i (fun j => ?_) (fun k => ?_)
 .refine rs AA <| rl Z <| AF <| AG ?_
  cases j
  exact er Z Le.rfl
 refine AE <| AC <| rs AA <| rn 6 Z <| bq k fun m d l => sx Z (Ab d Z Z Z <| rl Z <| AF ?_)
 cases l
 exact er Z Le.rfl
noncomputable def Bh (a : Az) (b : AI) : Option (AI × Bool) :=
 some (((Am a.next b).getD (⟨0, 0⟩ : AI)), (Am a.next b).isSome)
theorem CK (a : Az) (b : AI) (r : (AI × Bool)) (h : Bh a b = some r) : Aw Tryz.prog 72 [.place (Ar a) 0, .agg (AW b)] (· = .tup [.agg (AW r.1), .bool r.2]) := by
 refine fn AA Tryz.func72 Z Z 19 Z [.cell 4 40, .tmp 5] Z [(0, .p (.place (Ar a) 0)), (1, .p (.agg (AW b)))] Z Z fun A hA => ?_
 unfold Bh at h
 refine rs AA <| rl Z <| AB ?_
 refine B0 AA mixed [0, 1, 2, 3, 4, 5, 6, 7, 8, 9, 10, 11] 12 (by kernel_rfl) Z Z Z ?_
 refine Au 5 Z <| As Z (Al Z (KR (et := 40) (ke := (fun x => .agg (AW x))) (ve := (fun x => .agg (AW x))) (mp := a.next) (y := b) (⟨0, 0⟩ : AI) CN Z Z Z Z <| BK Z <| AC <| rs AA <| rl Z <| AF ?_))
 cases h
 exact er Z Le.rfl
noncomputable def D5 (a : Ai) (b : Int) : Option Bool :=
 some (a.elem == b)
theorem Qs (a : Ai) (b : Int) (r : Bool) (h : D5 a b = some r) : Aw Tryz.prog 165 [.agg (Ax a), .place (Aa b) 0] (· = .bool r) := by
 refine fn AA Tryz.func165 Z Z 8 Z [.tmp 3] Z [(0, .p (.agg (Ax a))), (1, .p (.place (Aa b) 0))] Z Z fun A hA => ?_
 unfold D5 at h
 refine rs AA <| rl Z <| rs AA <| rl Z <| AF ?_
 cases h
 exact er Z Le.rfl
noncomputable def BR (b : (List Ai)) (x1_0 : Int) (a : Int) : Option (Int ⊕ Int) :=
 bif decide (a < (b.length : Int)) then (AY b a).bind fun c => (D5 c x1_0).bind fun d => bif d then some (.inr a) else some (.inl (AP (a + 1))) else some (.inr (-1))
noncomputable def Bt (b : (List Ai)) (x1_0 : Int) : Option Bool :=
 ((AO (BR b x1_0) 0 : Option (Int))).bind fun (a : Int) => some (decide (0 <= a))
theorem IK (b : (List Ai)) (x1_0 : Int) (r : Bool) (h : Bt b x1_0 = some r) : Aw Tryz.prog 150 [.slice 3 (b.map Ax), .fn 165 [.place (Aa x1_0) 0]] (· = .bool r) := by
 refine fn AA Tryz.func150 Z Z 9 Z [.tmp 4] Z [(0, .p (.slice 3 (b.map Ax))), (1, .p (.fn 165 [.place (Aa x1_0) 0]))] Z Z fun A hA => ?_
 unfold Bt at h
 refine OQ (AAK 1 Z) <| rs AA <| rl Z <| rs AA <| rn 2 Z <| sx Z (CX AA (fun c : Int => li c) (fun c : Int => []) 0 h Tryz.func167 19 [.tmp 4] [(0, ls 3 Ax b), (1, .fn 165 [lq (Aa x1_0)])] Z Z Z Z Z Z Z Z (fun A hA c i => ?_) (fun c t => ?_))
 .refine rs AA <| rl Z <| AB <| rs AA <| rn 1 Z <| sx Z (Ae Z Z <| rl Z <| AH ?_)
  apply lp (a := c) (fun d : Int => ⟨19, [(0, ls 3 Ax b), (1, .fn 165 [lq (Aa x1_0)]), (7, li (b.length : Int)), (8, li d)], [], 0⟩) i
  . exact wj hA [] Z Z Z Z
  intro d w e
  unfold BR at e
  refine rs AA <| rl Z <| AB <| cd Z e (fun j => ?_) (fun q => ?_)
  .refine AE <| AC <| AB <| AH <| rs AA <| rl Z <| rs AA <| rn 3 Z <| bq j fun x f k => sx Z (Ab f Z Z Z <| rn 1 Z <| bq k fun y g l => sx Z (AM (Qs _ _ _ g) (.inl Z) Z Z Z <| rl Z <| cd Z l (fun m => ?_) (fun o => ?_)))
   .refine rs AA <| rl Z <| AF <| AQ <| AG <| A3 m fun u n => AQ <| AG ?_
    have hr := Option.some.inj n; subst hr
    exact Ca (nt := 19) (sl := [(4, li d)]) (wj hA [] Z Z Z Z) Z
   exact AE <| Ad <| AC <| rg AA <| rl Z <| Aq o (wj hA [] Z Z Z Z)
  refine AT <| AZ <| BG q fun v s => An <| AC <| rs AA <| rl Z <| AF ?_
  cases s
  exact Ca (nt := 19) (sl := [(4, li (-1))]) (wj hA [] Z Z Z Z) Z
 refine rl Z <| AF ?_
 cases t
 exact er Z Le.rfl
noncomputable def FJ (a : Om) (b : Int) : Option Bool :=
 ((bif decide ((a.steps.length : Int) < 12) then bif (b != a.berth) then (Bt a.steps b).bind fun d => some (!d) else some false else some false : Option (Bool))).bind fun (c : Bool) => some c
theorem SV (b : Om) (c : Int) (r : Bool) (h : FJ b c = some r) : Aw Tryz.prog 146 [.place (Tp b) 0, .int .i64 c] (· = .bool r) := by
 refine fn AA Tryz.func146 Z Z 28 Z [.tmp 4] Z [(0, .p (.place (Tp b) 0)), (1, .p (.int .i64 c))] Z Z fun A hA => ?_
 unfold FJ at h
 refine rs AA <| rl Z <| jb (fun a : Bool => ⟨28, [(4, lb a)], [], 0⟩) h (fun a k => ?_) (fun a j => ?_)
 .refine B0 AA mixed [0, 1, 2, 3, 4, 5, 6, 7, 8, 9, 10, 11, 12, 13, 14, 15, 16, 17, 18, 19, 20, 21, 22, 23] 24 (by kernel_rfl) Z Z Z ?_
  refine Au 4 Z <| As Z (Kr Z Z <| Au 2 Z <| Ec 11 k Z Z Z (fun l => ?_) (fun i => ?_))
  .refine Au 8 Z <| Ec 19 l Z Z Z (fun e => ?_) (fun g => ?_)
   .exact Au 5 Z <| bq e fun m d f => As Z (A0 (IK _ _ _ d) (.inl Z) Z Z (D1.eq (.cons (.one (.p _)) (.cons (.fn (.box Z (.cons (.p _) .nil) .nil)) .nil))) <| BK Z <| AL f (wf hA [] Z Z Z))
   exact BK Z <| AL g (wf hA [] Z Z Z)
  exact BK Z <| AL i (wf hA [] Z Z Z)
 refine AF ?_
 have hr := Option.some.inj j; subst hr
 exact er Z Le.rfl
noncomputable def ES (b : Az) (a : Int) : Option C2 :=
 ((bif decide (a < 0) then some true else some (decide ((b.p.elems.length : Int) <= a)) : Option (Bool))).bind fun (c : Bool) => bif c then some (⟨ByteArray.empty, 0, 0⟩ : C2) else (AY b.p.elems a).bind fun d => some d
theorem Nu (a : Az) (b : Int) (r : C2) (h : ES a b = some r) : Aw Tryz.prog 69 [.place (Ar a) 0, .int .i64 b] (· = .agg (CE r)) := by
 refine fn AA Tryz.func69 Z Z 26 Z [.cell 4 123] Z [(0, .p (.place (Ar a) 0)), (1, .p (.int .i64 b))] Z Z fun A hA => ?_
 unfold ES at h
 refine rs AA <| rl Z <| AB <| jb (fun c : Bool => ⟨26, [(0, lq (Ar a)), (1, li b), (4, .lpb 0 0), (16, lb c)], [(0, .box [.p (.str ByteArray.empty), li 0, li 0])], 1⟩) h (fun c e => ?_) (fun c i => ?_)
 .refine rg AA <| rn 3 Z <| gs 7 e Z Z Z (fun f => ?_) (fun g => ?_)
  .exact rl Z <| AL f (wf hA [(0, 0)] Z Z Z)
  exact rn 6 Z <| sx Z (Ae Z Z <| rl Z <| AL g (wf hA [(0, 0)] Z Z Z))
 refine cd Z i (fun j => ?_) (fun k => ?_)
 .refine rs AA <| rl Z <| AF <| AG ?_
  cases j
  exact er Z Le.rfl
 refine AE <| AC <| rs AA <| rn 6 Z <| bq k fun m d l => sx Z (Ab d Z Z Z <| rl Z <| AF ?_)
 have hr := Option.some.inj l; subst hr
 exact er Z Le.rfl
noncomputable def BX (a : Az) (b : Int) : Option Int :=
 (ES a b).bind fun c => some c.kind
theorem Bx (a : Az) (b : Int) (r : Int) (h : BX a b = some r) : Aw Tryz.prog 38 [.place (Ar a) 0, .int .i64 b] (· = .int .i64 r) := by
 refine fn AA Tryz.func38 Z Z 9 Z [.tmp 4] Z [(0, .p (.place (Ar a) 0)), (1, .p (.int .i64 b))] Z Z fun A hA => ?_
 unfold BX at h
 refine rs AA <| rl Z <| rs AA <| rn 2 Z <| bq h fun e c d => sx Z (AM (Nu _ _ _ c) (.inl Z) Z Z Z <| rl Z <| AF ?_)
 cases d
 exact er Z Le.rfl
noncomputable def ET (c : Az) (d : Int) (a : Int) : Option (List Bl) :=
 ((bif decide (a < 0) then some true else (BX c d).bind fun f => (FY f).bind fun g => some (decide (g <= a)) : Option (Bool))).bind fun (e : Bool) => bif e then some [] else (BX c d).bind fun b => bif (b == 1) then some [(⟨AP (1 - a), 0⟩ : Bl)] else bif (b == 3) then (AY ([1, 0, 3, 2] : List Int) a).bind fun h => some [(⟨h, 0⟩ : Bl)] else bif (b == 2) then bif (a == 0) then some [(⟨1, 1⟩ : Bl), (⟨2, 2⟩ : Bl)] else (AY ([0, 1, 2] : List Int) a).bind fun i => some [(⟨0, i⟩ : Bl)] else some []
theorem Nv (b : Az) (c : Int) (a : Int) (r : (List Bl)) (h : ET b c a = some r) : Aw Tryz.prog 166 [.place (Ar b) 0, .int .i64 c, .int .i64 a] (· = .slice 2 (r.map Dz)) := by
 refine fn AA Tryz.func166 Z Z 47 Z [.tmp 6] Z [(0, .p (.place (Ar b) 0)), (1, .p (.int .i64 c)), (2, .p (.int .i64 a))] Z Z fun A hA => ?_
 unfold ET at h
 refine rs AA <| rl Z <| AB <| jb (fun d : Bool => ⟨47, [(0, lq (Ar b)), (1, li c), (2, li a), (17, lb d)], [], 0⟩) h (fun d m => ?_) (fun d t => ?_)
 .refine rg AA <| rn 3 Z <| gs 10 m Z Z Z (fun n => ?_) (fun o => ?_)
  .exact rl Z <| AL n (wf hA [] Z Z Z)
  exact rn 3 Z <| bq o fun ak f q => sx Z (AM (Bx _ _ _ f) (.inl Z) Z Z Z <| bq q fun al i s => sx Z (AM (KW _ _ i) (.inl Z) Z Z Z <| rl Z <| AL s (wf hA [] Z Z Z)))
 refine cd Z t (fun u => ?_) (fun v => ?_)
 .refine rs AA <| rl Z <| AF <| AG ?_
  cases u
  exact er Z (Le.nil _)
 refine AE <| AC <| AB <| rs AA <| rn 2 Z <| bq v fun am j w => sx Z (AM (Bx _ _ _ j) (.inl Z) Z Z Z <| rl Z <| AH <| rs AA <| rl Z <| cd Z w (fun x => ?_) (fun z => ?_))
 .refine rs AA <| rl Z <| AF <| AQ <| AG ?_
  cases x
  exact er (IA Z (.one (.own (enc := Dz) ([(⟨AP (1 - a), 0⟩ : Bl)] : List Bl) Z Z))) Le.rfl
 refine rs AA <| rl Z <| cd Z z (fun aa => ?_) (fun ac => ?_)
 .refine rs AA <| rl Z <| rs AA <| rn 1 Z <| bq aa fun ai e ab => sx Z (Lb (l := ([1, 0, 3, 2] : List Int)) e Z Z Z Z <| sx Z (SE (g := fun y => .p (.int .i64 y)) e Z Z Z Z <| rl Z <| AF <| AQ <| AG ?_))
  cases ab
  exact er (IA Z (.one (.own (enc := Dz) ([(⟨ai, 0⟩ : Bl)] : List Bl) Z Z))) Le.rfl
 refine rs AA <| rl Z <| cd Z ac (fun ad => ?_) (fun ah => ?_)
 .refine AB <| rs AA <| rl Z <| cd Z ad (fun ae => ?_) (fun af => ?_)
  .refine rs AA <| rl Z <| AF <| AG <| AQ <| AG ?_
   cases ae
   exact er (IA Z (.one (.own (enc := Dz) ([(⟨1, 1⟩ : Bl), (⟨2, 2⟩ : Bl)] : List Bl) Z Z))) Le.rfl
  refine AE <| AC <| rs AA <| rn 2 Z <| bq af fun aj k ag => sx Z (AAl (l := ([0, 1, 2] : List Int)) (g := fun y => .int .i64 y) k Z Z Z Z <| rl Z <| AF <| AQ <| AG ?_)
  cases ag
  exact er (IA Z (.one (.own (enc := Dz) ([(⟨0, aj⟩ : Bl)] : List Bl) Z Z))) Le.rfl
 refine AE <| Ad <| AC <| rs AA <| rl Z <| AF ?_
 cases ah
 exact er Z (Le.nil _)
noncomputable def Ba (a : (List Ai)) : Option (List Ai) :=
 M2 a (some []) ((Bs ([] : List Ai) a).bind fun b => some b)
theorem NC (a : (List Ai)) (r : (List Ai)) (h : Ba a = some r) : Aw Tryz.prog 113 [.slice 3 (a.map Ax)] (· = .slice 3 (r.map Ax)) := by
 refine fn AA Tryz.func113 Z Z 8 Z [.tmp 2] Z [(0, .p (.slice 3 (a.map Ax)))] Z Z fun A hA => ?_
 unfold Ba at h
 refine rs AA <| rl Z <| AB <| rs AA <| rn 1 Z <| sx Z (Kt h Z Z Z (fun d => ?_) (fun e => ?_))
 .refine rl Z <| R8 Z <| rs AA <| rl Z <| AF <| AG ?_
  cases d
  exact er Z (Le.nil _)
 refine rl Z <| Td Z <| AE <| AC <| rs AA <| rn 2 Z <| bq e fun f b c => sx Z (BW (enc := Ax) (l := ([] : List Ai)) (m := a) b (fun _ => ⟨Z, Z⟩) Z Z Z Z Z Z <| rl Z <| AF ?_)
 have hr := Option.some.inj c; subst hr
 exact er (IA Z (.one (.own (enc := Ax) f Z Z))) Le.rfl
theorem Eu (a : (List Ai)) (r : (List Ai)) (h : Ba a = some r) : HK Tryz.prog 113 [.slice 3 (a.map Ax)] 76 3 (r.map Ax) := by
 refine fnN (enc := Ax) (fun _ => ⟨Z, Z⟩) Tryz.func113 Z Z 8 Z 2 Z [(0, .p (.slice 3 (a.map Ax)))] Z Z fun A hA => ?_
 unfold Ba at h
 refine rs AA <| rl Z <| AB <| rs AA <| rn 1 Z <| sx Z (Kt h Z Z Z (fun d => ?_) (fun e => ?_))
 .refine rl Z <| R8 Z <| rs AA <| rl Z <| AF <| AG ?_
  cases d
  exact ABv Z
 refine rl Z <| Td Z <| AE <| AC <| rs AA <| rn 2 Z <| bq e fun f b c => sx Z (BW (enc := Ax) (l := ([] : List Ai)) (m := a) b (fun _ => ⟨Z, Z⟩) Z Z Z Z Z Z <| rl Z <| AF ?_)
 have hr := Option.some.inj c; subst hr
 exact erN Z Z Z
noncomputable def Cb (a : Az) (b : AI) : Option Int :=
 bif (Am a.reads b).isSome then some ((Am a.reads b).getD 0) else some (-1)
theorem HA (a : Az) (b : AI) (r : Int) (h : Cb a b = some r) : Aw Tryz.prog 43 [.place (Ar a) 0, .agg (AW b)] (· = .int .i64 r) := by
 refine fn AA Tryz.func43 Z Z 18 Z [.tmp 4] Z [(0, .p (.place (Ar a) 0)), (1, .p (.agg (AW b)))] Z Z fun A hA => ?_
 unfold Cb at h
 refine rs AA <| rl Z <| AB <| AB ?_
 refine B0 AA mixed [0, 1, 2, 3, 4, 5, 6, 7, 8, 9, 10] 11 (by kernel_rfl) Z Z Z ?_
 refine Au 5 Z <| As Z (Al Z (KR (et := 3) (ke := (fun x => .agg (AW x))) (ve := (.int .i64)) (mp := a.reads) (y := b) 0 CN Z Z Z Z <| BK Z <| AC <| rs AA <| rl Z <| cd Z h (fun c => ?_) (fun d => ?_)))
 .refine rs AA <| rl Z <| AF <| AG ?_
  cases c
  exact er Z Le.rfl
 refine AE <| AC <| rs AA <| rl Z <| AF ?_
 cases d
 exact er Z Le.rfl
end Go.E
/- Plain functions, and walks in step with them. Written by a program (gen.py). No condition. -/
set_option maxRecDepth 100000
set_option maxHeartbeats 1000000
namespace Go.E
open Go Go.RowKit Go.Proofs
noncomputable def MK (b : ((List Ai) × (List Int) × (List (List Bl)))) (d : (List Ai)) (a : Int × (List Ap)) : Option ((Int × (List Ap)) ⊕ ((List Ai) × (List Ap))) :=
 bif decide (a.1 < (b.1.length : Int)) then (((AY b.1 a.1).bind fun e => (AY b.2.1 a.1).bind fun f => bif (f != 0) then (AY b.2.1 a.1).bind fun g => (Bs a.2 [(⟨e.elem, g⟩ : Ap)]).bind fun h => some h else some a.2 : Option ((List Ap)))).bind fun (c : (List Ap)) => some (.inl (AP (a.1 + 1), c)) else some (.inr (d, a.2))
noncomputable def ML (a : ((List Ag) × (List Ai) × (List Int) × (List (List Bl)))) (c : Bl) (d : Ai) (f : (List Ai)) (b : Int × (List Ap)) : Option ((Int × (List Ap)) ⊕ ((List Ai) × (List Ap))) :=
 bif decide (b.1 < ((A5 a.2.1 (AP ((a.2.1.length : Int) - 1)) (⟨d.elem, d.in_, c.out⟩ : Ai)).length : Int)) then (((AY (A5 a.2.1 (AP ((a.2.1.length : Int) - 1)) (⟨d.elem, d.in_, c.out⟩ : Ai)) b.1).bind fun g => (AY (A5 a.2.2.1 (AP ((a.2.1.length : Int) - 1)) c.pos) b.1).bind fun h => bif (h != 0) then (AY (A5 a.2.2.1 (AP ((a.2.1.length : Int) - 1)) c.pos) b.1).bind fun i => (Bs b.2 [(⟨g.elem, i⟩ : Ap)]).bind fun j => some j else some b.2 : Option ((List Ap)))).bind fun (e : (List Ap)) => some (.inl (AP (b.1 + 1), e)) else some (.inr (f, b.2))
noncomputable def MM (a : ((List Ag) × (List Ai) × (List Int) × (List (List Bl)))) (c : Bl) (d : Ai) (f : (List Ai)) (b : Int × (List Ap)) : Option ((Int × (List Ap)) ⊕ ((List Ai) × (List Ap))) :=
 bif decide (b.1 < ((A5 a.2.1 (AP ((a.2.1.length : Int) - 1)) (⟨d.elem, d.in_, c.out⟩ : Ai)).length : Int)) then (((AY (A5 a.2.1 (AP ((a.2.1.length : Int) - 1)) (⟨d.elem, d.in_, c.out⟩ : Ai)) b.1).bind fun g => (AY (A5 a.2.2.1 (AP ((a.2.1.length : Int) - 1)) c.pos) b.1).bind fun h => bif (h != 0) then (AY (A5 a.2.2.1 (AP ((a.2.1.length : Int) - 1)) c.pos) b.1).bind fun i => (Bs b.2 [(⟨g.elem, i⟩ : Ap)]).bind fun j => some j else some b.2 : Option ((List Ap)))).bind fun (e : (List Ap)) => some (.inl (AP (b.1 + 1), e)) else some (.inr (f, b.2))
noncomputable def CH (i : Az) (j : Int) (a : (List Ag) × (List Ai) × (List Int) × (List (List Bl))) : Option (((List Ag) × (List Ai) × (List Int) × (List (List Bl))) ⊕ ((Int × Int × (List Ag) × (List Ai) × (List Int) × (List (List Bl))) ⊕ (List Ag))) :=
 bif decide (0 < (a.2.1.length : Int)) then (AY a.2.2.2 (AP ((a.2.1.length : Int) - 1))).bind fun n => bif ((n.length : Int) == 0) then (((Jz a.2.1 0 (AP ((a.2.1.length : Int) - 1))).bind fun o => (Jz a.2.2.1 0 (AP ((a.2.1.length : Int) - 1))).bind fun p => (Jz a.2.2.2 0 (AP ((a.2.1.length : Int) - 1))).bind fun q => some (o, p, q) : Option ((List Ai) × (List Int) × (List (List Bl))))).bind fun (d : (List Ai) × (List Int) × (List (List Bl))) => some (.inl (a.1, d.1, d.2.1, d.2.2)) else (AY a.2.2.2 (AP ((a.2.1.length : Int) - 1))).bind fun r => (AY r 0).bind fun c => (AY a.2.2.2 (AP ((a.2.1.length : Int) - 1))).bind fun k => (Jy k 1 (k.length : Int)).bind fun e => (AY a.2.2.2 (AP ((a.2.1.length : Int) - 1))).bind fun w => (AY a.2.1 (AP ((a.2.1.length : Int) - 1))).bind fun b => (AY a.2.2.1 (AP ((a.2.1.length : Int) - 1))).bind fun x => (AY (A5 a.2.1 (AP ((a.2.1.length : Int) - 1)) (⟨b.elem, b.in_, c.out⟩ : Ai)) (AP ((a.2.1.length : Int) - 1))).bind fun l => (Cb i (⟨l.elem, c.out⟩ : AI)).bind fun m => bif decide (0 <= m) then (((Ba (A5 a.2.1 (AP ((a.2.1.length : Int) - 1)) (⟨b.elem, b.in_, c.out⟩ : Ai))).bind fun s => AO (ML a c b s) (0, ([] : List Ap)) : Option ((List Ai) × (List Ap)))).bind fun (g : (List Ai) × (List Ap)) => (Bs a.1 ([(⟨j, m, 1, g.1, g.2, ([] : List Ap), ([] : List Int), ([] : List Int), false⟩ : Ag)])).bind fun t => some (.inl (t, A5 a.2.1 (AP ((a.2.1.length : Int) - 1)) (⟨b.elem, b.in_, c.out⟩ : Ai), A5 a.2.2.1 (AP ((a.2.1.length : Int) - 1)) c.pos, A5 a.2.2.2 (AP ((a.2.1.length : Int) - 1)) e)) else (Bh i (⟨l.elem, c.out⟩ : AI)).bind fun f => bif (!f.2) then (((Ba (A5 a.2.1 (AP ((a.2.1.length : Int) - 1)) (⟨b.elem, b.in_, c.out⟩ : Ai))).bind fun u => AO (MM a c b u) (0, ([] : List Ap)) : Option ((List Ai) × (List Ap)))).bind fun (h : (List Ai) × (List Ap)) => (Bs a.1 ([(⟨j, (-1), 3, h.1, h.2, ([] : List Ap), ([] : List Int), ([] : List Int), false⟩ : Ag)])).bind fun v => some (.inl (v, A5 a.2.1 (AP ((a.2.1.length : Int) - 1)) (⟨b.elem, b.in_, c.out⟩ : Ai), A5 a.2.2.1 (AP ((a.2.1.length : Int) - 1)) c.pos, A5 a.2.2.2 (AP ((a.2.1.length : Int) - 1)) e)) else some (.inr (.inl (f.1.elem, f.1.fin, a.1, A5 a.2.1 (AP ((a.2.1.length : Int) - 1)) (⟨b.elem, b.in_, c.out⟩ : Ai), A5 a.2.2.1 (AP ((a.2.1.length : Int) - 1)) c.pos, A5 a.2.2.2 (AP ((a.2.1.length : Int) - 1)) e))) else some (.inr (.inr a.1))
noncomputable def CQ (d : Az) (f : Int) (o : (AI × Bool)) (a : Int × Int × (List Ag) × (List Ai) × (List Int) × (List (List Bl))) : Option ((Int × Int × (List Ag) × (List Ai) × (List Int) × (List (List Bl))) ⊕ (List Ag)) :=
 (((FJ (⟨o.1.elem, a.2.2.2.1, a.2.2.2.2.1, a.2.2.2.2.2⟩ : Om) a.1).bind fun g => bif g then (((Bs a.2.2.2.1 [(⟨a.1, a.2.1, (-1)⟩ : Ai)]).bind fun h => (Bs a.2.2.2.2.1 [0]).bind fun i => (ET d a.1 a.2.1).bind fun j => (Bs a.2.2.2.2.2 [j]).bind fun k => some (h, i, k) : Option ((List Ai) × (List Int) × (List (List Bl))))).bind fun (b : (List Ai) × (List Int) × (List (List Bl))) => (BX d a.1).bind fun l => bif (l == 4) then (((Ba b.1).bind fun m => AO (MK b m) (0, ([] : List Ap)) : Option ((List Ai) × (List Ap)))).bind fun (e : (List Ai) × (List Ap)) => (Bs a.2.2.1 ([(⟨f, (-1), 2, e.1, e.2, ([] : List Ap), ([] : List Int), ([] : List Int), false⟩ : Ag)])).bind fun n => some (n, b.1, b.2.1, b.2.2) else some (a.2.2.1, b.1, b.2.1, b.2.2) else some (a.2.2.1, a.2.2.2.1, a.2.2.2.2.1, a.2.2.2.2.2) : Option ((List Ag) × (List Ai) × (List Int) × (List (List Bl))))).bind fun (c : (List Ag) × (List Ai) × (List Int) × (List (List Bl))) => AO (CH d f) (c.1, c.2.1, c.2.2.1, c.2.2.2)
noncomputable def K5 (a : Az) (d : Int) : Option (List Ag) :=
 (Cf a d).bind fun c => bif (!c.2) then some [] else (Bh a c.1).bind fun b => bif (!b.2) then some [] else AO (CQ a d c) (b.1.elem, b.1.fin, ([] : List Ag), ([] : List Ai), ([] : List Int), ([] : List (List Bl)))
theorem ZJ (t : Az) (g : Int) (r : (List Ag)) (h : K5 t g = some r) : Aw Tryz.prog 112 [.place (Ar t) 0, .int .i64 g] (· = .slice 9 (r.map A6)) := by
 refine fn AA Tryz.func112 Z Z 157 Z [.tmp 4] Z [(0, .p (.place (Ar t) 0)), (1, .p (.int .i64 g))] Z Z fun A hA => ?_
 unfold K5 at h
 refine rs AA <| rl Z <| sc <| rs AA <| rn 2 Z <| bq h fun j bu ef => sx Z (AM (HT _ _ _ bu) (.inl Z) Z Z Z <| rl Z <| AB <| rs AA <| rl Z <| cd Z ef (fun eg => ?_) (fun eh => ?_))
 .refine rs AA <| rl Z <| AF <| AG <| JN ?_
  cases eg
  exact er Z (Le.nil _)
 refine AE <| AC <| rs AA <| rn 2 Z <| bq eh fun e2 a8 bv => sx Z (AM (CK _ _ _ a8) (.inl Z) Z Z Z <| rl Z <| AB <| rs AA <| rl Z <| cd Z bv (fun bw => ?_) (fun bx => ?_))
 .refine rs AA <| rl Z <| AF <| AG <| JN ?_
  cases bw
  exact er Z (Le.nil _)
 refine AE <| AC <| rs AA <| rl Z <| rs AA <| rl Z <| AB <| Kg <| AC <| AB <| AH ?_
 apply lp (a := r) (fun d : (Int × Int × (List Ag) × (List Ai) × (List Int) × (List (List Bl))) => ⟨157, [(0, lq (Ar t)), (1, li g), (7, .lpb 0 0), (8, .lsl 1 9 0 d.2.2.1.length), (9, .lpb 2 0)], [(0, .box [li d.1, li d.2.1]), (1, .row 72 9 (d.2.2.1.map A6)), (2, .box [li j.1.elem, .lsl 3 3 0 d.2.2.2.1.length, .lsl 4 1 0 d.2.2.2.2.1.length, .lsl 5 1 0 d.2.2.2.2.2.length]), (3, .row 76 3 (d.2.2.2.1.map Ax)), (4, .row 3 1 (d.2.2.2.2.1.map Aa)), (5, .row 215 1 (d.2.2.2.2.2.map (Dm 2 Dz)))], 6⟩) bx
 . exact A8.trans (CS 8 72 9 Z) (A8.trans (B8 2 1 76 3 Z Z Z Z) (A8.trans (B8 2 2 3 1 Z Z Z Z) (A8.trans (B8 2 3 215 1 Z Z Z Z) (wf hA [(0, 1), (1, 3), (2, 2), (3, 4), (4, 5), (5, 6)] Z Z Z))))
 intro d a7 a2
 unfold CQ at a2
 refine AH <| sc <| jb (fun k : ((List Ag) × (List Ai) × (List Int) × (List (List Bl))) => ⟨157, [(0, lq (Ar t)), (1, li g), (7, .lpb 0 0), (8, .lsl 1 9 0 k.1.length), (9, .lpb 2 0)], [(0, .box [li d.1, li d.2.1]), (1, .row 72 9 (k.1.map A6)), (2, .box [li j.1.elem, .lsl 3 3 0 k.2.1.length, .lsl 4 1 0 k.2.2.1.length, .lsl 5 1 0 k.2.2.2.length]), (3, .row 76 3 (k.2.1.map Ax)), (4, .row 3 1 (k.2.2.1.map Aa)), (5, .row 215 1 (k.2.2.2.map (Dm 2 Dz)))], 6⟩) a2 (fun k bz => ?_) (fun k cs => ?_)
 .refine rs AA <| rn 3 Z <| bq bz fun e3 a9 b0 => sx Z (AM (SV _ _ _ a9) (.inl Z) Z Z (D1.eq (.cons (.box Z (.cons (.p _) (.cons (.own (enc := Ax) d.2.2.2.1 Z Z) (.cons (.own (enc := Aa) d.2.2.2.2.1 Z Z) (.cons (.own (enc := (Dm 2 Dz)) d.2.2.2.2.2 Z Z) .nil))))) (.cons (.one (.p _)) .nil))) <| rl Z <| cd Z b0 (fun b1 => ?_) (fun cr => ?_))
  .refine rs AA <| rn 3 Z <| sx Z (CX AA (fun f : ((List Ai) × (List Int) × (List (List Bl))) => .tup []) (fun f : ((List Ai) × (List Int) × (List (List Bl))) => [(0, .box [li d.1, li d.2.1]), (1, .row 72 9 (d.2.2.1.map A6)), (2, .box [li j.1.elem, .lsl 6 3 0 f.1.length, .lsl 7 1 0 f.2.1.length, .lsl 8 1 0 f.2.2.length]), (6, .row 76 3 (f.1.map Ax)), (7, .row 3 1 (f.2.1.map Aa)), (8, .row 215 1 (f.2.2.map (Dm 2 Dz)))]) 9 b1 Tryz.func147 44 [] [(0, .lpb 2 0), (1, lq (Ar t)), (2, .p (.agg [.int .i64 d.1, .int .i64 d.2.1]))] Z Z Z Z Z Z Z Z (fun A hA f b2 => ?_) (fun f b7 => ?_))
   .refine rs AA <| rl Z <| AB ?_
    refine B0 AA mixed [0, 1, 2, 3, 4, 5, 6, 7, 8, 9, 10, 11, 12, 13, 14] 15 (by kernel_rfl) Z Z Z ?_
    refine Au 11 Z <| bq b2 fun e4 ba b3 => As Z (I2 Z (BW (enc := Ax) (l := d.2.2.2.1) (m := [(⟨d.1, d.2.1, (-1)⟩ : Ai)]) ba (fun _ => ⟨Z, Z⟩) Z Z Z Z Z Z <| BK Z <| AC <| rs AA <| rn 6 Z <| bq b3 fun e5 bb b4 => sx Z (BW (enc := Aa) (l := d.2.2.2.2.1) (m := [0]) bb (fun _ => ⟨Z, Z⟩) Z Z Z Z Z Z <| rl Z ?_)))
    refine B0 AA mixed [0, 1, 2, 3, 4, 5, 6, 7, 8, 9, 10, 11, 12, 13, 14, 15] 16 (by kernel_rfl) Z Z Z ?_
    refine Au 10 Z <| bq b4 fun ei bc b5 => As Z (A0 (Nv _ _ _ _ bc) (.inr Z) Z Z Z <| Au 1 Z <| bq b5 fun e6 be b6 => As Z (I2 Z (BW (enc := (Dm 2 Dz)) (l := d.2.2.2.2.2) (m := [ei]) be (fun _ => ⟨Z, Z⟩) Z Z Z Z Z Z <| BK Z ?_)))
    cases b6
    exact Me (nt := 44) (sl := []) (wj hA (gi 6 [(6, 18), (7, 23), (8, 36)]) Z Z Z Z) Z
   refine rl Z <| rs AA <| rn 3 Z <| bq b7 fun e7 bf b8 => sx Z (AM (Bx _ _ _ bf) (.inl Z) Z Z Z <| rl Z <| cd Z b8 (fun b9 => ?_) (fun cq => ?_))
   .refine rg AA <| rn 3 Z <| sx Z (CX AA (fun n : ((List Ai) × (List Ap)) => .p (.agg [.int .i64 g, .int .i64 (-1), .int .i64 2, .slice 3 (n.1.map Ax), .slice 2 (n.2.map A2), .slice 2 (([] : List Ap).map A2), .slice 1 (([] : List Int).map Aa), .slice 1 (([] : List Int).map Aa), .bool false])) (fun n : ((List Ai) × (List Ap)) => [(0, .box [li d.1, li d.2.1]), (1, .row 72 9 (d.2.2.1.map A6)), (2, .box [li j.1.elem, .lsl 6 3 0 f.1.length, .lsl 7 1 0 f.2.1.length, .lsl 8 1 0 f.2.2.length]), (6, .row 76 3 (f.1.map Ax)), (7, .row 3 1 (f.2.1.map Aa)), (8, .row 215 1 (f.2.2.map (Dm 2 Dz))), (9, .box [li g, li (-1), li 2, ls 3 Ax n.1, ls 2 A2 n.2, ls 2 A2 ([] : List Ap), ls 1 Aa ([] : List Int), ls 1 Aa ([] : List Int), lb false])]) 10 b9 Tryz.func148 56 [.cell 8 72] [(0, .lpb 2 0), (1, li g), (2, li (-1)), (3, li 2)] Z Z Z Z Z Z Z Z (fun A hA n ca => ?_) (fun n co => ?_))
    .refine rs AA <| rl Z <| rs AA <| rn 7 Z <| bq ca fun ab bg cb => sx Z (Oi (Eu _ _ bg) (fun _ => Z) Z Z (D1.eq (.cons (.one (.own (enc := Ax) f.1 Z Z)) .nil)) <| rl Z <| AB <| rs AA <| rl Z <| AH ?_)
     apply lp (a := n) (fun u : (Int × (List Ap)) => ⟨56, [(0, .lpb 2 0), (8, .lpb 9 0), (9, .lpb 10 0), (24, .lsl 6 3 0 f.1.length), (25, li (f.1.length : Int)), (26, li u.1)], [(0, .box [li d.1, li d.2.1]), (1, .row 72 9 (d.2.2.1.map A6)), (2, .box [li j.1.elem, .lsl 6 3 0 f.1.length, .lsl 7 1 0 f.2.1.length, .lsl 8 1 0 f.2.2.length]), (6, .row 76 3 (f.1.map Ax)), (7, .row 3 1 (f.2.1.map Aa)), (8, .row 215 1 (f.2.2.map (Dm 2 Dz))), (9, .box [li 0, li 0, li 0, .p (.nils), .p (.nils), .p (.nils), .p (.nils), .p (.nils), lb false]), (10, .box [li g, li (-1), li 2, .lsl 11 3 0 ab.length, .lsl 12 2 0 u.2.length, .p (.nils), .p (.nils), .p (.nils), lb false]), (11, .row 76 3 (ab.map Ax)), (12, .row 185 2 (u.2.map A2))], 13⟩) cb
     . exact A8.trans (B8 11 4 185 2 Z Z Z Z) (wj hA (gi 10 [(10, 11), (11, 10), (12, 12)]) Z Z Z Z)
     intro u ey a3
     unfold MK at a3
     refine rs AA <| rl Z <| AB <| cd Z a3 (fun cc => ?_) (fun cm => ?_)
     .refine AE <| AC <| jb (fun af : (List Ap) => ⟨56, [(0, .lpb 2 0), (8, .lpb 9 0), (9, .lpb 10 0), (24, .lsl 6 3 0 f.1.length), (25, li (f.1.length : Int)), (26, li u.1)], [(0, .box [li d.1, li d.2.1]), (1, .row 72 9 (d.2.2.1.map A6)), (2, .box [li j.1.elem, .lsl 6 3 0 f.1.length, .lsl 7 1 0 f.2.1.length, .lsl 8 1 0 f.2.2.length]), (6, .row 76 3 (f.1.map Ax)), (7, .row 3 1 (f.2.1.map Aa)), (8, .row 215 1 (f.2.2.map (Dm 2 Dz))), (9, .box [li 0, li 0, li 0, .p (.nils), .p (.nils), .p (.nils), .p (.nils), .p (.nils), lb false]), (10, .box [li g, li (-1), li 2, .lsl 11 3 0 ab.length, .lsl 12 2 0 af.length, .p (.nils), .p (.nils), .p (.nils), lb false]), (11, .row 76 3 (ab.map Ax)), (12, .row 185 2 (af.map A2))], 13⟩) cc (fun af ce => ?_) (fun af cl => ?_)
      .refine AH <| rs AA <| rn 1 Z <| bq ce fun ej aj cf => sx Z (B3 aj Z Z Z Z <| sx Z (DJ aj Z Z Z <| rl Z <| rs AA <| rn 5 Z <| bq cf fun e8 ak cg => sx Z (B3 ak Z Z Z Z <| sx Z (DJ ak Z Z Z <| rl Z <| cd Z cg (fun ch => ?_) (fun ck => ?_)))))
       .refine B0 AA mixed [0, 1, 2, 3, 4, 5, 6, 7, 8, 9, 10, 11, 12, 13, 14, 15] 16 (by kernel_rfl) Z Z Z ?_
        exact Au 9 Z <| bq ch fun ek al ci => As Z (Al Z (B3 al Z Z Z Z <| As Z (HN Z (DJ al Z Z Z <| Au 2 Z <| bq ci fun e9 bh cj => As Z (I2 Z (BW (enc := A2) (l := u.2) (m := [(⟨ej.elem, ek⟩ : Ap)]) bh (fun _ => ⟨Z, Z⟩) Z Z Z Z Z Z <| BK Z <| Ad <| AL cj (wj hA (gi 12 [(12, 27)]) Z Z Z Z)))))))
       exact AE <| Ad <| AL ck (wj hA (gi 13 []) Z Z Z Z)
      exact rg AA <| rl Z <| Aq cl (wj hA (gi 13 []) Z Z Z Z)
     refine AT <| AZ <| BG cm fun es cn => An <| AC <| rs AA <| rl Z <| AF ?_
     cases cn
     exact Ca (nt := 56) (sl := [(8, .lpb 9 0)]) (A8.trans (KC 11 (Nw (enc := Ax) (l := ab) Z) (.cons 8 (.same _) .nil) (.cons 0 Z Z (.same _) (.cons 1 Z Z (.same _) (.cons 2 Z Z (.same _) (.cons 6 Z Z (.same _) (.cons 7 Z Z (.same _) (.cons 8 Z Z (.same _) (.cons 9 Z Z (.box (.cons (.same _) (.cons (.same _) (.cons (.same _) (.cons .hit (.cons (.same _) (.cons (.same _) (.cons (.same _) (.cons (.same _) (.cons (.same _) .nil)))))))))) (.cons 10 Z Z (.box (.cons (.same _) (.cons (.same _) (.cons (.same _) (.cons .hit (.cons (.same _) (.cons (.same _) (.cons (.same _) (.cons (.same _) (.cons (.same _) .nil)))))))))) (.cons 12 Z Z (.same _) .nil)))))))))) (A8.trans (KC 12 (Nw (enc := A2) (l := u.2) Z) (.cons 8 (.same _) .nil) (.cons 0 Z Z (.same _) (.cons 1 Z Z (.same _) (.cons 2 Z Z (.same _) (.cons 6 Z Z (.same _) (.cons 7 Z Z (.same _) (.cons 8 Z Z (.same _) (.cons 9 Z Z (.box (.cons (.same _) (.cons (.same _) (.cons (.same _) (.cons (.same _) (.cons .hit (.cons (.same _) (.cons (.same _) (.cons (.same _) (.cons (.same _) .nil)))))))))) (.cons 10 Z Z (.box (.cons (.same _) (.cons (.same _) (.cons (.same _) (.cons (.same _) (.cons .hit (.cons (.same _) (.cons (.same _) (.cons (.same _) (.cons (.same _) .nil)))))))))) .nil))))))))) (A8.trans (FK (.cons 8 (.same _) .nil) (.cons 0 Z Z (.same _) (.cons 1 Z Z (.same _) (.cons 2 Z Z (.same _) (.cons 6 Z Z (.same _) (.cons 7 Z Z (.same _) (.cons 8 Z Z (.same _) (.cons 9 Z Z (.box (.cons (.same _) (.cons (.same _) (.cons (.same _) (.cons (.same _) (.cons (.same _) (.cons (.nil 2) (.cons (.same _) (.cons (.same _) (.cons (.same _) .nil)))))))))) (.cons 10 Z Z (.same _) .nil))))))))) (A8.trans (FK (.cons 8 (.same _) .nil) (.cons 0 Z Z (.same _) (.cons 1 Z Z (.same _) (.cons 2 Z Z (.same _) (.cons 6 Z Z (.same _) (.cons 7 Z Z (.same _) (.cons 8 Z Z (.same _) (.cons 9 Z Z (.box (.cons (.same _) (.cons (.same _) (.cons (.same _) (.cons (.same _) (.cons (.same _) (.cons (.same _) (.cons (.nil 1) (.cons (.same _) (.cons (.same _) .nil)))))))))) (.cons 10 Z Z (.same _) .nil))))))))) (A8.trans (FK (.cons 8 (.same _) .nil) (.cons 0 Z Z (.same _) (.cons 1 Z Z (.same _) (.cons 2 Z Z (.same _) (.cons 6 Z Z (.same _) (.cons 7 Z Z (.same _) (.cons 8 Z Z (.same _) (.cons 9 Z Z (.box (.cons (.same _) (.cons (.same _) (.cons (.same _) (.cons (.same _) (.cons (.same _) (.cons (.same _) (.cons (.same _) (.cons (.nil 1) (.cons (.same _) .nil)))))))))) (.cons 10 Z Z (.same _) .nil))))))))) (wj hA (gi 10 []) Z Z Z Z)))))) Z
    exact rn 1 Z <| bq co fun fa bi cp => sx Z (BW (enc := A6) (l := d.2.2.1) (m := [(⟨g, (-1), 2, n.1, n.2, ([] : List Ap), ([] : List Int), ([] : List Int), false⟩ : Ag)]) bi (fun _ => ⟨Z, Z⟩) Z Z Z Z Z Z <| rl Z <| AL cp (wf hA [(0, 0), (1, 11), (2, 2), (3, 6), (4, 7), (5, 8)] Z Z Z))
   exact AE <| AL cq (wf hA (gi 3 [(3, 6), (4, 7), (5, 8)]) Z Z Z)
  exact AE <| AL cr (wf hA (gi 6 []) Z Z Z)
 refine AB <| Kg <| AC <| AB <| AH ?_
 apply lp (a := a7) (fun b : ((List Ag) × (List Ai) × (List Int) × (List (List Bl))) => ⟨157, [(0, lq (Ar t)), (1, li g), (7, .lpb 0 0), (8, .lsl 1 9 0 b.1.length), (9, .lpb 2 0)], [(0, .box [li d.1, li d.2.1]), (1, .row 72 9 (b.1.map A6)), (2, .box [li j.1.elem, .lsl 3 3 0 b.2.1.length, .lsl 4 1 0 b.2.2.1.length, .lsl 5 1 0 b.2.2.2.length]), (3, .row 76 3 (b.2.1.map Ax)), (4, .row 3 1 (b.2.2.1.map Aa)), (5, .row 215 1 (b.2.2.2.map (Dm 2 Dz)))], 6⟩) cs
 . exact wf hA (gi 6 []) Z Z Z
 intro b ez a4
 unfold CH at a4
 refine AB <| rs AA <| rl Z <| cd Z a4 (fun ct => ?_) (fun ec => ?_)
 .refine AE <| AC <| AH <| rs AA <| rl Z <| AB <| rs AA <| rn 5 Z <| bq ct fun fb am cu => sx Z (B3 am Z Z Z Z <| sx Z (DJ am Z Z Z <| sx Z (Ae Z Z <| rl Z <| cd Z cu (fun cv => ?_) (fun c1 => ?_))))
  .refine rs AA <| rn 1 Z <| sx Z (CX AA (fun s : ((List Ai) × (List Int) × (List (List Bl))) => .tup []) (fun s : ((List Ai) × (List Int) × (List (List Bl))) => [(0, .box [li d.1, li d.2.1]), (1, .row 72 9 (b.1.map A6)), (2, .box [li j.1.elem, .lsl 3 3 0 s.1.length, .lsl 4 1 0 s.2.1.length, .lsl 5 1 0 s.2.2.length]), (3, .row 76 3 (s.1.map Ax)), (4, .row 3 1 (s.2.1.map Aa)), (5, .row 215 1 (s.2.2.map (Dm 2 Dz)))]) 6 cv Tryz.func149 36 [] [(0, .lpb 2 0)] Z Z Z Z Z Z Z Z (fun A hA s cw => ?_) (fun s c0 => ?_))
   .refine rs AA <| rl Z ?_
    refine B0 AA mixed [0, 1, 2, 3, 4, 5, 6, 7, 8, 9, 10, 11, 12, 13, 14, 15, 16, 17, 18, 19, 20, 21, 22, 23, 24, 25, 26, 27, 28, 29] 30 (by kernel_rfl) Z Z Z ?_
    refine Au 8 Z <| bq cw fun fc an cx => As Z (Al Z (SN (l := b.2.1) an Z Z Z Z <| Au 5 Z <| bq cx fun fd ao cy => As Z (Al Z (SN (l := b.2.2.1) ao Z Z Z Z <| Au 5 Z <| bq cy fun fe ap cz => As Z (Al Z (SN (l := b.2.2.2) ap Z Z Z Z <| BK Z ?_))))))
    cases cz
    exact Me (nt := 36) (sl := []) (A8.trans (J9 3 an Z Z) (A8.trans (J9 4 ao Z Z) (A8.trans (J9 5 ap Z Z) (wj hA (gi 6 []) Z Z Z Z)))) Z
   exact rl Z <| AT <| AZ <| An <| Aq c0 (wf hA (gi 6 []) Z Z Z)
  refine AE <| AC <| rs AA <| rn 5 Z <| bq c1 fun ff aq c2 => sx Z (B3 aq Z Z Z Z <| sx Z (DJ aq Z Z Z <| bq c2 fun c bj c3 => sx Z (Ab bj Z Z Z <| rl Z <| AB ?_)))
  refine B0 AA mixed [0, 1, 2, 3, 4, 5, 6, 7, 8, 9, 10, 11, 12, 13, 14] 15 (by kernel_rfl) Z Z Z ?_
  refine Au 10 Z <| bq c3 fun fg ar c4 => As Z (Al Z (B3 ar Z Z Z Z <| As Z (HN Z (DJ ar Z Z Z <| bq c4 fun i bk c5 => As Z (Al Z (Ub bk Z Z Z Z <| bq c5 fun fh au c6 => As Z (Al Z (B3 au Z Z Z Z <| As Z (NZ Z (Mc (z := i) au Z Z Z Z Z Z Z Z <| BK Z <| AC <| AB <| bq c6 fun e ai c7 => bq c7 fun fi ae c8 => ?_))))))))))
  refine ADM AA mixed (.picks [0, 1, 2, 3, 4, 5, 6, 7, 8, 9, 10, 11, 12, 14, 15] (.alt 13 [16, 17, 18] .done (.alt 16 [13, 17, 18] .done .nil))) 19 ⟨157, [(0, lq (Ar t)), (1, li g), (7, .lpb 0 0), (8, .lsl 1 9 0 b.1.length), (9, .lpb 2 0), (10, li (AP ((b.2.1.length : Int) - 1))), (11, .lpb 3 0)], [(0, .box [li d.1, li d.2.1]), (1, .row 72 9 (b.1.map A6)), (2, .box [li j.1.elem, .lsl 4 3 0 (A5 b.2.1 (AP ((b.2.1.length : Int) - 1)) (⟨e.elem, e.in_, c.out⟩ : Ai)).length, .lsl 5 1 0 (A5 b.2.2.1 (AP ((b.2.1.length : Int) - 1)) c.pos).length, .lsl 6 1 0 (A5 b.2.2.2 (AP ((b.2.1.length : Int) - 1)) i).length]), (3, .box [li c.out, li c.pos]), (4, .row 76 3 ((A5 b.2.1 (AP ((b.2.1.length : Int) - 1)) (⟨e.elem, e.in_, c.out⟩ : Ai)).map Ax)), (5, .row 3 1 ((A5 b.2.2.1 (AP ((b.2.1.length : Int) - 1)) c.pos).map Aa)), (6, .row 215 1 ((A5 b.2.2.2 (AP ((b.2.1.length : Int) - 1)) i).map (Dm 2 Dz)))], 7⟩ (by kernel_rfl) Z ?_ ?_
  .refine ACq <| Au 13 Z <| As Z (Al Z (B3 ai Z Z Z Z <| BK Z <| AAo ?_ ?_))
   .exact Au 1 Z <| As Z (NZ Z (Mc (z := (⟨e.elem, e.in_, c.out⟩ : Ai)) ai Z Z Z Z Z Z Z Z <| As Z (Al Z (B3 ae Z Z Z Z <| As Z (NZ Z (Mc (z := c.pos) ae Z Z Z Z Z Z Z Z <| BK Z <| AAp (wk (gi 3 [(3, 6), (4, 3), (5, 4), (6, 5)]) (free hA _) Z Z Z (.cons Z (.cons Z (.cons Z (.cons Z (.cons Z (.cons Z (.cons Z .nil))))))) (.cons Z Z (.cons Z Z (.cons Z (by simp only [BH]; rfl) (.cons Z Z (.cons Z Z (.cons Z Z (.cons Z Z .nil))))))))))))))
   refine AAo ?_ ?_
   .exact As Z (NZ Z (Mc (z := (⟨e.elem, e.in_, c.out⟩ : Ai)) ai Z Z Z Z Z Z Z Z <| Au 1 Z <| As Z (Al Z (B3 ae Z Z Z Z <| As Z (NZ Z (Mc (z := c.pos) ae Z Z Z Z Z Z Z Z <| BK Z <| AAp (wk (gi 3 [(3, 6), (4, 3), (5, 4), (6, 5)]) (free hA _) Z Z Z (.cons Z (.cons Z (.cons Z (.cons Z (.cons Z (.cons Z (.cons Z .nil))))))) (.cons Z Z (.cons Z Z (.cons Z (by simp only [BH]; rfl) (.cons Z Z (.cons Z Z (.cons Z Z (.cons Z Z .nil))))))))))))))
   exact ACr
  refine AC <| AB ?_
  refine B0 AA mixed [0, 1, 2, 3, 4, 5, 6, 7, 8, 9, 10, 11, 12] 13 (by kernel_rfl) Z Z Z ?_
  refine Au 5 Z <| bq c8 fun x av c9 => As Z (Al Z (B3 av Z Z Z (by simp only [BH]) <| Au 1 Z <| As Z (HN Z (DJ av Z Z Z <| BK Z <| AC <| AB <| rs AA <| rn 2 Z <| bq c9 fun y bl da => sx Z (AM (HA _ _ _ bl) (.inl Z) Z Z Z <| rl Z <| rs AA <| rl Z <| cd Z da (fun db => ?_) (fun ds => ?_))))))
  .refine rs AA <| rn 4 Z <| sx Z (CX AA (fun o : ((List Ai) × (List Ap)) => .p (.agg [.int .i64 g, .int .i64 y, .int .i64 1, .slice 3 (o.1.map Ax), .slice 2 (o.2.map A2), .slice 2 (([] : List Ap).map A2), .slice 1 (([] : List Int).map Aa), .slice 1 (([] : List Int).map Aa), .bool false])) (fun o : ((List Ai) × (List Ap)) => [(0, .box [li d.1, li d.2.1]), (1, .row 72 9 (b.1.map A6)), (2, .box [li j.1.elem, .lsl 4 3 0 (A5 b.2.1 (AP ((b.2.1.length : Int) - 1)) (⟨e.elem, e.in_, c.out⟩ : Ai)).length, .lsl 5 1 0 (A5 b.2.2.1 (AP ((b.2.1.length : Int) - 1)) c.pos).length, .lsl 6 1 0 (A5 b.2.2.2 (AP ((b.2.1.length : Int) - 1)) i).length]), (3, .box [li c.out, li c.pos]), (4, .row 76 3 ((A5 b.2.1 (AP ((b.2.1.length : Int) - 1)) (⟨e.elem, e.in_, c.out⟩ : Ai)).map Ax)), (5, .row 3 1 ((A5 b.2.2.1 (AP ((b.2.1.length : Int) - 1)) c.pos).map Aa)), (6, .row 215 1 ((A5 b.2.2.2 (AP ((b.2.1.length : Int) - 1)) i).map (Dm 2 Dz))), (18, .box [li x.elem, li c.out]), (20, .box [li g, li y, li 1, ls 3 Ax o.1, ls 2 A2 o.2, ls 2 A2 ([] : List Ap), ls 1 Aa ([] : List Int), ls 1 Aa ([] : List Int), lb false])]) 21 db Tryz.func148 56 [.cell 8 72] [(0, .lpb 2 0), (1, li g), (2, li y), (3, li 1)] Z Z Z Z Z Z Z Z (fun A hA o dc => ?_) (fun o dq => ?_))
   .refine rs AA <| rl Z <| rs AA <| rn 7 Z <| bq dc fun ac bm dd => sx Z (Oi (Eu _ _ bm) (fun _ => Z) Z Z (D1.eq (.cons (.one (.own (enc := Ax) (A5 b.2.1 (AP ((b.2.1.length : Int) - 1)) (⟨e.elem, e.in_, c.out⟩ : Ai)) Z (by simp only [BH]))) .nil)) <| rl Z <| AB <| rs AA <| rl Z <| AH ?_)
    apply lp (a := o) (fun v : (Int × (List Ap)) => ⟨56, [(0, .lpb 2 0), (8, .lpb 20 0), (9, .lpb 21 0), (24, .lsl 4 3 0 (A5 b.2.1 (AP ((b.2.1.length : Int) - 1)) (⟨e.elem, e.in_, c.out⟩ : Ai)).length), (25, li ((A5 b.2.1 (AP ((b.2.1.length : Int) - 1)) (⟨e.elem, e.in_, c.out⟩ : Ai)).length : Int)), (26, li v.1)], [(0, .box [li d.1, li d.2.1]), (1, .row 72 9 (b.1.map A6)), (2, .box [li j.1.elem, .lsl 4 3 0 (A5 b.2.1 (AP ((b.2.1.length : Int) - 1)) (⟨e.elem, e.in_, c.out⟩ : Ai)).length, .lsl 5 1 0 (A5 b.2.2.1 (AP ((b.2.1.length : Int) - 1)) c.pos).length, .lsl 6 1 0 (A5 b.2.2.2 (AP ((b.2.1.length : Int) - 1)) i).length]), (3, .box [li c.out, li c.pos]), (4, .row 76 3 ((A5 b.2.1 (AP ((b.2.1.length : Int) - 1)) (⟨e.elem, e.in_, c.out⟩ : Ai)).map Ax)), (5, .row 3 1 ((A5 b.2.2.1 (AP ((b.2.1.length : Int) - 1)) c.pos).map Aa)), (6, .row 215 1 ((A5 b.2.2.2 (AP ((b.2.1.length : Int) - 1)) i).map (Dm 2 Dz))), (18, .box [li x.elem, li c.out]), (20, .box [li 0, li 0, li 0, .p (.nils), .p (.nils), .p (.nils), .p (.nils), .p (.nils), lb false]), (21, .box [li g, li y, li 1, .lsl 22 3 0 ac.length, .lsl 23 2 0 v.2.length, .p (.nils), .p (.nils), .p (.nils), lb false]), (22, .row 76 3 (ac.map Ax)), (23, .row 185 2 (v.2.map A2))], 24⟩) dd
    . exact A8.trans (B8 22 4 185 2 Z Z Z Z) (wk (gi 21 [(21, 22), (22, 21), (23, 23)]) (LF hA _ Z) Z Z Z (.cons Z (.cons Z (.cons Z (.cons (by simp only [BH]; rfl) (.cons Z (.cons Z .nil)))))) (.cons Z Z (.cons Z Z (.cons Z (by simp only [BH]; rfl) (.cons Z Z (.cons Z Z (.cons Z Z (.cons Z Z (.cons Z Z (.cons Z Z (.cons Z Z (.cons Z Z (.cons Z Z .nil)))))))))))))
    intro v e0 a5
    unfold ML at a5
    refine rs AA <| rl Z <| AB <| cd Z a5 (fun de => ?_) (fun dn => ?_)
    .refine AE <| AC <| jb (fun ag : (List Ap) => ⟨56, [(0, .lpb 2 0), (8, .lpb 20 0), (9, .lpb 21 0), (24, .lsl 4 3 0 (A5 b.2.1 (AP ((b.2.1.length : Int) - 1)) (⟨e.elem, e.in_, c.out⟩ : Ai)).length), (25, li ((A5 b.2.1 (AP ((b.2.1.length : Int) - 1)) (⟨e.elem, e.in_, c.out⟩ : Ai)).length : Int)), (26, li v.1)], [(0, .box [li d.1, li d.2.1]), (1, .row 72 9 (b.1.map A6)), (2, .box [li j.1.elem, .lsl 4 3 0 (A5 b.2.1 (AP ((b.2.1.length : Int) - 1)) (⟨e.elem, e.in_, c.out⟩ : Ai)).length, .lsl 5 1 0 (A5 b.2.2.1 (AP ((b.2.1.length : Int) - 1)) c.pos).length, .lsl 6 1 0 (A5 b.2.2.2 (AP ((b.2.1.length : Int) - 1)) i).length]), (3, .box [li c.out, li c.pos]), (4, .row 76 3 ((A5 b.2.1 (AP ((b.2.1.length : Int) - 1)) (⟨e.elem, e.in_, c.out⟩ : Ai)).map Ax)), (5, .row 3 1 ((A5 b.2.2.1 (AP ((b.2.1.length : Int) - 1)) c.pos).map Aa)), (6, .row 215 1 ((A5 b.2.2.2 (AP ((b.2.1.length : Int) - 1)) i).map (Dm 2 Dz))), (18, .box [li x.elem, li c.out]), (20, .box [li 0, li 0, li 0, .p (.nils), .p (.nils), .p (.nils), .p (.nils), .p (.nils), lb false]), (21, .box [li g, li y, li 1, .lsl 22 3 0 ac.length, .lsl 23 2 0 ag.length, .p (.nils), .p (.nils), .p (.nils), lb false]), (22, .row 76 3 (ac.map Ax)), (23, .row 185 2 (ag.map A2))], 24⟩) de (fun ag df => ?_) (fun ag dm => ?_)
     .refine AH <| rs AA <| rn 1 Z <| bq df fun el aw dg => sx Z (B3 aw Z Z Z (by simp only [BH]) <| sx Z (DJ aw Z Z Z <| rl Z <| rs AA <| rn 5 Z <| bq dg fun fj ax dh => sx Z (B3 ax Z Z Z (by simp only [BH]) <| sx Z (DJ ax Z Z Z <| rl Z <| cd Z dh (fun di => ?_) (fun dl => ?_)))))
      .refine B0 AA mixed [0, 1, 2, 3, 4, 5, 6, 7, 8, 9, 10, 11, 12, 13, 14, 15] 16 (by kernel_rfl) Z Z Z ?_
       exact Au 9 Z <| bq di fun em ay dj => As Z (Al Z (B3 ay Z Z Z (by simp only [BH]) <| As Z (HN Z (DJ ay Z Z Z <| Au 2 Z <| bq dj fun fk bn dk => As Z (I2 Z (BW (enc := A2) (l := v.2) (m := [(⟨el.elem, em⟩ : Ap)]) bn (fun _ => ⟨Z, Z⟩) Z Z Z Z Z Z <| BK Z <| Ad <| AL dk (wk (gi 23 [(23, 38)]) (LF hA _ Z) Z Z Z (.cons Z (.cons Z (.cons Z (.cons (by simp only [BH]; rfl) (.cons Z (.cons Z .nil)))))) (.cons Z Z (.cons Z Z (.cons Z (by simp only [BH]; rfl) (.cons Z Z (.cons Z Z (.cons Z Z (.cons Z Z (.cons Z Z (.cons Z Z (.cons Z Z (.cons Z Z (.cons Z Z .nil)))))))))))))))))))
      exact AE <| Ad <| AL dl (wk (gi 24 []) (LF hA _ Z) Z Z Z (.cons Z (.cons Z (.cons Z (.cons (by simp only [BH]; rfl) (.cons Z (.cons Z .nil)))))) (.cons Z Z (.cons Z Z (.cons Z (by simp only [BH]; rfl) (.cons Z Z (.cons Z Z (.cons Z Z (.cons Z Z (.cons Z Z (.cons Z Z (.cons Z Z (.cons Z Z (.cons Z Z .nil)))))))))))))
     exact rg AA <| rl Z <| Aq dm (wk (gi 24 []) (LF hA _ Z) Z Z Z (.cons Z (.cons Z (.cons Z (.cons (by simp only [BH]; rfl) (.cons Z (.cons Z .nil)))))) (.cons Z Z (.cons Z Z (.cons Z (by simp only [BH]; rfl) (.cons Z Z (.cons Z Z (.cons Z Z (.cons Z Z (.cons Z Z (.cons Z Z (.cons Z Z (.cons Z Z (.cons Z Z .nil)))))))))))))
    refine AT <| AZ <| BG dn fun et dp => An <| AC <| rs AA <| rl Z <| AF ?_
    cases dp
    exact Ca (nt := 56) (sl := [(8, .lpb 20 0)]) (A8.trans (KC 22 (Nw (enc := Ax) (l := ac) Z) (.cons 8 (.same _) .nil) (.cons 0 Z Z (.same _) (.cons 1 Z Z (.same _) (.cons 2 Z Z (.same _) (.cons 3 Z Z (.same _) (.cons 4 Z Z (.same _) (.cons 5 Z Z (.same _) (.cons 6 Z Z (.same _) (.cons 18 Z Z (.same _) (.cons 20 Z Z (.box (.cons (.same _) (.cons (.same _) (.cons (.same _) (.cons .hit (.cons (.same _) (.cons (.same _) (.cons (.same _) (.cons (.same _) (.cons (.same _) .nil)))))))))) (.cons 21 Z Z (.box (.cons (.same _) (.cons (.same _) (.cons (.same _) (.cons .hit (.cons (.same _) (.cons (.same _) (.cons (.same _) (.cons (.same _) (.cons (.same _) .nil)))))))))) (.cons 23 Z Z (.same _) .nil)))))))))))) (A8.trans (KC 23 (Nw (enc := A2) (l := v.2) Z) (.cons 8 (.same _) .nil) (.cons 0 Z Z (.same _) (.cons 1 Z Z (.same _) (.cons 2 Z Z (.same _) (.cons 3 Z Z (.same _) (.cons 4 Z Z (.same _) (.cons 5 Z Z (.same _) (.cons 6 Z Z (.same _) (.cons 18 Z Z (.same _) (.cons 20 Z Z (.box (.cons (.same _) (.cons (.same _) (.cons (.same _) (.cons (.same _) (.cons .hit (.cons (.same _) (.cons (.same _) (.cons (.same _) (.cons (.same _) .nil)))))))))) (.cons 21 Z Z (.box (.cons (.same _) (.cons (.same _) (.cons (.same _) (.cons (.same _) (.cons .hit (.cons (.same _) (.cons (.same _) (.cons (.same _) (.cons (.same _) .nil)))))))))) .nil))))))))))) (A8.trans (FK (.cons 8 (.same _) .nil) (.cons 0 Z Z (.same _) (.cons 1 Z Z (.same _) (.cons 2 Z Z (.same _) (.cons 3 Z Z (.same _) (.cons 4 Z Z (.same _) (.cons 5 Z Z (.same _) (.cons 6 Z Z (.same _) (.cons 18 Z Z (.same _) (.cons 20 Z Z (.box (.cons (.same _) (.cons (.same _) (.cons (.same _) (.cons (.same _) (.cons (.same _) (.cons (.nil 2) (.cons (.same _) (.cons (.same _) (.cons (.same _) .nil)))))))))) (.cons 21 Z Z (.same _) .nil))))))))))) (A8.trans (FK (.cons 8 (.same _) .nil) (.cons 0 Z Z (.same _) (.cons 1 Z Z (.same _) (.cons 2 Z Z (.same _) (.cons 3 Z Z (.same _) (.cons 4 Z Z (.same _) (.cons 5 Z Z (.same _) (.cons 6 Z Z (.same _) (.cons 18 Z Z (.same _) (.cons 20 Z Z (.box (.cons (.same _) (.cons (.same _) (.cons (.same _) (.cons (.same _) (.cons (.same _) (.cons (.same _) (.cons (.nil 1) (.cons (.same _) (.cons (.same _) .nil)))))))))) (.cons 21 Z Z (.same _) .nil))))))))))) (A8.trans (FK (.cons 8 (.same _) .nil) (.cons 0 Z Z (.same _) (.cons 1 Z Z (.same _) (.cons 2 Z Z (.same _) (.cons 3 Z Z (.same _) (.cons 4 Z Z (.same _) (.cons 5 Z Z (.same _) (.cons 6 Z Z (.same _) (.cons 18 Z Z (.same _) (.cons 20 Z Z (.box (.cons (.same _) (.cons (.same _) (.cons (.same _) (.cons (.same _) (.cons (.same _) (.cons (.same _) (.cons (.same _) (.cons (.nil 1) (.cons (.same _) .nil)))))))))) (.cons 21 Z Z (.same _) .nil))))))))))) (wk (gi 21 []) (LF hA _ Z) Z Z Z (.cons Z .nil) (.cons Z Z (.cons Z Z (.cons Z (by simp only [BH]; rfl) (.cons Z Z (.cons Z Z (.cons Z Z (.cons Z Z (.cons Z Z (.cons Z Z .nil))))))))))))))) Z
   exact rn 1 Z <| bq dq fun fl bo dr => sx Z (BW (enc := A6) (l := b.1) (m := [(⟨g, y, 1, o.1, o.2, ([] : List Ap), ([] : List Int), ([] : List Int), false⟩ : Ag)]) bo (fun _ => ⟨Z, Z⟩) Z Z Z Z Z Z <| rl Z <| AT <| AZ <| An <| Aq dr (wk [(0, 0), (1, 22), (2, 2), (3, 4), (4, 5), (5, 6)] (free hA _) Z Z Z (.cons Z (.cons Z (.cons Z (.cons Z (.cons Z .nil))))) (.cons Z Z (.cons Z Z (.cons Z (by simp only [BH]; rfl) (.cons Z Z (.cons Z Z (.cons Z Z .nil))))))))
  refine AE <| AC <| rs AA <| rn 2 Z <| bq ds fun aa bp dt => sx Z (AM (CK _ _ _ bp) (.inl Z) Z Z Z <| rl Z <| AB <| rs AA <| rl Z <| cd Z dt (fun du => ?_) (fun ea => ?_))
  .refine rs AA <| rn 3 Z <| sx Z (CX AA (fun q : ((List Ai) × (List Ap)) => .p (.agg [.int .i64 g, .int .i64 (-1), .int .i64 3, .slice 3 (q.1.map Ax), .slice 2 (q.2.map A2), .slice 2 (([] : List Ap).map A2), .slice 1 (([] : List Int).map Aa), .slice 1 (([] : List Int).map Aa), .bool false])) (fun q : ((List Ai) × (List Ap)) => [(0, .box [li d.1, li d.2.1]), (1, .row 72 9 (b.1.map A6)), (2, .box [li j.1.elem, .lsl 4 3 0 (A5 b.2.1 (AP ((b.2.1.length : Int) - 1)) (⟨e.elem, e.in_, c.out⟩ : Ai)).length, .lsl 5 1 0 (A5 b.2.2.1 (AP ((b.2.1.length : Int) - 1)) c.pos).length, .lsl 6 1 0 (A5 b.2.2.2 (AP ((b.2.1.length : Int) - 1)) i).length]), (3, .box [li c.out, li c.pos]), (4, .row 76 3 ((A5 b.2.1 (AP ((b.2.1.length : Int) - 1)) (⟨e.elem, e.in_, c.out⟩ : Ai)).map Ax)), (5, .row 3 1 ((A5 b.2.2.1 (AP ((b.2.1.length : Int) - 1)) c.pos).map Aa)), (6, .row 215 1 ((A5 b.2.2.2 (AP ((b.2.1.length : Int) - 1)) i).map (Dm 2 Dz))), (18, .box [li x.elem, li c.out]), (20, .box [li aa.1.elem, li aa.1.fin]), (21, .box [li g, li (-1), li 3, ls 3 Ax q.1, ls 2 A2 q.2, ls 2 A2 ([] : List Ap), ls 1 Aa ([] : List Int), ls 1 Aa ([] : List Int), lb false])]) 22 du Tryz.func148 56 [.cell 8 72] [(0, .lpb 2 0), (1, li g), (2, li (-1)), (3, li 3)] Z Z Z Z Z Z Z Z (fun A hA q dv => ?_) (fun q d8 => ?_))
   .refine rs AA <| rl Z <| rs AA <| rn 7 Z <| bq dv fun ad br dw => sx Z (Oi (Eu _ _ br) (fun _ => Z) Z Z (D1.eq (.cons (.one (.own (enc := Ax) (A5 b.2.1 (AP ((b.2.1.length : Int) - 1)) (⟨e.elem, e.in_, c.out⟩ : Ai)) Z (by simp only [BH]))) .nil)) <| rl Z <| AB <| rs AA <| rl Z <| AH ?_)
    apply lp (a := q) (fun w : (Int × (List Ap)) => ⟨56, [(0, .lpb 2 0), (8, .lpb 21 0), (9, .lpb 22 0), (24, .lsl 4 3 0 (A5 b.2.1 (AP ((b.2.1.length : Int) - 1)) (⟨e.elem, e.in_, c.out⟩ : Ai)).length), (25, li ((A5 b.2.1 (AP ((b.2.1.length : Int) - 1)) (⟨e.elem, e.in_, c.out⟩ : Ai)).length : Int)), (26, li w.1)], [(0, .box [li d.1, li d.2.1]), (1, .row 72 9 (b.1.map A6)), (2, .box [li j.1.elem, .lsl 4 3 0 (A5 b.2.1 (AP ((b.2.1.length : Int) - 1)) (⟨e.elem, e.in_, c.out⟩ : Ai)).length, .lsl 5 1 0 (A5 b.2.2.1 (AP ((b.2.1.length : Int) - 1)) c.pos).length, .lsl 6 1 0 (A5 b.2.2.2 (AP ((b.2.1.length : Int) - 1)) i).length]), (3, .box [li c.out, li c.pos]), (4, .row 76 3 ((A5 b.2.1 (AP ((b.2.1.length : Int) - 1)) (⟨e.elem, e.in_, c.out⟩ : Ai)).map Ax)), (5, .row 3 1 ((A5 b.2.2.1 (AP ((b.2.1.length : Int) - 1)) c.pos).map Aa)), (6, .row 215 1 ((A5 b.2.2.2 (AP ((b.2.1.length : Int) - 1)) i).map (Dm 2 Dz))), (18, .box [li x.elem, li c.out]), (20, .box [li aa.1.elem, li aa.1.fin]), (21, .box [li 0, li 0, li 0, .p (.nils), .p (.nils), .p (.nils), .p (.nils), .p (.nils), lb false]), (22, .box [li g, li (-1), li 3, .lsl 23 3 0 ad.length, .lsl 24 2 0 w.2.length, .p (.nils), .p (.nils), .p (.nils), lb false]), (23, .row 76 3 (ad.map Ax)), (24, .row 185 2 (w.2.map A2))], 25⟩) dw
    . exact A8.trans (B8 23 4 185 2 Z Z Z Z) (wk (gi 22 [(22, 23), (23, 22), (24, 24)]) (LF hA _ Z) Z Z Z (.cons Z (.cons Z (.cons Z (.cons (by simp only [BH]; rfl) (.cons Z (.cons Z .nil)))))) (.cons Z Z (.cons Z Z (.cons Z (by simp only [BH]; rfl) (.cons Z Z (.cons Z Z (.cons Z Z (.cons Z Z (.cons Z Z (.cons Z Z (.cons Z Z (.cons Z Z (.cons Z Z (.cons Z Z .nil))))))))))))))
    intro w e1 a6
    unfold MM at a6
    refine rs AA <| rl Z <| AB <| cd Z a6 (fun dx => ?_) (fun d6 => ?_)
    .refine AE <| AC <| jb (fun ah : (List Ap) => ⟨56, [(0, .lpb 2 0), (8, .lpb 21 0), (9, .lpb 22 0), (24, .lsl 4 3 0 (A5 b.2.1 (AP ((b.2.1.length : Int) - 1)) (⟨e.elem, e.in_, c.out⟩ : Ai)).length), (25, li ((A5 b.2.1 (AP ((b.2.1.length : Int) - 1)) (⟨e.elem, e.in_, c.out⟩ : Ai)).length : Int)), (26, li w.1)], [(0, .box [li d.1, li d.2.1]), (1, .row 72 9 (b.1.map A6)), (2, .box [li j.1.elem, .lsl 4 3 0 (A5 b.2.1 (AP ((b.2.1.length : Int) - 1)) (⟨e.elem, e.in_, c.out⟩ : Ai)).length, .lsl 5 1 0 (A5 b.2.2.1 (AP ((b.2.1.length : Int) - 1)) c.pos).length, .lsl 6 1 0 (A5 b.2.2.2 (AP ((b.2.1.length : Int) - 1)) i).length]), (3, .box [li c.out, li c.pos]), (4, .row 76 3 ((A5 b.2.1 (AP ((b.2.1.length : Int) - 1)) (⟨e.elem, e.in_, c.out⟩ : Ai)).map Ax)), (5, .row 3 1 ((A5 b.2.2.1 (AP ((b.2.1.length : Int) - 1)) c.pos).map Aa)), (6, .row 215 1 ((A5 b.2.2.2 (AP ((b.2.1.length : Int) - 1)) i).map (Dm 2 Dz))), (18, .box [li x.elem, li c.out]), (20, .box [li aa.1.elem, li aa.1.fin]), (21, .box [li 0, li 0, li 0, .p (.nils), .p (.nils), .p (.nils), .p (.nils), .p (.nils), lb false]), (22, .box [li g, li (-1), li 3, .lsl 23 3 0 ad.length, .lsl 24 2 0 ah.length, .p (.nils), .p (.nils), .p (.nils), lb false]), (23, .row 76 3 (ad.map Ax)), (24, .row 185 2 (ah.map A2))], 25⟩) dx (fun ah dy => ?_) (fun ah d5 => ?_)
     .refine AH <| rs AA <| rn 1 Z <| bq dy fun eo az dz => sx Z (B3 az Z Z Z (by simp only [BH]) <| sx Z (DJ az Z Z Z <| rl Z <| rs AA <| rn 5 Z <| bq dz fun fm a0 d0 => sx Z (B3 a0 Z Z Z (by simp only [BH]) <| sx Z (DJ a0 Z Z Z <| rl Z <| cd Z d0 (fun d1 => ?_) (fun d4 => ?_)))))
      .refine B0 AA mixed [0, 1, 2, 3, 4, 5, 6, 7, 8, 9, 10, 11, 12, 13, 14, 15] 16 (by kernel_rfl) Z Z Z ?_
       exact Au 9 Z <| bq d1 fun ep a1 d2 => As Z (Al Z (B3 a1 Z Z Z (by simp only [BH]) <| As Z (HN Z (DJ a1 Z Z Z <| Au 2 Z <| bq d2 fun fo bs d3 => As Z (I2 Z (BW (enc := A2) (l := w.2) (m := [(⟨eo.elem, ep⟩ : Ap)]) bs (fun _ => ⟨Z, Z⟩) Z Z Z Z Z Z <| BK Z <| Ad <| AL d3 (wk (gi 24 [(24, 39)]) (LF hA _ Z) Z Z Z (.cons Z (.cons Z (.cons Z (.cons (by simp only [BH]; rfl) (.cons Z (.cons Z .nil)))))) (.cons Z Z (.cons Z Z (.cons Z (by simp only [BH]; rfl) (.cons Z Z (.cons Z Z (.cons Z Z (.cons Z Z (.cons Z Z (.cons Z Z (.cons Z Z (.cons Z Z (.cons Z Z (.cons Z Z .nil))))))))))))))))))))
      exact AE <| Ad <| AL d4 (wk (gi 25 []) (LF hA _ Z) Z Z Z (.cons Z (.cons Z (.cons Z (.cons (by simp only [BH]; rfl) (.cons Z (.cons Z .nil)))))) (.cons Z Z (.cons Z Z (.cons Z (by simp only [BH]; rfl) (.cons Z Z (.cons Z Z (.cons Z Z (.cons Z Z (.cons Z Z (.cons Z Z (.cons Z Z (.cons Z Z (.cons Z Z (.cons Z Z .nil))))))))))))))
     exact rg AA <| rl Z <| Aq d5 (wk (gi 25 []) (LF hA _ Z) Z Z Z (.cons Z (.cons Z (.cons Z (.cons (by simp only [BH]; rfl) (.cons Z (.cons Z .nil)))))) (.cons Z Z (.cons Z Z (.cons Z (by simp only [BH]; rfl) (.cons Z Z (.cons Z Z (.cons Z Z (.cons Z Z (.cons Z Z (.cons Z Z (.cons Z Z (.cons Z Z (.cons Z Z (.cons Z Z .nil))))))))))))))
    refine AT <| AZ <| BG d6 fun eu d7 => An <| AC <| rs AA <| rl Z <| AF ?_
    cases d7
    exact Ca (nt := 56) (sl := [(8, .lpb 21 0)]) (A8.trans (KC 23 (Nw (enc := Ax) (l := ad) Z) (.cons 8 (.same _) .nil) (.cons 0 Z Z (.same _) (.cons 1 Z Z (.same _) (.cons 2 Z Z (.same _) (.cons 3 Z Z (.same _) (.cons 4 Z Z (.same _) (.cons 5 Z Z (.same _) (.cons 6 Z Z (.same _) (.cons 18 Z Z (.same _) (.cons 20 Z Z (.same _) (.cons 21 Z Z (.box (.cons (.same _) (.cons (.same _) (.cons (.same _) (.cons .hit (.cons (.same _) (.cons (.same _) (.cons (.same _) (.cons (.same _) (.cons (.same _) .nil)))))))))) (.cons 22 Z Z (.box (.cons (.same _) (.cons (.same _) (.cons (.same _) (.cons .hit (.cons (.same _) (.cons (.same _) (.cons (.same _) (.cons (.same _) (.cons (.same _) .nil)))))))))) (.cons 24 Z Z (.same _) .nil))))))))))))) (A8.trans (KC 24 (Nw (enc := A2) (l := w.2) Z) (.cons 8 (.same _) .nil) (.cons 0 Z Z (.same _) (.cons 1 Z Z (.same _) (.cons 2 Z Z (.same _) (.cons 3 Z Z (.same _) (.cons 4 Z Z (.same _) (.cons 5 Z Z (.same _) (.cons 6 Z Z (.same _) (.cons 18 Z Z (.same _) (.cons 20 Z Z (.same _) (.cons 21 Z Z (.box (.cons (.same _) (.cons (.same _) (.cons (.same _) (.cons (.same _) (.cons .hit (.cons (.same _) (.cons (.same _) (.cons (.same _) (.cons (.same _) .nil)))))))))) (.cons 22 Z Z (.box (.cons (.same _) (.cons (.same _) (.cons (.same _) (.cons (.same _) (.cons .hit (.cons (.same _) (.cons (.same _) (.cons (.same _) (.cons (.same _) .nil)))))))))) .nil)))))))))))) (A8.trans (FK (.cons 8 (.same _) .nil) (.cons 0 Z Z (.same _) (.cons 1 Z Z (.same _) (.cons 2 Z Z (.same _) (.cons 3 Z Z (.same _) (.cons 4 Z Z (.same _) (.cons 5 Z Z (.same _) (.cons 6 Z Z (.same _) (.cons 18 Z Z (.same _) (.cons 20 Z Z (.same _) (.cons 21 Z Z (.box (.cons (.same _) (.cons (.same _) (.cons (.same _) (.cons (.same _) (.cons (.same _) (.cons (.nil 2) (.cons (.same _) (.cons (.same _) (.cons (.same _) .nil)))))))))) (.cons 22 Z Z (.same _) .nil)))))))))))) (A8.trans (FK (.cons 8 (.same _) .nil) (.cons 0 Z Z (.same _) (.cons 1 Z Z (.same _) (.cons 2 Z Z (.same _) (.cons 3 Z Z (.same _) (.cons 4 Z Z (.same _) (.cons 5 Z Z (.same _) (.cons 6 Z Z (.same _) (.cons 18 Z Z (.same _) (.cons 20 Z Z (.same _) (.cons 21 Z Z (.box (.cons (.same _) (.cons (.same _) (.cons (.same _) (.cons (.same _) (.cons (.same _) (.cons (.same _) (.cons (.nil 1) (.cons (.same _) (.cons (.same _) .nil)))))))))) (.cons 22 Z Z (.same _) .nil)))))))))))) (A8.trans (FK (.cons 8 (.same _) .nil) (.cons 0 Z Z (.same _) (.cons 1 Z Z (.same _) (.cons 2 Z Z (.same _) (.cons 3 Z Z (.same _) (.cons 4 Z Z (.same _) (.cons 5 Z Z (.same _) (.cons 6 Z Z (.same _) (.cons 18 Z Z (.same _) (.cons 20 Z Z (.same _) (.cons 21 Z Z (.box (.cons (.same _) (.cons (.same _) (.cons (.same _) (.cons (.same _) (.cons (.same _) (.cons (.same _) (.cons (.same _) (.cons (.nil 1) (.cons (.same _) .nil)))))))))) (.cons 22 Z Z (.same _) .nil)))))))))))) (wk (gi 22 []) (LF hA _ Z) Z Z Z (.cons Z .nil) (.cons Z Z (.cons Z Z (.cons Z (by simp only [BH]; rfl) (.cons Z Z (.cons Z Z (.cons Z Z (.cons Z Z (.cons Z Z (.cons Z Z (.cons Z Z .nil)))))))))))))))) Z
   exact rn 1 Z <| bq d8 fun fp bt d9 => sx Z (BW (enc := A6) (l := b.1) (m := [(⟨g, (-1), 3, q.1, q.2, ([] : List Ap), ([] : List Int), ([] : List Int), false⟩ : Ag)]) bt (fun _ => ⟨Z, Z⟩) Z Z Z Z Z Z <| rl Z <| AT <| AZ <| An <| Aq d9 (wk [(0, 0), (1, 23), (2, 2), (3, 4), (4, 5), (5, 6)] (free hA _) Z Z Z (.cons Z (.cons Z (.cons Z (.cons Z (.cons Z .nil))))) (.cons Z Z (.cons Z Z (.cons Z (by simp only [BH]; rfl) (.cons Z Z (.cons Z Z (.cons Z Z .nil))))))))
  exact AE <| AC <| rs AA <| rl Z <| AT <| MZ Z <| BG ea fun ev eb => MZ Z <| AZ <| ABu <| An <| Aq eb (wk (gi 3 [(3, 4), (4, 5), (5, 6)]) (free hA _) Z Z Z (.cons Z (.cons Z (.cons Z (.cons Z (.cons Z .nil))))) (.cons Z Z (.cons Z Z (.cons Z (by simp only [BH]; rfl) (.cons Z Z (.cons Z Z (.cons Z Z .nil)))))))
 refine AT <| AZ <| BG ec fun ew ed => An <| AC <| AT <| ABu <| MZ Z <| BG ed fun ex ee => An <| AC <| rs AA <| rl Z <| AF <| JN ?_
 cases ee
 exact er (IA Z (.one (.own (enc := A6) b.1 Z Z))) Le.rfl
end Go.E
/- Plain functions, and walks in step with them. Written by a program (gen.py). No condition. -/
set_option maxRecDepth 100000
set_option maxHeartbeats 1000000
namespace Go.E
open Go Go.RowKit Go.Proofs
noncomputable def E7 (b : Az) (e : Int) (a : Int × (List Ag)) : Option ((Int × (List Ag)) ⊕ ((List Ag) × Int)) :=
 bif decide (a.1 < e) then (K5 b a.1).bind fun c => (Bs a.2 c).bind fun d => some (.inl (AP (a.1 + 1), d)) else (bif decide (64 < (a.2.length : Int)) then some (([] : List Ag), 3) else some (a.2, 0)).map .inr
noncomputable def Jk (a : Az) : Option ((List Ag) × Int) :=
 (D4 a).bind fun b => AO (E7 a b) (0, ([] : List Ag))
theorem YF (c : Az) (r : ((List Ag) × Int)) (h : Jk c = some r) : AAL Tryz.prog 81 [] 0 [lq (Ar c)] (.tup [.lsl 0 9 0 r.1.length, li r.2]) [(0, .row 72 9 (r.1.map A6))] 1 := by
 refine fnM AA Tryz.func81 21 [.tmp 2, .tmp 3] [(0, lq (Ar c))] Z Z Z Z Z Z (fun A hA => ?_)
 unfold Jk at h
 refine rs AA <| rl Z <| rs AA <| rl Z <| AB <| rs AA <| rn 1 Z <| bq h fun u g s => sx Z (AM (Qr _ _ g) (.inl Z) Z Z Z <| rl Z <| AH ?_)
 apply lp (a := r) (fun b : (Int × (List Ag)) => ⟨21, [(0, lq (Ar c)), (4, .lsl 0 9 0 b.2.length), (7, li u), (8, li b.1)], [(0, .row 72 9 (b.2.map A6))], 1⟩) s
 . exact A8.trans (CS 4 72 9 Z) (wj hA [(0, 0)] Z Z Z Z)
 intro b w d
 unfold E7 at d
 refine rs AA <| rl Z <| AB <| cd Z d (fun i => ?_) (fun n => ?_)
 .exact AE <| AC <| AB <| AH <| rs AA <| rl Z <| rg AA <| rn 3 Z <| bq i fun t e j => sx Z (AM (ZJ _ _ _ e) (.inr Z) Z Z Z <| bq j fun x f k => sx Z (BW (enc := A6) (l := b.2) (m := t) f (fun _ => ⟨Z, Z⟩) Z Z Z Z Z Z <| rl Z <| Ad <| AC <| rg AA <| rl Z <| Aq k (wj hA [(0, 1)] Z Z Z Z)))
 refine AT <| AZ <| CF n fun v o => An <| AC <| AB <| rs AA <| rl Z <| cd Z o (fun p => ?_) (fun q => ?_)
 .refine rs AA <| rl Z <| AF <| AG ?_
  cases p
  exact Ca (nt := 21) (sl := [(2, .lsl 0 9 0 ([] : List Ag).length), (3, li 3)]) (A8.trans (CS 2 72 9 Z) (wj hA [(0, 1)] Z Z Z Z)) Z
 refine AE <| AC <| rs AA <| rl Z <| AF ?_
 cases q
 exact Ca (nt := 21) (sl := [(2, .lsl 0 9 0 b.2.length), (3, li 0)]) (wj hA [(0, 0)] Z Z Z Z) Z
noncomputable def Db (a : (List Ap)) : Option (List Ap) :=
 M2 a (some []) ((Bs ([] : List Ap) a).bind fun b => some b)
theorem ND (a : (List Ap)) (r : (List Ap)) (h : Db a = some r) : Aw Tryz.prog 114 [.slice 2 (a.map A2)] (· = .slice 2 (r.map A2)) := by
 refine fn AA Tryz.func114 Z Z 8 Z [.tmp 2] Z [(0, .p (.slice 2 (a.map A2)))] Z Z fun A hA => ?_
 unfold Db at h
 refine rs AA <| rl Z <| AB <| rs AA <| rn 1 Z <| sx Z (Kt h Z Z Z (fun d => ?_) (fun e => ?_))
 .refine rl Z <| R8 Z <| rs AA <| rl Z <| AF <| AG ?_
  cases d
  exact er Z (Le.nil _)
 refine rl Z <| Td Z <| AE <| AC <| rs AA <| rn 2 Z <| bq e fun f b c => sx Z (BW (enc := A2) (l := ([] : List Ap)) (m := a) b (fun _ => ⟨Z, Z⟩) Z Z Z Z Z Z <| rl Z <| AF ?_)
 have hr := Option.some.inj c; subst hr
 exact er (IA Z (.one (.own (enc := A2) f Z Z))) Le.rfl
noncomputable def B2 (a : Az) : Option AK :=
 (H3 a.p).bind fun b => some b
theorem Hq (a : Az) (r : AK) (h : B2 a = some r) : Aw Tryz.prog 49 [.place (Ar a) 0] (· = .agg (AN r)) := by
 refine fn AA Tryz.func49 Z Z 8 Z [.cell 2 27] Z [(0, .p (.place (Ar a) 0))] Z Z fun A hA => ?_
 unfold B2 at h
 refine rs AA <| rl Z <| rs AA <| rn 4 Z <| bq h fun d b c => sx Z (AM (SU _ _ b) (.inr Z) Z Z Z <| rl Z <| AF ?_)
 have hr := Option.some.inj c; subst hr
 exact er Z Le.rfl
noncomputable def FL (g : Az) (e : (Int × (List AI))) (c : Ai) (b : (List Int)) (a : Int × (List AI)) : Option ((Int × (List AI)) ⊕ ((Int × (List AI)) ⊕ (List AI))) :=
 bif decide (a.1 < (b.length : Int)) then (((AY b a.1).bind fun d => (Bh g (⟨c.elem, d⟩ : AI)).bind fun h => bif h.2 then (Bs a.2 [(⟨c.elem, d⟩ : AI)]).bind fun i => some i else some a.2 : Option ((List AI)))).bind fun (f : (List AI)) => some (.inl (AP (a.1 + 1), f)) else some (.inr (.inl (AP (e.1 + 1), a.2)))
noncomputable def HD (c : Az) (d : Ag) (b : Int × (List AI)) : Option ((Int × (List AI)) ⊕ (List AI)) :=
 bif decide (b.1 < (d.steps.length : Int)) then (AY d.steps b.1).bind fun a => (((BX c a.elem).bind fun e => bif (e == 2) then some [AP (3 - (if a.out > a.in_ then a.out else a.in_))] else bif (e == 3) then bif decide (1 < a.in_) then some [0, 1] else some [2, 3] else some ([] : List Int) : Option ((List Int)))).bind fun (f : (List Int)) => AO (FL c b a f) (0, b.2) else some (.inr b.2)
noncomputable def Hc (a : Az) (b : Ag) : Option (List AI) :=
 AO (HD a b) (0, ([] : List AI))
theorem VT (e : Az) (b : Ag) (r : (List AI)) (h : Hc e b = some r) : Aw Tryz.prog 115 [.place (Ar e) 0, .agg (A6 b)] (· = .slice 2 (r.map AW)) := by
 refine fn AA Tryz.func115 Z Z 67 Z [.tmp 4] Z [(0, .p (.place (Ar e) 0)), (1, .p (.agg (A6 b)))] Z Z fun A hA => ?_
 unfold Hc at h
 refine rs AA <| rl Z <| rs AA <| rl Z <| AB <| rs AA <| rn 2 Z <| sx Z (Ae Z Z <| rl Z <| AH ?_)
 apply lp (a := r) (fun c : (Int × (List AI)) => ⟨67, [(0, lq (Ar e)), (5, .lsl 0 2 0 c.2.length), (16, ls 3 Ax b.steps), (17, li (b.steps.length : Int)), (18, li c.1)], [(0, .row 40 2 (c.2.map AW))], 1⟩) h
 . exact A8.trans (CS 5 40 2 Z) (wf hA [(0, 1)] Z Z Z)
 intro c o k
 unfold HD at k
 refine rs AA <| rl Z <| AB <| cd Z k (fun v => ?_) (fun aq => ?_)
 .refine AE <| AC <| AB <| AH <| rs AA <| bq v fun i q w => sx Z (Ab q Z Z Z <| rl Z <| rs AA <| rl Z <| jb (fun d : (List Int) => ⟨67, [(0, lq (Ar e)), (5, .lsl 0 2 0 c.2.length), (7, .lpb 1 0), (8, .lsl 2 1 0 d.length), (16, ls 3 Ax b.steps), (17, li (b.steps.length : Int)), (18, li c.1)], [(0, .row 40 2 (c.2.map AW)), (1, bx (Ax i)), (2, .row 3 1 (d.map Aa))], 3⟩) w (fun d x => ?_) (fun d af => ?_))
  .refine rs AA <| rn 3 Z <| bq x fun ay s y => sx Z (AM (Bx _ _ _ s) (.inl Z) Z Z Z <| rl Z <| AH <| rs AA <| rl Z <| cd Z y (fun z => ?_) (fun aa => ?_))
   .exact rs AA <| rl Z <| rg AA <| rl Z <| Ad <| AL z (wf hA (gi 3 []) Z Z Z)
   refine rs AA <| rl Z <| cd Z aa (fun ab => ?_) (fun ae => ?_)
   .refine rs AA <| rl Z <| rs AA <| rl Z <| cd Z ab (fun ac => ?_) (fun ad => ?_)
    .exact rg AA <| rl Z <| Ad <| AL ac (wf hA [(0, 0), (1, 1), (2, 3)] Z Z Z)
    exact AE <| Ad <| AL ad (wf hA (gi 3 []) Z Z Z)
   exact AE <| Ad <| AL ae (A8.trans (CS 8 3 1 Z) (wf hA (gi 3 []) Z Z Z))
  refine rs AA <| rl Z <| AH ?_
  apply lp (a := o) (fun f : (Int × (List AI)) => ⟨67, [(0, lq (Ar e)), (5, .lsl 0 2 0 f.2.length), (7, .lpb 1 0), (16, ls 3 Ax b.steps), (17, li (b.steps.length : Int)), (18, li c.1), (43, .lsl 2 1 0 d.length), (44, li (d.length : Int)), (45, li f.1)], [(0, .row 40 2 (f.2.map AW)), (1, bx (Ax i)), (2, .row 3 1 (d.map Aa))], 3⟩) af
  . exact wf hA (gi 3 []) Z Z Z
  intro f ax n
  unfold FL at n
  refine rs AA <| rl Z <| AB <| cd Z n (fun ag => ?_) (fun ao => ?_)
  .refine AE <| AC <| jb (fun g : (List AI) => ⟨67, [(0, lq (Ar e)), (5, .lsl 0 2 0 g.length), (7, .lpb 1 0), (16, ls 3 Ax b.steps), (17, li (b.steps.length : Int)), (18, li c.1), (43, .lsl 2 1 0 d.length), (44, li (d.length : Int)), (45, li f.1)], [(0, .row 40 2 (g.map AW)), (1, bx (Ax i)), (2, .row 3 1 (d.map Aa))], 3⟩) ag (fun g ah => ?_) (fun g an => ?_)
   .refine AH <| rs AA <| bq ah fun au j ai => sx Z (B3 j Z Z Z Z <| sx Z (DJ j Z Z Z <| rl Z <| rs AA <| rl Z <| rs AA <| rn 2 Z <| bq ai fun az t aj => sx Z (AM (CK _ _ _ t) (.inl Z) Z Z Z <| rl Z <| rs AA <| rl Z <| cd Z aj (fun ak => ?_) (fun am => ?_))))
    .exact rg AA <| rn 3 Z <| bq ak fun a0 u al => sx Z (BW (enc := AW) (l := f.2) (m := [(⟨i.elem, au⟩ : AI)]) u (fun _ => ⟨Z, Z⟩) Z Z Z Z Z Z <| rl Z <| Ad <| AL al (wf hA [(0, 6), (1, 1), (2, 2)] Z Z Z))
    exact AE <| Ad <| AL am (wf hA (gi 3 []) Z Z Z)
   exact rg AA <| rl Z <| Aq an (wf hA (gi 3 []) Z Z Z)
  exact AT <| AZ <| BG ao fun av ap => An <| Ad <| AC <| rg AA <| rl Z <| Aq ap (wf hA [(0, 0)] Z Z Z)
 refine AT <| AZ <| BG aq fun aw ar => An <| AC <| rs AA <| rl Z <| AF ?_
 cases ar
 exact er (IA Z (.one (.own (enc := AW) c.2 Z Z))) Le.rfl
noncomputable def Jl (a : Ai) (b : Int) : Option Bool :=
 some (a.elem == b)
theorem VU (a : Ai) (b : Int) (r : Bool) (h : Jl a b = some r) : Aw Tryz.prog 151 [.agg (Ax a), .place (Aa b) 0] (· = .bool r) := by
 refine fn AA Tryz.func151 Z Z 8 Z [.tmp 3] Z [(0, .p (.agg (Ax a))), (1, .p (.place (Aa b) 0))] Z Z fun A hA => ?_
 unfold Jl at h
 refine rs AA <| rl Z <| rs AA <| rl Z <| AF ?_
 cases h
 exact er Z Le.rfl
noncomputable def Gi (b : Ag) (c : Int) (a : Int) : Option (Int ⊕ Int) :=
 bif decide (a < (b.steps.length : Int)) then (AY b.steps a).bind fun d => (Jl d c).bind fun e => bif e then some (.inr a) else some (.inl (AP (a + 1))) else some (.inr (-1))
noncomputable def Jm (c : Ag) (d : Int) : Option Bool :=
 ((((AO (Gi c d) 0 : Option (Int))).bind fun (b : Int) => some (decide (0 <= b)) : Option (Bool))).bind fun (a : Bool) => some a
theorem YG (b : Ag) (d : Int) (r : Bool) (h : Jm b d = some r) : Aw Tryz.prog 117 [.agg (A6 b), .int .i64 d] (· = .bool r) := by
 refine fn AA Tryz.func117 Z Z 9 Z [.tmp 4] Z [(0, .p (.agg (A6 b))), (1, .p (.int .i64 d))] Z Z fun A hA => ?_
 unfold Jm at h
 refine rs AA <| rl Z <| rs AA <| rn 3 Z <| sx Z (CX AA (fun e : Bool => lb e) (fun e : Bool => [(0, bx (A6 b)), (1, .box [li d])]) 2 h Tryz.func150 9 [.tmp 4] [(0, ls 3 Ax b.steps), (1, .fn 151 [.lpb 1 0])] Z Z Z Z Z Z Z Z (fun A hA e k => ?_) (fun e x => ?_))
 .refine rs AA <| rl Z <| rs AA <| rn 2 Z <| sx Z (CX AA (fun c : Int => li c) (fun c : Int => [(0, bx (A6 b)), (1, .box [li d])]) 2 k Tryz.func167 19 [.tmp 4] [(0, ls 3 Ax b.steps), (1, .fn 151 [.lpb 1 0])] Z Z Z Z Z Z Z Z (fun A hA c l => ?_) (fun c w => ?_))
  .refine rs AA <| rl Z <| AB <| rs AA <| rn 1 Z <| sx Z (Ae Z Z <| rl Z <| AH ?_)
   apply lp (a := c) (fun f : Int => ⟨19, [(0, ls 3 Ax b.steps), (1, .fn 151 [.lpb 1 0]), (7, li (b.steps.length : Int)), (8, li f)], [(0, bx (A6 b)), (1, .box [li d])], 2⟩) l
   . exact wj hA [(0, 0), (1, 1)] Z Z Z Z
   intro f aa g
   unfold Gi at g
   refine rs AA <| rl Z <| AB <| cd Z g (fun m => ?_) (fun u => ?_)
   .refine AE <| AC <| AB <| AH <| rs AA <| rl Z <| rs AA <| rn 3 Z <| bq m fun ab i n => sx Z (Ab i Z Z Z <| rn 1 Z <| bq n fun ac j o => sx Z (AM (VU _ _ _ j) (.inl Z) Z Z (D1.eq (.cons (.one (.p _)) (.cons (.box Z (.cons (.p _) .nil)) .nil))) <| rl Z <| cd Z o (fun q => ?_) (fun t => ?_)))
    .refine rs AA <| rl Z <| AF <| AQ <| AG <| A3 q fun y s => AQ <| AG ?_
     have hr := Option.some.inj s; subst hr
     exact Ca (nt := 19) (sl := [(4, li f)]) (wj hA [(0, 0), (1, 1)] Z Z Z Z) Z
    exact AE <| Ad <| AC <| rg AA <| rl Z <| Aq t (wj hA [(0, 0), (1, 1)] Z Z Z Z)
   refine AT <| AZ <| BG u fun z v => An <| AC <| rs AA <| rl Z <| AF ?_
   cases v
   exact Ca (nt := 19) (sl := [(4, li (-1))]) (wj hA [(0, 0), (1, 1)] Z Z Z Z) Z
  refine rl Z <| AF ?_
  cases w
  exact Ca (nt := 9) (sl := [(4, lb (decide (0 <= c)))]) (wj hA [(0, 0), (1, 1)] Z Z Z Z) Z
 refine rl Z <| AF ?_
 have hr := Option.some.inj x; subst hr
 exact er Z Le.rfl
noncomputable def Cr (b : (List Int)) (c : Int) (a : Int) : Option (Int ⊕ Int) :=
 bif decide (a < (b.length : Int)) then (AY b a).bind fun d => bif (c == d) then some (.inr a) else some (.inl (AP (a + 1))) else some (.inr (-1))
noncomputable def FM (a : (List Int)) (b : Int) : Option Int :=
 AO (Cr a b) 0
theorem Pz (b : (List Int)) (c : Int) (r : Int) (h : FM b c = some r) : Aw Tryz.prog 73 [.slice 1 (b.map Aa), .int .i64 c] (· = .int .i64 r) := by
 refine fn AA Tryz.func73 Z Z 19 Z [.tmp 4] Z [(0, .p (.slice 1 (b.map Aa))), (1, .p (.int .i64 c))] Z Z fun A hA => ?_
 unfold FM at h
 refine rs AA <| rl Z <| AB <| rs AA <| rn 1 Z <| sx Z (Ae Z Z <| rl Z <| AH ?_)
 apply lp (a := r) (fun e : Int => ⟨19, [(0, ls 1 Aa b), (1, li c), (7, li (b.length : Int)), (8, li e)], [], 0⟩) h
 . exact wf hA [] Z Z Z
 intro e s d
 unfold Cr at d
 refine rs AA <| rl Z <| AB <| cd Z d (fun n => ?_) (fun l => ?_)
 .refine AE <| AC <| AB <| AH <| rs AA <| rl Z <| rs AA <| rn 3 Z <| bq n fun t f g => sx Z (Ab f Z Z Z <| rl Z <| cd Z g (fun i => ?_) (fun k => ?_))
  .refine rs AA <| rl Z <| AF <| AQ <| AG <| A3 i fun o j => AQ <| AG ?_
   have hr := Option.some.inj j; subst hr
   exact er Z Le.rfl
  exact AE <| Ad <| AC <| rg AA <| rl Z <| Aq k (wf hA [] Z Z Z)
 refine AT <| AZ <| BG l fun q m => An <| AC <| rs AA <| rl Z <| AF ?_
 cases m
 exact er Z Le.rfl
noncomputable def Bd (a : (List Int)) (b : Int) : Option Bool :=
 (FM a b).bind fun c => some (decide (0 <= c))
theorem Cs (a : (List Int)) (b : Int) (r : Bool) (h : Bd a b = some r) : Aw Tryz.prog 46 [.slice 1 (a.map Aa), .int .i64 b] (· = .bool r) := by
 refine fn AA Tryz.func46 Z Z 9 Z [.tmp 4] Z [(0, .p (.slice 1 (a.map Aa))), (1, .p (.int .i64 b))] Z Z fun A hA => ?_
 unfold Bd at h
 refine rs AA <| rl Z <| rs AA <| rn 2 Z <| bq h fun e c d => sx Z (AM (Pz _ _ _ c) (.inl Z) Z Z Z <| rl Z <| AF ?_)
 cases d
 exact er Z Le.rfl
noncomputable def CL (b : (List Ap)) (c : Ap) (a : Int) : Option (Int ⊕ Int) :=
 bif decide (a < (b.length : Int)) then (AY b a).bind fun d => bif (c == d) then some (.inr a) else some (.inl (AP (a + 1))) else some (.inr (-1))
noncomputable def Dc (a : (List Ap)) (b : Ap) : Option Int :=
 AO (CL a b) 0
theorem NE (c : (List Ap)) (b : Ap) (r : Int) (h : Dc c b = some r) : Aw Tryz.prog 152 [.slice 2 (c.map A2), .agg (A2 b)] (· = .int .i64 r) := by
 refine fn AA Tryz.func152 Z Z 19 Z [.tmp 4] Z [(0, .p (.slice 2 (c.map A2))), (1, .p (.agg (A2 b)))] Z Z fun A hA => ?_
 unfold Dc at h
 refine rs AA <| rl Z <| AB <| rs AA <| rn 1 Z <| sx Z (Ae Z Z <| rl Z <| AH ?_)
 apply lp (a := r) (fun e : Int => ⟨19, [(0, ls 2 A2 c), (3, .lpb 0 0), (7, li (c.length : Int)), (8, li e)], [(0, .box [li b.elem, li b.pos])], 1⟩) h
 . exact wf hA [(0, 0)] Z Z Z
 intro e t d
 unfold CL at d
 refine rs AA <| rl Z <| AB <| cd Z d (fun n => ?_) (fun l => ?_)
 .refine AE <| AC <| AB <| AH <| rs AA <| rl Z <| AB ?_
  refine B0 AA mixed [0, 1, 2, 3, 4, 5] 6 (by kernel_rfl) Z Z Z ?_
  refine Au 3 Z <| bq n fun o f g => As Z (Al Z (Ab f Z Z Z <| Au 1 Z <| As Z (Pn (AAM b o) Z Z Z Z Z <| BK Z <| AC <| cd Z g (fun i => ?_) (fun k => ?_))))
  .refine rs AA <| rl Z <| AF <| AQ <| AG <| A3 i fun q j => AQ <| AG ?_
   have hr := Option.some.inj j; subst hr
   exact er Z Le.rfl
  exact AE <| Ad <| AC <| rg AA <| rl Z <| Aq k (wf hA [(0, 0)] Z Z Z)
 refine AT <| AZ <| BG l fun s m => An <| AC <| rs AA <| rl Z <| AF ?_
 cases m
 exact er Z Le.rfl
noncomputable def Bw (a : (List Ap)) (b : Ap) : Option Bool :=
 (Dc a b).bind fun c => some (decide (0 <= c))
theorem EA (a : (List Ap)) (b : Ap) (r : Bool) (h : Bw a b = some r) : Aw Tryz.prog 119 [.slice 2 (a.map A2), .agg (A2 b)] (· = .bool r) := by
 refine fn AA Tryz.func119 Z Z 9 Z [.tmp 4] Z [(0, .p (.slice 2 (a.map A2))), (1, .p (.agg (A2 b)))] Z Z fun A hA => ?_
 unfold Bw at h
 refine rs AA <| rl Z <| rs AA <| rn 2 Z <| bq h fun e c d => sx Z (AM (NE _ _ _ c) (.inl Z) Z Z Z <| rl Z <| AF ?_)
 cases d
 exact er Z Le.rfl
noncomputable def EB (e : Int) (c : (List Bl)) (a : Int) : Option (Int ⊕ (Int × Bool)) :=
 bif decide (a < (c.length : Int)) then (AY c a).bind fun b => ((bif (b.pos == 0) then some true else some (b.pos == e) : Option (Bool))).bind fun (d : Bool) => bif d then some (.inr (b.out, true)) else some (.inl (AP (a + 1))) else some (.inr (0, false))
noncomputable def D6 (a : Az) (b : Int) (c : Int) (d : Int) : Option (Int × Bool) :=
 (ET a b c).bind fun e => AO (EB d e) 0
theorem Qt (f : Az) (g : Int) (i : Int) (b : Int) (r : (Int × Bool)) (h : D6 f g i b = some r) : Aw Tryz.prog 153 [.place (Ar f) 0, .int .i64 g, .int .i64 i, .int .i64 b] (· = .tup [.int .i64 r.1, .bool r.2]) := by
 refine fn AA Tryz.func153 Z Z 33 Z [.tmp 8, .tmp 9] Z [(0, .p (.place (Ar f) 0)), (1, .p (.int .i64 g)), (2, .p (.int .i64 i)), (3, .p (.int .i64 b))] Z Z fun A hA => ?_
 unfold D6 at h
 refine rs AA <| rl Z <| AB <| rs AA <| rn 3 Z <| bq h fun c l n => sx Z (AM (Nv _ _ _ _ l) (.inr Z) Z Z Z <| sx Z (Ae Z Z <| rl Z <| AH ?_))
 apply lp (a := r) (fun d : Int => ⟨33, [(3, li b), (15, ls 2 Dz c), (16, li (c.length : Int)), (17, li d)], [], 0⟩) n
 . exact wf hA [] Z Z Z
 intro d ad j
 unfold EB at j
 refine rs AA <| rl Z <| AB <| cd Z j (fun o => ?_) (fun z => ?_)
 .refine AE <| AC <| AB <| AH <| rs AA <| bq o fun k m q => sx Z (Ab m Z Z Z <| rl Z <| jb (fun e : Bool => ⟨33, [(3, li b), (11, .lpb 0 0), (15, ls 2 Dz c), (16, li (c.length : Int)), (17, li d), (29, lb e)], [(0, .box [li k.out, li k.pos])], 1⟩) q (fun e s => ?_) (fun e v => ?_))
  .refine rg AA <| rn 4 Z <| gs 24 s Z Z Z (fun t => ?_) (fun u => ?_)
   .exact rl Z <| AL t (wf hA [(0, 0)] Z Z Z)
   exact rl Z <| AL u (wf hA [(0, 0)] Z Z Z)
  refine cd Z v (fun w => ?_) (fun y => ?_)
  .refine rs AA <| rl Z <| AF <| AQ <| AG <| A3 w fun ab x => AQ <| AG ?_
   cases x
   exact er Z Le.rfl
  exact AE <| Ad <| AC <| rg AA <| rl Z <| Aq y (wf hA [] Z Z Z)
 refine AT <| AZ <| BG z fun ac aa => An <| AC <| rs AA <| rl Z <| AF ?_
 cases aa
 exact er Z Le.rfl
noncomputable def H4 (b : Az) (c : Int) (d : Int) (e : Int) : Option (Int × Bool) :=
 (D6 b c d e).bind fun a => some (a.1, a.2)
theorem TJ (a : Az) (b : Int) (c : Int) (d : Int) (r : (Int × Bool)) (h : H4 a b c d = some r) : Aw Tryz.prog 120 [.place (Ar a) 0, .int .i64 b, .int .i64 c, .int .i64 d] (· = .tup [.int .i64 r.1, .bool r.2]) := by
 refine fn AA Tryz.func120 Z Z 17 Z [.tmp 8, .tmp 9] Z [(0, .p (.place (Ar a) 0)), (1, .p (.int .i64 b)), (2, .p (.int .i64 c)), (3, .p (.int .i64 d))] Z Z fun A hA => ?_
 unfold H4 at h
 refine rs AA <| rl Z <| rs AA <| rn 4 Z <| bq h fun g e f => sx Z (AM (Qt _ _ _ _ _ e) (.inl Z) Z Z Z <| rl Z <| AF ?_)
 cases f
 exact er Z Le.rfl
noncomputable def DF (d : Az) (e : Ag) (r : (List Ai)) (l : (List Ap)) (am : AK) (a : Bool × (List (AI × Bool)) × (List Ap) × (List Int) × (List Int) × (List AI)) : Option ((Bool × (List (AI × Bool)) × (List Ap) × (List Int) × (List Int) × (List AI)) ⊕ Ag) :=
 bif decide (0 < (a.2.2.2.2.2.length : Int)) then (AY a.2.2.2.2.2 (AP ((a.2.2.2.2.2.length : Int) - 1))).bind fun b => (Jz a.2.2.2.2.2 0 (AP ((a.2.2.2.2.2.length : Int) - 1))).bind fun c => (((Jm (⟨e.frm, e.to, e.fin, r, l, a.2.2.1, a.2.2.2.1, a.2.2.2.2.1, a.1⟩ : Ag) b.elem).bind fun an => bif an then some true else some ((Am a.2.1 b).getD false) : Option (Bool))).bind fun (y : Bool) => bif y then some (.inl (a.1, a.2.1, a.2.2.1, a.2.2.2.1, a.2.2.2.2.1, c)) else (Cb d b).bind fun m => ((bif decide (0 <= m) then some (!am.hard) else some false : Option (Bool))).bind fun (z : Bool) => bif z then (((Bd a.2.2.2.2.1 m).bind fun ao => bif (!ao) then (Bs a.2.2.2.2.1 [m]).bind fun ap => some ap else some a.2.2.2.2.1 : Option ((List Int)))).bind fun (aa : (List Int)) => some (.inl (a.1, A1 b true a.2.1, a.2.2.1, a.2.2.2.1, aa, c)) else (BX d b.elem).bind fun s => bif (s == 4) then some (.inl (true, A1 b true a.2.1, a.2.2.1, a.2.2.2.1, a.2.2.2.2.1, c)) else bif (s == 2) then bif (b.fin == 0) then (((((Bd a.2.2.2.1 b.elem).bind fun aq => bif aq then some (true, a.1, a.2.2.2.1) else bif decide (12 <= (a.2.2.2.1.length : Int)) then some (false, true, a.2.2.2.1) else (Bs a.2.2.2.1 [b.elem]).bind fun ar => some (true, a.1, ar) : Option (Bool × Bool × (List Int)))).bind fun (h : Bool × Bool × (List Int)) => bif h.1 then (((Bh d (⟨b.elem, 2⟩ : AI)).bind fun t => bif t.2 then (Bs c [t.1]).bind fun au => some au else some c : Option ((List AI)))).bind fun (n : (List AI)) => (((Bh d (⟨b.elem, 1⟩ : AI)).bind fun u => bif u.2 then (Bs n [u.1]).bind fun av => some av else some n : Option ((List AI)))).bind fun (ab : (List AI)) => some (h.2.1, h.2.2, ab) else some (h.2.1, h.2.2, c) : Option (Bool × (List Int) × (List AI)))).bind fun (k : Bool × (List Int) × (List AI)) => some (.inl (k.1, A1 b true a.2.1, a.2.2.1, k.2.1, a.2.2.2.2.1, k.2.2)) else (((Bw l (⟨b.elem, b.fin⟩ : Ap)).bind fun ac => bif ac then some true else (Bw a.2.2.1 (⟨b.elem, b.fin⟩ : Ap)).bind fun ad => some ad : Option (Bool))).bind fun (v : Bool) => bif v then (((((Bd a.2.2.2.1 b.elem).bind fun ae => bif ae then some (true, a.1, a.2.2.2.1) else bif decide (12 <= (a.2.2.2.1.length : Int)) then some (false, true, a.2.2.2.1) else (Bs a.2.2.2.1 [b.elem]).bind fun af => some (true, a.1, af) : Option (Bool × Bool × (List Int)))).bind fun (f : Bool × Bool × (List Int)) => bif f.1 then (((Bh d (⟨b.elem, 0⟩ : AI)).bind fun o => bif o.2 then (Bs c [o.1]).bind fun ag => some ag else some c : Option ((List AI)))).bind fun (w : (List AI)) => some (f.2.1, f.2.2, w) else some (f.2.1, f.2.2, c) : Option (Bool × (List Int) × (List AI)))).bind fun (i : Bool × (List Int) × (List AI)) => some (.inl (i.1, A1 b true a.2.1, a.2.2.1, i.2.1, a.2.2.2.2.1, i.2.2)) else (Bw a.2.2.1 (⟨b.elem, AP (3 - b.fin)⟩ : Ap)).bind fun ah => bif (!ah) then (Bs a.2.2.1 [(⟨b.elem, AP (3 - b.fin)⟩ : Ap)]).bind fun ai => some (.inl (a.1, A1 b true a.2.1, ai, a.2.2.2.1, a.2.2.2.2.1, c)) else some (.inl (a.1, A1 b true a.2.1, a.2.2.1, a.2.2.2.1, a.2.2.2.2.1, c)) else (H4 d b.elem b.fin 0).bind fun p => ((bif p.2 then (((Bd a.2.2.2.1 b.elem).bind fun aj => bif aj then some (true, a.1, a.2.2.2.1) else bif decide (12 <= (a.2.2.2.1.length : Int)) then some (false, true, a.2.2.2.1) else (Bs a.2.2.2.1 [b.elem]).bind fun ak => some (true, a.1, ak) : Option (Bool × Bool × (List Int)))).bind fun (j : Bool × Bool × (List Int)) => some (j.1, j.2.1, j.2.2) else some (false, a.1, a.2.2.2.1) : Option (Bool × Bool × (List Int)))).bind fun (g : Bool × Bool × (List Int)) => bif g.1 then (((Bh d (⟨b.elem, p.1⟩ : AI)).bind fun q => bif q.2 then (Bs c [q.1]).bind fun al => some al else some c : Option ((List AI)))).bind fun (x : (List AI)) => some (.inl (g.2.1, A1 b true a.2.1, a.2.2.1, g.2.2, a.2.2.2.2.1, x)) else some (.inl (g.2.1, A1 b true a.2.1, a.2.2.1, g.2.2, a.2.2.2.2.1, c)) else some (.inr (⟨e.frm, e.to, e.fin, r, l, a.2.2.1, a.2.2.2.1, a.2.2.2.2.1, a.1⟩ : Ag))
noncomputable def E8 (b : Az) (c : Ag) (i : (List Ai)) (j : (List Ap)) (d : AK) (e : (List AI)) (a : Int × (List AI)) : Option ((Int × (List AI)) ⊕ Ag) :=
 bif decide (0 <= a.1) then (AY e a.1).bind fun f => (Bh b f).bind fun g => (Bs a.2 [g.1]).bind fun h => some (.inl (AP (a.1 - 1), h)) else (AO (DF b c i j d) (false, [], ([] : List Ap), ([] : List Int), ([] : List Int), a.2)).map .inr
noncomputable def FN (b : Az) (a : Ag) : Option Ag :=
 (Ba a.steps).bind fun d => (Db a.needs).bind fun e => (B2 b).bind fun f => (Hc b (⟨a.frm, a.to, a.fin, d, e, [], [], [], false⟩ : Ag)).bind fun c => AO (E8 b a d e f c) (AP ((c.length : Int) - 1), ([] : List AI))
theorem YH (e : Az) (c : Ag) (r : Ag) (h : FN e c = some r) : Aw Tryz.prog 82 [.place (Ar e) 0, .agg (A6 c)] (· = .agg (A6 r)) := by
 refine fn AA Tryz.func82 Z Z 187 Z [.cell 4 72] Z [(0, .p (.place (Ar e) 0)), (1, .p (.agg (A6 c)))] Z Z fun A hA => ?_
 unfold FN at h
 refine rs AA <| rl Z <| sc <| AB ?_
 refine B0 AA mixed [0, 1, 2, 3, 4, 5, 6, 7, 8, 9] 10 (by kernel_rfl) Z Z Z ?_
 refine Au 2 Z <| bq h fun g a7 de => As Z (A0 (NC _ _ a7) (.inr Z) Z Z Z <| Au 2 Z <| bq de fun i a8 df => As Z (A0 (ND _ _ a8) (.inr Z) Z Z Z <| BK Z <| AC <| rs AA <| rl Z <| rs AA <| rn 1 Z <| bq df fun o a2 c6 => sx Z (AM (Hq _ _ a2) (.inr Z) Z Z Z <| rl Z <| rs AA <| rl Z <| rs AA <| rl Z <| rs AA <| rn 2 Z <| bq c6 fun e4 a3 c7 => sx Z (AM (Aw.le (VT _ _ _ a3) (.cons Le.rfl (.cons (Le.agg' (.cons Le.rfl (.cons Le.rfl (.cons Le.rfl (.cons Le.rfl (.cons Le.rfl (.cons (Le.nil _) (.cons (Le.nil _) (.cons (Le.nil _) (.cons Le.rfl .nil)))))))))) .nil))) (.inr Z) Z Z Z <| rl Z <| AB <| rs AA <| rn 1 Z <| sx Z (Ae Z Z <| rl Z <| AH ?_)))))
 apply lp (a := r) (fun v : (Int × (List AI)) => ⟨187, [(2, .lpb 0 0), (3, .lpb 1 0), (4, .lpb 2 0), (5, lb o.hard), (6, .lmap 3), (7, .lpb 4 0), (8, ls 2 AW e4), (9, li v.1)], [(0, .box [lq (Ar e)]), (1, .box [li c.frm, li c.to, li c.fin, ls 3 Ax g, ls 2 A2 i, .p (.nils), .p (.nils), .p (.nils), lb false]), (2, .box [li 0, li 0, li 0, .p (.nils), .p (.nils), .p (.nils), .p (.nils), .p (.nils), lb false]), (3, .map (Ao (fun x => .agg (AW x)) .bool [])), (4, .box [.lsl 5 2 0 v.2.length]), (5, .row 40 2 (v.2.map AW))], 6⟩) c7
 . exact A8.trans (B8 14 0 40 2 Z Z Z Z) (wf hA (gi 3 [(3, 13), (4, 14), (5, 15)]) Z Z Z)
 intro v e9 ai
 unfold E8 at ai
 refine AB <| rs AA <| rl Z <| cd Z ai (fun c8 => ?_) (fun dc => ?_)
 .refine AE <| AC <| AB <| AH <| AB ?_
  refine B0 AA mixed [0, 1, 2, 3, 4, 5, 6, 7, 8, 9, 10, 11] 12 (by kernel_rfl) Z Z Z ?_
  exact Au 3 Z <| bq c8 fun fl a4 c9 => As Z (Al Z (Ab a4 Z Z Z <| Au 1 Z <| bq c9 fun e5 a5 da => As Z (A0 (CK _ _ _ a5) (.inl Z) Z Z Z <| BK Z <| AC <| rg AA <| rn 3 Z <| bq da fun fm a6 db => sx Z (BW (enc := AW) (l := v.2) (m := [e5.1]) a6 (fun _ => ⟨Z, Z⟩) Z Z Z Z Z Z <| rl Z <| Ad <| AC <| rg AA <| rl Z <| Aq db (wf hA (gi 5 [(5, 19)]) Z Z Z)))))
 refine AT <| AZ <| CF dc fun am dd => An <| AC <| rs AA <| rl Z <| AB <| Kg <| AC <| AB <| AH ?_
 apply lp (a := am) (fun b : (Bool × (List (AI × Bool)) × (List Ap) × (List Int) × (List Int) × (List AI)) => ⟨187, [(2, .lpb 0 0), (3, .lpb 1 0), (4, .lpb 2 0), (5, lb o.hard), (6, .lmap 3), (7, .lpb 4 0), (12, .fn 116 [.lpb 0 0, .lpb 4 0])], [(0, .box [lq (Ar e)]), (1, .box [li c.frm, li c.to, li c.fin, ls 3 Ax g, ls 2 A2 i, .lsl 5 2 0 b.2.2.1.length, .lsl 6 1 0 b.2.2.2.1.length, .lsl 7 1 0 b.2.2.2.2.1.length, lb b.1]), (2, .box [li 0, li 0, li 0, .p (.nils), .p (.nils), .p (.nils), .p (.nils), .p (.nils), lb false]), (3, .map (Ao (fun x => .agg (AW x)) .bool b.2.1)), (4, .box [.lsl 8 2 0 b.2.2.2.2.2.length]), (5, .row 185 2 (b.2.2.1.map A2)), (6, .row 3 1 (b.2.2.2.1.map Aa)), (7, .row 3 1 (b.2.2.2.2.1.map Aa)), (8, .row 40 2 (b.2.2.2.2.2.map AW))], 9⟩) dd
 . exact A8.trans (B8 1 5 185 2 Z Z Z Z) (A8.trans (B8 1 6 3 1 Z Z Z Z) (A8.trans (B8 1 7 3 1 Z Z Z Z) (wf hA (gi 5 [(5, 6), (6, 7), (7, 8), (8, 5)]) Z Z Z)))
 intro b fa aj
 unfold DF at aj
 refine AB <| rs AA <| rl Z <| cd Z aj (fun dg => ?_) (fun c4 => ?_)
 .refine AE <| AC <| AH <| rs AA <| rn 4 Z <| bq dg fun d ah dh => sx Z (B3 ah Z Z Z Z <| sx Z (DJ ah Z Z Z <| rl Z <| rs AA <| rn 4 Z <| bq dh fun f ad di => sx Z (SN (l := b.2.2.2.2.2) ad Z Z Z Z <| rl Z <| AB <| jb (fun af : Bool => ⟨187, [(2, .lpb 0 0), (3, .lpb 1 0), (4, .lpb 2 0), (5, lb o.hard), (6, .lmap 3), (7, .lpb 4 0), (12, .fn 116 [.lpb 0 0, .lpb 4 0]), (13, .lpb 5 0), (81, lb af)], [(0, .box [lq (Ar e)]), (1, .box [li c.frm, li c.to, li c.fin, ls 3 Ax g, ls 2 A2 i, .lsl 6 2 0 b.2.2.1.length, .lsl 7 1 0 b.2.2.2.1.length, .lsl 8 1 0 b.2.2.2.2.1.length, lb b.1]), (2, .box [li 0, li 0, li 0, .p (.nils), .p (.nils), .p (.nils), .p (.nils), .p (.nils), lb false]), (3, .map (Ao (fun x => .agg (AW x)) .bool b.2.1)), (4, .box [.lsl 9 2 0 f.length]), (5, .box [li d.elem, li d.fin]), (6, .row 185 2 (b.2.2.1.map A2)), (7, .row 3 1 (b.2.2.2.1.map Aa)), (8, .row 3 1 (b.2.2.2.2.1.map Aa)), (9, .row 40 2 (f.map AW))], 10⟩) di (fun af dj => ?_) (fun af dn => ?_))))
  .refine rg AA <| rn 3 Z <| bq dj fun fo a9 dk => sx Z (AM (YG _ _ _ a9) (.inl Z) Z Z (D1.eq (.cons (.agg (.cons (.p _) (.cons (.p _) (.cons (.p _) (.cons (.p _) (.cons (.p _) (.cons (.own (enc := A2) b.2.2.1 Z Z) (.cons (.own (enc := Aa) b.2.2.2.1 Z Z) (.cons (.own (enc := Aa) b.2.2.2.2.1 Z Z) (.cons (.p _) .nil)))))))))) (.cons (.one (.p _)) .nil))) <| rn 1 Z <| gs 77 dk Z Z Z (fun dl => ?_) (fun dm => ?_))
   .exact rl Z <| AL dl (A8.trans (J9 8 ad Z Z) (wf hA (gi 5 [(5, 9), (6, 5), (7, 6), (8, 7), (9, 8)]) Z Z Z))
   exact rn 2 Z <| sx Z (La (et := 4) (ke := (fun x => .agg (AW x))) (ve := .bool) (mp := b.2.1) (y := d) false CN Z Z Z Z <| rl Z <| AL dm (A8.trans (J9 8 ad Z Z) (wf hA (gi 5 [(5, 9), (6, 5), (7, 6), (8, 7), (9, 8)]) Z Z Z)))
  refine cd Z dn (fun dp => ?_) (fun dq => ?_)
  .exact AT <| AZ <| An <| Aq dp (wf hA (gi 5 [(5, 6), (6, 7), (7, 8), (8, 9)]) Z Z Z)
  refine AE <| AC <| rs AA <| rn 2 Z <| sx Z (G7 (et := 4) (ke := (fun x => .agg (AW x))) (ve := .bool) (mp := b.2.1) (y := d) (z := true) CN Z Z Z Z Z Z <| rl Z <| AB <| rs AA <| rn 2 Z <| bq dq fun al ba dr => sx Z (AM (HA _ _ _ ba) (.inl Z) Z Z Z <| rl Z <| jb (fun ag : Bool => ⟨187, [(2, .lpb 0 0), (3, .lpb 1 0), (4, .lpb 2 0), (5, lb o.hard), (6, .lmap 3), (7, .lpb 4 0), (12, .fn 116 [.lpb 0 0, .lpb 4 0]), (13, .lpb 5 0), (14, li al), (92, lb ag)], [(0, .box [lq (Ar e)]), (1, .box [li c.frm, li c.to, li c.fin, ls 3 Ax g, ls 2 A2 i, .lsl 6 2 0 b.2.2.1.length, .lsl 7 1 0 b.2.2.2.1.length, .lsl 8 1 0 b.2.2.2.2.1.length, lb b.1]), (2, .box [li 0, li 0, li 0, .p (.nils), .p (.nils), .p (.nils), .p (.nils), .p (.nils), lb false]), (3, .map (Ao (fun x => .agg (AW x)) .bool (A1 d true b.2.1))), (4, .box [.lsl 9 2 0 f.length]), (5, .box [li d.elem, li d.fin]), (6, .row 185 2 (b.2.2.1.map A2)), (7, .row 3 1 (b.2.2.2.1.map Aa)), (8, .row 3 1 (b.2.2.2.2.1.map Aa)), (9, .row 40 2 (f.map AW))], 10⟩) dr (fun ag ds => ?_) (fun ag dv => ?_)))
  .refine rg AA <| rn 3 Z <| gs 89 ds Z Z Z (fun dt => ?_) (fun du => ?_)
   .exact rl Z <| AL dt (wf hA (gi 10 []) Z Z Z)
   exact rl Z <| AL du (wf hA (gi 10 []) Z Z Z)
  refine cd Z dv (fun dw => ?_) (fun d3 => ?_)
  .refine jb (fun ac : (List Int) => ⟨187, [(2, .lpb 0 0), (3, .lpb 1 0), (4, .lpb 2 0), (5, lb o.hard), (6, .lmap 3), (7, .lpb 4 0), (12, .fn 116 [.lpb 0 0, .lpb 4 0])], [(0, .box [lq (Ar e)]), (1, .box [li c.frm, li c.to, li c.fin, ls 3 Ax g, ls 2 A2 i, .lsl 5 2 0 b.2.2.1.length, .lsl 6 1 0 b.2.2.2.1.length, .lsl 7 1 0 ac.length, lb b.1]), (2, .box [li 0, li 0, li 0, .p (.nils), .p (.nils), .p (.nils), .p (.nils), .p (.nils), lb false]), (3, .map (Ao (fun x => .agg (AW x)) .bool (A1 d true b.2.1))), (4, .box [.lsl 8 2 0 f.length]), (5, .row 185 2 (b.2.2.1.map A2)), (6, .row 3 1 (b.2.2.2.1.map Aa)), (7, .row 3 1 (ac.map Aa)), (8, .row 40 2 (f.map AW))], 9⟩) dw (fun ac dx => ?_) (fun ac d2 => ?_)
   .refine rs AA <| rn 3 Z <| bq dx fun fp bb dy => sx Z (AM (Cs _ _ _ bb) (.inl Z) Z Z (D1.eq (.cons (.one (.own (enc := Aa) b.2.2.2.2.1 Z Z)) (.cons (.one (.p _)) .nil))) <| rl Z <| cd Z dy (fun dz => ?_) (fun d1 => ?_))
    .exact rg AA <| rn 4 Z <| bq dz fun fq bc d0 => sx Z (BW (enc := Aa) (l := b.2.2.2.2.1) (m := [al]) bc (fun _ => ⟨Z, Z⟩) Z Z Z Z Z Z <| rl Z <| AL d0 (wf hA (gi 5 [(5, 6), (6, 7), (7, 11), (8, 9)]) Z Z Z))
    exact AE <| AL d1 (wf hA (gi 5 [(5, 6), (6, 7), (7, 8), (8, 9)]) Z Z Z)
   exact AT <| AZ <| An <| Aq d2 (wf hA (gi 9 []) Z Z Z)
  refine AE <| AC <| rs AA <| rn 3 Z <| bq d3 fun fr be d4 => sx Z (AM (Bx _ _ _ be) (.inl Z) Z Z Z <| rl Z <| AH <| rs AA <| rl Z <| cd Z d4 (fun d5 => ?_) (fun d6 => ?_))
  .exact rg AA <| rl Z <| Ad <| Ad <| Aq d5 (wf hA (gi 5 [(5, 6), (6, 7), (7, 8), (8, 9)]) Z Z Z)
  refine rs AA <| rl Z <| cd Z d6 (fun d7 => ?_) (fun ci => ?_)
  .refine AB <| rs AA <| rl Z <| cd Z d7 (fun d8 => ?_) (fun e1 => ?_)
   .refine jb (fun t : (Bool × (List Int) × (List AI)) => ⟨187, [(2, .lpb 0 0), (3, .lpb 1 0), (4, .lpb 2 0), (5, lb o.hard), (6, .lmap 3), (7, .lpb 4 0), (12, .fn 116 [.lpb 0 0, .lpb 4 0])], [(0, .box [lq (Ar e)]), (1, .box [li c.frm, li c.to, li c.fin, ls 3 Ax g, ls 2 A2 i, .lsl 5 2 0 b.2.2.1.length, .lsl 6 1 0 t.2.1.length, .lsl 7 1 0 b.2.2.2.2.1.length, lb t.1]), (2, .box [li 0, li 0, li 0, .p (.nils), .p (.nils), .p (.nils), .p (.nils), .p (.nils), lb false]), (3, .map (Ao (fun x => .agg (AW x)) .bool (A1 d true b.2.1))), (4, .box [.lsl 8 2 0 t.2.2.length]), (5, .row 185 2 (b.2.2.1.map A2)), (6, .row 3 1 (t.2.1.map Aa)), (7, .row 3 1 (b.2.2.2.2.1.map Aa)), (8, .row 40 2 (t.2.2.map AW))], 9⟩) d8 (fun t d9 => ?_) (fun t e0 => ?_)
    .refine rs AA <| rn 2 Z <| sx Z (CX AA (fun j : (Bool × Bool × (List Int)) => lb j.1) (fun j : (Bool × Bool × (List Int)) => [(0, .box [lq (Ar e)]), (1, .box [li c.frm, li c.to, li c.fin, ls 3 Ax g, ls 2 A2 i, .lsl 6 2 0 b.2.2.1.length, .lsl 10 1 0 j.2.2.length, .lsl 8 1 0 b.2.2.2.2.1.length, lb j.2.1]), (2, .box [li 0, li 0, li 0, .p (.nils), .p (.nils), .p (.nils), .p (.nils), .p (.nils), lb false]), (3, .map (Ao (fun x => .agg (AW x)) .bool (A1 d true b.2.1))), (4, .box [.lsl 9 2 0 f.length]), (5, .box [li d.elem, li d.fin]), (6, .row 185 2 (b.2.2.1.map A2)), (8, .row 3 1 (b.2.2.2.2.1.map Aa)), (9, .row 40 2 (f.map AW)), (10, .row 3 1 (j.2.2.map Aa))]) 11 d9 Tryz.func118 30 [.tmp 4] [(0, .lpb 1 0), (1, li d.elem)] Z Z Z Z Z Z Z Z (fun A hA j ea => ?_) (fun j eh => ?_))
     .refine rs AA <| rl Z <| AB <| rs AA <| rn 5 Z <| bq ea fun fs bf eb => sx Z (AM (Cs _ _ _ bf) (.inl Z) Z Z (D1.eq (.cons (.one (.own (enc := Aa) b.2.2.2.1 Z Z)) (.cons (.one (.p _)) .nil))) <| rl Z <| cd Z eb (fun ec => ?_) (fun ed => ?_))
      .refine rs AA <| rl Z <| AF <| AG ?_
       cases ec
       exact Ca (nt := 30) (sl := [(4, lb true)]) (wj hA (gi 7 [(8, 8), (9, 9), (10, 7), (7, 7)]) Z Z Z Z) Z
      refine AE <| AC <| AB <| rs AA <| rl Z <| cd Z ed (fun ee => ?_) (fun ef => ?_)
      .refine rs AA <| rl Z <| rs AA <| rl Z <| AF <| AG ?_
       cases ee
       exact Ca (nt := 30) (sl := [(4, lb false)]) (wj hA (gi 7 [(8, 8), (9, 9), (10, 7), (7, 7)]) Z Z Z Z) Z
      refine AE <| AC <| rs AA <| rn 7 Z <| bq ef fun ft bg eg => sx Z (BW (enc := Aa) (l := b.2.2.2.1) (m := [d.elem]) bg (fun _ => ⟨Z, Z⟩) Z Z Z Z Z Z <| rl Z <| rs AA <| rl Z <| AF ?_)
      cases eg
      exact Ca (nt := 30) (sl := [(4, lb true)]) (wj hA (gi 7 [(8, 8), (9, 9), (10, 11), (7, 7)]) Z Z Z Z) Z
     refine rl Z <| cd Z eh (fun ei => ?_) (fun ez => ?_)
     .refine rs AA <| rn 3 Z <| sx Z (CX AA (fun u : (List AI) => .tup []) (fun u : (List AI) => [(0, .box [lq (Ar e)]), (1, .box [li c.frm, li c.to, li c.fin, ls 3 Ax g, ls 2 A2 i, .lsl 6 2 0 b.2.2.1.length, .lsl 10 1 0 j.2.2.length, .lsl 8 1 0 b.2.2.2.2.1.length, lb j.2.1]), (2, .box [li 0, li 0, li 0, .p (.nils), .p (.nils), .p (.nils), .p (.nils), .p (.nils), lb false]), (3, .map (Ao (fun x => .agg (AW x)) .bool (A1 d true b.2.1))), (4, .box [.lsl 11 2 0 u.length]), (5, .box [li d.elem, li d.fin]), (6, .row 185 2 (b.2.2.1.map A2)), (8, .row 3 1 (b.2.2.2.2.1.map Aa)), (10, .row 3 1 (j.2.2.map Aa)), (11, .row 40 2 (u.map AW))]) 12 ei Tryz.func116 21 [] [(0, li d.elem), (1, li 2), (2, .lpb 0 0), (3, .lpb 4 0)] Z Z Z Z Z Z Z Z (fun A hA u ej => ?_) (fun u ep => ?_))
      .refine rs AA <| rn 4 Z <| bq ej fun e6 bh ek => sx Z (AM (CK _ _ _ bh) (.inl Z) Z Z Z <| rl Z <| rs AA <| rl Z <| cd Z ek (fun el => ?_) (fun eo => ?_))
       .refine rg AA <| rn 3 Z <| bq el fun fu bi em => sx Z (BW (enc := AW) (l := f) (m := [e6.1]) bi (fun _ => ⟨Z, Z⟩) Z Z Z Z Z Z <| rl Z ?_)
        have hr := Option.some.inj em; subst hr
        exact Me (nt := 21) (sl := []) (wj hA (gi 9 [(10, 10), (11, 13), (9, 9)]) Z Z Z Z) Z
       refine AE ?_
       have hr := Option.some.inj eo; subst hr
       exact Me (nt := 21) (sl := []) (wj hA (gi 9 [(10, 10), (11, 9), (9, 9)]) Z Z Z Z) Z
      refine rl Z <| rg AA <| rn 3 Z <| sx Z (CX AA (fun ab : (List AI) => .tup []) (fun ab : (List AI) => [(0, .box [lq (Ar e)]), (1, .box [li c.frm, li c.to, li c.fin, ls 3 Ax g, ls 2 A2 i, .lsl 6 2 0 b.2.2.1.length, .lsl 10 1 0 j.2.2.length, .lsl 8 1 0 b.2.2.2.2.1.length, lb j.2.1]), (2, .box [li 0, li 0, li 0, .p (.nils), .p (.nils), .p (.nils), .p (.nils), .p (.nils), lb false]), (3, .map (Ao (fun x => .agg (AW x)) .bool (A1 d true b.2.1))), (4, .box [.lsl 12 2 0 ab.length]), (5, .box [li d.elem, li d.fin]), (6, .row 185 2 (b.2.2.1.map A2)), (8, .row 3 1 (b.2.2.2.2.1.map Aa)), (10, .row 3 1 (j.2.2.map Aa)), (12, .row 40 2 (ab.map AW))]) 13 ep Tryz.func116 21 [] [(0, li d.elem), (1, li 1), (2, .lpb 0 0), (3, .lpb 4 0)] Z Z Z Z Z Z Z Z (fun A hA ab es => ?_) (fun ab ey => ?_))
      .refine rs AA <| rn 4 Z <| bq es fun e7 bj eu => sx Z (AM (CK _ _ _ bj) (.inl Z) Z Z Z <| rl Z <| rs AA <| rl Z <| cd Z eu (fun ev => ?_) (fun ex => ?_))
       .refine rg AA <| rn 3 Z <| bq ev fun fv bk ew => sx Z (BW (enc := AW) (l := u) (m := [e7.1]) bk (fun _ => ⟨Z, Z⟩) Z Z Z Z Z Z <| rl Z ?_)
        have hr := Option.some.inj ew; subst hr
        exact Me (nt := 21) (sl := []) (wj hA (gi 11 [(12, 14), (11, 11)]) Z Z Z Z) Z
       refine AE ?_
       have hr := Option.some.inj ex; subst hr
       exact Me (nt := 21) (sl := []) (wj hA (gi 11 [(12, 11), (11, 11)]) Z Z Z Z) Z
      exact rl Z <| AL ey (wf hA (gi 5 [(5, 6), (6, 10), (7, 8), (8, 12)]) Z Z Z)
     exact AE <| AL ez (wf hA (gi 5 [(5, 6), (6, 10), (7, 8), (8, 9)]) Z Z Z)
    exact AT <| AZ <| MZ Z <| An <| Aq e0 (wf hA (gi 9 []) Z Z Z)
   refine AE <| AC <| rs AA <| rl Z <| AB <| jb (fun ae : Bool => ⟨187, [(2, .lpb 0 0), (3, .lpb 1 0), (4, .lpb 2 0), (5, lb o.hard), (6, .lmap 3), (7, .lpb 4 0), (12, .fn 116 [.lpb 0 0, .lpb 4 0]), (13, .lpb 5 0), (161, lb ae)], [(0, .box [lq (Ar e)]), (1, .box [li c.frm, li c.to, li c.fin, ls 3 Ax g, ls 2 A2 i, .lsl 6 2 0 b.2.2.1.length, .lsl 7 1 0 b.2.2.2.1.length, .lsl 8 1 0 b.2.2.2.2.1.length, lb b.1]), (2, .box [li 0, li 0, li 0, .p (.nils), .p (.nils), .p (.nils), .p (.nils), .p (.nils), lb false]), (3, .map (Ao (fun x => .agg (AW x)) .bool (A1 d true b.2.1))), (4, .box [.lsl 9 2 0 f.length]), (5, .box [li d.elem, li d.fin]), (6, .row 185 2 (b.2.2.1.map A2)), (7, .row 3 1 (b.2.2.2.1.map Aa)), (8, .row 3 1 (b.2.2.2.2.1.map Aa)), (9, .row 40 2 (f.map AW))], 10⟩) e1 (fun ae bl => ?_) (fun ae br => ?_)
   .refine rg AA <| rn 3 Z <| bq bl fun fb an bm => sx Z (AM (EA _ _ _ an) (.inl Z) Z Z Z <| rn 1 Z <| gs 156 bm Z Z Z (fun bn => ?_) (fun bo => ?_))
    .exact rl Z <| AL bn (wf hA (gi 10 []) Z Z Z)
    exact rn 3 Z <| bq bo fun fc ao bp => sx Z (AM (EA _ _ _ ao) (.inl Z) Z Z (D1.eq (.cons (.one (.own (enc := A2) b.2.2.1 Z Z)) (.cons (.one (.p _)) .nil))) <| rl Z <| AL bp (wf hA (gi 10 []) Z Z Z))
   refine cd Z br (fun bs => ?_) (fun cc => ?_)
   .refine jb (fun q : (Bool × (List Int) × (List AI)) => ⟨187, [(2, .lpb 0 0), (3, .lpb 1 0), (4, .lpb 2 0), (5, lb o.hard), (6, .lmap 3), (7, .lpb 4 0), (12, .fn 116 [.lpb 0 0, .lpb 4 0])], [(0, .box [lq (Ar e)]), (1, .box [li c.frm, li c.to, li c.fin, ls 3 Ax g, ls 2 A2 i, .lsl 5 2 0 b.2.2.1.length, .lsl 6 1 0 q.2.1.length, .lsl 7 1 0 b.2.2.2.2.1.length, lb q.1]), (2, .box [li 0, li 0, li 0, .p (.nils), .p (.nils), .p (.nils), .p (.nils), .p (.nils), lb false]), (3, .map (Ao (fun x => .agg (AW x)) .bool (A1 d true b.2.1))), (4, .box [.lsl 8 2 0 q.2.2.length]), (5, .row 185 2 (b.2.2.1.map A2)), (6, .row 3 1 (q.2.1.map Aa)), (7, .row 3 1 (b.2.2.2.2.1.map Aa)), (8, .row 40 2 (q.2.2.map AW))], 9⟩) bs (fun q bt => ?_) (fun q cb => ?_)
    .refine rs AA <| rn 2 Z <| sx Z (CX AA (fun k : (Bool × Bool × (List Int)) => lb k.1) (fun k : (Bool × Bool × (List Int)) => [(0, .box [lq (Ar e)]), (1, .box [li c.frm, li c.to, li c.fin, ls 3 Ax g, ls 2 A2 i, .lsl 6 2 0 b.2.2.1.length, .lsl 10 1 0 k.2.2.length, .lsl 8 1 0 b.2.2.2.2.1.length, lb k.2.1]), (2, .box [li 0, li 0, li 0, .p (.nils), .p (.nils), .p (.nils), .p (.nils), .p (.nils), lb false]), (3, .map (Ao (fun x => .agg (AW x)) .bool (A1 d true b.2.1))), (4, .box [.lsl 9 2 0 f.length]), (5, .box [li d.elem, li d.fin]), (6, .row 185 2 (b.2.2.1.map A2)), (8, .row 3 1 (b.2.2.2.2.1.map Aa)), (9, .row 40 2 (f.map AW)), (10, .row 3 1 (k.2.2.map Aa))]) 11 bt Tryz.func118 30 [.tmp 4] [(0, .lpb 1 0), (1, li d.elem)] Z Z Z Z Z Z Z Z (fun A hA k bu => ?_) (fun k b2 => ?_))
     .refine rs AA <| rl Z <| AB <| rs AA <| rn 5 Z <| bq bu fun fd ap bv => sx Z (AM (Cs _ _ _ ap) (.inl Z) Z Z (D1.eq (.cons (.one (.own (enc := Aa) b.2.2.2.1 Z Z)) (.cons (.one (.p _)) .nil))) <| rl Z <| cd Z bv (fun bw => ?_) (fun bx => ?_))
      .refine rs AA <| rl Z <| AF <| AG ?_
       cases bw
       exact Ca (nt := 30) (sl := [(4, lb true)]) (wj hA (gi 7 [(8, 8), (9, 9), (10, 7), (7, 7)]) Z Z Z Z) Z
      refine AE <| AC <| AB <| rs AA <| rl Z <| cd Z bx (fun bz => ?_) (fun b0 => ?_)
      .refine rs AA <| rl Z <| rs AA <| rl Z <| AF <| AG ?_
       cases bz
       exact Ca (nt := 30) (sl := [(4, lb false)]) (wj hA (gi 7 [(8, 8), (9, 9), (10, 7), (7, 7)]) Z Z Z Z) Z
      refine AE <| AC <| rs AA <| rn 7 Z <| bq b0 fun fe aq b1 => sx Z (BW (enc := Aa) (l := b.2.2.2.1) (m := [d.elem]) aq (fun _ => ⟨Z, Z⟩) Z Z Z Z Z Z <| rl Z <| rs AA <| rl Z <| AF ?_)
      cases b1
      exact Ca (nt := 30) (sl := [(4, lb true)]) (wj hA (gi 7 [(8, 8), (9, 9), (10, 11), (7, 7)]) Z Z Z Z) Z
     refine rl Z <| cd Z b2 (fun b3 => ?_) (fun ca => ?_)
     .refine rg AA <| rn 3 Z <| sx Z (CX AA (fun w : (List AI) => .tup []) (fun w : (List AI) => [(0, .box [lq (Ar e)]), (1, .box [li c.frm, li c.to, li c.fin, ls 3 Ax g, ls 2 A2 i, .lsl 6 2 0 b.2.2.1.length, .lsl 10 1 0 k.2.2.length, .lsl 8 1 0 b.2.2.2.2.1.length, lb k.2.1]), (2, .box [li 0, li 0, li 0, .p (.nils), .p (.nils), .p (.nils), .p (.nils), .p (.nils), lb false]), (3, .map (Ao (fun x => .agg (AW x)) .bool (A1 d true b.2.1))), (4, .box [.lsl 11 2 0 w.length]), (5, .box [li d.elem, li d.fin]), (6, .row 185 2 (b.2.2.1.map A2)), (8, .row 3 1 (b.2.2.2.2.1.map Aa)), (10, .row 3 1 (k.2.2.map Aa)), (11, .row 40 2 (w.map AW))]) 12 b3 Tryz.func116 21 [] [(0, li d.elem), (1, li 0), (2, .lpb 0 0), (3, .lpb 4 0)] Z Z Z Z Z Z Z Z (fun A hA w b4 => ?_) (fun w b9 => ?_))
      .refine rs AA <| rn 4 Z <| bq b4 fun e2 ar b5 => sx Z (AM (CK _ _ _ ar) (.inl Z) Z Z Z <| rl Z <| rs AA <| rl Z <| cd Z b5 (fun b6 => ?_) (fun b8 => ?_))
       .refine rg AA <| rn 3 Z <| bq b6 fun ff au b7 => sx Z (BW (enc := AW) (l := f) (m := [e2.1]) au (fun _ => ⟨Z, Z⟩) Z Z Z Z Z Z <| rl Z ?_)
        have hr := Option.some.inj b7; subst hr
        exact Me (nt := 21) (sl := []) (wj hA (gi 9 [(10, 10), (11, 13), (9, 9)]) Z Z Z Z) Z
       refine AE ?_
       have hr := Option.some.inj b8; subst hr
       exact Me (nt := 21) (sl := []) (wj hA (gi 9 [(10, 10), (11, 9), (9, 9)]) Z Z Z Z) Z
      exact rl Z <| AL b9 (wf hA (gi 5 [(5, 6), (6, 10), (7, 8), (8, 11)]) Z Z Z)
     exact AE <| AL ca (wf hA (gi 5 [(5, 6), (6, 10), (7, 8), (8, 9)]) Z Z Z)
    exact AT <| AZ <| MZ Z <| An <| Aq cb (wf hA (gi 9 []) Z Z Z)
   refine AE <| AC <| rs AA <| rl Z <| rs AA <| rn 3 Z <| bq cc fun fg av ce => sx Z (AM (EA _ _ _ av) (.inl Z) Z Z (D1.eq (.cons (.one (.own (enc := A2) b.2.2.1 Z Z)) (.cons (.one (.p _)) .nil))) <| rl Z <| cd Z ce (fun cf => ?_) (fun ch => ?_))
   .exact rg AA <| rn 4 Z <| bq cf fun fh aw cg => sx Z (BW (enc := A2) (l := b.2.2.1) (m := [(⟨d.elem, AP (3 - d.fin)⟩ : Ap)]) aw (fun _ => ⟨Z, Z⟩) Z Z Z Z Z Z <| rl Z <| Ad <| Ad <| Aq cg (wf hA (gi 5 [(5, 12), (6, 7), (7, 8), (8, 9)]) Z Z Z))
   exact AE <| Ad <| Ad <| Aq ch (wf hA (gi 5 [(5, 6), (6, 7), (7, 8), (8, 9)]) Z Z Z)
  refine rs AA <| rn 5 Z <| bq ci fun ak ax cj => sx Z (AM (TJ _ _ _ _ _ ax) (.inl Z) Z Z Z <| rl Z <| jb (fun n : (Bool × Bool × (List Int)) => ⟨187, [(2, .lpb 0 0), (3, .lpb 1 0), (4, .lpb 2 0), (5, lb o.hard), (6, .lmap 3), (7, .lpb 4 0), (12, .fn 116 [.lpb 0 0, .lpb 4 0]), (13, .lpb 5 0), (17, li ak.1), (122, lb n.1)], [(0, .box [lq (Ar e)]), (1, .box [li c.frm, li c.to, li c.fin, ls 3 Ax g, ls 2 A2 i, .lsl 6 2 0 b.2.2.1.length, .lsl 7 1 0 n.2.2.length, .lsl 8 1 0 b.2.2.2.2.1.length, lb n.2.1]), (2, .box [li 0, li 0, li 0, .p (.nils), .p (.nils), .p (.nils), .p (.nils), .p (.nils), lb false]), (3, .map (Ao (fun x => .agg (AW x)) .bool (A1 d true b.2.1))), (4, .box [.lsl 9 2 0 f.length]), (5, .box [li d.elem, li d.fin]), (6, .row 185 2 (b.2.2.1.map A2)), (7, .row 3 1 (n.2.2.map Aa)), (8, .row 3 1 (b.2.2.2.2.1.map Aa)), (9, .row 40 2 (f.map AW))], 10⟩) cj (fun n ck => ?_) (fun n cv => ?_))
  .refine rg AA <| rn 2 Z <| gs 118 ck Z Z Z (fun cl => ?_) (fun cu => ?_)
   .refine rn 2 Z <| sx Z (CX AA (fun s : (Bool × Bool × (List Int)) => lb s.1) (fun s : (Bool × Bool × (List Int)) => [(0, .box [lq (Ar e)]), (1, .box [li c.frm, li c.to, li c.fin, ls 3 Ax g, ls 2 A2 i, .lsl 6 2 0 b.2.2.1.length, .lsl 10 1 0 s.2.2.length, .lsl 8 1 0 b.2.2.2.2.1.length, lb s.2.1]), (2, .box [li 0, li 0, li 0, .p (.nils), .p (.nils), .p (.nils), .p (.nils), .p (.nils), lb false]), (3, .map (Ao (fun x => .agg (AW x)) .bool (A1 d true b.2.1))), (4, .box [.lsl 9 2 0 f.length]), (5, .box [li d.elem, li d.fin]), (6, .row 185 2 (b.2.2.1.map A2)), (8, .row 3 1 (b.2.2.2.2.1.map Aa)), (9, .row 40 2 (f.map AW)), (10, .row 3 1 (s.2.2.map Aa))]) 11 cl Tryz.func118 30 [.tmp 4] [(0, .lpb 1 0), (1, li d.elem)] Z Z Z Z Z Z Z Z (fun A hA s cm => ?_) (fun s ct => ?_))
    .refine rs AA <| rl Z <| AB <| rs AA <| rn 5 Z <| bq cm fun fi ay cn => sx Z (AM (Cs _ _ _ ay) (.inl Z) Z Z (D1.eq (.cons (.one (.own (enc := Aa) b.2.2.2.1 Z Z)) (.cons (.one (.p _)) .nil))) <| rl Z <| cd Z cn (fun co => ?_) (fun cp => ?_))
     .refine rs AA <| rl Z <| AF <| AG ?_
      cases co
      exact Ca (nt := 30) (sl := [(4, lb true)]) (wj hA (gi 7 [(8, 8), (9, 9), (10, 7), (7, 7)]) Z Z Z Z) Z
     refine AE <| AC <| AB <| rs AA <| rl Z <| cd Z cp (fun cq => ?_) (fun cr => ?_)
     .refine rs AA <| rl Z <| rs AA <| rl Z <| AF <| AG ?_
      cases cq
      exact Ca (nt := 30) (sl := [(4, lb false)]) (wj hA (gi 7 [(8, 8), (9, 9), (10, 7), (7, 7)]) Z Z Z Z) Z
     refine AE <| AC <| rs AA <| rn 7 Z <| bq cr fun fj az cs => sx Z (BW (enc := Aa) (l := b.2.2.2.1) (m := [d.elem]) az (fun _ => ⟨Z, Z⟩) Z Z Z Z Z Z <| rl Z <| rs AA <| rl Z <| AF ?_)
     cases cs
     exact Ca (nt := 30) (sl := [(4, lb true)]) (wj hA (gi 7 [(8, 8), (9, 9), (10, 11), (7, 7)]) Z Z Z Z) Z
    exact rl Z <| AL ct (wf hA (gi 7 [(7, 10), (8, 8), (9, 9)]) Z Z Z)
   exact rl Z <| AL cu (wf hA (gi 10 []) Z Z Z)
  refine cd Z cv (fun cw => ?_) (fun c3 => ?_)
  .refine rg AA <| rn 4 Z <| sx Z (CX AA (fun aa : (List AI) => .tup []) (fun aa : (List AI) => [(0, .box [lq (Ar e)]), (1, .box [li c.frm, li c.to, li c.fin, ls 3 Ax g, ls 2 A2 i, .lsl 6 2 0 b.2.2.1.length, .lsl 7 1 0 n.2.2.length, .lsl 8 1 0 b.2.2.2.2.1.length, lb n.2.1]), (2, .box [li 0, li 0, li 0, .p (.nils), .p (.nils), .p (.nils), .p (.nils), .p (.nils), lb false]), (3, .map (Ao (fun x => .agg (AW x)) .bool (A1 d true b.2.1))), (4, .box [.lsl 10 2 0 aa.length]), (5, .box [li d.elem, li d.fin]), (6, .row 185 2 (b.2.2.1.map A2)), (7, .row 3 1 (n.2.2.map Aa)), (8, .row 3 1 (b.2.2.2.2.1.map Aa)), (10, .row 40 2 (aa.map AW))]) 11 cw Tryz.func116 21 [] [(0, li d.elem), (1, li ak.1), (2, .lpb 0 0), (3, .lpb 4 0)] Z Z Z Z Z Z Z Z (fun A hA aa cx => ?_) (fun aa c2 => ?_))
   .refine rs AA <| rn 4 Z <| bq cx fun e3 a0 cy => sx Z (AM (CK _ _ _ a0) (.inl Z) Z Z Z <| rl Z <| rs AA <| rl Z <| cd Z cy (fun cz => ?_) (fun c1 => ?_))
    .refine rg AA <| rn 3 Z <| bq cz fun fk a1 c0 => sx Z (BW (enc := AW) (l := f) (m := [e3.1]) a1 (fun _ => ⟨Z, Z⟩) Z Z Z Z Z Z <| rl Z ?_)
     have hr := Option.some.inj c0; subst hr
     exact Me (nt := 21) (sl := []) (wj hA (gi 9 [(10, 12), (9, 9)]) Z Z Z Z) Z
    refine AE ?_
    have hr := Option.some.inj c1; subst hr
    exact Me (nt := 21) (sl := []) (wj hA (gi 9 [(10, 9), (9, 9)]) Z Z Z Z) Z
   exact rl Z <| Ad <| Ad <| Aq c2 (wf hA (gi 5 [(5, 6), (6, 7), (7, 8), (8, 10)]) Z Z Z)
  exact AE <| Ad <| Ad <| Aq c3 (wf hA (gi 5 [(5, 6), (6, 7), (7, 8), (8, 9)]) Z Z Z)
 refine AT <| AZ <| BG c4 fun e8 c5 => An <| AC <| rs AA <| rl Z <| AF <| JN ?_
 cases c5
 exact er (IA Z (.agg (.cons (.p _) (.cons (.p _) (.cons (.p _) (.cons (.p _) (.cons (.p _) (.cons (.own (enc := A2) b.2.2.1 Z Z) (.cons (.own (enc := Aa) b.2.2.2.1 Z Z) (.cons (.own (enc := Aa) b.2.2.2.2.1 Z Z) (.cons (.p _) .nil))))))))))) Le.rfl
end Go.E
/- Plain functions, and walks in step with them. Written by a program (gen.py). No condition. -/
set_option maxRecDepth 100000
set_option maxHeartbeats 1000000
namespace Go.E
open Go Go.RowKit Go.Proofs
noncomputable def Eh (b : Az) (f : ((List Ag) × Int)) (a : Int × (List Ag)) : Option ((Int × (List Ag)) ⊕ (DX × Int)) :=
 bif decide (a.1 < (f.1.length : Int)) then (AY a.2 a.1).bind fun c => (FN b c).bind fun d => (AY a.2 a.1).bind fun g => some (.inl (AP (a.1 + 1), A5 a.2 a.1 d)) else ((B2 b).bind fun e => some ((⟨e, a.2⟩ : DX), 0)).map .inr
noncomputable def Gj (d : AK) : Option (DX × Int) :=
 (Cp d).bind fun a => JM a.1 (bif (a.2 != 0) then some ((⟨(⟨[], [], [], [], 0, 0, 0, 0, false⟩ : AK), []⟩ : DX), a.2) else none) fun c => bif (a.2 != 0) then some ((⟨(⟨[], [], [], [], 0, 0, 0, 0, false⟩ : AK), []⟩ : DX), a.2) else (Jk c).bind fun b => bif (b.2 != 0) then some ((⟨(⟨[], [], [], [], 0, 0, 0, 0, false⟩ : AK), []⟩ : DX), b.2) else AO (Eh c b) (0, b.1)
theorem UN (d : AK) (r : (DX × Int)) (h : Gj d = some r) : Aw Tryz.prog 52 [.agg (AN d)] (· = .tup [.agg (Ee r.1), .int .i64 r.2]) := by
 refine fn AA Tryz.func52 Z Z 45 Z [.cell 2 35, .tmp 3] Z [(0, .p (.agg (AN d)))] Z Z fun A hA => ?_
 unfold Gj at h
 refine rs AA <| rl Z <| rs AA <| rn 1 Z <| bq h fun af l b => sx Z (AM (Pw _ _ l) (.inr Z) Z Z Z ?_)
 revert b; rcases aj : af.1 with _ | ag <;> intro b
 .replace b := U9 b
  refine rl Z <| AB <| rs AA <| rl Z <| cd Z b (fun ac => ?_) (fun m => ?_)
  .refine rs AA <| rl Z <| AF <| AG ?_
   cases ac
   exact er Z (Le.tup' (.cons (Le.agg' (.cons (Le.nil _) (.cons (Le.nil _) (.cons (Le.nil _) (.cons (Le.nil _) (.cons Le.rfl (.cons Le.rfl (.cons Le.rfl (.cons Le.rfl (.cons Le.rfl (.cons (Le.nil _) .nil))))))))))) (.cons Le.rfl .nil)))
  refine AE <| AC <| rs AA <| rn 1 Z ?_
  cases m
 replace b := VA b
 refine rl Z <| AB <| rs AA <| rl Z <| cd Z b (fun v => ?_) (fun x => ?_)
 .refine rs AA <| rl Z <| AF <| AG ?_
  cases v
  exact er Z (Le.tup' (.cons (Le.agg' (.cons (Le.nil _) (.cons (Le.nil _) (.cons (Le.nil _) (.cons (Le.nil _) (.cons Le.rfl (.cons Le.rfl (.cons Le.rfl (.cons Le.rfl (.cons Le.rfl (.cons (Le.nil _) .nil))))))))))) (.cons Le.rfl .nil)))
 refine AE <| AC <| rs AA <| rn 1 Z <| bq x fun ae k y => sx Z (XK (c' := 3) (YF _ _ k) [] Z trivial Z Z Z Z Z Z Z <| rl Z <| AB <| rs AA <| rl Z <| cd Z y (fun aa => ?_) (fun ab => ?_))
 .refine rs AA <| rl Z <| AF <| AG ?_
  cases aa
  exact er Z (Le.tup' (.cons (Le.agg' (.cons (Le.nil _) (.cons (Le.nil _) (.cons (Le.nil _) (.cons (Le.nil _) (.cons Le.rfl (.cons Le.rfl (.cons Le.rfl (.cons Le.rfl (.cons Le.rfl (.cons (Le.nil _) .nil))))))))))) (.cons Le.rfl .nil)))
 refine AE <| AC <| AB <| rs AA <| rl Z <| AH ?_
 apply lp (a := r) (fun c : (Int × (List Ag)) => ⟨45, [(2, .lpb 0 0), (4, lq (Ar ag)), (6, .lsl 1 9 0 c.2.length), (27, li (ae.1.length : Int)), (28, li c.1)], [(0, .box [.p (.nils), .p (.nils), .p (.nils), .p (.nils), li 0, li 0, li 0, li 0, lb false, .p (.nils)]), (1, .row 72 9 (c.2.map A6))], 2⟩) ab
 . exact wf hA [(0, 1), (1, 2)] Z Z Z
 intro c ai g
 unfold Eh at g
 refine rs AA <| rl Z <| AB <| cd Z g (fun n => ?_) (fun t => ?_)
 .exact AE <| AC <| AB <| AH <| rs AA <| rl Z <| rg AA <| rn 5 Z <| bq n fun ak e o => sx Z (B3 e Z Z Z Z <| sx Z (DJ e Z Z Z <| bq o fun ad i q => sx Z (AM (YH _ _ _ i) (.inr Z) Z Z Z <| bq q fun al f s => sx Z (B3 f Z Z Z Z <| sx Z (Mc (z := ad) f Z Z Z Z Z Z Z Z <| rl Z <| Ad <| AC <| rg AA <| rl Z <| Aq s (wk [(0, 0), (1, 1)] (free hA _) Z Z Z (.cons Z (.cons Z (.cons (by simp only [BH]; rfl) (.cons Z (.cons Z .nil))))) (.cons Z Z (.cons Z Z .nil))))))))
 refine AT <| AZ <| CF t fun ah u => An <| AC <| rs AA <| rn 1 Z <| bq u fun am j w => sx Z (AM (Hq _ _ j) (.inr Z) Z Z Z <| rl Z <| AF ?_)
 cases w
 exact er (VE Z (.cons (.agg (.cons (.p _) (.cons (.p _) (.cons (.p _) (.cons (.p _) (.cons (.p _) (.cons (.p _) (.cons (.p _) (.cons (.p _) (.cons (.p _) (.cons (.own (enc := A6) c.2 Z Z) .nil))))))))))) (.cons (.one (.p _)) .nil))) Le.rfl
noncomputable def Gt (a : AK) : Option (DX × Bool) :=
 (HX a).bind fun c => bif (!c) then some ((⟨(⟨[], [], [], [], 0, 0, 0, 0, false⟩ : AK), []⟩ : DX), false) else (Gj a).bind fun b => some (b.1, (b.2 == 0))
theorem Q1 (a : AK) (r : (DX × Bool)) (h : Gt a = some r) : Aw Tryz.prog 24 [.agg (AN a)] (· = .tup [.agg (Ee r.1), .bool r.2]) := by
 refine fn AA Tryz.func24 Z Z 18 Z [.cell 2 35, .tmp 3] Z [(0, .p (.agg (AN a)))] Z Z fun A hA => ?_
 unfold Gt at h
 refine rs AA <| rl Z <| AB <| rs AA <| rn 1 Z <| bq h fun j c d => sx Z (AM (Px _ _ c) (.inl Z) Z Z Z <| rl Z <| cd Z d (fun e => ?_) (fun f => ?_))
 .refine rs AA <| rl Z <| AF <| AG ?_
  cases e
  exact er Z (Le.tup' (.cons (Le.agg' (.cons (Le.nil _) (.cons (Le.nil _) (.cons (Le.nil _) (.cons (Le.nil _) (.cons Le.rfl (.cons Le.rfl (.cons Le.rfl (.cons Le.rfl (.cons Le.rfl (.cons (Le.nil _) .nil))))))))))) (.cons Le.rfl .nil)))
 refine AE <| AC <| rs AA <| rn 1 Z <| bq f fun i b g => sx Z (AM (UN _ _ b) (.inr Z) Z Z Z <| rl Z <| rs AA <| rl Z <| AF ?_)
 cases g
 exact er Z Le.rfl
noncomputable def I5 (b : AK) : Option (Option Az) :=
 (HX b).bind fun c => bif (!c) then some none else (Cp b).bind fun a => JM a.1 (bif (a.2 != 0) then some none else some none) fun d => bif (a.2 != 0) then some none else some (some d)
theorem To (b : AK) (r : (Option Az)) (h : I5 b = some r) : Aw Tryz.prog 33 [.agg (AN b)] (· = X8 Ar r) := by
 refine fn AA Tryz.func33 Z Z 16 Z [.tmp 2] Z [(0, .p (.agg (AN b)))] Z Z fun A hA => ?_
 unfold I5 at h
 refine rs AA <| rl Z <| AB <| rs AA <| rn 1 Z <| bq h fun o d e => sx Z (AM (Px _ _ d) (.inl Z) Z Z Z <| rl Z <| cd Z e (fun f => ?_) (fun g => ?_))
 .refine rs AA <| rl Z <| AF <| AG ?_
  cases f
  exact er Z Le.rfl
 refine AE <| AC <| rs AA <| rn 1 Z <| bq g fun m c a => sx Z (AM (Pw _ _ c) (.inr Z) Z Z Z ?_)
 revert a; rcases n : m.1 with _ | q <;> intro a
 .replace a := U9 a
  refine rl Z <| AB <| rs AA <| rl Z <| cd Z a (fun i => ?_) (fun j => ?_)
  .refine rs AA <| rl Z <| AF <| AG ?_
   cases i
   exact er Z Le.rfl
  refine AE <| AC <| rs AA <| rl Z <| AF ?_
  cases j
  exact er Z Le.rfl
 replace a := VA a
 refine rl Z <| AB <| rs AA <| rl Z <| cd Z a (fun k => ?_) (fun l => ?_)
 .refine rs AA <| rl Z <| AF <| AG ?_
  cases k
  exact er Z Le.rfl
 refine AE <| AC <| rs AA <| rl Z <| AF ?_
 cases l
 exact er Z Le.rfl
noncomputable def HU : Option Ac :=
 some (⟨0, ([(⟨(⟨#[120]⟩ : ByteArray), 5, 10, 10, 5⟩ : BM)] : List BM), ([(⟨(⟨#[116]⟩ : ByteArray), 0, 0, 0, ([(⟨false, 0, 1, 1⟩ : C4), (⟨false, 0, 3, 4⟩ : C4), (⟨true, 0, 2, 0⟩ : C4)] : List C4)⟩ : Dg)] : List Dg)⟩ : Ac)
theorem K1 (r : Ac) (h : HU = some r) : Aw Tryz.prog 34 [] (· = .agg (AV r)) := by
 refine fn AA Tryz.func34 Z Z 10 Z [.cell 0 31] Z [] Z Z fun A hA => ?_
 unfold HU at h
 refine rs AA <| rl Z <| rs AA <| rn 1 Z <| sx Z (X0 (sz := 5) (l := List.map BN ([(⟨(⟨#[120]⟩ : ByteArray), 5, 10, 10, 5⟩ : BM)] : List BM)) Z <| rn 3 Z <| sx Z (X0 (sz := 4) (l := List.map DI ([(⟨false, 0, 1, 1⟩ : C4), (⟨false, 0, 3, 4⟩ : C4), (⟨true, 0, 2, 0⟩ : C4)] : List C4)) Z <| rn 1 Z <| sx Z (X0 (sz := 5) (l := List.map B4 ([(⟨(⟨#[116]⟩ : ByteArray), 0, 0, 0, ([(⟨false, 0, 1, 1⟩ : C4), (⟨false, 0, 3, 4⟩ : C4), (⟨true, 0, 2, 0⟩ : C4)] : List C4)⟩ : Dg)] : List Dg)) Z <| rl Z <| AF ?_)))
 cases h
 exact er Z Le.rfl
noncomputable def GJ (b : Ac) (a : Int) (c : Int) : Option ((List C4) × Bool) :=
 ((bif decide (a < 0) then some true else bif decide ((b.runs.length : Int) <= a) then some true else bif decide (c < 0) then some true else (AY b.runs a).bind fun e => some (decide ((e.legs.length : Int) < c)) : Option (Bool))).bind fun (d : Bool) => bif d then some ([], false) else (AY b.runs a).bind fun f => some (f.legs, true)
theorem Oj (a : Ac) (b : Int) (d : Int) (r : ((List C4) × Bool)) (h : GJ a b d = some r) : Aw Tryz.prog 39 [.agg (AV a), .int .i64 b, .int .i64 d] (· = .tup [.slice 4 (r.1.map DI), .bool r.2]) := by
 refine fn AA Tryz.func39 Z Z 38 Z [.tmp 6, .tmp 7] Z [(0, .p (.agg (AV a))), (1, .p (.int .i64 b)), (2, .p (.int .i64 d))] Z Z fun A hA => ?_
 unfold GJ at h
 refine rs AA <| rl Z <| AB <| jb (fun c : Bool => ⟨38, [(1, li b), (3, .lpb 0 0), (31, lb c)], [(0, bx (AV a))], 1⟩) h (fun c g => ?_) (fun c q => ?_)
 .refine rg AA <| rn 3 Z <| gs 10 g Z Z Z (fun i => ?_) (fun j => ?_)
  .exact rl Z <| AL i (wf hA [(0, 0)] Z Z Z)
  refine rn 3 Z <| sx Z (Ae Z Z <| rn 3 Z <| gs 17 j Z Z Z (fun k => ?_) (fun l => ?_))
  .exact rl Z <| AL k (wf hA [(0, 0)] Z Z Z)
  refine rn 4 Z <| gs 21 l Z Z Z (fun m => ?_) (fun n => ?_)
  .exact rl Z <| AL m (wf hA [(0, 0)] Z Z Z)
  exact rn 4 Z <| bq n fun v e o => sx Z (Ab e Z Z Z <| rn 2 Z <| sx Z (Ae Z Z <| rl Z <| AL o (wf hA [(0, 0)] Z Z Z)))
 refine cd Z q (fun s => ?_) (fun t => ?_)
 .refine rs AA <| rl Z <| AF <| AG ?_
  cases s
  exact er Z (Le.tup' (.cons (Le.nil _) (.cons Le.rfl .nil)))
 refine AE <| AC <| rs AA <| rn 3 Z <| bq t fun w f u => sx Z (Ab f Z Z Z <| rl Z <| AF ?_)
 cases u
 exact er Z Le.rfl
noncomputable def Iu (b : Az) (c : Int) : Option (Int × Bool) :=
 (Cf b c).bind fun a => some (a.1.elem, a.2)
theorem UO (a : Az) (b : Int) (r : (Int × Bool)) (h : Iu a b = some r) : Aw Tryz.prog 70 [.place (Ar a) 0, .int .i64 b] (· = .tup [.int .i64 r.1, .bool r.2]) := by
 refine fn AA Tryz.func70 Z Z 17 Z [.tmp 4, .tmp 5] Z [(0, .p (.place (Ar a) 0)), (1, .p (.int .i64 b))] Z Z fun A hA => ?_
 unfold Iu at h
 refine rs AA <| rl Z <| rs AA <| rn 2 Z <| bq h fun e c d => sx Z (AM (HT _ _ _ c) (.inl Z) Z Z Z <| rl Z <| rs AA <| rl Z <| AF ?_)
 cases d
 exact er Z Le.rfl
noncomputable def Gy (b : Az) (c : Int) : Option Int :=
 (Iu b c).bind fun a => bif (!a.2) then some (-1) else some a.1
theorem Q5 (a : Az) (b : Int) (r : Int) (h : Gy a b = some r) : Aw Tryz.prog 40 [.place (Ar a) 0, .int .i64 b] (· = .int .i64 r) := by
 refine fn AA Tryz.func40 Z Z 16 Z [.tmp 4] Z [(0, .p (.place (Ar a) 0)), (1, .p (.int .i64 b))] Z Z fun A hA => ?_
 unfold Gy at h
 refine rs AA <| rl Z <| rs AA <| rn 2 Z <| bq h fun g c d => sx Z (AM (UO _ _ _ c) (.inl Z) Z Z Z <| rl Z <| AB <| rs AA <| rl Z <| cd Z d (fun e => ?_) (fun f => ?_))
 .refine rs AA <| rl Z <| AF <| AG ?_
  cases e
  exact er Z Le.rfl
 refine AE <| AC <| rs AA <| rl Z <| AF ?_
 cases f
 exact er Z Le.rfl
noncomputable def C3 (c : Az) (d : Ac) (e : Int) (b : Int) : Option Int :=
 (GJ d e b).bind fun f => bif (!f.2) then some (-1) else bif (b == 0) then (AY d.runs e).bind fun g => (Gy c g.frm).bind fun h => some h else (AY f.1 (AP (b - 1))).bind fun a => bif (a.fin == 1) then (Gy c a.to).bind fun i => some i else bif (a.fin == 3) then some a.to else some (-1)
theorem HS (a : Az) (b : Ac) (c : Int) (d : Int) (r : Int) (h : C3 a b c d = some r) : Aw Tryz.prog 13 [.place (Ar a) 0, .agg (AV b), .int .i64 c, .int .i64 d] (· = .int .i64 r) := by
 refine fn AA Tryz.func13 Z Z 48 Z [.tmp 8] Z [(0, .p (.place (Ar a) 0)), (1, .p (.agg (AV b))), (2, .p (.int .i64 c)), (3, .p (.int .i64 d))] Z Z fun A hA => ?_
 unfold C3 at h
 refine rs AA <| rl Z <| rs AA <| rn 3 Z <| bq h fun ab g o => sx Z (AM (Oj _ _ _ _ g) (.inr Z) Z Z Z <| rl Z <| AB <| rs AA <| rl Z <| cd Z o (fun x => ?_) (fun y => ?_))
 .refine rs AA <| rl Z <| AF <| AG ?_
  cases x
  exact er Z Le.rfl
 refine AE <| AC <| AB <| rs AA <| rl Z <| cd Z y (fun k => ?_) (fun n => ?_)
 .refine rs AA <| rn 4 Z <| bq k fun z e l => sx Z (Ab e Z Z Z <| rn 2 Z <| bq l fun aa f m => sx Z (AM (Q5 _ _ _ f) (.inl Z) Z Z Z <| rl Z <| AF <| AG ?_))
  have hr := Option.some.inj m; subst hr
  exact er Z Le.rfl
 refine AE <| AC <| AB <| rs AA <| rn 3 Z <| bq n fun ac i q => sx Z (Ab i Z Z Z <| rl Z <| rs AA <| rl Z <| AH <| rs AA <| rl Z <| cd Z q (fun s => ?_) (fun u => ?_))
 .refine rs AA <| rn 3 Z <| bq s fun ad j t => sx Z (AM (Q5 _ _ _ j) (.inl Z) Z Z Z <| rl Z <| AF <| AQ <| AG ?_)
  have hr := Option.some.inj t; subst hr
  exact er Z Le.rfl
 refine rs AA <| rl Z <| cd Z u (fun v => ?_) (fun w => ?_)
 .refine rs AA <| rl Z <| AF <| AQ <| AG ?_
  cases v
  exact er Z Le.rfl
 refine AE <| Ad <| AC <| rs AA <| rl Z <| AF ?_
 cases w
 exact er Z Le.rfl
noncomputable def Gq (b : Az) (a : Int) : Option Int :=
 (BX b a).bind fun c => bif (c == 4) then some (-1) else some a
theorem Qz (a : Az) (b : Int) (r : Int) (h : Gq a b = some r) : Aw Tryz.prog 48 [.place (Ar a) 0, .int .i64 b] (· = .int .i64 r) := by
 refine fn AA Tryz.func48 Z Z 10 Z [.tmp 4] Z [(0, .p (.place (Ar a) 0)), (1, .p (.int .i64 b))] Z Z fun A hA => ?_
 unfold Gq at h
 refine rs AA <| rl Z <| AB <| rs AA <| rn 2 Z <| bq h fun g c d => sx Z (AM (Bx _ _ _ c) (.inl Z) Z Z Z <| rl Z <| cd Z d (fun e => ?_) (fun f => ?_))
 .refine rs AA <| rl Z <| AF <| AG ?_
  cases e
  exact er Z Le.rfl
 refine AE <| AC <| rs AA <| rl Z <| AF ?_
 have hr := Option.some.inj f; subst hr
 exact er Z Le.rfl
noncomputable def DQ (a : Az) (b : Int) : Option (Int × Int) :=
 bif (Am a.line b).isSome then (AY ([((Am a.line b).getD (⟨0, 0⟩ : Bo)).a0, ((Am a.line b).getD (⟨0, 0⟩ : Bo)).a1] : List Int) 0).bind fun c => (AY ([((Am a.line b).getD (⟨0, 0⟩ : Bo)).a0, ((Am a.line b).getD (⟨0, 0⟩ : Bo)).a1] : List Int) 1).bind fun d => some (c, d) else some ((-1), (-1))
theorem Ng (a : Az) (b : Int) (r : (Int × Int)) (h : DQ a b = some r) : Aw Tryz.prog 77 [.place (Ar a) 0, .int .i64 b] (· = .tup [.int .i64 r.1, .int .i64 r.2]) := by
 refine fn AA Tryz.func77 Z Z 22 Z [.tmp 4, .tmp 5] Z [(0, .p (.place (Ar a) 0)), (1, .p (.int .i64 b))] Z Z fun A hA => ?_
 unfold DQ at h
 refine rs AA <| rl Z <| AB <| rs AA <| rn 5 Z <| sx Z (KR (et := 161) (ke := (.int .i64)) (ve := (fun x => .agg (FZ x))) (mp := a.line) (y := b) (⟨0, 0⟩ : Bo) Gd Z Z Z Z <| rl Z <| rs AA <| rl Z <| cd Z h (fun e => ?_) (fun j => ?_))
 .refine AB ?_
  refine B0 AA mixed [0, 1, 2, 3, 4, 5] 6 (by kernel_rfl) Z Z Z ?_
  refine bq e fun k c f => As Z (Al Z (Lb (l := ([((Am a.line b).getD (⟨0, 0⟩ : Bo)).a0, ((Am a.line b).getD (⟨0, 0⟩ : Bo)).a1] : List Int)) c Z Z Z Z <| As Z (HN Z (SE (g := fun y => .p (.int .i64 y)) c Z Z Z Z <| bq f fun m d i => As Z (Al Z (Lb (l := ([((Am a.line b).getD (⟨0, 0⟩ : Bo)).a0, ((Am a.line b).getD (⟨0, 0⟩ : Bo)).a1] : List Int)) d Z Z Z Z <| As Z (HN Z (SE (g := fun y => .p (.int .i64 y)) d Z Z Z Z <| BK Z <| AC <| AF <| AG ?_))))))))
  cases i
  exact er Z Le.rfl
 refine AE <| AC <| rs AA <| rl Z <| AF ?_
 cases j
 exact er Z Le.rfl
noncomputable def Ig (b : Az) (c : Ac) (d : Int) (e : Int) : Option (AI × Bool) :=
 bif (e == 0) then (AY c.runs d).bind fun l => (Cf b l.frm).bind fun f => some (f.1, f.2) else (AY c.runs d).bind fun m => (AY m.legs (AP (e - 1))).bind fun a => bif (a.fin == 1) then (Cf b a.to).bind fun g => some (g.1, g.2) else bif (a.fin == 3) then (Bh b (⟨a.to, 0⟩ : AI)).bind fun h => (Bh b (⟨a.to, 1⟩ : AI)).bind fun i => ((bif (!h.2) then some i.2 else some false : Option (Bool))).bind fun (j : Bool) => bif j then some ((⟨a.to, 0⟩ : AI), true) else ((bif h.2 then some (!i.2) else some false : Option (Bool))).bind fun (k : Bool) => some ((⟨a.to, 1⟩ : AI), k) else some ((⟨0, 0⟩ : AI), false)
theorem Wf (c : Az) (d : Ac) (e : Int) (f : Int) (r : (AI × Bool)) (h : Ig c d e f = some r) : Aw Tryz.prog 42 [.place (Ar c) 0, .agg (AV d), .int .i64 e, .int .i64 f] (· = .tup [.agg (AW r.1), .bool r.2]) := by
 refine fn AA Tryz.func42 Z Z 82 Z [.cell 8 40, .tmp 9] Z [(0, .p (.place (Ar c) 0)), (1, .p (.agg (AV d))), (2, .p (.int .i64 e)), (3, .p (.int .i64 f))] Z Z fun A hA => ?_
 unfold Ig at h
 refine rs AA <| rl Z <| AB <| rs AA <| rl Z <| cd Z h (fun w => ?_) (fun af => ?_)
 .refine rs AA <| rn 4 Z <| bq w fun aq i ad => sx Z (Ab i Z Z Z <| rn 2 Z <| bq ad fun ar j ae => sx Z (AM (HT _ _ _ j) (.inl Z) Z Z Z <| rl Z <| AF <| AG ?_))
  cases ae
  exact er Z Le.rfl
 refine AE <| AC <| AB <| rs AA <| rn 3 Z <| bq af fun au k ag => sx Z (Ab k Z Z Z <| rn 4 Z <| bq ag fun g l ah => sx Z (Ab l Z Z Z <| rl Z <| rs AA <| rl Z <| AH <| rs AA <| rl Z <| cd Z ah (fun ai => ?_) (fun ak => ?_)))
 .refine rs AA <| rn 3 Z <| bq ai fun av m aj => sx Z (AM (HT _ _ _ m) (.inl Z) Z Z Z <| rl Z <| AF <| AQ <| AG ?_)
  cases aj
  exact er Z Le.rfl
 refine rs AA <| rl Z <| cd Z ak (fun al => ?_) (fun ac => ?_)
 .refine rs AA <| rn 4 Z <| bq al fun ao n am => sx Z (AM (CK _ _ _ n) (.inl Z) Z Z Z <| rl Z <| rs AA <| rn 4 Z <| bq am fun ap o an => sx Z (AM (CK _ _ _ o) (.inl Z) Z Z Z <| rl Z <| AB <| jb (fun a : Bool => ⟨82, [(8, .lpb 0 0), (10, .lpb 1 0), (12, lb ao.2), (14, lb ap.2), (69, lb a)], [(0, .box [li 0, li 0]), (1, bx (DI g))], 2⟩) an (fun a q => ?_) (fun a u => ?_)))
  .refine rg AA <| rn 3 Z <| gs 67 q Z Z Z (fun s => ?_) (fun t => ?_)
   .exact rl Z <| AL s (wf hA [(0, 1), (1, 2)] Z Z Z)
   exact rl Z <| AL t (wf hA [(0, 1), (1, 2)] Z Z Z)
  refine cd Z u (fun v => ?_) (fun x => ?_)
  .refine rs AA <| rl Z <| AF <| AG <| AQ <| AG ?_
   cases v
   exact er Z Le.rfl
  refine AE <| AC <| jb (fun b : Bool => ⟨82, [(8, .lpb 0 0), (9, lb b)], [(0, .box [li g.to, li 1])], 1⟩) x (fun b y => ?_) (fun b ab => ?_)
  .refine rg AA <| rn 5 Z <| gs 77 y Z Z Z (fun z => ?_) (fun aa => ?_)
   .exact rl Z <| AL z (wf hA [(0, 0)] Z Z Z)
   exact rl Z <| AL aa (wf hA [(0, 0)] Z Z Z)
  refine AF <| AQ <| AG ?_
  cases ab
  exact er Z Le.rfl
 refine AE <| Ad <| AC <| rs AA <| rl Z <| AF ?_
 cases ac
 exact er Z Le.rfl
noncomputable def Hs (d : Az) (e : Ac) (f : Int) (a : Int) : Option Int :=
 (GJ e f a).bind fun c => ((bif (!c.2) then some true else some (a == (c.1.length : Int)) : Option (Bool))).bind fun (g : Bool) => bif g then some (-1) else (Ig d e f a).bind fun b => ((bif (!b.2) then some true else (AY c.1 a).bind fun j => bif j.turn then (BX d b.1.elem).bind fun k => some (k != 1) else some false : Option (Bool))).bind fun (h : Bool) => bif h then some (-1) else (((AY c.1 a).bind fun l => bif l.turn then some (AP (1 - b.1.fin)) else some b.1.fin : Option (Int))).bind fun (i : Int) => (Cb d (⟨b.1.elem, i⟩ : AI)).bind fun m => some m
theorem SR (a : Az) (c : Ac) (d : Int) (b : Int) (r : Int) (h : Hs a c d b = some r) : Aw Tryz.prog 15 [.place (Ar a) 0, .agg (AV c), .int .i64 d, .int .i64 b] (· = .int .i64 r) := by
 refine fn AA Tryz.func15 Z Z 63 Z [.tmp 8] Z [(0, .p (.place (Ar a) 0)), (1, .p (.agg (AV c))), (2, .p (.int .i64 d)), (3, .p (.int .i64 b))] Z Z fun A hA => ?_
 unfold Hs at h
 refine rs AA <| rl Z <| rs AA <| rn 3 Z <| bq h fun j l z => sx Z (AM (Oj _ _ _ _ l) (.inr Z) Z Z Z <| rl Z <| AB <| jb (fun e : Bool => ⟨63, [(0, lq (Ar a)), (2, li d), (3, li b), (5, .lpb 0 0), (9, ls 4 DI j.1), (26, lb e)], [(0, bx (AV c))], 1⟩) z (fun e s => ?_) (fun e v => ?_))
 .refine rg AA <| rn 3 Z <| gs 21 s Z Z Z (fun t => ?_) (fun u => ?_)
  .exact rl Z <| AL t (wf hA [(0, 0)] Z Z Z)
  exact rn 2 Z <| sx Z (Ae Z Z <| rl Z <| AL u (wf hA [(0, 0)] Z Z Z))
 refine cd Z v (fun w => ?_) (fun x => ?_)
 .refine rs AA <| rl Z <| AF <| AG ?_
  cases w
  exact er Z Le.rfl
 refine AE <| AC <| rs AA <| rn 4 Z <| bq x fun i k y => sx Z (AM (Wf _ _ _ _ _ k) (.inl Z) Z Z Z <| rl Z <| AB <| jb (fun f : Bool => ⟨63, [(0, lq (Ar a)), (3, li b), (9, ls 4 DI j.1), (11, .lpb 0 0), (50, lb f)], [(0, .box [li i.1.elem, li i.1.fin])], 1⟩) y (fun f aa => ?_) (fun f ah => ?_))
 .refine rg AA <| rn 3 Z <| gs 37 aa Z Z Z (fun ab => ?_) (fun ac => ?_)
  .exact rl Z <| AL ab (wf hA [(0, 1)] Z Z Z)
  refine rn 2 Z <| bq ac fun aq m ad => sx Z (Ab m Z Z Z <| rn 3 Z <| gs 43 ad Z Z Z (fun ae => ?_) (fun ag => ?_))
  .exact rn 3 Z <| bq ae fun ar n af => sx Z (AM (Bx _ _ _ n) (.inl Z) Z Z Z <| rl Z <| AL af (wf hA [(0, 1)] Z Z Z))
  exact rl Z <| AL ag (wf hA [(0, 1)] Z Z Z)
 refine cd Z ah (fun ai => ?_) (fun aj => ?_)
 .refine rs AA <| rl Z <| AF <| AG ?_
  cases ai
  exact er Z Le.rfl
 refine AE <| AC <| jb (fun g : Int => ⟨63, [(0, lq (Ar a)), (11, .lpb 0 0)], [(0, .box [li i.1.elem, li g])], 1⟩) aj (fun g ak => ?_) (fun g ao => ?_)
 .refine rs AA <| rn 2 Z <| bq ak fun au o al => sx Z (Ab o Z Z Z <| rl Z <| cd Z al (fun am => ?_) (fun an => ?_))
  .exact rg AA <| rl Z <| AL am (wf hA [(0, 0)] Z Z Z)
  exact AE <| AL an (wf hA [(0, 0)] Z Z Z)
 refine rs AA <| rn 2 Z <| bq ao fun av q ap => sx Z (AM (HA _ _ _ q) (.inl Z) Z Z Z <| rl Z <| AF ?_)
 have hr := Option.some.inj ap; subst hr
 exact er Z Le.rfl
noncomputable def Jn (a : Ag) (b : C4) : Option Bool :=
 ((bif (a.fin != b.fin) then some true else some ((a.steps.length : Int) == 0) : Option (Bool))).bind fun (c : Bool) => bif c then some false else bif (b.fin == 1) then some (a.to == b.to) else (AY a.steps (AP ((a.steps.length : Int) - 1))).bind fun d => some (d.elem == b.to)
theorem YI (a : Ag) (b : C4) (r : Bool) (h : Jn a b = some r) : Aw Tryz.prog 45 [.agg (A6 a), .agg (DI b)] (· = .bool r) := by
 refine fn AA Tryz.func45 Z Z 36 Z [.tmp 4] Z [(0, .p (.agg (A6 a))), (1, .p (.agg (DI b)))] Z Z fun A hA => ?_
 unfold Jn at h
 refine rs AA <| rl Z <| AB <| jb (fun c : Bool => ⟨36, [(2, .lpb 0 0), (3, .lpb 1 0), (15, lb c)], [(0, bx (A6 a)), (1, bx (DI b))], 2⟩) h (fun c e => ?_) (fun c i => ?_)
 .refine rg AA <| rn 6 Z <| gs 10 e Z Z Z (fun f => ?_) (fun g => ?_)
  .exact rl Z <| AL f (wf hA [(0, 0), (1, 1)] Z Z Z)
  exact rn 2 Z <| sx Z (Ae Z Z <| rl Z <| AL g (wf hA [(0, 0), (1, 1)] Z Z Z))
 refine cd Z i (fun j => ?_) (fun k => ?_)
 .refine rs AA <| rl Z <| AF <| AG ?_
  cases j
  exact er Z Le.rfl
 refine AE <| AC <| AB <| rs AA <| rl Z <| cd Z k (fun l => ?_) (fun m => ?_)
 .refine rs AA <| rl Z <| AF <| AG ?_
  cases l
  exact er Z Le.rfl
 refine AE <| AC <| AB ?_
 refine B0 AA mixed [0, 1, 2, 3, 4, 5, 6, 7, 8, 9, 10, 11, 12] 13 (by kernel_rfl) Z Z Z ?_
 refine Au 4 Z <| As Z (Kr Z Z <| Au 1 Z <| bq m fun o d n => As Z (Al Z (Ab d Z Z Z <| BK Z <| AC <| AF ?_)))
 cases n
 exact er Z Le.rfl
noncomputable def DR (a : Az) (b : Int) : Option Int :=
 (ES a b).bind fun c => some c.length
theorem MH (a : Az) (b : Int) (r : Int) (h : DR a b = some r) : Aw Tryz.prog 74 [.place (Ar a) 0, .int .i64 b] (· = .int .i64 r) := by
 refine fn AA Tryz.func74 Z Z 9 Z [.tmp 4] Z [(0, .p (.place (Ar a) 0)), (1, .p (.int .i64 b))] Z Z fun A hA => ?_
 unfold DR at h
 refine rs AA <| rl Z <| rs AA <| rn 2 Z <| bq h fun e c d => sx Z (AM (Nu _ _ _ c) (.inl Z) Z Z Z <| rl Z <| AF ?_)
 cases d
 exact er Z Le.rfl
noncomputable def Hd (a : Az) (d : BM) (b : Int) : Option Bool :=
 (BX a b).bind fun c => bif (c == 4) then some true else bif (c == 1) then (DR a b).bind fun e => (B2 a).bind fun f => some (decide (AP (d.len + f.margin) <= e)) else some false
theorem VV (a : Az) (b : BM) (c : Int) (r : Bool) (h : Hd a b c = some r) : Aw Tryz.prog 47 [.place (Ar a) 0, .agg (BN b), .int .i64 c] (· = .bool r) := by
 refine fn AA Tryz.func47 Z Z 24 Z [.tmp 6] Z [(0, .p (.place (Ar a) 0)), (1, .p (.agg (BN b))), (2, .p (.int .i64 c))] Z Z fun A hA => ?_
 unfold Hd at h
 refine rs AA <| rl Z <| AB <| rs AA <| rn 2 Z <| bq h fun o d g => sx Z (AM (Bx _ _ _ d) (.inl Z) Z Z Z <| rl Z <| AH <| rs AA <| rl Z <| cd Z g (fun i => ?_) (fun j => ?_))
 .refine rs AA <| rl Z <| AF <| AQ <| AG ?_
  cases i
  exact er Z Le.rfl
 refine rs AA <| rl Z <| cd Z j (fun k => ?_) (fun n => ?_)
 .refine AB ?_
  refine B0 AA mixed [0, 1, 2, 3, 4, 5, 6, 7, 8, 9, 10] 11 (by kernel_rfl) Z Z Z ?_
  refine Au 2 Z <| bq k fun q e l => As Z (A0 (MH _ _ _ e) (.inl Z) Z Z Z <| Au 3 Z <| bq l fun s f m => As Z (A0 (Hq _ _ f) (.inr Z) Z Z Z <| BK Z <| AC <| AF <| AQ <| AG ?_))
  cases m
  exact er Z Le.rfl
 refine AE <| Ad <| AC <| rs AA <| rl Z <| AF ?_
 cases n
 exact er Z Le.rfl
noncomputable def H5 (f : Az) (c : (List Ag)) (g : Ac) (h : Int) (i : Int) (j : Int) (l : Int) (k : BM) (a : Int × (List Int)) : Option ((Int × (List Int)) ⊕ (List Int)) :=
 bif decide (a.1 < (c.length : Int)) then (((AY c a.1).bind fun b => ((bif (b.frm == j) then (AY g.runs h).bind fun m => (AY m.legs i).bind fun n => (Jn b n).bind fun o => bif o then bif (!b.bare) then (Bd b.zone l).bind fun p => bif (!p) then (AY b.steps (AP ((b.steps.length : Int) - 1))).bind fun q => (Hd f k q.elem).bind fun r => some r else some false else some false else some false else some false : Option (Bool))).bind fun (e : Bool) => bif e then (Bs a.2 [a.1]).bind fun s => some s else some a.2 : Option ((List Int)))).bind fun (d : (List Int)) => some (.inl (AP (a.1 + 1), d)) else some (.inr a.2)
noncomputable def EF (c : Az) (g : (List Ag)) (a : Ac) (b : Int) (d : Int) : Option (List Int) :=
 (Hs c a b d).bind fun e => (C3 c a b d).bind fun l => ((bif decide (e < 0) then some true else (AY a.runs b).bind fun h => bif decide (h.stock < 0) then some true else (AY a.runs b).bind fun i => some (decide ((a.stock.length : Int) <= i.stock)) : Option (Bool))).bind fun (f : Bool) => bif f then some [] else (AY a.runs b).bind fun j => (AY a.stock j.stock).bind fun k => AO (H5 c g a b d e l k) (0, ([] : List Int))
theorem KT (d : Az) (c : (List Ag)) (e : Ac) (f : Int) (g : Int) (r : (List Int)) (h : EF d c e f g = some r) : Aw Tryz.prog 18 [.place (Ar d) 0, .slice 9 (c.map A6), .agg (AV e), .int .i64 f, .int .i64 g] (· = .slice 1 (r.map Aa)) := by
 refine fn AA Tryz.func18 Z Z 116 Z [.tmp 10] Z [(0, .p (.place (Ar d) 0)), (1, .p (.slice 9 (c.map A6))), (2, .p (.agg (AV e))), (3, .p (.int .i64 f)), (4, .p (.int .i64 g))] Z Z fun A hA => ?_
 unfold EF at h
 refine rs AA <| rl Z <| AB ?_
 refine B0 AA mixed [0, 1, 2, 3, 4, 5, 6, 7, 8, 9, 10, 11] 12 (by kernel_rfl) Z Z Z ?_
 refine Au 4 Z <| bq h fun j v av => As Z (A0 (SR _ _ _ _ _ v) (.inl Z) Z Z Z <| Au 4 Z <| bq av fun k y aw => As Z (A0 (HS _ _ _ _ _ y) (.inl Z) Z Z Z <| BK Z <| AC <| AB <| jb (fun n : Bool => ⟨116, [(0, lq (Ar d)), (1, ls 9 A6 c), (3, li f), (4, li g), (7, .lpb 0 0), (11, li j), (12, li k), (49, lb n)], [(0, bx (AV e))], 1⟩) aw (fun n ah => ?_) (fun n ao => ?_)))
 .refine B0 AA mixed [0, 1, 2, 3, 4, 5, 6, 7, 8, 9, 10, 11, 12, 13, 14, 15, 16, 17, 18, 19, 20, 21, 22] 23 (by kernel_rfl) Z Z Z ?_
  refine Au 3 Z <| Ec 29 ah Z Z Z (fun ai => ?_) (fun aj => ?_)
  .exact BK Z <| AL ai (wf hA [(0, 0)] Z Z Z)
  refine Au 3 Z <| bq aj fun bp t ak => As Z (Al Z (Ab t Z Z Z <| Au 5 Z <| Ec 38 ak Z Z Z (fun al => ?_) (fun am => ?_)))
  .exact BK Z <| AL al (wf hA [(0, 0)] Z Z Z)
  exact Au 3 Z <| bq am fun br u an => As Z (Al Z (Ab u Z Z Z <| Au 4 Z <| As Z (Kr Z Z <| BK Z <| AL an (wf hA [(0, 0)] Z Z Z))))
 refine cd Z ao (fun ap => ?_) (fun aq => ?_)
 .refine rs AA <| rl Z <| AF <| AG ?_
  cases ap
  exact er Z (Le.nil _)
 refine AE <| AC <| AB ?_
 refine B0 AA mixed [0, 1, 2, 3, 4, 5, 6, 7, 8, 9, 10, 11] 12 (by kernel_rfl) Z Z Z ?_
 refine Au 5 Z <| bq aq fun bs w ar => As Z (Al Z (Ab w Z Z Z <| Au 2 Z <| bq ar fun q x au => As Z (Al Z (Ab x Z Z Z <| BK Z <| AC <| rs AA <| rl Z <| AB <| rs AA <| rn 1 Z <| sx Z (Ae Z Z <| rl Z <| AH ?_)))))
 apply lp (a := r) (fun b : (Int × (List Int)) => ⟨116, [(0, lq (Ar d)), (3, li f), (4, li g), (7, .lpb 0 0), (11, li j), (12, li k), (13, .lpb 1 0), (14, .lsl 2 1 0 b.2.length), (60, ls 9 A6 c), (61, li (c.length : Int)), (62, li b.1)], [(0, bx (AV e)), (1, bx (BN q)), (2, .row 3 1 (b.2.map Aa))], 3⟩) au
 . exact A8.trans (CS 14 3 1 Z) (wf hA [(0, 0), (1, 11), (2, 13)] Z Z Z)
 intro b bo s
 unfold H5 at s
 refine rs AA <| rl Z <| AB <| cd Z s (fun ax => ?_) (fun bl => ?_)
 .refine AE <| AC <| jb (fun i : (List Int) => ⟨116, [(0, lq (Ar d)), (3, li f), (4, li g), (7, .lpb 0 0), (11, li j), (12, li k), (13, .lpb 1 0), (14, .lsl 2 1 0 i.length), (60, ls 9 A6 c), (61, li (c.length : Int)), (62, li b.1)], [(0, bx (AV e)), (1, bx (BN q)), (2, .row 3 1 (i.map Aa))], 3⟩) ax (fun i ay => ?_) (fun i bk => ?_)
  .refine AH <| rs AA <| rn 1 Z <| bq ay fun bt z az => sx Z (Ab z Z Z Z <| rl Z <| jb (fun o : Bool => ⟨116, [(0, lq (Ar d)), (3, li f), (4, li g), (7, .lpb 0 0), (11, li j), (12, li k), (13, .lpb 1 0), (14, .lsl 2 1 0 b.2.length), (15, li b.1), (60, ls 9 A6 c), (61, li (c.length : Int)), (62, li b.1), (109, lb o)], [(0, bx (AV e)), (1, bx (BN q)), (2, .row 3 1 (b.2.map Aa))], 3⟩) az (fun o a0 => ?_) (fun o bg => ?_))
   .refine B0 AA mixed [0, 1, 2, 3, 4, 5, 6, 7, 8, 9, 10, 11, 12, 13, 14, 15, 16, 17, 18, 19, 20, 21, 22, 23, 24, 25, 26, 27, 28, 29, 30, 31, 32, 33, 34, 35, 36, 37, 38, 39, 40, 41, 42] 43 (by kernel_rfl) Z Z Z ?_
    refine Au 5 Z <| Ec 71 a0 Z Z Z (fun a1 => ?_) (fun bf => ?_)
    .refine Au 4 Z <| bq a1 fun bu aa a2 => As Z (Al Z (Ab aa Z Z Z <| Au 3 Z <| bq a2 fun bv ab a3 => As Z (Al Z (Ab ab Z Z Z <| Au 1 Z <| bq a3 fun bw ac a4 => As Z (A0 (YI _ _ _ ac) (.inl Z) Z Z Z <| Au 2 Z <| Ec 84 a4 Z Z Z (fun a5 => ?_) (fun be => ?_))))))
     .refine Au 5 Z <| Ec 89 a5 Z Z Z (fun a6 => ?_) (fun bc => ?_)
      .refine Au 3 Z <| bq a6 fun bz ad a7 => As Z (A0 (Cs _ _ _ ad) (.inl Z) Z Z Z <| Au 3 Z <| Ec 96 a7 Z Z Z (fun a8 => ?_) (fun bb => ?_))
       .exact Au 6 Z <| As Z (Kr Z Z <| Au 1 Z <| bq a8 fun b0 ae a9 => As Z (Al Z (Ab ae Z Z Z <| Au 2 Z <| bq a9 fun b1 af ba => As Z (A0 (VV _ _ _ _ af) (.inl Z) Z Z Z <| BK Z <| AL ba (wf hA (gi 3 []) Z Z Z)))))
       exact BK Z <| AL bb (wf hA (gi 3 []) Z Z Z)
      exact BK Z <| AL bc (wf hA (gi 3 []) Z Z Z)
     exact BK Z <| AL be (wf hA (gi 3 []) Z Z Z)
    exact BK Z <| AL bf (wf hA (gi 3 []) Z Z Z)
   refine cd Z bg (fun bh => ?_) (fun bj => ?_)
   .exact rg AA <| rn 3 Z <| bq bh fun b2 ag bi => sx Z (BW (enc := Aa) (l := b.2) (m := [b.1]) ag (fun _ => ⟨Z, Z⟩) Z Z Z Z Z Z <| rl Z <| Ad <| AL bi (wf hA [(0, 0), (1, 1), (2, 4)] Z Z Z))
   exact AE <| Ad <| AL bj (wf hA (gi 3 []) Z Z Z)
  exact rg AA <| rl Z <| Aq bk (wf hA (gi 3 []) Z Z Z)
 refine AT <| AZ <| BG bl fun bn bm => An <| AC <| rs AA <| rl Z <| AF ?_
 cases bm
 exact er (IA Z (.one (.own (enc := Aa) b.2 Z Z))) Le.rfl
end Go.E
/- Plain functions, and walks in step with them. Written by a program (gen.py). No condition. -/
set_option maxRecDepth 100000
set_option maxHeartbeats 1000000
namespace Go.E
open Go Go.RowKit Go.Proofs
noncomputable def IG (a : (List (Int × Bool))) : Option (List Int) := Nf a
theorem Pu (a : (List (Int × Bool))) (r : (List Int)) (h : IG a = some r) : HK Tryz.prog 79 [.map (Ao (.int .i64) .bool a)] 3 1 (r.map Aa) := ZC ZD rfl a r h
noncomputable def Fp (a : Int) (b : (Option Az)) : Option Bool :=
 JM b (none) fun d => (BX d a).bind fun c => some (c == 4)
theorem Pv (b : Int) (a : (Option Az)) (r : Bool) (h : Fp b a = some r) : Aw Tryz.prog 80 [.int .i64 b, .place ((AB3 Ar) a) 0] (· = .bool r) := by
 refine fn AA Tryz.func80 Z Z 8 Z [.tmp 3] Z [(0, .p (.int .i64 b)), (1, .p (.place ((AB3 Ar) a) 0))] Z Z fun A hA => ?_
 unfold Fp at h
 refine rs AA <| rl Z <| rs AA <| rn 2 Z ?_
 revert h; rcases e : a with _ | g <;> intro h
 .replace h := U9 h
  cases h
 replace h := VA h
 refine bq h fun f c d => sx Z (AM (Bx _ _ _ c) (.inl Z) Z Z Z <| rl Z <| AF ?_)
 cases d
 exact er Z Le.rfl
noncomputable def Du (b : CG) (a : Int × (List (Int × Bool))) : Option ((Int × (List (Int × Bool))) ⊕ (List (Int × Bool))) :=
 bif decide (a.1 < (b.elems.length : Int)) then (AY b.elems a.1).bind fun c => some (.inl (AP (a.1 + 1), A1 c true a.2)) else some (.inr a.2)
noncomputable def Dv (b : CG) (a : Int × (List (Int × Bool))) : Option ((Int × (List (Int × Bool))) ⊕ (List (Int × Bool))) :=
 bif decide (a.1 < (b.elems.length : Int)) then (AY b.elems a.1).bind fun c => some (.inl (AP (a.1 + 1), A1 c true a.2)) else some (.inr a.2)
noncomputable def Ey (i : Az) (d : (List CG)) (f : (Int × (List (Int × Bool)))) (e : Ag) (a : Int × (List (Int × Bool))) : Option ((Int × (List (Int × Bool))) ⊕ ((Int × (List (Int × Bool))) ⊕ (List Int))) :=
 bif decide (a.1 < (e.zone.length : Int)) then (AY e.zone a.1).bind fun b => (((DQ i b).bind fun c => ((bif decide (0 <= c.1) then some (decide (c.1 < (d.length : Int))) else some false : Option (Bool))).bind fun (h : Bool) => bif h then (AY d c.1).bind fun j => AO (Dv j) (0, A1 b true a.2) else some (A1 b true a.2) : Option ((List (Int × Bool))))).bind fun (g : (List (Int × Bool))) => some (.inl (AP (a.1 + 1), g)) else some (.inr (.inl (AP (f.1 + 1), a.2)))
noncomputable def Ez (e : Az) (b : (List CG)) (j : (List Ag)) (g : (Int × (List (Int × Bool)))) (k : Int) (f : Ag) (a : Int × (List (Int × Bool))) : Option ((Int × (List (Int × Bool))) ⊕ ((Int × (List (Int × Bool))) ⊕ (List Int))) :=
 bif decide (a.1 < (f.steps.length : Int)) then (AY f.steps a.1).bind fun c => (((DQ e c.elem).bind fun d => ((bif decide (0 <= d.1) then some (decide (d.1 < (b.length : Int))) else some false : Option (Bool))).bind fun (i : Bool) => bif i then (AY b d.1).bind fun l => AO (Du l) (0, A1 c.elem true a.2) else some (A1 c.elem true a.2) : Option ((List (Int × Bool))))).bind fun (h : (List (Int × Bool))) => some (.inl (AP (a.1 + 1), h)) else ((AY j k).bind fun m => AO (Ey e b g m) (0, a.2)).map .inr
noncomputable def Gb (c : Az) (b : (List Int)) (a : Int) : Option (Int ⊕ Int) :=
 bif decide (a < (b.length : Int)) then (AY b a).bind fun d => (Fp d (some c)).bind fun e => bif e then some (.inr a) else some (.inl (AP (a + 1))) else some (.inr (-1))
noncomputable def Dw (d : Az) (a : Int × Int × (List Int)) : Option ((Int × Int × (List Int)) ⊕ (List Int)) :=
 bif decide (a.2.1 < (a.2.2.length : Int)) then (((AY a.2.2 a.2.1).bind fun c => (Fp c (some d)).bind fun e => bif (!e) then (AY a.2.2 a.1).bind fun i => some (AP (a.1 + 1), A5 a.2.2 a.1 c) else some (a.1, a.2.2) : Option (Int × (List Int)))).bind fun (b : Int × (List Int)) => some (.inl (b.1, AP (a.2.1 + 1), b.2)) else ((Jz a.2.2 a.1 (a.2.2.length : Int)).bind fun f => (RU 0 a.2.2 f).bind fun g => (Jz g 0 a.1).bind fun h => some h).map .inr
noncomputable def Gc (b : Az) (i : (List CG)) (e : (List Ag)) (j : Ac) (k : Int) (l : Int) (f : (List Int)) (a : Int × (List (Int × Bool))) : Option ((Int × (List (Int × Bool))) ⊕ (List Int)) :=
 bif decide (a.1 < (f.length : Int)) then (AY f a.1).bind fun g => (AY e g).bind fun m => AO (Ez b i e a g m) (0, a.2) else ((C3 b j k l).bind fun n => (IG (Et n a.2)).bind fun d => ((((AO (Gb b d) 0 : Option (Int))).bind fun (c : Int) => bif (c == (-1)) then some d else AO (Dw b) (c, AP (c + 1), d) : Option ((List Int)))).bind fun (h : (List Int)) => some h).map .inr
noncomputable def JS (a : Az) (f : (List CG)) (b : (List Ag)) (c : Ac) (d : Int) (e : Int) : Option (List Int) :=
 (EF a b c d e).bind fun g => AO (Gc a f b c d e g) (0, [])
theorem X4 (b : Az) (c : (List CG)) (j : (List Ag)) (d : Ac) (k : Int) (m : Int) (r : (List Int)) (h : JS b c j d k m = some r) : Aw Tryz.prog 50 [.place (Ar b) 0, .slice 2 (c.map BZ), .slice 9 (j.map A6), .agg (AV d), .int .i64 k, .int .i64 m] (· = .slice 1 (r.map Aa)) := by
 refine fn AA Tryz.func50 Z Z 74 Z [.tmp 12] Z [(0, .p (.place (Ar b) 0)), (1, .p (.slice 2 (c.map BZ))), (2, .p (.slice 9 (j.map A6))), (3, .p (.agg (AV d))), (4, .p (.int .i64 k)), (5, .p (.int .i64 m))] Z Z fun A hA => ?_
 unfold JS at h
 refine rs AA <| rl Z <| rs AA <| rl Z <| rs AA <| rl Z <| AB <| rs AA <| rn 5 Z <| bq h fun n a1 bi => sx Z (AM (KT _ _ _ _ _ _ a1) (.inr Z) Z Z Z <| sx Z (Ae Z Z <| rl Z <| AH ?_))
 apply lp (a := r) (fun e : (Int × (List (Int × Bool))) => ⟨74, [(2, ls 9 A6 j), (4, li k), (5, li m), (6, .lpb 0 0), (9, .lpb 1 0), (13, .lpb 2 0), (14, .fn 76 [.lpb 2 0, .lpb 0 0, .lpb 3 0]), (28, ls 1 Aa n), (29, li (n.length : Int)), (30, li e.1)], [(0, .box [lq (Ar b)]), (1, bx (AV d)), (2, .box [.lmap 4]), (3, .box [ls 2 BZ c]), (4, .map (Ao (.int .i64) .bool e.2))], 5⟩) bi
 . exact wf hA [(0, 0), (1, 2), (2, 4), (3, 1), (4, 3)] Z Z Z
 intro e a0 am
 unfold Gc at am
 refine rs AA <| rl Z <| AB <| cd Z am (fun bj => ?_) (fun cr => ?_)
 .refine AE <| AC <| AB <| AH <| rs AA <| bq bj fun dm a2 bk => sx Z (Ab a2 Z Z Z <| rl Z <| AB <| rs AA <| rn 2 Z <| bq bk fun av a3 bl => sx Z (Ab a3 Z Z Z <| rn 2 Z <| sx Z (Ae Z Z <| rl Z <| AH ?_)))
  apply lp (a := a0) (fun s : (Int × (List (Int × Bool))) => ⟨74, [(2, ls 9 A6 j), (4, li k), (5, li m), (6, .lpb 0 0), (9, .lpb 1 0), (13, .lpb 2 0), (14, .fn 76 [.lpb 2 0, .lpb 0 0, .lpb 3 0]), (16, li dm), (28, ls 1 Aa n), (29, li (n.length : Int)), (30, li e.1), (38, ls 3 Ax av.steps), (39, li (av.steps.length : Int)), (40, li s.1)], [(0, .box [lq (Ar b)]), (1, bx (AV d)), (2, .box [.lmap 4]), (3, .box [ls 2 BZ c]), (4, .map (Ao (.int .i64) .bool s.2))], 5⟩) bl
  . exact wf hA (gi 5 []) Z Z Z
  intro s d2 an
  unfold Ez at an
  refine rs AA <| rl Z <| AB <| cd Z an (fun bm => ?_) (fun b5 => ?_)
  .refine AE <| AC <| AB <| AH <| rs AA <| bq bm fun o a4 bn => sx Z (Ab a4 Z Z Z <| rl Z <| rg AA <| rn 3 Z <| sx Z (CX AA (fun u : (List (Int × Bool)) => .tup []) (fun u : (List (Int × Bool)) => [(0, .box [lq (Ar b)]), (1, bx (AV d)), (2, .box [.lmap 4]), (3, .box [ls 2 BZ c]), (4, .map (Ao (.int .i64) .bool u)), (5, bx (Ax o))]) 6 bn Tryz.func76 38 [] [(0, li o.elem), (1, .lpb 2 0), (2, .lpb 0 0), (3, .lpb 3 0)] Z Z Z Z Z Z Z Z (fun A hA u bo => ?_) (fun u b4 => ?_)))
   .refine rs AA <| rn 2 Z <| sx Z (G7 (et := 4) (ke := (.int .i64)) (ve := .bool) (mp := s.2) (y := o.elem) (z := true) Gd Z Z Z Z Z Z <| rl Z <| rs AA <| rn 2 Z <| bq bo fun dn a5 bp => sx Z (AM (Ng _ _ _ a5) (.inl Z) Z Z Z <| rl Z <| jb (fun ad : Bool => ⟨38, [(1, .lpb 2 0), (3, .lpb 3 0), (5, li dn.1), (24, lb ad)], [(0, .box [lq (Ar b)]), (1, bx (AV d)), (2, .box [.lmap 4]), (3, .box [ls 2 BZ c]), (4, .map (Ao (.int .i64) .bool (A1 o.elem true s.2))), (5, bx (Ax o))], 6⟩) bp (fun ad br => ?_) (fun ad bu => ?_)))
    .refine rg AA <| rn 3 Z <| gs 19 br Z Z Z (fun bs => ?_) (fun bt => ?_)
     .exact rn 2 Z <| sx Z (Ae Z Z <| rl Z <| AL bs (wj hA (gi 6 []) Z Z Z Z))
     exact rl Z <| AL bt (wj hA (gi 6 []) Z Z Z Z)
    refine cd Z bu (fun bv => ?_) (fun b3 => ?_)
    .refine rs AA <| rn 2 Z <| bq bv fun aw a6 bw => sx Z (Ab a6 Z Z Z <| rn 2 Z <| sx Z (Ae Z Z <| rl Z <| AH ?_))
     apply lp (a := u) (fun aa : (Int × (List (Int × Bool))) => ⟨38, [(1, .lpb 2 0), (29, ls 1 Aa aw.elems), (30, li (aw.elems.length : Int)), (31, li aa.1)], [(0, .box [lq (Ar b)]), (1, bx (AV d)), (2, .box [.lmap 4]), (3, .box [ls 2 BZ c]), (4, .map (Ao (.int .i64) .bool aa.2)), (5, bx (Ax o))], 6⟩) bw
     . exact wj hA (gi 6 []) Z Z Z Z
     intro aa d3 ao
     unfold Du at ao
     refine rs AA <| rl Z <| AB <| cd Z ao (fun bz => ?_) (fun b1 => ?_)
     .exact AE <| AC <| AB <| AH <| rs AA <| bq bz fun dp a7 b0 => sx Z (Ab a7 Z Z Z <| rl Z <| rg AA <| rn 2 Z <| sx Z (G7 (et := 4) (ke := (.int .i64)) (ve := .bool) (mp := aa.2) (y := dp) (z := true) Gd Z Z Z Z Z Z <| rl Z <| Ad <| AC <| rg AA <| rl Z <| Aq b0 (wj hA (gi 6 []) Z Z Z Z)))
     refine AT <| AZ <| BG b1 fun dv b2 => An ?_
     cases b2
     exact Me (nt := 38) (sl := []) (wj hA (gi 6 []) Z Z Z Z) Z
    refine AE ?_
    cases b3
    exact Me (nt := 38) (sl := []) (wj hA (gi 6 []) Z Z Z Z) Z
   exact rl Z <| Ad <| AC <| rg AA <| rl Z <| Aq b4 (wf hA (gi 5 []) Z Z Z)
  refine AT <| AZ <| CF b5 fun az b6 => An <| AC <| rs AA <| rn 2 Z <| bq b6 fun ax a8 b7 => sx Z (Ab a8 Z Z Z <| rn 2 Z <| sx Z (Ae Z Z <| rl Z <| AH ?_))
  apply lp (a := az) (fun t : (Int × (List (Int × Bool))) => ⟨74, [(2, ls 9 A6 j), (4, li k), (5, li m), (6, .lpb 0 0), (9, .lpb 1 0), (13, .lpb 2 0), (14, .fn 76 [.lpb 2 0, .lpb 0 0, .lpb 3 0]), (28, ls 1 Aa n), (29, li (n.length : Int)), (30, li e.1), (53, ls 1 Aa ax.zone), (54, li (ax.zone.length : Int)), (55, li t.1)], [(0, .box [lq (Ar b)]), (1, bx (AV d)), (2, .box [.lmap 4]), (3, .box [ls 2 BZ c]), (4, .map (Ao (.int .i64) .bool t.2))], 5⟩) b7
  . exact wf hA (gi 5 []) Z Z Z
  intro t d4 ap
  unfold Ey at ap
  refine rs AA <| rl Z <| AB <| cd Z ap (fun b8 => ?_) (fun cp => ?_)
  .refine AE <| AC <| AB <| AH <| rs AA <| bq b8 fun af a9 b9 => sx Z (Ab a9 Z Z Z <| rl Z <| rg AA <| rn 2 Z <| sx Z (CX AA (fun v : (List (Int × Bool)) => .tup []) (fun v : (List (Int × Bool)) => [(0, .box [lq (Ar b)]), (1, bx (AV d)), (2, .box [.lmap 4]), (3, .box [ls 2 BZ c]), (4, .map (Ao (.int .i64) .bool v))]) 5 b9 Tryz.func76 38 [] [(0, li af), (1, .lpb 2 0), (2, .lpb 0 0), (3, .lpb 3 0)] Z Z Z Z Z Z Z Z (fun A hA v ca => ?_) (fun v co => ?_)))
   .refine rs AA <| rn 2 Z <| sx Z (G7 (et := 4) (ke := (.int .i64)) (ve := .bool) (mp := t.2) (y := af) (z := true) Gd Z Z Z Z Z Z <| rl Z <| rs AA <| rn 2 Z <| bq ca fun dq ba cb => sx Z (AM (Ng _ _ _ ba) (.inl Z) Z Z Z <| rl Z <| jb (fun ae : Bool => ⟨38, [(1, .lpb 2 0), (3, .lpb 3 0), (5, li dq.1), (24, lb ae)], [(0, .box [lq (Ar b)]), (1, bx (AV d)), (2, .box [.lmap 4]), (3, .box [ls 2 BZ c]), (4, .map (Ao (.int .i64) .bool (A1 af true t.2)))], 5⟩) cb (fun ae cc => ?_) (fun ae cg => ?_)))
    .refine rg AA <| rn 3 Z <| gs 19 cc Z Z Z (fun ce => ?_) (fun cf => ?_)
     .exact rn 2 Z <| sx Z (Ae Z Z <| rl Z <| AL ce (wj hA (gi 5 []) Z Z Z Z))
     exact rl Z <| AL cf (wj hA (gi 5 []) Z Z Z Z)
    refine cd Z cg (fun ch => ?_) (fun cn => ?_)
    .refine rs AA <| rn 2 Z <| bq ch fun ay bb ci => sx Z (Ab bb Z Z Z <| rn 2 Z <| sx Z (Ae Z Z <| rl Z <| AH ?_))
     apply lp (a := v) (fun ab : (Int × (List (Int × Bool))) => ⟨38, [(1, .lpb 2 0), (29, ls 1 Aa ay.elems), (30, li (ay.elems.length : Int)), (31, li ab.1)], [(0, .box [lq (Ar b)]), (1, bx (AV d)), (2, .box [.lmap 4]), (3, .box [ls 2 BZ c]), (4, .map (Ao (.int .i64) .bool ab.2))], 5⟩) ci
     . exact wj hA (gi 5 []) Z Z Z Z
     intro ab d5 aq
     unfold Dv at aq
     refine rs AA <| rl Z <| AB <| cd Z aq (fun cj => ?_) (fun cl => ?_)
     .exact AE <| AC <| AB <| AH <| rs AA <| bq cj fun dr bc ck => sx Z (Ab bc Z Z Z <| rl Z <| rg AA <| rn 2 Z <| sx Z (G7 (et := 4) (ke := (.int .i64)) (ve := .bool) (mp := ab.2) (y := dr) (z := true) Gd Z Z Z Z Z Z <| rl Z <| Ad <| AC <| rg AA <| rl Z <| Aq ck (wj hA (gi 5 []) Z Z Z Z)))
     refine AT <| AZ <| BG cl fun dw cm => An ?_
     cases cm
     exact Me (nt := 38) (sl := []) (wj hA (gi 5 []) Z Z Z Z) Z
    refine AE ?_
    cases cn
    exact Me (nt := 38) (sl := []) (wj hA (gi 5 []) Z Z Z Z) Z
   exact rl Z <| Ad <| AC <| rg AA <| rl Z <| Aq co (wf hA (gi 5 []) Z Z Z)
  exact AT <| AZ <| BG cp fun dx cq => An <| Ad <| AC <| rg AA <| rl Z <| Aq cq (wf hA (gi 5 []) Z Z Z)
 refine AT <| AZ <| CF cr fun dy cs => An <| AC <| AB ?_
 refine ADL false AA mixed [0, 1, 2, 3, 4, 5] 7 Z Z (by kernel_rfl) (by kernel_rfl) Z Z ?_
 refine Au 5 Z <| bq cs fun q be ct => As Z (A0 (HS _ _ _ _ _ be) (.inl Z) Z Z Z <| BK Z <| (ACm (et := 4) (ke := (.int .i64)) (ve := .bool) (mp := e.2) (y := q) Gd Z Z Z Z Z Z Z Z <| AC <| rs AA <| rn 1 Z <| bq ct fun i bf cu => sx Z (Oi (Pu _ _ bf) (fun _ => Z) Z Z (D1.eq (.cons (.one (.mapd Z)) .nil)) <| rn 1 Z <| sx Z (CX AA (fun g : (List Int) => .lsl 12 1 0 g.length) (fun g : (List Int) => [(0, .box [lq (Ar b)]), (1, bx (AV d)), (2, .box [.lmap 4]), (3, .box [ls 2 BZ c]), (4, .mapd (Ao (.int .i64) .bool (Et q e.2))), (12, .row 3 1 (g.map Aa))]) 13 cu Tryz.func78 42 [.tmp 4] [(0, .lsl 12 1 0 i.length), (1, .fn 80 [.lpb 0 0])] Z Z Z Z Z Z Z Z (fun A hA g cv => ?_) (fun g dl => ?_)))))
 .refine rs AA <| rl Z <| rs AA <| rn 2 Z <| sx Z (CX AA (fun w : Int => li w) (fun w : Int => [(0, .box [lq (Ar b)]), (1, bx (AV d)), (2, .box [.lmap 4]), (3, .box [ls 2 BZ c]), (4, .mapd (Ao (.int .i64) .bool (Et q e.2))), (12, .row 3 1 (i.map Aa))]) 13 cv Tryz.func108 19 [.tmp 4] [(0, .lsl 12 1 0 i.length), (1, .fn 80 [.lpb 0 0])] Z Z Z Z Z Z Z Z (fun A hA w cw => ?_) (fun w c5 => ?_))
  .refine rs AA <| rl Z <| AB <| rs AA <| rl Z <| AH ?_
   apply lp (a := w) (fun ac : Int => ⟨19, [(0, .lsl 12 1 0 i.length), (1, .fn 80 [.lpb 0 0]), (7, li (i.length : Int)), (8, li ac)], [(0, .box [lq (Ar b)]), (1, bx (AV d)), (2, .box [.lmap 4]), (3, .box [ls 2 BZ c]), (4, .mapd (Ao (.int .i64) .bool (Et q e.2))), (12, .row 3 1 (i.map Aa))], 13⟩) cw
   . exact wj hA (gi 13 []) Z Z Z Z
   intro ac d6 ar
   unfold Gb at ar
   refine rs AA <| rl Z <| AB <| cd Z ar (fun cx => ?_) (fun c3 => ?_)
   .refine AE <| AC <| AB <| AH <| rs AA <| rl Z <| rs AA <| rn 3 Z <| bq cx fun d8 ag cy => sx Z (B3 ag Z Z Z Z <| sx Z (DJ ag Z Z Z <| bq cy fun d9 bg cz => sx Z (AM (Pv _ _ _ bg) (.inl Z) Z Z (D1.eq (.cons (.one (.p _)) (.cons (.box Z (.cons (.p _) .nil)) .nil))) <| rl Z <| cd Z cz (fun c0 => ?_) (fun c2 => ?_))))
    .refine rs AA <| rl Z <| AF <| AQ <| AG <| A3 c0 fun dz c1 => AQ <| AG ?_
     have hr := Option.some.inj c1; subst hr
     exact Ca (nt := 19) (sl := [(4, li ac)]) (wj hA (gi 13 []) Z Z Z Z) Z
    exact AE <| Ad <| AC <| rg AA <| rl Z <| Aq c2 (wj hA (gi 13 []) Z Z Z Z)
   refine AT <| AZ <| BG c3 fun d0 c4 => An <| AC <| rs AA <| rl Z <| AF ?_
   cases c4
   exact Ca (nt := 19) (sl := [(4, li (-1))]) (wj hA (gi 13 []) Z Z Z Z) Z
  refine rl Z <| AB <| rs AA <| rl Z <| cd Z c5 (fun c6 => ?_) (fun c7 => ?_)
  .refine rs AA <| rl Z <| AF <| AG ?_
   have hr := Option.some.inj c6; subst hr
   exact Ca (nt := 42) (sl := [(4, .lsl 12 1 0 i.length)]) (wj hA (gi 13 []) Z Z Z Z) Z
  refine AE <| AC <| AB <| rs AA <| rl Z <| AH ?_
  apply lp (a := g) (fun f : (Int × Int × (List Int)) => ⟨42, [(0, .lsl 12 1 0 f.2.2.length), (1, .fn 80 [.lpb 0 0]), (5, li f.1), (6, li f.2.1)], [(0, .box [lq (Ar b)]), (1, bx (AV d)), (2, .box [.lmap 4]), (3, .box [ls 2 BZ c]), (4, .mapd (Ao (.int .i64) .bool (Et q e.2))), (12, .row 3 1 (f.2.2.map Aa))], 13⟩) c7
  . exact wj hA (gi 13 []) Z Z Z Z
  intro f d7 au
  unfold Dw at au
  refine AB <| rs AA <| rl Z <| cd Z au (fun c8 => ?_) (fun dg => ?_)
  .refine AE <| AC <| jb (fun x : (Int × (List Int)) => ⟨42, [(0, .lsl 12 1 0 x.2.length), (1, .fn 80 [.lpb 0 0]), (5, li x.1), (6, li f.2.1)], [(0, .box [lq (Ar b)]), (1, bx (AV d)), (2, .box [.lmap 4]), (3, .box [ls 2 BZ c]), (4, .mapd (Ao (.int .i64) .bool (Et q e.2))), (12, .row 3 1 (x.2.map Aa))], 13⟩) c8 (fun x c9 => ?_) (fun x df => ?_)
   .refine AH <| rs AA <| rn 2 Z <| bq c9 fun ds ah da => sx Z (B3 ah Z Z Z Z <| sx Z (DJ ah Z Z Z <| rl Z <| rs AA <| rn 2 Z <| bq da fun ea bh db => sx Z (AM (Pv _ _ _ bh) (.inl Z) Z Z (D1.eq (.cons (.one (.p _)) (.cons (.box Z (.cons (.p _) .nil)) .nil))) <| rl Z <| cd Z db (fun dc => ?_) (fun de => ?_))))
    .exact rs AA <| rn 3 Z <| bq dc fun eb ai dd => sx Z (B3 ai Z Z Z Z <| sx Z (Mc (z := ds) ai Z Z Z Z Z Z Z Z <| rl Z <| rg AA <| rl Z <| Ad <| AL dd (wk (gi 13 []) (LF hA _ Z) Z Z Z (.cons (by simp only [BH]; rfl) (.cons Z (.cons Z (.cons Z .nil)))) (.cons Z Z (.cons Z Z (.cons Z Z (.cons Z Z (.cons Z Z (.cons Z Z .nil)))))))))
    exact AE <| Ad <| AL de (wj hA (gi 13 []) Z Z Z Z)
   exact rg AA <| rl Z <| Aq df (wj hA (gi 13 []) Z Z Z Z)
  refine AT <| AZ <| CF dg fun d1 dh => An <| AC <| rs AA <| rn 2 Z <| bq dh fun ec aj di => sx Z (AAn (l := f.2.2) aj Z Z Z Z Z <| bq di fun dt ak dj => sx Z (ACp (enc := Aa) (l := f.2.2) (z := 0) aj Z ak Z Z Z Z Z Z Z <| rl Z <| rs AA <| rn 2 Z <| bq dj fun du al dk => sx Z (SN (l := dt) al Z (by first | rfl | exact AAJ ak) Z Z <| rl Z <| AF ?_)))
  have hr := Option.some.inj dk; subst hr
  exact Ca (nt := 42) (sl := [(4, .lsl 12 1 0 du.length)]) (A8.trans (J9 12 al Z Z) (wj hA (gi 13 []) Z Z Z Z)) Z
 refine rl Z <| AF ?_
 have hr := Option.some.inj dl; subst hr
 exact er (IA Z (.one (.own (enc := Aa) g Z Z))) Le.rfl
noncomputable def EM (b : Az) (f : (List Ag)) (c : Ac) (d : Int) (k : ((List C4) × Bool)) (e : (List Int)) (l : AK) (a : Int × (List DH)) : Option ((Int × (List DH)) ⊕ D9) :=
 bif decide (a.1 < (k.1.length : Int)) then (JS b l.lines f c d a.1).bind fun g => (C3 b c d (AP (a.1 + 1))).bind fun h => (Gq b h).bind fun i => (Bs a.2 [(⟨g, i⟩ : DH)]).bind fun j => some (.inl (AP (a.1 + 1), j)) else some (.inr (⟨e, a.2⟩ : D9))
noncomputable def Gr (a : Az) (h : (List Ag)) (b : Ac) (c : Int) (d : Int) : Option D9 :=
 (GJ b c d).bind fun f => bif (!f.2) then some (⟨[], []⟩ : D9) else (((C3 a b c d).bind fun i => (Gq a i).bind fun e => bif decide (0 <= e) then some [e] else some ([] : List Int) : Option ((List Int)))).bind fun (g : (List Int)) => (B2 a).bind fun j => AO (EM a h b c f g j) (d, ([] : List DH))
theorem Qy (d : Az) (e : (List Ag)) (f : Ac) (g : Int) (i : Int) (r : D9) (h : Gr d e f g i = some r) : Aw Tryz.prog 21 [.place (Ar d) 0, .slice 9 (e.map A6), .agg (AV f), .int .i64 g, .int .i64 i] (· = .agg (Nh r)) := by
 refine fn AA Tryz.func21 Z Z 71 Z [.cell 10 56] Z [(0, .p (.place (Ar d) 0)), (1, .p (.slice 9 (e.map A6))), (2, .p (.agg (AV f))), (3, .p (.int .i64 g)), (4, .p (.int .i64 i))] Z Z fun A hA => ?_
 unfold Gr at h
 refine rs AA <| rl Z <| rs AA <| rl Z <| rs AA <| rn 3 Z <| bq h fun k v al => sx Z (AM (Oj _ _ _ _ v) (.inr Z) Z Z Z <| rl Z <| AB <| rs AA <| rl Z <| cd Z al (fun am => ?_) (fun an => ?_))
 .refine rs AA <| rl Z <| AF <| AG ?_
  cases am
  exact er Z (Le.agg' (.cons (Le.nil _) (.cons (Le.nil _) .nil)))
 refine AE <| AC <| jb (fun b : (List Int) => ⟨71, [(0, lq (Ar d)), (1, ls 9 A6 e), (3, li g), (4, li i), (7, .lpb 0 0), (10, .lpb 1 0), (11, .lpb 2 0), (12, ls 4 DI k.1)], [(0, bx (AV f)), (1, .box [.p (.nils), .p (.nils)]), (2, .box [.lsl 3 1 0 b.length, .p (.nils)]), (3, .row 3 1 (b.map Aa))], 4⟩) an (fun b aa => ?_) (fun b aj => ?_)
 .refine rs AA <| rn 5 Z <| bq aa fun ax t af => sx Z (AM (HS _ _ _ _ _ t) (.inl Z) Z Z Z <| bq af fun ay u ag => sx Z (AM (Qz _ _ _ u) (.inl Z) Z Z Z <| rl Z <| rs AA <| rl Z <| cd Z ag (fun ah => ?_) (fun ai => ?_)))
  .exact rg AA <| rl Z <| AL ah (wf hA (gi 4 []) Z Z Z)
  exact AE <| AL ai (A8.trans (B8 2 0 3 1 Z Z Z Z) (wf hA (gi 4 []) Z Z Z))
 refine rs AA <| rn 1 Z <| bq aj fun aq w ak => sx Z (AM (Hq _ _ w) (.inr Z) Z Z Z <| rl Z <| AB <| rs AA <| rl Z <| AH ?_)
 apply lp (a := r) (fun c : (Int × (List DH)) => ⟨71, [(0, lq (Ar d)), (1, ls 9 A6 e), (3, li g), (7, .lpb 0 0), (10, .lpb 1 0), (11, .lpb 2 0), (12, ls 4 DI k.1), (15, ls 2 BZ aq.lines), (16, li c.1)], [(0, bx (AV f)), (1, .box [.p (.nils), .p (.nils)]), (2, .box [.lsl 3 1 0 b.length, .lsl 4 2 0 c.2.length]), (3, .row 3 1 (b.map Aa)), (4, .row 88 2 (c.2.map G9))], 5⟩) ak
 . exact A8.trans (B8 2 1 88 2 Z Z Z Z) (wf hA (gi 5 []) Z Z Z)
 intro c au j
 unfold EM at j
 refine AB <| rs AA <| rn 2 Z <| sx Z (Ae Z Z <| rl Z <| cd Z j (fun x => ?_) (fun ad => ?_))
 .refine AE <| AC <| AB <| AH ?_
  refine B0 AA mixed [0, 1, 2, 3, 4, 5, 6, 7, 8, 9, 10, 11, 12, 13, 14, 15, 16, 17, 18, 19, 20, 21] 22 (by kernel_rfl) Z Z Z ?_
  exact Au 8 Z <| bq x fun ao n y => As Z (A0 (X4 _ _ _ _ _ _ _ n) (.inr Z) Z Z Z <| Au 6 Z <| bq y fun av o z => As Z (A0 (HS _ _ _ _ _ o) (.inl Z) Z Z Z <| bq z fun ap q ab => As Z (A0 (Qz _ _ _ q) (.inl Z) Z Z Z <| Au 2 Z <| bq ab fun aw s ac => As Z (I2 Z (BW (enc := G9) (l := c.2) (m := [(⟨ao, ap⟩ : DH)]) s (fun _ => ⟨Z, Z⟩) Z Z Z Z Z Z <| BK Z <| Ad <| AC <| rg AA <| rl Z <| Aq ac (wf hA (gi 4 [(4, 24)]) Z Z Z))))))
 refine AT <| AZ <| BG ad fun ar ae => An <| AC <| rs AA <| rl Z <| AF ?_
 cases ae
 exact er (IA Z (.agg (.cons (.own (enc := Aa) b Z Z) (.cons (.own (enc := G9) c.2 Z Z) .nil)))) Le.rfl
noncomputable def LJ (a : By) : Option Bool :=
 some a.auto
theorem UI (a : By) (r : Bool) (h : LJ a = some r) : Aw Tryz.prog 54 [.agg (BY a)] (· = .bool r) := by
 refine fn AA Tryz.func54 Z Z 5 Z [.tmp 2] Z [(0, .p (.agg (BY a)))] Z Z fun A hA => ?_
 unfold LJ at h
 refine rs AA <| rl Z <| rs AA <| rl Z <| AF ?_
 cases h
 exact er Z Le.rfl
noncomputable def IH (a : Dg) : Option Bool :=
 some (decide (12 < (a.legs.length : Int)))
theorem Qo (a : Dg) (r : Bool) (h : IH a = some r) : Aw Tryz.prog 85 [.agg (B4 a)] (· = .bool r) := by
 refine fn AA Tryz.func85 Z Z 7 Z [.tmp 2] Z [(0, .p (.agg (B4 a)))] Z Z fun A hA => ?_
 unfold IH at h
 refine rs AA <| rl Z <| rs AA <| rn 2 Z <| sx Z (Ae Z Z <| rl Z <| AF ?_)
 cases h
 exact er Z Le.rfl
noncomputable def Gs (a : Int) (c : Int) : Option Bool :=
 ((bif decide (1 <= a) then some (decide (a <= c)) else some false : Option (Bool))).bind fun (b : Bool) => some b
theorem KU (b : Int) (c : Int) (r : Bool) (h : Gs b c = some r) : Aw Tryz.prog 168 [.int .i64 b, .int .i64 c] (· = .bool r) := by
 refine fn AA Tryz.func168 Z Z 12 Z [.tmp 4] Z [(0, .p (.int .i64 b)), (1, .p (.int .i64 c))] Z Z fun A hA => ?_
 unfold Gs at h
 refine rs AA <| rl Z <| jb (fun a : Bool => ⟨12, [(4, lb a)], [], 0⟩) h (fun a d => ?_) (fun a g => ?_)
 .refine rg AA <| rn 3 Z <| gs 7 d Z Z Z (fun e => ?_) (fun f => ?_)
  .exact rl Z <| AL e (wf hA [] Z Z Z)
  exact rl Z <| AL f (wf hA [] Z Z Z)
 refine AF ?_
 have hr := Option.some.inj g; subst hr
 exact er Z Le.rfl
noncomputable def M5 (a : BM) : Option Bool :=
 (((CJ a.name).bind fun c => bif c then (Gs a.len 4000).bind fun d => bif d then (Gs a.top 60).bind fun e => bif e then (Gs a.acc 10).bind fun f => bif f then (Gs a.brake 10).bind fun g => some g else some false else some false else some false else some false : Option (Bool))).bind fun (b : Bool) => some b
theorem WQ (b : BM) (r : Bool) (h : M5 b = some r) : Aw Tryz.prog 154 [.agg (BN b)] (· = .bool r) := by
 refine fn AA Tryz.func154 Z Z 26 Z [.tmp 2] Z [(0, .p (.agg (BN b)))] Z Z fun A hA => ?_
 unfold M5 at h
 refine rs AA <| rl Z <| jb (fun a : Bool => ⟨26, [(2, lb a)], [], 0⟩) h (fun a i => ?_) (fun a y => ?_)
 .refine rg AA <| rn 2 Z <| bq i fun z c j => sx Z (AM (IW _ _ c) (.inl Z) Z Z Z <| rn 1 Z <| gs 6 j Z Z Z (fun k => ?_) (fun x => ?_))
  .refine rn 2 Z <| bq k fun aa d l => sx Z (AM (KU _ _ _ d) (.inl Z) Z Z Z <| rn 2 Z <| gs 11 l Z Z Z (fun m => ?_) (fun w => ?_))
   .refine rn 2 Z <| bq m fun ab e n => sx Z (AM (KU _ _ _ e) (.inl Z) Z Z Z <| rn 2 Z <| gs 16 n Z Z Z (fun o => ?_) (fun v => ?_))
    .refine rn 2 Z <| bq o fun ac f q => sx Z (AM (KU _ _ _ f) (.inl Z) Z Z Z <| rn 2 Z <| gs 21 q Z Z Z (fun s => ?_) (fun u => ?_))
     .exact rn 2 Z <| bq s fun ad g t => sx Z (AM (KU _ _ _ g) (.inl Z) Z Z Z <| rl Z <| AL t (wf hA [] Z Z Z))
     exact rl Z <| AL u (wf hA [] Z Z Z)
    exact rl Z <| AL v (wf hA [] Z Z Z)
   exact rl Z <| AL w (wf hA [] Z Z Z)
  exact rl Z <| AL x (wf hA [] Z Z Z)
 refine AF ?_
 have hr := Option.some.inj y; subst hr
 exact er Z Le.rfl
noncomputable def MB (c : (Int × Int)) (d : BM) (b : (List BM)) (a : Int) : Option (Int ⊕ (Int ⊕ ((Int × Int) ⊕ Int))) :=
 bif decide (a < (b.length : Int)) then (AY b a).bind fun e => bif (e.name.toList == d.name.toList) then some (.inr (.inl 4)) else some (.inl (AP (a + 1))) else some (.inr (.inl c.1))
noncomputable def MC (b : (List BM)) (a : Int × Int) : Option ((Int × Int) ⊕ Int) :=
 bif decide (a.2 < (b.length : Int)) then Eb (((AY b a.2).bind fun c => (M5 c).bind fun e => bif (!e) then some (.inr (.inr 1)) else (Jy b 0 a.2).bind fun f => AO (MB a c f) 0 : Option (Int ⊕ ((Int × Int) ⊕ Int)))) fun (d : Int) => some (.inl (d, AP (a.2 + 1))) else some (.inr a.1)
noncomputable def LK (a : (List BM)) : Option Int :=
 bif decide (4 < (a.length : Int)) then some 3 else AO (MC a) (0, 0)
theorem UJ (b : (List BM)) (r : Int) (h : LK b = some r) : Aw Tryz.prog 122 [.slice 5 (b.map BN)] (· = .int .i64 r) := by
 refine fn AA Tryz.func122 Z Z 37 Z [.tmp 2] Z [(0, .p (.slice 5 (b.map BN)))] Z Z fun A hA => ?_
 unfold LK at h
 refine rs AA <| rl Z <| sc <| AB <| rs AA <| rn 1 Z <| sx Z (Ae Z Z <| rl Z <| cd Z h (fun q => ?_) (fun s => ?_))
 .refine rs AA <| rl Z <| AF <| AG <| JN ?_
  cases q
  exact er Z Le.rfl
 refine AE <| AC <| rs AA <| rl Z <| AB <| Kg <| AC <| AB <| rs AA <| rn 1 Z <| sx Z (Ae Z Z <| rl Z <| AH ?_)
 apply lp (a := r) (fun c : (Int × Int) => ⟨37, [(0, ls 5 BN b), (3, li c.1), (11, ls 5 BN b), (12, li (b.length : Int)), (13, li c.2)], [], 0⟩) s
 . exact wf hA [] Z Z Z
 intro c j d
 unfold MC at d
 refine rs AA <| rl Z <| AB <| cd Z d (fun t => ?_) (fun ak => ?_)
 .refine AE <| AC ?_
  apply jn (a := j) (fun g : Int => ⟨37, [(0, ls 5 BN b), (3, li g), (11, ls 5 BN b), (12, li (b.length : Int)), (13, li c.2)], [], 0⟩) t
  .intro k u
   refine AH <| rs AA <| rn 1 Z <| bq u fun am l v => sx Z (Ab l Z Z Z <| rl Z <| AB <| rs AA <| rn 1 Z <| bq v fun av m w => sx Z (AM (WQ _ _ m) (.inl Z) Z Z Z <| rl Z <| cd Z w (fun x => ?_) (fun aa => ?_)))
   .refine rs AA <| rl Z <| AF <| AG <| AQ <| A3 x fun an y => A3 y fun ao z => AQ <| AG <| JN ?_
    cases z
    exact er Z Le.rfl
   refine AE <| AC <| rs AA <| rn 2 Z <| bq aa fun i n ab => sx Z (Ub n Z Z Z Z <| sx Z (Ae Z Z <| rl Z <| AH ?_))
   apply lp (a := k) (fun f : Int => ⟨37, [(0, ls 5 BN b), (3, li c.1), (5, .lpb 0 0), (11, ls 5 BN b), (12, li (b.length : Int)), (13, li c.2), (23, ls 5 BN i), (24, li (i.length : Int)), (25, li f)], [(0, bx (BN am))], 1⟩) ab
   . exact wf hA [(0, 0)] Z Z Z
   intro f au e
   unfold MB at e
   refine rs AA <| rl Z <| AB <| cd Z e (fun ac => ?_) (fun ah => ?_)
   .refine AE <| AC <| AB <| AH <| rs AA <| bq ac fun aw o ad => sx Z (Ab o Z Z Z <| rl Z <| rs AA <| rl Z <| cd Z ad (fun ae => ?_) (fun ag => ?_))
    .exact rs AA <| rl Z <| AT <| MZ Z <| AZ <| BG ae fun ap af => MZ Z <| An <| Aq af (wf hA [] Z Z Z)
    exact AE <| Ad <| AC <| rg AA <| rl Z <| Aq ag (wf hA [(0, 0)] Z Z Z)
   exact AT <| AZ <| BG ah fun aq ai => An <| Ad <| Aq ai (wf hA [] Z Z Z)
  intro g aj
  exact rg AA <| rl Z <| Aq aj (wf hA [] Z Z Z)
 refine AT <| AZ <| BG ak fun ar al => An <| AC <| rs AA <| rl Z <| AF <| JN ?_
 cases al
 exact er Z Le.rfl
end Go.E
/- Plain functions, and walks in step with them. Written by a program (gen.py). No condition. -/
set_option maxRecDepth 100000
set_option maxHeartbeats 1000000
namespace Go.E
open Go Go.RowKit Go.Proofs
noncomputable def JT (a : BM) (b : AK) : Option Bool :=
 ((bif decide (b.top < a.top) then some true else some (decide (a.brake < b.brake)) : Option (Bool))).bind fun (c : Bool) => some c
theorem SO (b : BM) (c : AK) (r : Bool) (h : JT b c = some r) : Aw Tryz.prog 124 [.agg (BN b), .place (AN c) 0] (· = .bool r) := by
 refine fn AA Tryz.func124 Z Z 16 Z [.tmp 3] Z [(0, .p (.agg (BN b))), (1, .p (.place (AN c) 0))] Z Z fun A hA => ?_
 unfold JT at h
 refine rs AA <| rl Z <| jb (fun a : Bool => ⟨16, [(3, lb a)], [], 0⟩) h (fun a d => ?_) (fun a g => ?_)
 .refine rg AA <| rn 6 Z <| gs 9 d Z Z Z (fun e => ?_) (fun f => ?_)
  .exact rl Z <| AL e (wf hA [] Z Z Z)
  exact rl Z <| AL f (wf hA [] Z Z Z)
 refine AF ?_
 have hr := Option.some.inj g; subst hr
 exact er Z Le.rfl
noncomputable def MD (c : AK) (b : (List BM)) (a : Int) : Option (Int ⊕ Int) :=
 bif decide (a < (b.length : Int)) then (AY b a).bind fun d => (JT d c).bind fun e => bif e then some (.inr a) else some (.inl (AP (a + 1))) else some (.inr (-1))
noncomputable def LL (e : AK) (a : (List BM)) : Option Int :=
 (LK a).bind fun b => bif (b != 0) then some b else ((((AO (MD e a) 0 : Option (Int))).bind fun (d : Int) => some (decide (0 <= d)) : Option (Bool))).bind fun (c : Bool) => bif c then some 9 else some 0
theorem UK (d : AK) (b : (List BM)) (r : Int) (h : LL d b = some r) : Aw Tryz.prog 86 [.agg (AN d), .slice 5 (b.map BN)] (· = .int .i64 r) := by
 refine fn AA Tryz.func86 Z Z 14 Z [.tmp 4] Z [(0, .p (.agg (AN d))), (1, .p (.slice 5 (b.map BN)))] Z Z fun A hA => ?_
 unfold LL at h
 refine rs AA <| rl Z <| AB <| rs AA <| rn 1 Z <| bq h fun aj k l => sx Z (AM (UJ _ _ k) (.inl Z) Z Z Z <| rl Z <| rs AA <| rl Z <| cd Z l (fun m => ?_) (fun n => ?_))
 .refine rs AA <| rl Z <| AF <| AG ?_
  have hr := Option.some.inj m; subst hr
  exact er Z Le.rfl
 refine AE <| AC <| AB <| rs AA <| rn 2 Z <| sx Z (CX AA (fun e : Bool => lb e) (fun e : Bool => [(0, bx (AN d))]) 1 n Tryz.func123 9 [.tmp 4] [(0, ls 5 BN b), (1, .fn 124 [.lpb 0 0])] Z Z Z Z Z Z Z Z (fun A hA e o => ?_) (fun e ab => ?_))
 .refine rs AA <| rl Z <| rs AA <| rn 2 Z <| sx Z (CX AA (fun c : Int => li c) (fun c : Int => [(0, bx (AN d))]) 1 o Tryz.func155 19 [.tmp 4] [(0, ls 5 BN b), (1, .fn 124 [.lpb 0 0])] Z Z Z Z Z Z Z Z (fun A hA c q => ?_) (fun c aa => ?_))
  .refine rs AA <| rl Z <| AB <| rs AA <| rn 1 Z <| sx Z (Ae Z Z <| rl Z <| AH ?_)
   apply lp (a := c) (fun f : Int => ⟨19, [(0, ls 5 BN b), (1, .fn 124 [.lpb 0 0]), (7, li (b.length : Int)), (8, li f)], [(0, bx (AN d))], 1⟩) q
   . exact wj hA [(0, 0)] Z Z Z Z
   intro f ag g
   unfold MD at g
   refine rs AA <| rl Z <| AB <| cd Z g (fun s => ?_) (fun y => ?_)
   .refine AE <| AC <| AB <| AH <| rs AA <| rl Z <| rs AA <| rn 3 Z <| bq s fun ah i t => sx Z (Ab i Z Z Z <| rn 1 Z <| bq t fun ai j u => sx Z (AM (SO _ _ _ j) (.inl Z) Z Z (D1.eq (.cons (.one (.p _)) (.cons (.box Z (.cons (.p _) (.cons (.p _) (.cons (.p _) (.cons (.p _) (.cons (.p _) (.cons (.p _) (.cons (.p _) (.cons (.p _) (.cons (.p _) .nil)))))))))) .nil))) <| rl Z <| cd Z u (fun v => ?_) (fun x => ?_)))
    .refine rs AA <| rl Z <| AF <| AQ <| AG <| A3 v fun ae w => AQ <| AG ?_
     have hr := Option.some.inj w; subst hr
     exact Ca (nt := 19) (sl := [(4, li f)]) (wj hA [(0, 0)] Z Z Z Z) Z
    exact AE <| Ad <| AC <| rg AA <| rl Z <| Aq x (wj hA [(0, 0)] Z Z Z Z)
   refine AT <| AZ <| BG y fun af z => An <| AC <| rs AA <| rl Z <| AF ?_
   cases z
   exact Ca (nt := 19) (sl := [(4, li (-1))]) (wj hA [(0, 0)] Z Z Z Z) Z
  refine rl Z <| AF ?_
  cases aa
  exact Ca (nt := 9) (sl := [(4, lb (decide (0 <= c)))]) (wj hA [(0, 0)] Z Z Z Z) Z
 refine rl Z <| cd Z ab (fun ac => ?_) (fun ad => ?_)
 .refine rs AA <| rl Z <| AF <| AG ?_
  cases ac
  exact er Z Le.rfl
 refine AE <| AC <| rs AA <| rl Z <| AF ?_
 cases ad
 exact er Z Le.rfl
noncomputable def C5 (a : Int) (c : Int) : Option Bool :=
 ((bif decide (0 <= a) then some (decide (a <= c)) else some false : Option (Bool))).bind fun (b : Bool) => some b
theorem Ed (b : Int) (c : Int) (r : Bool) (h : C5 b c = some r) : Aw Tryz.prog 87 [.int .i64 b, .int .i64 c] (· = .bool r) := by
 refine fn AA Tryz.func87 Z Z 12 Z [.tmp 4] Z [(0, .p (.int .i64 b)), (1, .p (.int .i64 c))] Z Z fun A hA => ?_
 unfold C5 at h
 refine rs AA <| rl Z <| jb (fun a : Bool => ⟨12, [(4, lb a)], [], 0⟩) h (fun a d => ?_) (fun a g => ?_)
 .refine rg AA <| rn 3 Z <| gs 7 d Z Z Z (fun e => ?_) (fun f => ?_)
  .exact rl Z <| AL e (wf hA [] Z Z Z)
  exact rl Z <| AL f (wf hA [] Z Z Z)
 refine AF ?_
 have hr := Option.some.inj g; subst hr
 exact er Z Le.rfl
noncomputable def Hr (a : AK) (b : Int) : Option Int :=
 (C5 b (AP ((a.elems.length : Int) - 1))).bind fun d => bif (!d) then some 0 else (AY a.elems b).bind fun c => some c.kind
theorem Ni (a : AK) (b : Int) (r : Int) (h : Hr a b = some r) : Aw Tryz.prog 157 [.agg (AN a), .int .i64 b] (· = .int .i64 r) := by
 refine fn AA Tryz.func157 Z Z 18 Z [.tmp 4] Z [(0, .p (.agg (AN a))), (1, .p (.int .i64 b))] Z Z fun A hA => ?_
 unfold Hr at h
 refine rs AA <| rl Z <| AB <| rs AA <| rn 3 Z <| sx Z (Ae Z Z <| rn 1 Z <| bq h fun k d e => sx Z (AM (Ed _ _ _ d) (.inl Z) Z Z Z <| rl Z <| cd Z e (fun f => ?_) (fun g => ?_)))
 .refine rs AA <| rl Z <| AF <| AG ?_
  cases f
  exact er Z Le.rfl
 refine AE <| AC <| rs AA <| rn 3 Z <| bq g fun j c i => sx Z (Ab c Z Z Z <| rl Z <| AF ?_)
 cases i
 exact er Z Le.rfl
noncomputable def JU (b : AK) (a : C4) : Option Bool :=
 bif (a.fin == 1) then (C5 a.to (AP ((b.signals.length : Int) - 1))).bind fun c => some c else bif (a.fin == 2) then (Hr b a.to).bind fun d => some (d == 4) else bif (a.fin == 3) then (Hr b a.to).bind fun e => some (e == 1) else some false
theorem SP (a : AK) (b : C4) (r : Bool) (h : JU a b = some r) : Aw Tryz.prog 126 [.agg (AN a), .agg (DI b)] (· = .bool r) := by
 refine fn AA Tryz.func126 Z Z 30 Z [.tmp 4] Z [(0, .p (.agg (AN a))), (1, .p (.agg (DI b)))] Z Z fun A hA => ?_
 unfold JU at h
 refine rs AA <| rl Z <| AB <| rs AA <| rl Z <| AH <| rs AA <| rl Z <| cd Z h (fun f => ?_) (fun i => ?_)
 .refine rs AA <| rn 4 Z <| sx Z (Ae Z Z <| rn 1 Z <| bq f fun q c g => sx Z (AM (Ed _ _ _ c) (.inl Z) Z Z Z <| rl Z <| AF <| AQ <| AG ?_))
  have hr := Option.some.inj g; subst hr
  exact er Z Le.rfl
 refine rs AA <| rl Z <| cd Z i (fun j => ?_) (fun l => ?_)
 .refine rs AA <| rn 3 Z <| bq j fun s d k => sx Z (AM (Ni _ _ _ d) (.inl Z) Z Z Z <| rl Z <| AF <| AQ <| AG ?_)
  cases k
  exact er Z Le.rfl
 refine rs AA <| rl Z <| cd Z l (fun m => ?_) (fun o => ?_)
 .refine rs AA <| rn 3 Z <| bq m fun t e n => sx Z (AM (Ni _ _ _ e) (.inl Z) Z Z Z <| rl Z <| AF <| AQ <| AG ?_)
  cases n
  exact er Z Le.rfl
 refine AE <| Ad <| AC <| rs AA <| rl Z <| AF ?_
 cases o
 exact er Z Le.rfl
noncomputable def ME (e : AK) (c : Dg) (a : Int × Int) : Option ((Int × Int) ⊕ Bool) :=
 bif decide (a.2 < (c.legs.length : Int)) then (AY c.legs a.2).bind fun b => (((C5 b.at_ 2000).bind fun f => bif (!f) then some true else bif decide (b.at_ < a.1) then some true else (JU e b).bind fun g => some (!g) : Option (Bool))).bind fun (d : Bool) => bif d then some (.inr false) else some (.inl (b.at_, AP (a.2 + 1))) else some (.inr true)
noncomputable def LM (b : AK) (d : Ac) (a : Dg) : Option Bool :=
 (((CJ a.name).bind fun e => bif (!e) then some true else (C5 a.stock (AP ((d.stock.length : Int) - 1))).bind fun f => bif (!f) then some true else (C5 a.frm (AP ((b.signals.length : Int) - 1))).bind fun g => bif (!g) then some true else (C5 a.left 4000).bind fun h => some (!h) : Option (Bool))).bind fun (c : Bool) => bif c then some false else AO (ME b a) (0, 0)
theorem UL (c : AK) (g : Ac) (b : Dg) (r : Bool) (h : LM c g b = some r) : Aw Tryz.prog 89 [.agg (AN c), .agg (AV g), .agg (B4 b)] (· = .bool r) := by
 refine fn AA Tryz.func89 Z Z 66 Z [.tmp 6] Z [(0, .p (.agg (AN c))), (1, .p (.agg (AV g))), (2, .p (.agg (B4 b)))] Z Z fun A hA => ?_
 unfold LM at h
 refine rs AA <| rl Z <| AB <| jb (fun e : Bool => ⟨66, [(3, .lpb 0 0), (5, .lpb 1 0), (39, lb e)], [(0, bx (AN c)), (1, bx (B4 b))], 2⟩) h (fun e s => ?_) (fun e af => ?_)
 .refine rg AA <| rn 2 Z <| bq s fun a1 j t => sx Z (AM (IW _ _ j) (.inl Z) Z Z Z <| rn 2 Z <| gs 14 t Z Z Z (fun u => ?_) (fun v => ?_))
  .exact rl Z <| AL u (wf hA [(0, 0), (1, 2)] Z Z Z)
  refine rn 4 Z <| sx Z (Ae Z Z <| rn 1 Z <| bq v fun a2 k w => sx Z (AM (Ed _ _ _ k) (.inl Z) Z Z Z <| rn 3 Z <| gs 24 w Z Z Z (fun y => ?_) (fun z => ?_)))
  .exact rl Z <| AL y (wf hA [(0, 0), (1, 2)] Z Z Z)
  refine rn 4 Z <| sx Z (Ae Z Z <| rn 1 Z <| bq z fun a3 l aa => sx Z (AM (Ed _ _ _ l) (.inl Z) Z Z Z <| rn 3 Z <| gs 34 aa Z Z Z (fun ab => ?_) (fun ad => ?_)))
  .exact rl Z <| AL ab (wf hA [(0, 0), (1, 2)] Z Z Z)
  exact rn 2 Z <| bq ad fun a4 n ae => sx Z (AM (Ed _ _ _ n) (.inl Z) Z Z Z <| rl Z <| AL ae (wf hA [(0, 0), (1, 2)] Z Z Z))
 refine cd Z af (fun ao => ?_) (fun aw => ?_)
 .refine rs AA <| rl Z <| AF <| AG ?_
  cases ao
  exact er Z Le.rfl
 refine AE <| AC <| rs AA <| rl Z <| AB <| rs AA <| rn 2 Z <| sx Z (Ae Z Z <| rl Z <| AH ?_)
 apply lp (a := r) (fun d : (Int × Int) => ⟨66, [(3, .lpb 0 0), (7, li d.1), (41, ls 4 DI b.legs), (42, li (b.legs.length : Int)), (43, li d.2)], [(0, bx (AN c))], 1⟩) aw
 . exact wf hA [(0, 0)] Z Z Z
 intro d a0 i
 unfold ME at i
 refine rs AA <| rl Z <| AB <| cd Z i (fun x => ?_) (fun au => ?_)
 .refine AE <| AC <| AB <| AH <| rs AA <| bq x fun ax m ac => sx Z (Ab m Z Z Z <| rl Z <| AB <| jb (fun f : Bool => ⟨66, [(3, .lpb 0 0), (9, .lpb 1 0), (41, ls 4 DI b.legs), (42, li (b.legs.length : Int)), (43, li d.2), (62, lb f)], [(0, bx (AN c)), (1, bx (DI ax))], 2⟩) ac (fun f ag => ?_) (fun f an => ?_))
  .refine rg AA <| rn 2 Z <| bq ag fun a5 o ah => sx Z (AM (Ed _ _ _ o) (.inl Z) Z Z Z <| rn 2 Z <| gs 51 ah Z Z Z (fun ai => ?_) (fun aj => ?_))
   .exact rl Z <| AL ai (wf hA [(0, 0), (1, 1)] Z Z Z)
   refine rn 6 Z <| gs 57 aj Z Z Z (fun ak => ?_) (fun al => ?_)
   .exact rl Z <| AL ak (wf hA [(0, 0), (1, 1)] Z Z Z)
   exact rn 2 Z <| bq al fun a6 q am => sx Z (AM (SP _ _ _ q) (.inl Z) Z Z Z <| rl Z <| AL am (wf hA [(0, 0), (1, 1)] Z Z Z))
  refine cd Z an (fun ap => ?_) (fun ar => ?_)
  .refine rs AA <| rl Z <| AF <| AG <| AQ <| AG <| A3 ap fun ay aq => AQ <| AG ?_
   cases aq
   exact er Z Le.rfl
  exact AE <| AC <| rg AA <| rl Z <| Ad <| AC <| rg AA <| rl Z <| Aq ar (wf hA [(0, 0)] Z Z Z)
 refine AT <| AZ <| BG au fun az av => An <| AC <| rs AA <| rl Z <| AF ?_
 cases av
 exact er Z Le.rfl
noncomputable def II (a : Dg) (b : AK) (c : Ac) : Option Bool :=
 (LM b c a).bind fun d => some (!d)
theorem Qp (a : Dg) (b : AK) (c : Ac) (r : Bool) (h : II a b c = some r) : Aw Tryz.prog 88 [.agg (B4 a), .place (AN b) 0, .place (AV c) 0] (· = .bool r) := by
 refine fn AA Tryz.func88 Z Z 10 Z [.tmp 4] Z [(0, .p (.agg (B4 a))), (1, .p (.place (AN b) 0)), (2, .p (.place (AV c) 0))] Z Z fun A hA => ?_
 unfold II at h
 refine rs AA <| rl Z <| rs AA <| rn 3 Z <| bq h fun f d e => sx Z (AM (UL _ _ _ _ d) (.inl Z) Z Z Z <| rl Z <| AF ?_)
 cases e
 exact er Z Le.rfl
noncomputable def IJ (a : Dg) (b : Dg) : Option Bool :=
 some (a.name.toList == b.name.toList)
theorem Qq (a : Dg) (b : Dg) (r : Bool) (h : IJ a b = some r) : Aw Tryz.prog 90 [.agg (B4 a), .place (B4 b) 0] (· = .bool r) := by
 refine fn AA Tryz.func90 Z Z 9 Z [.tmp 3] Z [(0, .p (.agg (B4 a))), (1, .p (.place (B4 b) 0))] Z Z fun A hA => ?_
 unfold IJ at h
 refine rs AA <| rl Z <| rs AA <| rl Z <| AF ?_
 cases h
 exact er Z Le.rfl
noncomputable def Kx (b : Ac) (a : Int) : Option (Int ⊕ Int) :=
 bif decide (a < (b.runs.length : Int)) then (AY b.runs a).bind fun c => (IH c).bind fun d => bif d then some (.inr a) else some (.inl (AP (a + 1))) else some (.inr (-1))
noncomputable def Ky (c : AK) (b : Ac) (a : Int) : Option (Int ⊕ Int) :=
 bif decide (a < (b.runs.length : Int)) then (AY b.runs a).bind fun d => (II d c b).bind fun e => bif e then some (.inr a) else some (.inl (AP (a + 1))) else some (.inr (-1))
noncomputable def Kz (c : Dg) (b : (List Dg)) (a : Int) : Option (Int ⊕ Int) :=
 bif decide (a < (b.length : Int)) then (AY b a).bind fun d => (IJ d c).bind fun e => bif e then some (.inr a) else some (.inl (AP (a + 1))) else some (.inr (-1))
noncomputable def K0 (b : Ac) (a : Int) : Option (Int ⊕ Int) :=
 bif decide (a < (b.runs.length : Int)) then (AY b.runs a).bind fun e => (Jy b.runs 0 a).bind fun f => ((((AO (Kz e f) 0 : Option (Int))).bind fun (d : Int) => some (decide (0 <= d)) : Option (Bool))).bind fun (c : Bool) => bif c then some (.inr 4) else some (.inl (AP (a + 1))) else some (.inr 0)
noncomputable def JV (b : AK) (a : Ac) : Option Int :=
 ((bif decide (8 < (a.runs.length : Int)) then some true else ((((AO (Kx a) 0 : Option (Int))).bind fun (g : Int) => some (decide (0 <= g)) : Option (Bool))).bind fun (f : Bool) => some f : Option (Bool))).bind fun (e : Bool) => bif e then some 3 else (LL b a.stock).bind fun c => bif (c != 0) then some c else (((C5 a.begin 86399).bind fun j => bif (!j) then some true else ((((AO (Ky b a) 0 : Option (Int))).bind fun (d : Int) => some (decide (0 <= d)) : Option (Bool))).bind fun (i : Bool) => some i : Option (Bool))).bind fun (h : Bool) => bif h then some 1 else AO (K0 a) 0
theorem SQ (c : AK) (b : Ac) (r : Int) (h : JV c b = some r) : Aw Tryz.prog 55 [.agg (AN c), .agg (AV b)] (· = .int .i64 r) := by
 refine fn AA Tryz.func55 Z Z 49 Z [.tmp 4] Z [(0, .p (.agg (AN c))), (1, .p (.agg (AV b)))] Z Z fun A hA => ?_
 unfold JV at h
 refine rs AA <| rl Z <| AB <| jb (fun o : Bool => ⟨49, [(2, .lpb 0 0), (3, .lpb 1 0), (16, lb o)], [(0, bx (AN c)), (1, bx (AV b))], 2⟩) h (fun o az => ?_) (fun o b1 => ?_)
 .refine rg AA <| rn 2 Z <| sx Z (Ae Z Z <| rn 2 Z <| gs 12 az Z Z Z (fun a0 => ?_) (fun a1 => ?_))
  .exact rl Z <| AL a0 (wf hA [(0, 0), (1, 1)] Z Z Z)
  refine rn 2 Z <| sx Z (CX AA (fun i : Bool => lb i) (fun i : Bool => [(0, bx (AN c)), (1, bx (AV b))]) 2 a1 Tryz.func84 9 [.tmp 4] [(0, ls 5 B4 b.runs), (1, .fn 85 [])] Z Z Z Z Z Z Z Z (fun A hA i bm => ?_) (fun i b0 => ?_))
  .refine rs AA <| rl Z <| rs AA <| rn 2 Z <| sx Z (CX AA (fun f : Int => li f) (fun f : Int => [(0, bx (AN c)), (1, bx (AV b))]) 2 bm Tryz.func121 19 [.tmp 4] [(0, ls 5 B4 b.runs), (1, .fn 85 [])] Z Z Z Z Z Z Z Z (fun A hA f bn => ?_) (fun f bz => ?_))
   .refine rs AA <| rl Z <| AB <| rs AA <| rn 1 Z <| sx Z (Ae Z Z <| rl Z <| AH ?_)
    apply lp (a := f) (fun n : Int => ⟨19, [(0, ls 5 B4 b.runs), (1, .fn 85 []), (7, li (b.runs.length : Int)), (8, li n)], [(0, bx (AN c)), (1, bx (AV b))], 2⟩) bn
    . exact wj hA [(0, 0), (1, 1)] Z Z Z Z
    intro n co w
    unfold Kx at w
    refine rs AA <| rl Z <| AB <| cd Z w (fun bo => ?_) (fun bv => ?_)
    .refine AE <| AC <| AB <| AH <| rs AA <| rl Z <| rs AA <| rn 3 Z <| bq bo fun ct ae bp => sx Z (Ab ae Z Z Z <| rn 1 Z <| bq bp fun cu af br => sx Z (AM (Qo _ _ af) (.inl Z) Z Z Z <| rl Z <| cd Z br (fun bs => ?_) (fun bu => ?_)))
     .refine rs AA <| rl Z <| AF <| AQ <| AG <| A3 bs fun cj bt => AQ <| AG ?_
      have hr := Option.some.inj bt; subst hr
      exact Ca (nt := 19) (sl := [(4, li n)]) (wj hA [(0, 0), (1, 1)] Z Z Z Z) Z
     exact AE <| Ad <| AC <| rg AA <| rl Z <| Aq bu (wj hA [(0, 0), (1, 1)] Z Z Z Z)
    refine AT <| AZ <| BG bv fun ck bw => An <| AC <| rs AA <| rl Z <| AF ?_
    cases bw
    exact Ca (nt := 19) (sl := [(4, li (-1))]) (wj hA [(0, 0), (1, 1)] Z Z Z Z) Z
   refine rl Z <| AF ?_
   cases bz
   exact Ca (nt := 9) (sl := [(4, lb (decide (0 <= f)))]) (wj hA [(0, 0), (1, 1)] Z Z Z Z) Z
  exact rl Z <| AL b0 (wf hA [(0, 0), (1, 1)] Z Z Z)
 refine cd Z b1 (fun b2 => ?_) (fun b3 => ?_)
 .refine rs AA <| rl Z <| AF <| AG ?_
  cases b2
  exact er Z Le.rfl
 refine AE <| AC <| AB <| rs AA <| rn 3 Z <| bq b3 fun cv ag b4 => sx Z (AM (UK _ _ _ ag) (.inl Z) Z Z Z <| rl Z <| rs AA <| rl Z <| cd Z b4 (fun b5 => ?_) (fun b6 => ?_))
 .refine rs AA <| rl Z <| AF <| AG ?_
  have hr := Option.some.inj b5; subst hr
  exact er Z Le.rfl
 refine AE <| AC <| AB <| jb (fun q : Bool => ⟨49, [(3, .lpb 0 0), (33, lb q)], [(0, bx (AV b))], 1⟩) b6 (fun q b7 => ?_) (fun q av => ?_)
 .refine rg AA <| rn 2 Z <| bq b7 fun cw ah b8 => sx Z (AM (Ed _ _ _ ah) (.inl Z) Z Z Z <| rn 2 Z <| gs 28 b8 Z Z Z (fun b9 => ?_) (fun ca => ?_))
  .exact rl Z <| AL b9 (wf hA [(0, 1)] Z Z Z)
  refine rn 3 Z <| sx Z (CX AA (fun j : Bool => lb j) (fun j : Bool => [(0, bx (AN c)), (1, bx (AV b))]) 2 ca Tryz.func84 9 [.tmp 4] [(0, ls 5 B4 b.runs), (1, .fn 88 [.lpb 0 0, .lpb 1 0])] Z Z Z Z Z Z Z Z (fun A hA j cb => ?_) (fun j au => ?_))
  .refine rs AA <| rl Z <| rs AA <| rn 2 Z <| sx Z (CX AA (fun d : Int => li d) (fun d : Int => [(0, bx (AN c)), (1, bx (AV b))]) 2 cb Tryz.func121 19 [.tmp 4] [(0, ls 5 B4 b.runs), (1, .fn 88 [.lpb 0 0, .lpb 1 0])] Z Z Z Z Z Z Z Z (fun A hA d ai => ?_) (fun d ar => ?_))
   .refine rs AA <| rl Z <| AB <| rs AA <| rn 1 Z <| sx Z (Ae Z Z <| rl Z <| AH ?_)
    apply lp (a := d) (fun l : Int => ⟨19, [(0, ls 5 B4 b.runs), (1, .fn 88 [.lpb 0 0, .lpb 1 0]), (7, li (b.runs.length : Int)), (8, li l)], [(0, bx (AN c)), (1, bx (AV b))], 2⟩) ai
    . exact wj hA [(0, 0), (1, 1)] Z Z Z Z
    intro l cl t
    unfold Ky at t
    refine rs AA <| rl Z <| AB <| cd Z t (fun aj => ?_) (fun ap => ?_)
    .refine AE <| AC <| AB <| AH <| rs AA <| rl Z <| rs AA <| rn 3 Z <| bq aj fun cp y ak => sx Z (Ab y Z Z Z <| rn 1 Z <| bq ak fun cq z al => sx Z (AM (Qp _ _ _ _ z) (.inl Z) Z Z (D1.eq (.cons (.one (.p _)) (.cons (.box Z (.cons (.p _) (.cons (.p _) (.cons (.p _) (.cons (.p _) (.cons (.p _) (.cons (.p _) (.cons (.p _) (.cons (.p _) (.cons (.p _) .nil)))))))))) (.cons (.box Z (.cons (.p _) (.cons (.p _) (.cons (.p _) .nil)))) .nil)))) <| rl Z <| cd Z al (fun am => ?_) (fun ao => ?_)))
     .refine rs AA <| rl Z <| AF <| AQ <| AG <| A3 am fun cc an => AQ <| AG ?_
      have hr := Option.some.inj an; subst hr
      exact Ca (nt := 19) (sl := [(4, li l)]) (wj hA [(0, 0), (1, 1)] Z Z Z Z) Z
     exact AE <| Ad <| AC <| rg AA <| rl Z <| Aq ao (wj hA [(0, 0), (1, 1)] Z Z Z Z)
    refine AT <| AZ <| BG ap fun ce aq => An <| AC <| rs AA <| rl Z <| AF ?_
    cases aq
    exact Ca (nt := 19) (sl := [(4, li (-1))]) (wj hA [(0, 0), (1, 1)] Z Z Z Z) Z
   refine rl Z <| AF ?_
   cases ar
   exact Ca (nt := 9) (sl := [(4, lb (decide (0 <= d)))]) (wj hA [(0, 0), (1, 1)] Z Z Z Z) Z
  exact rl Z <| AL au (wf hA [(0, 1)] Z Z Z)
 refine cd Z av (fun aw => ?_) (fun ax => ?_)
 .refine rs AA <| rl Z <| AF <| AG ?_
  cases aw
  exact er Z Le.rfl
 refine AE <| AC <| AB <| rs AA <| rn 2 Z <| sx Z (Ae Z Z <| rl Z <| AH ?_)
 apply lp (a := r) (fun x : Int => ⟨49, [(3, .lpb 0 0), (35, ls 5 B4 b.runs), (36, li (b.runs.length : Int)), (37, li x)], [(0, bx (AV b))], 1⟩) ax
 . exact wf hA [(0, 0)] Z Z Z
 intro x cm u
 unfold K0 at u
 refine rs AA <| rl Z <| AB <| cd Z u (fun ay => ?_) (fun bk => ?_)
 .refine AE <| AC <| AB <| AH <| rs AA <| rn 1 Z <| bq ay fun s aa a2 => sx Z (Ab aa Z Z Z <| rl Z <| rs AA <| rn 3 Z <| bq a2 fun k ab a3 => sx Z (Ub ab Z Z Z Z <| rn 1 Z <| sx Z (CX AA (fun g : Bool => lb g) (fun g : Bool => [(0, bx (AV b)), (1, bx (B4 s))]) 2 a3 Tryz.func84 9 [.tmp 4] [(0, ls 5 B4 k), (1, .fn 90 [.lpb 1 0])] Z Z Z Z Z Z Z Z (fun A hA g a4 => ?_) (fun g bg => ?_))))
  .refine rs AA <| rl Z <| rs AA <| rn 2 Z <| sx Z (CX AA (fun e : Int => li e) (fun e : Int => [(0, bx (AV b)), (1, bx (B4 s))]) 2 a4 Tryz.func121 19 [.tmp 4] [(0, ls 5 B4 k), (1, .fn 90 [.lpb 1 0])] Z Z Z Z Z Z Z Z (fun A hA e a5 => ?_) (fun e bf => ?_))
   .refine rs AA <| rl Z <| AB <| rs AA <| rn 1 Z <| sx Z (Ae Z Z <| rl Z <| AH ?_)
    apply lp (a := e) (fun m : Int => ⟨19, [(0, ls 5 B4 k), (1, .fn 90 [.lpb 1 0]), (7, li (k.length : Int)), (8, li m)], [(0, bx (AV b)), (1, bx (B4 s))], 2⟩) a5
    . exact wj hA [(0, 0), (1, 1)] Z Z Z Z
    intro m cn v
    unfold Kz at v
    refine rs AA <| rl Z <| AB <| cd Z v (fun a6 => ?_) (fun bc => ?_)
    .refine AE <| AC <| AB <| AH <| rs AA <| rl Z <| rs AA <| rn 3 Z <| bq a6 fun cr ac a7 => sx Z (Ab ac Z Z Z <| rn 1 Z <| bq a7 fun cs ad a8 => sx Z (AM (Qq _ _ _ ad) (.inl Z) Z Z (D1.eq (.cons (.one (.p _)) (.cons (.box Z (.cons (.p _) (.cons (.p _) (.cons (.p _) (.cons (.p _) (.cons (.p _) .nil)))))) .nil))) <| rl Z <| cd Z a8 (fun a9 => ?_) (fun bb => ?_)))
     .refine rs AA <| rl Z <| AF <| AQ <| AG <| A3 a9 fun cf ba => AQ <| AG ?_
      have hr := Option.some.inj ba; subst hr
      exact Ca (nt := 19) (sl := [(4, li m)]) (wj hA [(0, 0), (1, 1)] Z Z Z Z) Z
     exact AE <| Ad <| AC <| rg AA <| rl Z <| Aq bb (wj hA [(0, 0), (1, 1)] Z Z Z Z)
    refine AT <| AZ <| BG bc fun cg be => An <| AC <| rs AA <| rl Z <| AF ?_
    cases be
    exact Ca (nt := 19) (sl := [(4, li (-1))]) (wj hA [(0, 0), (1, 1)] Z Z Z Z) Z
   refine rl Z <| AF ?_
   cases bf
   exact Ca (nt := 9) (sl := [(4, lb (decide (0 <= e)))]) (wj hA [(0, 0), (1, 1)] Z Z Z Z) Z
  refine rl Z <| cd Z bg (fun bh => ?_) (fun bj => ?_)
  .refine rs AA <| rl Z <| AF <| AQ <| AG <| A3 bh fun ch bi => AQ <| AG ?_
   cases bi
   exact er Z Le.rfl
  exact AE <| Ad <| AC <| rg AA <| rl Z <| Aq bj (wf hA [(0, 0)] Z Z Z)
 refine AT <| AZ <| BG bk fun ci bl => An <| AC <| rs AA <| rl Z <| AF ?_
 cases bl
 exact er Z Le.rfl
noncomputable def M6 (c : Az) (d : Ac) (b : Int) : Option (Ok × Bool) :=
 ((bif decide (b < 0) then some true else some (decide ((d.runs.length : Int) <= b)) : Option (Bool))).bind fun (f : Bool) => bif f then some ((⟨ByteArray.empty, 0, (⟨0, 0⟩ : AI), 0⟩ : Ok), false) else (AY d.runs b).bind fun a => (Cf c a.frm).bind fun e => (((BX c e.1.elem).bind fun h => bif (h == 4) then some 0 else some a.left : Option (Int))).bind fun (g : Int) => some ((⟨a.name, a.stock, e.1, g⟩ : Ok), true)
theorem WR (a : Az) (b : Ac) (c : Int) (r : (Ok × Bool)) (h : M6 a b c = some r) : Aw Tryz.prog 11 [.place (Ar a) 0, .agg (AV b), .int .i64 c] (· = .tup [.agg (Nj r.1), .bool r.2]) := by
 refine fn AA Tryz.func11 Z Z 49 Z [.cell 6 42, .tmp 7] Z [(0, .p (.place (Ar a) 0)), (1, .p (.agg (AV b))), (2, .p (.int .i64 c))] Z Z fun A hA => ?_
 unfold M6 at h
 refine rs AA <| rl Z <| AB <| jb (fun d : Bool => ⟨49, [(0, lq (Ar a)), (2, li c), (4, .lpb 0 0), (6, .lpb 1 0), (20, lb d)], [(0, bx (AV b)), (1, .box [.p (.str ByteArray.empty), li 0, li 0, li 0, li 0])], 2⟩) h (fun d l => ?_) (fun d o => ?_)
 .refine rg AA <| rn 3 Z <| gs 14 l Z Z Z (fun m => ?_) (fun n => ?_)
  .exact rl Z <| AL m (wf hA [(0, 0), (1, 1)] Z Z Z)
  exact rn 3 Z <| sx Z (Ae Z Z <| rl Z <| AL n (wf hA [(0, 0), (1, 1)] Z Z Z))
 refine cd Z o (fun q => ?_) (fun s => ?_)
 .refine rs AA <| rl Z <| AF <| AG ?_
  cases q
  exact er Z Le.rfl
 refine AE <| AC <| rs AA <| rn 3 Z <| bq s fun f i t => sx Z (Ab i Z Z Z <| rl Z <| rs AA <| rn 3 Z <| bq t fun g j u => sx Z (AM (HT _ _ _ j) (.inl Z) Z Z Z <| rl Z <| rs AA <| rl Z <| jb (fun e : Int => ⟨49, [(6, .lpb 0 0), (11, .lpb 1 0)], [(0, .box [.p (.str ByteArray.empty), li 0, li 0, li 0, li 0]), (1, .box [.p (.str f.name), li f.stock, li g.1.elem, li g.1.fin, li e])], 2⟩) u (fun e v => ?_) (fun e z => ?_)))
 .refine rs AA <| rn 3 Z <| bq v fun aa k w => sx Z (AM (Bx _ _ _ k) (.inl Z) Z Z Z <| rl Z <| cd Z w (fun x => ?_) (fun y => ?_))
  .exact rg AA <| rl Z <| AL x (wf hA [(0, 1), (1, 4)] Z Z Z)
  exact AE <| AL y (wf hA [(0, 1), (1, 4)] Z Z Z)
 refine rs AA <| rl Z <| AF ?_
 cases z
 exact er Z Le.rfl
end Go.E
/- Plain functions, and walks in step with them. Written by a program (gen.py). No condition. -/
set_option maxRecDepth 100000
set_option maxHeartbeats 1000000
namespace Go.E
open Go Go.RowKit Go.Proofs
noncomputable def KV (c : Az) (a : AI) : Option Bool :=
 ((bif decide (0 <= a.fin) then (BX c a.elem).bind fun d => (FY d).bind fun e => some (decide (a.fin < e)) else some false : Option (Bool))).bind fun (b : Bool) => some b
theorem Q0 (b : Az) (c : AI) (r : Bool) (h : KV b c = some r) : Aw Tryz.prog 136 [.place (Ar b) 0, .agg (AW c)] (· = .bool r) := by
 refine fn AA Tryz.func136 Z Z 18 Z [.tmp 4] Z [(0, .p (.place (Ar b) 0)), (1, .p (.agg (AW c)))] Z Z fun A hA => ?_
 unfold KV at h
 refine rs AA <| rl Z <| jb (fun a : Bool => ⟨18, [(4, lb a)], [], 0⟩) h (fun a k => ?_) (fun a j => ?_)
 .refine B0 AA mixed [0, 1, 2, 3, 4, 5, 6, 7, 8, 9, 10, 11, 12, 13] 14 (by kernel_rfl) Z Z Z ?_
  refine Au 4 Z <| Ec 8 k Z Z Z (fun l => ?_) (fun i => ?_)
  .exact Au 5 Z <| bq l fun m d f => As Z (A0 (Bx _ _ _ d) (.inl Z) Z Z Z <| bq f fun n e g => As Z (A0 (KW _ _ e) (.inl Z) Z Z Z <| BK Z <| AL g (wf hA [] Z Z Z)))
  exact BK Z <| AL i (wf hA [] Z Z Z)
 refine AF ?_
 have hr := Option.some.inj j; subst hr
 exact er Z Le.rfl
noncomputable def MF (c : Az) (d : Int) (a : Ok) : Option (MG × Int) :=
 (BX c a.at_.elem).bind fun b => (DR c a.at_.elem).bind fun e => ((bif decide (d < 1) then some true else bif decide (4000 < d) then some true else bif (b != 4) then bif (b != 1) then some true else (KV c a.at_).bind fun j => some (!j) else (KV c a.at_).bind fun k => some (!k) : Option (Bool))).bind fun (i : Bool) => bif i then some ((⟨0, [], 0, 0, 0⟩ : MG), 1) else (Cb c a.at_).bind fun l => bif decide (l < 0) then some ((⟨0, [], 0, 0, 0⟩ : MG), 7) else ((bif (b == 4) then bif (a.left != 0) then some true else bif (b == 1) then bif decide (a.left < 0) then some true else some (decide (e < a.left)) else some false else bif (b == 1) then bif decide (a.left < 0) then some true else some (decide (e < a.left)) else some false : Option (Bool))).bind fun (f : Bool) => bif f then some ((⟨0, [], 0, 0, 0⟩ : MG), 1) else ((bif (b == 1) then some (decide (e < AP (a.left + d))) else some false : Option (Bool))).bind fun (g : Bool) => bif g then some ((⟨0, [], 0, 0, 0⟩ : MG), 9) else ((bif (b == 4) then some 1 else some 2 : Option (Int))).bind fun (h : Int) => some ((⟨h, [a.at_], a.left, 0, 0⟩ : MG), 0)
theorem VN (c : Az) (b : Int) (a : Ok) (r : (MG × Int)) (h : MF c b a = some r) : Aw Tryz.prog 92 [.place (Ar c) 0, .int .i64 b, .agg (Nj a)] (· = .tup [.agg (X5 r.1), .int .i64 r.2]) := by
 refine fn AA Tryz.func92 Z Z 97 Z [.cell 6 117, .tmp 7] Z [(0, .p (.place (Ar c) 0)), (1, .p (.int .i64 b)), (2, .p (.agg (Nj a)))] Z Z fun A hA => ?_
 unfold MF at h
 refine rs AA <| rl Z <| AB ?_
 refine B0 AA mixed [0, 1, 2, 3, 4, 5, 6, 7, 8, 9, 10, 11] 12 (by kernel_rfl) Z Z Z ?_
 refine Au 4 Z <| bq h fun i n a5 => As Z (A0 (Bx _ _ _ n) (.inl Z) Z Z Z <| Au 4 Z <| bq a5 fun j o a6 => As Z (A0 (MH _ _ _ o) (.inl Z) Z Z Z <| BK Z <| AC <| AB <| AH <| jb (fun g : Bool => ⟨97, [(0, lq (Ar c)), (1, li b), (5, .lpb 0 0), (6, .lpb 1 0), (8, li i), (9, li j), (21, lb g)], [(0, bx (Nj a)), (1, .box [li 0, .p (.nils), li 0, li 0, li 0])], 2⟩) a6 (fun g a7 => ?_) (fun g x => ?_)))
 .refine rg AA <| rn 3 Z <| gs 24 a7 Z Z Z (fun a8 => ?_) (fun a9 => ?_)
  .exact rl Z <| AL a8 (wf hA [(0, 0), (1, 1)] Z Z Z)
  refine rn 4 Z <| gs 28 a9 Z Z Z (fun ba => ?_) (fun bb => ?_)
  .exact rl Z <| AL ba (wf hA [(0, 0), (1, 1)] Z Z Z)
  refine rn 3 Z <| gs 31 bb Z Z Z (fun q => ?_) (fun v => ?_)
  .refine rn 5 Z <| gs 36 q Z Z Z (fun s => ?_) (fun t => ?_)
   .exact rl Z <| AL s (wf hA [(0, 0), (1, 1)] Z Z Z)
   exact rn 3 Z <| bq t fun bc k u => sx Z (AM (Q0 _ _ _ k) (.inl Z) Z Z Z <| rl Z <| AL u (wf hA [(0, 0), (1, 1)] Z Z Z))
  exact rn 8 Z <| bq v fun be l w => sx Z (AM (Q0 _ _ _ l) (.inl Z) Z Z Z <| rl Z <| AL w (wf hA [(0, 0), (1, 1)] Z Z Z))
 refine cd Z x (fun y => ?_) (fun z => ?_)
 .refine rs AA <| rl Z <| AF <| AQ <| AG ?_
  cases y
  exact er Z (Le.tup' (.cons (Le.agg' (.cons Le.rfl (.cons (Le.nil _) (.cons Le.rfl (.cons Le.rfl (.cons Le.rfl .nil)))))) (.cons Le.rfl .nil)))
 refine rs AA <| rn 3 Z <| bq z fun bf m aa => sx Z (AM (HA _ _ _ m) (.inl Z) Z Z Z <| rl Z <| cd Z aa (fun ab => ?_) (fun ac => ?_))
 .refine rs AA <| rl Z <| AF <| AQ <| AG ?_
  cases ab
  exact er Z (Le.tup' (.cons (Le.agg' (.cons Le.rfl (.cons (Le.nil _) (.cons Le.rfl (.cons Le.rfl (.cons Le.rfl .nil)))))) (.cons Le.rfl .nil)))
 refine jb (fun d : Bool => ⟨97, [(1, li b), (5, .lpb 0 0), (6, .lpb 1 0), (8, li i), (9, li j), (51, lb d)], [(0, bx (Nj a)), (1, .box [li 0, .p (.nils), li 0, li 0, li 0])], 2⟩) ac (fun d ad => ?_) (fun d aq => ?_)
 .refine rg AA <| rn 3 Z <| gs 54 ad Z Z Z (fun ae => ?_) (fun al => ?_)
  .refine rn 5 Z <| gs 59 ae Z Z Z (fun af => ?_) (fun ag => ?_)
   .exact rl Z <| AL af (wf hA [(0, 0), (1, 1)] Z Z Z)
   refine rn 3 Z <| gs 62 ag Z Z Z (fun ah => ?_) (fun ak => ?_)
   .refine rn 4 Z <| gs 66 ah Z Z Z (fun ai => ?_) (fun aj => ?_)
    .exact rl Z <| AL ai (wf hA [(0, 0), (1, 1)] Z Z Z)
    exact rl Z <| AL aj (wf hA [(0, 0), (1, 1)] Z Z Z)
   exact rl Z <| AL ak (wf hA [(0, 0), (1, 1)] Z Z Z)
  refine rn 8 Z <| gs 62 al Z Z Z (fun am => ?_) (fun ap => ?_)
  .refine rn 4 Z <| gs 66 am Z Z Z (fun an => ?_) (fun ao => ?_)
   .exact rl Z <| AL an (wf hA [(0, 0), (1, 1)] Z Z Z)
   exact rl Z <| AL ao (wf hA [(0, 0), (1, 1)] Z Z Z)
  exact rl Z <| AL ap (wf hA [(0, 0), (1, 1)] Z Z Z)
 refine cd Z aq (fun ar => ?_) (fun au => ?_)
 .refine rs AA <| rl Z <| AF <| AQ <| AG ?_
  cases ar
  exact er Z (Le.tup' (.cons (Le.agg' (.cons Le.rfl (.cons (Le.nil _) (.cons Le.rfl (.cons Le.rfl (.cons Le.rfl .nil)))))) (.cons Le.rfl .nil)))
 refine jb (fun e : Bool => ⟨97, [(5, .lpb 0 0), (6, .lpb 1 0), (8, li i), (75, lb e)], [(0, bx (Nj a)), (1, .box [li 0, .p (.nils), li 0, li 0, li 0])], 2⟩) au (fun e av => ?_) (fun e ay => ?_)
 .refine rg AA <| rn 3 Z <| gs 78 av Z Z Z (fun aw => ?_) (fun ax => ?_)
  .exact rl Z <| AL aw (wf hA [(0, 0), (1, 1)] Z Z Z)
  exact rl Z <| AL ax (wf hA [(0, 0), (1, 1)] Z Z Z)
 refine cd Z ay (fun az => ?_) (fun a0 => ?_)
 .refine rs AA <| rl Z <| AF <| AQ <| AG ?_
  cases az
  exact er Z (Le.tup' (.cons (Le.agg' (.cons Le.rfl (.cons (Le.nil _) (.cons Le.rfl (.cons Le.rfl (.cons Le.rfl .nil)))))) (.cons Le.rfl .nil)))
 refine AE <| Ad <| AC <| rs AA <| rl Z <| jb (fun f : Int => ⟨97, [(6, .lpb 0 0), (10, .lpb 1 0)], [(0, .box [li 0, .p (.nils), li 0, li 0, li 0]), (1, .box [li f, .lsl 2 2 0 [a.at_].length, li a.left, li 0, li 0]), (2, .row 40 2 ([a.at_].map AW))], 3⟩) a0 (fun f a1 => ?_) (fun f a4 => ?_)
 .refine rs AA <| rl Z <| cd Z a1 (fun a2 => ?_) (fun a3 => ?_)
  .exact rg AA <| rl Z <| AL a2 (wf hA [(0, 1), (1, 3), (2, 2)] Z Z Z)
  exact AE <| AL a3 (wf hA [(0, 1), (1, 3), (2, 2)] Z Z Z)
 refine rs AA <| rl Z <| AF ?_
 cases a4
 exact er (VE Z (.cons (.agg (.cons (.p _) (.cons (.own (enc := AW) ([a.at_] : List AI) Z Z) (.cons (.p _) (.cons (.p _) (.cons (.p _) .nil)))))) (.cons (.one (.p _)) .nil))) Le.rfl
noncomputable def Nk (e : Az) (b : MG) (a : Int × (List Int)) : Option ((Int × (List Int)) ⊕ (List Int)) :=
 bif decide (a.1 < (b.trail.length : Int)) then (((AY b.trail a.1).bind fun c => (BX e c.elem).bind fun f => bif (f != 4) then (Bs a.2 [c.elem]).bind fun g => some g else some a.2 : Option ((List Int)))).bind fun (d : (List Int)) => some (.inl (AP (a.1 + 1), d)) else ((Qg a.2).bind fun h => (Uh h).bind fun i => some i).map .inr
noncomputable def M7 (a : Az) (b : MG) : Option (List Int) :=
 AO (Nk a b) (0, ([] : List Int))
theorem WS (d : Az) (c : MG) (r : (List Int)) (h : M7 d c = some r) : Aw Tryz.prog 93 [.place (Ar d) 0, .agg (X5 c)] (· = .slice 1 (r.map Aa)) := by
 refine fn AA Tryz.func93 Z Z 30 Z [.tmp 4] Z [(0, .p (.place (Ar d) 0)), (1, .p (.agg (X5 c)))] Z Z fun A hA => ?_
 unfold M7 at h
 refine rs AA <| rl Z <| rs AA <| rl Z <| AB <| rs AA <| rn 2 Z <| sx Z (Ae Z Z <| rl Z <| AH ?_)
 apply lp (a := r) (fun b : (Int × (List Int)) => ⟨30, [(0, lq (Ar d)), (5, .lsl 0 1 0 b.2.length), (9, ls 2 AW c.trail), (10, li (c.trail.length : Int)), (11, li b.1)], [(0, .row 3 1 (b.2.map Aa))], 1⟩) h
 . exact A8.trans (CS 5 3 1 Z) (wf hA [(0, 1)] Z Z Z)
 intro b ai i
 unfold Nk at i
 refine rs AA <| rl Z <| AB <| cd Z i (fun q => ?_) (fun aa => ?_)
 .refine AE <| AC <| jb (fun f : (List Int) => ⟨30, [(0, lq (Ar d)), (5, .lsl 0 1 0 f.length), (9, ls 2 AW c.trail), (10, li (c.trail.length : Int)), (11, li b.1)], [(0, .row 3 1 (f.map Aa))], 1⟩) q (fun f s => ?_) (fun f z => ?_)
  .refine AH <| rs AA <| bq s fun ae j u => sx Z (Ab j Z Z Z <| rl Z <| rs AA <| rn 3 Z <| bq u fun aj k v => sx Z (AM (Bx _ _ _ k) (.inl Z) Z Z Z <| rl Z <| cd Z v (fun w => ?_) (fun y => ?_)))
   .exact rg AA <| rn 4 Z <| bq w fun ak n x => sx Z (BW (enc := Aa) (l := b.2) (m := [ae.elem]) n (fun _ => ⟨Z, Z⟩) Z Z Z Z Z Z <| rl Z <| Ad <| AL x (wf hA [(0, 3)] Z Z Z))
   exact AE <| Ad <| AL y (wf hA [(0, 0)] Z Z Z)
  exact rg AA <| rl Z <| Aq z (wf hA [(0, 0)] Z Z Z)
 refine AT <| AZ <| CF aa fun ah ab => An <| AC <| rs AA <| rn 1 Z <| bq ab fun af g ac => sx Z (AB4 (t := 50) (e := 3) (enc := Aa) (l := b.2) AA ZD Z Z g Z Z Z Z Z Z <| rl Z <| rs AA <| rn 1 Z <| bq ac fun ag o ad => sx Z (AB5 (t := 50) (e := 3) (enc := Aa) (l := af) AA AB6 Z Z o Z (by first | rfl | exact ZE g) Z Z Z Z <| rl Z <| AF ?_))
 have hr := Option.some.inj ad; subst hr
 exact er (IA Z (.one (.own (enc := Aa) ag Z Z))) Le.rfl
noncomputable def Mh (d : (Int × Int × (List (Int × Bool)))) (b : (List Int)) (a : Int × Int × (List (Int × Bool))) : Option ((Int × Int × (List (Int × Bool))) ⊕ ((Int × Int × (List (Int × Bool))) ⊕ Int)) :=
 bif decide (a.2.1 < (b.length : Int)) then (AY b a.2.1).bind fun c => ((bif ((Am a.2.2 c).getD false) then some 18 else some a.1 : Option (Int))).bind fun (e : Int) => some (.inl (e, AP (a.2.1 + 1), A1 c true a.2.2)) else some (.inr (.inl (a.1, AP (d.2.1 + 1), a.2.2)))
noncomputable def Mi (c : Az) (b : Ac) (a : Int × Int × (List (Int × Bool))) : Option ((Int × Int × (List (Int × Bool))) ⊕ Int) :=
 bif decide (a.2.1 < (b.runs.length : Int)) then (AY b.runs a.2.1).bind fun e => (M6 c b a.2.1).bind fun f => (AY b.stock e.stock).bind fun g => (MF c g.len f.1).bind fun d => bif (d.2 != 0) then some (.inr d.2) else (M7 c d.1).bind fun h => AO (Mh a h) (a.1, 0, a.2.2) else some (.inr a.1)
noncomputable def MI (a : Az) (b : Ac) : Option Int :=
 AO (Mi a b) (0, 0, [])
theorem VO (e : Az) (b : Ac) (r : Int) (h : MI e b = some r) : Aw Tryz.prog 57 [.place (Ar e) 0, .agg (AV b)] (· = .int .i64 r) := by
 refine fn AA Tryz.func57 Z Z 63 Z [.tmp 4] Z [(0, .p (.place (Ar e) 0)), (1, .p (.agg (AV b)))] Z Z fun A hA => ?_
 unfold MI at h
 refine rs AA <| rl Z <| rs AA <| rl Z <| AB <| rs AA <| rn 2 Z <| sx Z (Ae Z Z <| rl Z <| AH ?_)
 apply lp (a := r) (fun d : (Int × Int × (List (Int × Bool))) => ⟨63, [(0, lq (Ar e)), (3, .lpb 0 0), (5, li d.1), (6, .lmap 1), (17, ls 5 B4 b.runs), (18, li (b.runs.length : Int)), (19, li d.2.1)], [(0, bx (AV b)), (1, .map (Ao (.int .i64) .bool d.2.2))], 2⟩) h
 . exact wf hA [(0, 0), (1, 1)] Z Z Z
 intro d l j
 unfold Mi at j
 refine rs AA <| rl Z <| AB <| cd Z j (fun u => ?_) (fun an => ?_)
 .refine AE <| AC <| AB <| AH <| rs AA <| rn 1 Z <| bq u fun av m v => sx Z (Ab m Z Z Z <| rl Z <| rs AA <| rn 3 Z <| bq v fun aw n w => sx Z (AM (WR _ _ _ _ n) (.inl Z) Z Z Z <| rl Z <| AB ?_))
  refine B0 AA mixed [0, 1, 2, 3, 4, 5, 6, 7, 8, 9, 10, 11, 12, 13, 14, 15] 16 (by kernel_rfl) Z Z Z ?_
  refine Au 5 Z <| bq w fun ax o x => As Z (Al Z (Ab o Z Z Z <| Au 3 Z <| bq x fun ay q aa => As Z (A0 (VN _ _ _ _ q) (.inr Z) Z Z Z <| BK Z <| AC <| AB <| rs AA <| rl Z <| cd Z aa (fun ab => ?_) (fun ad => ?_))))
  .refine rs AA <| rl Z <| AF <| AG <| AQ <| AG <| A3 ab fun ap ac => AQ <| AG ?_
   cases ac
   exact er Z Le.rfl
  refine AE <| AC <| rs AA <| rn 2 Z <| bq ad fun f s ae => sx Z (AM (WS _ _ _ s) (.inr Z) Z Z Z <| sx Z (Ae Z Z <| rl Z <| AH ?_))
  apply lp (a := l) (fun c : (Int × Int × (List (Int × Bool))) => ⟨63, [(0, lq (Ar e)), (3, .lpb 0 0), (5, li c.1), (6, .lmap 1), (17, ls 5 B4 b.runs), (18, li (b.runs.length : Int)), (19, li d.2.1), (49, ls 1 Aa f), (50, li (f.length : Int)), (51, li c.2.1)], [(0, bx (AV b)), (1, .map (Ao (.int .i64) .bool c.2.2))], 2⟩) ae
  . exact wf hA [(0, 0), (1, 1)] Z Z Z
  intro c au k
  unfold Mh at k
  refine rs AA <| rl Z <| AB <| cd Z k (fun af => ?_) (fun al => ?_)
  .refine AE <| AC <| AB <| AH <| rs AA <| bq af fun i t ag => sx Z (Ab t Z Z Z <| rl Z <| jb (fun g : Int => ⟨63, [(0, lq (Ar e)), (3, .lpb 0 0), (5, li g), (6, .lmap 1), (14, li i), (17, ls 5 B4 b.runs), (18, li (b.runs.length : Int)), (19, li d.2.1), (49, ls 1 Aa f), (50, li (f.length : Int)), (51, li c.2.1)], [(0, bx (AV b)), (1, .map (Ao (.int .i64) .bool c.2.2))], 2⟩) ag (fun g ah => ?_) (fun g ak => ?_))
   .refine rs AA <| rn 2 Z <| sx Z (La (et := 4) (ke := (.int .i64)) (ve := .bool) (mp := c.2.2) (y := i) false Gd Z Z Z Z <| rl Z <| cd Z ah (fun ai => ?_) (fun aj => ?_))
    .exact rg AA <| rl Z <| AL ai (wf hA [(0, 0), (1, 1)] Z Z Z)
    exact AE <| AL aj (wf hA [(0, 0), (1, 1)] Z Z Z)
   exact rg AA <| rn 2 Z <| sx Z (G7 (et := 4) (ke := (.int .i64)) (ve := .bool) (mp := c.2.2) (y := i) (z := true) Gd Z Z Z Z Z Z <| rl Z <| Ad <| AC <| rg AA <| rl Z <| Aq ak (wf hA [(0, 0), (1, 1)] Z Z Z))
  exact AT <| AZ <| BG al fun aq am => An <| Ad <| AC <| rg AA <| rl Z <| Aq am (wf hA [(0, 0), (1, 1)] Z Z Z)
 refine AT <| AZ <| BG an fun ar ao => An <| AC <| rs AA <| rl Z <| AF ?_
 cases ao
 exact er Z Le.rfl
noncomputable def Nl (b : DX) (a : Int) : Option (Int ⊕ Int) :=
 bif decide (a < (b.plan.signals.length : Int)) then (AY b.plan.signals a).bind fun c => (LJ c).bind fun d => bif d then some (.inr a) else some (.inl (AP (a + 1))) else some (.inr (-1))
noncomputable def Nm (c : DX) (d : Ac) (g : Az) (b : Int) (e : Dg) (a : Int) : Option (Int ⊕ (Int ⊕ Int)) :=
 bif decide (a < (e.legs.length : Int)) then (EF g c.roads d b a).bind fun f => bif ((f.length : Int) == 0) then some (.inr (.inr 10)) else some (.inl (AP (a + 1))) else some (.inr (.inl (AP (b + 1))))
noncomputable def Nn (e : DX) (c : Ac) (g : Az) (b : Int) : Option (Int ⊕ Int) :=
 bif decide (b < (c.runs.length : Int)) then (AY c.runs b).bind fun a => ((bif ((a.legs.length : Int) == 0) then some true else (AY a.legs (AP ((a.legs.length : Int) - 1))).bind fun f => some (f.fin != 2) : Option (Bool))).bind fun (d : Bool) => bif d then some (.inr 10) else AO (Nm e c g b a) 0 else some (.inr 0)
noncomputable def M8 (b : DX) (c : Ac) : Option Int :=
 ((((AO (Nl b) 0 : Option (Int))).bind fun (h : Int) => some (decide (0 <= h)) : Option (Bool))).bind fun (g : Bool) => bif g then some 7 else (JV b.plan c).bind fun d => bif (d != 0) then some d else (Cp b.plan).bind fun a => JM a.1 (bif (a.2 != 0) then some a.2 else none) fun f => bif (a.2 != 0) then some a.2 else (MI f c).bind fun e => bif (e != 0) then some e else AO (Nn b c f) 0
theorem WT (c : DX) (b : Ac) (r : Int) (h : M8 c b = some r) : Aw Tryz.prog 25 [.agg (Ee c), .agg (AV b)] (· = .int .i64 r) := by
 refine fn AA Tryz.func25 Z Z 78 Z [.tmp 4] Z [(0, .p (.agg (Ee c))), (1, .p (.agg (AV b)))] Z Z fun A hA => ?_
 unfold M8 at h
 refine rs AA <| rl Z <| AB <| rs AA <| rn 3 Z <| sx Z (CX AA (fun g : Bool => lb g) (fun g : Bool => [(0, bx (Ee c)), (1, bx (AV b))]) 2 h Tryz.func53 9 [.tmp 4] [(0, ls 4 BY c.plan.signals), (1, .fn 54 [])] Z Z Z Z Z Z Z Z (fun A hA g ab => ?_) (fun g am => ?_))
 .refine rs AA <| rl Z <| rs AA <| rn 2 Z <| sx Z (CX AA (fun f : Int => li f) (fun f : Int => [(0, bx (Ee c)), (1, bx (AV b))]) 2 ab Tryz.func83 19 [.tmp 4] [(0, ls 4 BY c.plan.signals), (1, .fn 54 [])] Z Z Z Z Z Z Z Z (fun A hA f ac => ?_) (fun f al => ?_))
  .refine rs AA <| rl Z <| AB <| rs AA <| rn 1 Z <| sx Z (Ae Z Z <| rl Z <| AH ?_)
   apply lp (a := f) (fun i : Int => ⟨19, [(0, ls 4 BY c.plan.signals), (1, .fn 54 []), (7, li (c.plan.signals.length : Int)), (8, li i)], [(0, bx (Ee c)), (1, bx (AV b))], 2⟩) ac
   . exact wj hA [(0, 0), (1, 1)] Z Z Z Z
   intro i bv l
   unfold Nl at l
   refine rs AA <| rl Z <| AB <| cd Z l (fun ad => ?_) (fun aj => ?_)
   .refine AE <| AC <| AB <| AH <| rs AA <| rl Z <| rs AA <| rn 3 Z <| bq ad fun b0 t ae => sx Z (Ab t Z Z Z <| rn 1 Z <| bq ae fun b1 u af => sx Z (AM (UI _ _ u) (.inl Z) Z Z Z <| rl Z <| cd Z af (fun ag => ?_) (fun ai => ?_)))
    .refine rs AA <| rl Z <| AF <| AQ <| AG <| A3 ag fun bn ah => AQ <| AG ?_
     have hr := Option.some.inj ah; subst hr
     exact Ca (nt := 19) (sl := [(4, li i)]) (wj hA [(0, 0), (1, 1)] Z Z Z Z) Z
    exact AE <| Ad <| AC <| rg AA <| rl Z <| Aq ai (wj hA [(0, 0), (1, 1)] Z Z Z Z)
   refine AT <| AZ <| BG aj fun bo ak => An <| AC <| rs AA <| rl Z <| AF ?_
   cases ak
   exact Ca (nt := 19) (sl := [(4, li (-1))]) (wj hA [(0, 0), (1, 1)] Z Z Z Z) Z
  refine rl Z <| AF ?_
  cases al
  exact Ca (nt := 9) (sl := [(4, lb (decide (0 <= f)))]) (wj hA [(0, 0), (1, 1)] Z Z Z Z) Z
 refine rl Z <| cd Z am (fun an => ?_) (fun ao => ?_)
 .refine rs AA <| rl Z <| AF <| AG ?_
  cases an
  exact er Z Le.rfl
 refine AE <| AC <| AB <| rs AA <| rn 3 Z <| bq ao fun b2 v ap => sx Z (AM (SQ _ _ _ v) (.inl Z) Z Z Z <| rl Z <| rs AA <| rl Z <| cd Z ap (fun aq => ?_) (fun ar => ?_))
 .refine rs AA <| rl Z <| AF <| AG ?_
  have hr := Option.some.inj aq; subst hr
  exact er Z Le.rfl
 refine AE <| AC <| rs AA <| rn 2 Z <| bq ar fun bm w d => sx Z (AM (Pw _ _ w) (.inr Z) Z Z Z ?_)
 revert d; rcases bz : bm.1 with _ | k <;> intro d
 .replace d := U9 d
  refine rl Z <| AB <| rs AA <| rl Z <| cd Z d (fun au => ?_) (fun av => ?_)
  .refine rs AA <| rl Z <| AF <| AG ?_
   cases au
   exact er Z Le.rfl
  refine AE <| AC <| AB <| rs AA <| rn 2 Z ?_
  cases av
 replace d := VA d
 refine rl Z <| AB <| rs AA <| rl Z <| cd Z d (fun aw => ?_) (fun ax => ?_)
 .refine rs AA <| rl Z <| AF <| AG ?_
  cases aw
  exact er Z Le.rfl
 refine AE <| AC <| AB <| rs AA <| rn 2 Z <| bq ax fun b3 x ay => sx Z (AM (VO _ _ _ x) (.inl Z) Z Z Z <| rl Z <| rs AA <| rl Z <| cd Z ay (fun az => ?_) (fun a0 => ?_))
 .refine rs AA <| rl Z <| AF <| AG ?_
  have hr := Option.some.inj az; subst hr
  exact er Z Le.rfl
 refine AE <| AC <| AB <| rs AA <| rn 2 Z <| sx Z (Ae Z Z <| rl Z <| AH ?_)
 apply lp (a := r) (fun e : Int => ⟨78, [(2, .lpb 0 0), (3, .lpb 1 0), (6, lq (Ar k)), (38, ls 5 B4 b.runs), (39, li (b.runs.length : Int)), (40, li e)], [(0, bx (Ee c)), (1, bx (AV b))], 2⟩) a0
 . exact wf hA [(0, 0), (1, 1)] Z Z Z
 intro e s m
 unfold Nn at m
 refine rs AA <| rl Z <| AB <| cd Z m (fun a1 => ?_) (fun bk => ?_)
 .refine AE <| AC <| AB <| AH <| rs AA <| rn 1 Z <| bq a1 fun q y a2 => sx Z (Ab y Z Z Z <| rl Z <| AB <| jb (fun j : Bool => ⟨78, [(2, .lpb 0 0), (3, .lpb 1 0), (6, lq (Ar k)), (8, li e), (9, .lpb 2 0), (38, ls 5 B4 b.runs), (39, li (b.runs.length : Int)), (40, li e), (60, lb j)], [(0, bx (Ee c)), (1, bx (AV b)), (2, bx (B4 q))], 3⟩) a2 (fun j a3 => ?_) (fun j a7 => ?_))
  .refine rg AA <| rn 2 Z <| sx Z (Ae Z Z <| rn 2 Z <| gs 49 a3 Z Z Z (fun a4 => ?_) (fun a5 => ?_))
   .exact rl Z <| AL a4 (wf hA (gi 3 []) Z Z Z)
   exact rn 4 Z <| sx Z (Ae Z Z <| rn 1 Z <| bq a5 fun b4 z a6 => sx Z (Ab z Z Z Z <| rl Z <| AL a6 (wf hA (gi 3 []) Z Z Z)))
  refine cd Z a7 (fun a8 => ?_) (fun ba => ?_)
  .refine rs AA <| rl Z <| AF <| AG <| AQ <| AG <| A3 a8 fun bp a9 => AQ <| AG ?_
   cases a9
   exact er Z Le.rfl
  refine AE <| AC <| rs AA <| rn 2 Z <| sx Z (Ae Z Z <| rl Z <| AH ?_)
  apply lp (a := s) (fun o : Int => ⟨78, [(2, .lpb 0 0), (3, .lpb 1 0), (6, lq (Ar k)), (8, li e), (38, ls 5 B4 b.runs), (39, li (b.runs.length : Int)), (40, li e), (63, li (q.legs.length : Int)), (64, li o)], [(0, bx (Ee c)), (1, bx (AV b))], 2⟩) ba
  . exact wf hA [(0, 0), (1, 1)] Z Z Z
  intro o bw n
  unfold Nm at n
  refine rs AA <| rl Z <| AB <| cd Z n (fun bb => ?_) (fun bi => ?_)
  .refine AE <| AC <| AB <| AH <| rs AA <| rl Z <| rs AA <| rn 6 Z <| bq bb fun b5 aa bc => sx Z (AM (KT _ _ _ _ _ _ aa) (.inr Z) Z Z Z <| sx Z (Ae Z Z <| rl Z <| cd Z bc (fun be => ?_) (fun bh => ?_)))
   .refine rs AA <| rl Z <| AF <| AQ <| AG <| A3 be fun br bf => AQ <| AQ <| AG <| A3 bf fun bs bg => AQ <| AG ?_
    cases bg
    exact er Z Le.rfl
   exact AE <| Ad <| AC <| rg AA <| rl Z <| Aq bh (wf hA [(0, 0), (1, 1)] Z Z Z)
  exact AT <| AZ <| BG bi fun bt bj => An <| Ad <| AC <| rg AA <| rl Z <| Aq bj (wf hA [(0, 0), (1, 1)] Z Z Z)
 refine AT <| AZ <| BG bk fun bu bl => An <| AC <| rs AA <| rl Z <| AF ?_
 cases bl
 exact er Z Le.rfl
noncomputable def Ef (b : (List Int)) (c : (List Int)) (a : Int) : Option (Int ⊕ Bool) :=
 bif decide (a < (b.length : Int)) then (AY b a).bind fun d => (AY c a).bind fun e => bif (d != e) then some (.inr false) else some (.inl (AP (a + 1))) else some (.inr true)
noncomputable def DC (a : (List Int)) (b : (List Int)) : Option Bool :=
 bif ((a.length : Int) != (b.length : Int)) then some false else AO (Ef a b) 0
theorem Iq (b : (List Int)) (c : (List Int)) (r : Bool) (h : DC b c = some r) : Aw Tryz.prog 17 [.slice 1 (b.map Aa), .slice 1 (c.map Aa)] (· = .bool r) := by
 refine fn AA Tryz.func17 Z Z 26 Z [.tmp 4] Z [(0, .p (.slice 1 (b.map Aa))), (1, .p (.slice 1 (c.map Aa)))] Z Z fun A hA => ?_
 unfold DC at h
 refine rs AA <| rl Z <| AB <| rs AA <| rn 1 Z <| sx Z (Ae Z Z <| rn 1 Z <| sx Z (Ae Z Z <| rl Z <| cd Z h (fun s => ?_) (fun t => ?_)))
 .refine rs AA <| rl Z <| AF <| AG ?_
  cases s
  exact er Z Le.rfl
 refine AE <| AC <| AB <| rs AA <| rl Z <| AH ?_
 apply lp (a := r) (fun e : Int => ⟨26, [(0, ls 1 Aa b), (1, ls 1 Aa c), (5, li e)], [], 0⟩) t
 . exact wf hA [] Z Z Z
 intro e w d
 unfold Ef at d
 refine AB <| rs AA <| rn 2 Z <| sx Z (Ae Z Z <| rl Z <| cd Z d (fun i => ?_) (fun o => ?_))
 .refine AE <| AC <| AB <| AH <| AB ?_
  refine B0 AA mixed [0, 1, 2, 3, 4, 5, 6, 7, 8] 9 (by kernel_rfl) Z Z Z ?_
  refine Au 2 Z <| bq i fun x f j => As Z (Al Z (Ab f Z Z Z <| Au 3 Z <| bq j fun y g k => As Z (Al Z (Ab g Z Z Z <| BK Z <| AC <| cd Z k (fun l => ?_) (fun n => ?_)))))
  .refine rs AA <| rl Z <| AF <| AQ <| AG <| A3 l fun u m => AQ <| AG ?_
   cases m
   exact er Z Le.rfl
  exact AE <| Ad <| AC <| rg AA <| rl Z <| Aq n (wf hA [] Z Z Z)
 refine AT <| AZ <| BG o fun v q => An <| AC <| rs AA <| rl Z <| AF ?_
 cases q
 exact er Z Le.rfl
noncomputable def KX : Option Bool :=
 (Og).bind fun d => (Gt d).bind fun a => (I5 d).bind fun l => JM l (((bif (!a.2) then some () else some () : Option (Unit))).bind fun (s : Unit) => some false) fun b => ((bif (!a.2) then some true else some false : Option (Bool))).bind fun (e : Bool) => bif e then some false else (HU).bind fun m => (Gr b a.1.roads m 0 1).bind fun c => (((HU).bind fun n => (M8 a.1 n).bind fun o => bif (o == 0) then (HU).bind fun p => (C3 b p 0 2).bind fun q => bif (q == 4) then (HU).bind fun r => (Hs b r 0 2).bind fun g => bif (g == 4) then (HU).bind fun h => (EF b a.1.roads h 0 1).bind fun i => bif ((i.length : Int) == 1) then (DC c.at_ ([1] : (List Int))).bind fun j => bif j then bif ((c.legs.length : Int) == 2) then (AY c.legs 0).bind fun k => some (k.fin == 4) else some false else some false else some false else some false else some false else some false : Option (Bool))).bind fun (f : Bool) => some f
theorem WU (r : Bool) (h : KX = some r) : Aw Tryz.prog 9 [] (· = .bool r) := by
 refine fn AA Tryz.func9 Z Z 70 Z [.tmp 0] Z [] Z Z fun A hA => ?_
 unfold KX at h
 refine rs AA <| rl Z <| rs AA <| bq h fun bk m au => sx Z (AM (X2 _ m) (.inr Z) Z Z Z <| rl Z <| rs AA <| rn 1 Z <| bq au fun e q a3 => sx Z (AM (Q1 _ _ q) (.inr Z) Z Z Z <| rl Z <| rs AA <| rn 1 Z <| bq a3 fun bb l a => sx Z (AM (To _ _ l) (.inr Z) Z Z Z ?_)))
 revert a; rcases be : bb with _ | bc <;> intro a
 .replace a := U9 a
  refine rl Z <| AB <| jb (fun d : Unit => ⟨70, [(2, .lpb 0 0), (4, .p (.nilp)), (19, lb true)], [(0, bx (Ee e.1))], 1⟩) a (fun d ao => ?_) (fun d ar => ?_)
  .refine rg AA <| rn 3 Z <| gs 16 ao Z Z Z (fun ap => ?_) (fun aq => ?_)
   .exact rl Z <| AL ap (wf hA [(0, 1)] Z Z Z)
   exact rl Z <| AL aq (wf hA [(0, 1)] Z Z Z)
  refine R8 Z <| rs AA <| rl Z <| AF <| AG ?_
  cases ar
  exact er Z Le.rfl
 replace a := VA a
 refine rl Z <| AB <| jb (fun b : Bool => ⟨70, [(2, .lpb 0 0), (4, lq (Ar bc)), (19, lb b)], [(0, bx (Ee e.1))], 1⟩) a (fun b av => ?_) (fun b ay => ?_)
 .refine rg AA <| rn 3 Z <| gs 16 av Z Z Z (fun aw => ?_) (fun ax => ?_)
  .exact rl Z <| AL aw (wf hA [(0, 1)] Z Z Z)
  exact rl Z <| AL ax (wf hA [(0, 1)] Z Z Z)
 refine cd Z ay (fun az => ?_) (fun a0 => ?_)
 .refine rs AA <| rl Z <| AF <| AG ?_
  cases az
  exact er Z Le.rfl
 refine AE <| AC <| AB ?_
 refine B0 AA mixed [0, 1, 2, 3, 4, 5, 6] 7 (by kernel_rfl) Z Z Z ?_
 refine Au 3 Z <| bq a0 fun bl n a1 => As Z (A0 (K1 _ n) (.inr Z) Z Z Z <| bq a1 fun bm o a2 => As Z (A0 (Qy _ _ _ _ _ _ o) (.inr Z) Z Z Z <| BK Z <| AC <| jb (fun c : Bool => ⟨70, [(0, lb c)], [], 0⟩) a2 (fun c a4 => ?_) (fun c an => ?_)))
 .refine B0 AA mixed [0, 1, 2, 3, 4, 5, 6, 7, 8, 9, 10, 11, 12, 13, 14, 15, 16, 17, 18, 19, 20, 21, 22, 23, 24, 25, 26, 27, 28, 29, 30, 31, 32, 33, 34, 35, 36, 37, 38, 39, 40, 41, 42, 43, 44, 45] 46 (by kernel_rfl) Z Z Z ?_
  refine Au 1 Z <| bq a4 fun bn s a5 => As Z (A0 (K1 _ s) (.inr Z) Z Z Z <| bq a5 fun bo t a6 => As Z (A0 (WT _ _ _ t) (.inl Z) Z Z Z <| Au 2 Z <| Ec 29 a6 Z Z Z (fun a7 => ?_) (fun am => ?_)))
  .refine Au 1 Z <| bq a7 fun bp u a8 => As Z (A0 (K1 _ u) (.inr Z) Z Z Z <| bq a8 fun br v a9 => As Z (A0 (HS _ _ _ _ _ v) (.inl Z) Z Z Z <| Au 3 Z <| Ec 35 a9 Z Z Z (fun ba => ?_) (fun al => ?_)))
   .refine Au 1 Z <| bq ba fun bs w x => As Z (A0 (K1 _ w) (.inr Z) Z Z Z <| bq x fun bf f y => As Z (A0 (SR _ _ _ _ _ f) (.inl Z) Z Z Z <| Au 3 Z <| Ec 41 y Z Z Z (fun z => ?_) (fun ak => ?_)))
    .refine Au 3 Z <| bq z fun bg g aa => As Z (A0 (K1 _ g) (.inr Z) Z Z Z <| bq aa fun bh i ab => As Z (A0 (KT _ _ _ _ _ _ i) (.inr Z) Z Z Z <| As Z (Kr Z Z <| Au 3 Z <| Ec 50 ab Z Z Z (fun ac => ?_) (fun aj => ?_))))
     .refine Au 3 Z <| bq ac fun bi j ad => As Z (A0 (Iq _ _ _ j) (.inl Z) Z Z (D1.eq (.cons (.one (.p _)) (.cons (.one (.own (enc := Aa) ([1] : List Int) Z Z)) .nil))) <| Au 2 Z <| Ec 56 ad Z Z Z (fun ae => ?_) (fun ai => ?_))
      .refine Au 2 Z <| As Z (Kr Z Z <| Au 3 Z <| Ec 62 ae Z Z Z (fun af => ?_) (fun ah => ?_))
       .exact Au 2 Z <| bq af fun bj k ag => As Z (Al Z (Ab k Z Z Z <| BK Z <| AL ag (wf hA [] Z Z Z)))
       exact BK Z <| AL ah (wf hA [] Z Z Z)
      exact BK Z <| AL ai (wf hA [] Z Z Z)
     exact BK Z <| AL aj (wf hA [] Z Z Z)
    exact BK Z <| AL ak (wf hA [] Z Z Z)
   exact BK Z <| AL al (wf hA [] Z Z Z)
  exact BK Z <| AL am (wf hA [] Z Z Z)
 refine AF ?_
 have hr := Option.some.inj an; subst hr
 exact er Z Le.rfl
end Go.E
/- Plain functions, and walks in step with them. Written by a program (gen.py). No condition. -/
set_option maxRecDepth 100000
set_option maxHeartbeats 1000000
namespace Go.E
open Go Go.RowKit Go.Proofs
noncomputable def HV (b : Ac) (a : Int) : Option (Int ⊕ Bool) :=
 bif decide (a < (b.stock.length : Int)) then (AY b.stock a).bind fun c => bif decide (100 < (c.name.size : Int)) then some (.inr false) else some (.inl (AP (a + 1))) else some (.inr true)
noncomputable def JW (b : Ac) (a : Int) : Option (Int ⊕ Bool) :=
 bif decide (a < (b.runs.length : Int)) then (AY b.runs a).bind fun c => ((bif decide (20 < (c.legs.length : Int)) then some true else some (decide (100 < (c.name.size : Int))) : Option (Bool))).bind fun (d : Bool) => bif d then some (.inr false) else some (.inl (AP (a + 1))) else (AO (HV b) 0).map .inr
noncomputable def K2 (a : Ac) : Option Bool :=
 ((bif decide (10 < (a.stock.length : Int)) then some true else some (decide (12 < (a.runs.length : Int))) : Option (Bool))).bind fun (b : Bool) => bif b then some false else AO (JW a) 0
theorem ZF (b : Ac) (r : Bool) (h : K2 b = some r) : Aw Tryz.prog 23 [.agg (AV b)] (· = .bool r) := by
 refine fn AA Tryz.func23 Z Z 47 Z [.tmp 2] Z [(0, .p (.agg (AV b)))] Z Z fun A hA => ?_
 unfold K2 at h
 refine rs AA <| rl Z <| AB <| jb (fun d : Bool => ⟨47, [(1, .lpb 0 0), (16, lb d)], [(0, bx (AV b))], 1⟩) h (fun d m => ?_) (fun d q => ?_)
 .refine rg AA <| rn 2 Z <| sx Z (Ae Z Z <| rn 2 Z <| gs 11 m Z Z Z (fun n => ?_) (fun o => ?_))
  .exact rl Z <| AL n (wf hA [(0, 0)] Z Z Z)
  exact rn 2 Z <| sx Z (Ae Z Z <| rl Z <| AL o (wf hA [(0, 0)] Z Z Z))
 refine cd Z q (fun s => ?_) (fun t => ?_)
 .refine rs AA <| rl Z <| AF <| AG ?_
  cases s
  exact er Z Le.rfl
 refine AE <| AC <| AB <| rs AA <| rn 2 Z <| sx Z (Ae Z Z <| rl Z <| AH ?_)
 apply lp (a := r) (fun c : Int => ⟨47, [(1, .lpb 0 0), (18, ls 5 B4 b.runs), (19, li (b.runs.length : Int)), (20, li c)], [(0, bx (AV b))], 1⟩) t
 . exact wf hA [(0, 0)] Z Z Z
 intro c ap f
 unfold JW at f
 refine rs AA <| rl Z <| AB <| cd Z f (fun u => ?_) (fun ad => ?_)
 .refine AE <| AC <| AB <| AH <| rs AA <| bq u fun ar k v => sx Z (Ab k Z Z Z <| rl Z <| jb (fun e : Bool => ⟨47, [(1, .lpb 0 0), (18, ls 5 B4 b.runs), (19, li (b.runs.length : Int)), (20, li c), (33, lb e)], [(0, bx (AV b))], 1⟩) v (fun e w => ?_) (fun e z => ?_))
  .refine rg AA <| rn 2 Z <| sx Z (Ae Z Z <| rn 2 Z <| gs 28 w Z Z Z (fun x => ?_) (fun y => ?_))
   .exact rl Z <| AL x (wf hA [(0, 0)] Z Z Z)
   exact rl Z <| AL y (wf hA [(0, 0)] Z Z Z)
  refine cd Z z (fun aa => ?_) (fun ac => ?_)
  .refine rs AA <| rl Z <| AF <| AQ <| AG <| A3 aa fun am ab => AQ <| AG ?_
   cases ab
   exact er Z Le.rfl
  exact AE <| Ad <| AC <| rg AA <| rl Z <| Aq ac (wf hA [(0, 0)] Z Z Z)
 refine AT <| AZ <| CF ad fun j ae => An <| AC <| AB <| rs AA <| rn 2 Z <| sx Z (Ae Z Z <| rl Z <| AH ?_)
 apply lp (a := j) (fun i : Int => ⟨47, [(36, ls 5 BN b.stock), (37, li (b.stock.length : Int)), (38, li i)], [], 0⟩) ae
 . exact wf hA [] Z Z Z
 intro i aq g
 unfold HV at g
 refine rs AA <| rl Z <| AB <| cd Z g (fun af => ?_) (fun ak => ?_)
 .refine AE <| AC <| AB <| AH <| rs AA <| bq af fun au l ag => sx Z (Ab l Z Z Z <| rl Z <| rs AA <| rl Z <| cd Z ag (fun ah => ?_) (fun aj => ?_))
  .refine rs AA <| rl Z <| AF <| AQ <| AG <| A3 ah fun an ai => AQ <| AG ?_
   cases ai
   exact er Z Le.rfl
  exact AE <| Ad <| AC <| rg AA <| rl Z <| Aq aj (wf hA [] Z Z Z)
 refine AT <| AZ <| BG ak fun ao al => An <| AC <| rs AA <| rl Z <| AF ?_
 cases al
 exact er Z Le.rfl
noncomputable def Dh (a : Int) (c : Int) (d : Int) : Option Bool :=
 ((bif decide (c <= a) then some (decide (a <= d)) else some false : Option (Bool))).bind fun (b : Bool) => some b
theorem JX (b : Int) (c : Int) (d : Int) (r : Bool) (h : Dh b c d = some r) : Aw Tryz.prog 62 [.int .i64 b, .int .i64 c, .int .i64 d] (· = .bool r) := by
 refine fn AA Tryz.func62 Z Z 15 Z [.tmp 6] Z [(0, .p (.int .i64 b)), (1, .p (.int .i64 c)), (2, .p (.int .i64 d))] Z Z fun A hA => ?_
 unfold Dh at h
 refine rs AA <| rl Z <| jb (fun a : Bool => ⟨15, [(6, lb a)], [], 0⟩) h (fun a e => ?_) (fun a i => ?_)
 .refine rg AA <| rn 4 Z <| gs 10 e Z Z Z (fun f => ?_) (fun g => ?_)
  .exact rl Z <| AL f (wf hA [] Z Z Z)
  exact rl Z <| AL g (wf hA [] Z Z Z)
 refine AF ?_
 have hr := Option.some.inj i; subst hr
 exact er Z Le.rfl
noncomputable def K3 (a : BM) : Option Bool :=
 (((Co a.name).bind fun c => bif c then (Dh a.len 1 4000).bind fun d => bif d then (Dh a.top 1 60).bind fun e => bif e then (Dh a.acc 1 10).bind fun f => bif f then (Dh a.brake 1 10).bind fun g => some g else some false else some false else some false else some false : Option (Bool))).bind fun (b : Bool) => some b
theorem ZG (b : BM) (r : Bool) (h : K3 b = some r) : Aw Tryz.prog 31 [.agg (BN b)] (· = .bool r) := by
 refine fn AA Tryz.func31 Z Z 26 Z [.tmp 2] Z [(0, .p (.agg (BN b)))] Z Z fun A hA => ?_
 unfold K3 at h
 refine rs AA <| rl Z <| jb (fun a : Bool => ⟨26, [(2, lb a)], [], 0⟩) h (fun a i => ?_) (fun a y => ?_)
 .refine rg AA <| rn 2 Z <| bq i fun z c j => sx Z (AM (Kv _ _ c) (.inl Z) Z Z Z <| rn 1 Z <| gs 6 j Z Z Z (fun k => ?_) (fun x => ?_))
  .refine rn 2 Z <| bq k fun aa d l => sx Z (AM (JX _ _ _ _ d) (.inl Z) Z Z Z <| rn 2 Z <| gs 11 l Z Z Z (fun m => ?_) (fun w => ?_))
   .refine rn 2 Z <| bq m fun ab e n => sx Z (AM (JX _ _ _ _ e) (.inl Z) Z Z Z <| rn 2 Z <| gs 16 n Z Z Z (fun o => ?_) (fun v => ?_))
    .refine rn 2 Z <| bq o fun ac f q => sx Z (AM (JX _ _ _ _ f) (.inl Z) Z Z Z <| rn 2 Z <| gs 21 q Z Z Z (fun s => ?_) (fun u => ?_))
     .exact rn 2 Z <| bq s fun ad g t => sx Z (AM (JX _ _ _ _ g) (.inl Z) Z Z Z <| rl Z <| AL t (wf hA [] Z Z Z))
     exact rl Z <| AL u (wf hA [] Z Z Z)
    exact rl Z <| AL v (wf hA [] Z Z Z)
   exact rl Z <| AL w (wf hA [] Z Z Z)
  exact rl Z <| AL x (wf hA [] Z Z Z)
 refine AF ?_
 have hr := Option.some.inj y; subst hr
 exact er Z Le.rfl
noncomputable def Ir (b : (List BM)) (c : ByteArray) (a : Int) : Option (Int ⊕ Int) :=
 bif decide (a < (b.length : Int)) then (AY b a).bind fun d => bif (d.name.toList == c.toList) then some (.inr a) else some (.inl (AP (a + 1))) else some (.inr (-1))
noncomputable def JY (a : (List BM)) (b : ByteArray) : Option Int :=
 AO (Ir a b) 0
theorem X6 (b : (List BM)) (c : ByteArray) (r : Int) (h : JY b c = some r) : Aw Tryz.prog 143 [.slice 5 (b.map BN), .str c] (· = .int .i64 r) := by
 refine fn AA Tryz.func143 Z Z 20 Z [.tmp 4] Z [(0, .p (.slice 5 (b.map BN))), (1, .p (.str c))] Z Z fun A hA => ?_
 unfold JY at h
 refine rs AA <| rl Z <| AB <| rs AA <| rn 1 Z <| sx Z (Ae Z Z <| rl Z <| AH ?_)
 apply lp (a := r) (fun e : Int => ⟨20, [(1, .p (.str c)), (7, ls 5 BN b), (8, li (b.length : Int)), (9, li e)], [], 0⟩) h
 . exact wf hA [] Z Z Z
 intro e s d
 unfold Ir at d
 refine rs AA <| rl Z <| AB <| cd Z d (fun n => ?_) (fun l => ?_)
 .refine AE <| AC <| AB <| AH <| rs AA <| rn 1 Z <| bq n fun t f g => sx Z (Ab f Z Z Z <| rl Z <| rs AA <| rl Z <| cd Z g (fun i => ?_) (fun k => ?_))
  .refine rs AA <| rl Z <| AF <| AQ <| AG <| A3 i fun o j => AQ <| AG ?_
   have hr := Option.some.inj j; subst hr
   exact er Z Le.rfl
  exact AE <| Ad <| AC <| rg AA <| rl Z <| Aq k (wf hA [] Z Z Z)
 refine AT <| AZ <| BG l fun q m => An <| AC <| rs AA <| rl Z <| AF ?_
 cases m
 exact er Z Le.rfl
noncomputable def EN (b : (List BM)) (a : Int) : Option (Int ⊕ Int) :=
 bif decide (a < (b.length : Int)) then (AY b a).bind fun c => (JY b c.name).bind fun d => bif (d != a) then some (.inr 4) else some (.inl (AP (a + 1))) else some (.inr 0)
noncomputable def Ht (b : (List BM)) (a : Int) : Option (Int ⊕ Int) :=
 bif decide (a < (b.length : Int)) then (AY b a).bind fun c => (K3 c).bind fun d => bif (!d) then some (.inr 1) else some (.inl (AP (a + 1))) else (AO (EN b) 0).map .inr
noncomputable def IX (a : (List BM)) : Option Int :=
 bif decide (4 < (a.length : Int)) then some 3 else AO (Ht a) 0
theorem WV (b : (List BM)) (r : Int) (h : IX b = some r) : Aw Tryz.prog 102 [.slice 5 (b.map BN)] (· = .int .i64 r) := by
 refine fn AA Tryz.func102 Z Z 34 Z [.tmp 2] Z [(0, .p (.slice 5 (b.map BN)))] Z Z fun A hA => ?_
 unfold IX at h
 refine rs AA <| rl Z <| AB <| rs AA <| rn 1 Z <| sx Z (Ae Z Z <| rl Z <| cd Z h (fun x => ?_) (fun af => ?_))
 .refine rs AA <| rl Z <| AF <| AG ?_
  cases x
  exact er Z Le.rfl
 refine AE <| AC <| AB <| rs AA <| rn 1 Z <| sx Z (Ae Z Z <| rl Z <| AH ?_)
 apply lp (a := r) (fun f : Int => ⟨34, [(0, ls 5 BN b), (10, ls 5 BN b), (11, li (b.length : Int)), (12, li f)], [], 0⟩) af
 . exact wf hA [] Z Z Z
 intro f aj c
 unfold Ht at c
 refine rs AA <| rl Z <| AB <| cd Z c (fun m => ?_) (fun u => ?_)
 .refine AE <| AC <| AB <| AH <| rs AA <| bq m fun al i n => sx Z (Ab i Z Z Z <| rl Z <| rs AA <| rn 1 Z <| bq n fun am j o => sx Z (AM (ZG _ _ j) (.inl Z) Z Z Z <| rl Z <| cd Z o (fun q => ?_) (fun t => ?_)))
  .refine rs AA <| rl Z <| AF <| AQ <| AG <| A3 q fun ag s => AQ <| AG ?_
   cases s
   exact er Z Le.rfl
  exact AE <| Ad <| AC <| rg AA <| rl Z <| Aq t (wf hA [] Z Z Z)
 refine AT <| AZ <| CF u fun g v => An <| AC <| AB <| rs AA <| rn 1 Z <| sx Z (Ae Z Z <| rl Z <| AH ?_)
 apply lp (a := g) (fun e : Int => ⟨34, [(0, ls 5 BN b), (20, ls 5 BN b), (21, li (b.length : Int)), (22, li e)], [], 0⟩) v
 . exact wf hA [] Z Z Z
 intro e ak d
 unfold EN at d
 refine rs AA <| rl Z <| AB <| cd Z d (fun w => ?_) (fun ad => ?_)
 .refine AE <| AC <| AB <| AH <| rs AA <| rn 1 Z <| bq w fun an k y => sx Z (Ab k Z Z Z <| rl Z <| rs AA <| rn 3 Z <| bq y fun ao l z => sx Z (AM (X6 _ _ _ l) (.inl Z) Z Z Z <| rl Z <| cd Z z (fun aa => ?_) (fun ac => ?_)))
  .refine rs AA <| rl Z <| AF <| AQ <| AG <| A3 aa fun ah ab => AQ <| AG ?_
   cases ab
   exact er Z Le.rfl
  exact AE <| Ad <| AC <| rg AA <| rl Z <| Aq ac (wf hA [] Z Z Z)
 refine AT <| AZ <| BG ad fun ai ae => An <| AC <| rs AA <| rl Z <| AF ?_
 cases ae
 exact er Z Le.rfl
noncomputable def Hu (b : AK) (c : (List BM)) (a : Int) : Option (Int ⊕ Int) :=
 bif decide (a < (c.length : Int)) then (AY c a).bind fun d => ((bif decide (b.top < d.top) then some true else some (decide (d.brake < b.brake)) : Option (Bool))).bind fun (e : Bool) => bif e then some (.inr 9) else some (.inl (AP (a + 1))) else some (.inr 0)
noncomputable def IY (c : AK) (a : (List BM)) : Option Int :=
 (IX a).bind fun b => bif (b != 0) then some b else AO (Hu c a) 0
theorem WW (c : AK) (b : (List BM)) (r : Int) (h : IY c b = some r) : Aw Tryz.prog 66 [.agg (AN c), .slice 5 (b.map BN)] (· = .int .i64 r) := by
 refine fn AA Tryz.func66 Z Z 32 Z [.tmp 4] Z [(0, .p (.agg (AN c))), (1, .p (.slice 5 (b.map BN)))] Z Z fun A hA => ?_
 unfold IY at h
 refine rs AA <| rl Z <| AB <| rs AA <| rn 1 Z <| bq h fun ad i j => sx Z (AM (WV _ _ i) (.inl Z) Z Z Z <| rl Z <| rs AA <| rl Z <| cd Z j (fun k => ?_) (fun l => ?_))
 .refine rs AA <| rl Z <| AF <| AG ?_
  have hr := Option.some.inj k; subst hr
  exact er Z Le.rfl
 refine AE <| AC <| AB <| rs AA <| rn 1 Z <| sx Z (Ae Z Z <| rl Z <| AH ?_)
 apply lp (a := r) (fun d : Int => ⟨32, [(2, .lpb 0 0), (13, ls 5 BN b), (14, li (b.length : Int)), (15, li d)], [(0, bx (AN c))], 1⟩) l
 . exact wf hA [(0, 0)] Z Z Z
 intro d ab f
 unfold Hu at f
 refine rs AA <| rl Z <| AB <| cd Z f (fun m => ?_) (fun x => ?_)
 .refine AE <| AC <| AB <| AH <| rs AA <| bq m fun ac g n => sx Z (Ab g Z Z Z <| rl Z <| jb (fun e : Bool => ⟨32, [(2, .lpb 0 0), (13, ls 5 BN b), (14, li (b.length : Int)), (15, li d), (30, lb e)], [(0, bx (AN c))], 1⟩) n (fun e o => ?_) (fun e t => ?_))
  .refine rg AA <| rn 6 Z <| gs 24 o Z Z Z (fun q => ?_) (fun s => ?_)
   .exact rl Z <| AL q (wf hA [(0, 0)] Z Z Z)
   exact rl Z <| AL s (wf hA [(0, 0)] Z Z Z)
  refine cd Z t (fun u => ?_) (fun w => ?_)
  .refine rs AA <| rl Z <| AF <| AQ <| AG <| A3 u fun z v => AQ <| AG ?_
   cases v
   exact er Z Le.rfl
  exact AE <| Ad <| AC <| rg AA <| rl Z <| Aq w (wf hA [(0, 0)] Z Z Z)
 refine AT <| AZ <| BG x fun aa y => An <| AC <| rs AA <| rl Z <| AF ?_
 cases y
 exact er Z Le.rfl
noncomputable def Cg (a : Int) (c : Int) (d : Int) : Option Bool :=
 ((bif decide (c <= a) then some (decide (a <= d)) else some false : Option (Bool))).bind fun (b : Bool) => some b
theorem Fq (b : Int) (c : Int) (d : Int) (r : Bool) (h : Cg b c d = some r) : Aw Tryz.prog 67 [.int .i64 b, .int .i64 c, .int .i64 d] (· = .bool r) := by
 refine fn AA Tryz.func67 Z Z 15 Z [.tmp 6] Z [(0, .p (.int .i64 b)), (1, .p (.int .i64 c)), (2, .p (.int .i64 d))] Z Z fun A hA => ?_
 unfold Cg at h
 refine rs AA <| rl Z <| jb (fun a : Bool => ⟨15, [(6, lb a)], [], 0⟩) h (fun a e => ?_) (fun a i => ?_)
 .refine rg AA <| rn 4 Z <| gs 10 e Z Z Z (fun f => ?_) (fun g => ?_)
  .exact rl Z <| AL f (wf hA [] Z Z Z)
  exact rl Z <| AL g (wf hA [] Z Z Z)
 refine AF ?_
 have hr := Option.some.inj i; subst hr
 exact er Z Le.rfl
noncomputable def DD (a : AK) (b : Int) : Option Int :=
 (EG a b).bind fun c => some c
theorem HW (a : AK) (b : Int) (r : Int) (h : DD a b = some r) : Aw Tryz.prog 30 [.agg (AN a), .int .i64 b] (· = .int .i64 r) := by
 refine fn AA Tryz.func30 Z Z 8 Z [.tmp 4] Z [(0, .p (.agg (AN a))), (1, .p (.int .i64 b))] Z Z fun A hA => ?_
 unfold DD at h
 refine rs AA <| rl Z <| rs AA <| rn 2 Z <| bq h fun e c d => sx Z (AM (I6 _ _ _ c) (.inl Z) Z Z Z <| rl Z <| AF ?_)
 have hr := Option.some.inj d; subst hr
 exact er Z Le.rfl
noncomputable def Ge (c : AK) (d : (List C4)) (b : Int × Int) : Option ((Int × Int) ⊕ Bool) :=
 bif decide (b.2 < (d.length : Int)) then Eb (((AY d b.2).bind fun a => (Cg a.at_ b.1 2000).bind fun f => bif (!f) then some (.inr (.inr false)) else bif (a.fin == 1) then (Cg a.to 0 (AP ((c.signals.length : Int) - 1))).bind fun g => bif (!g) then some (.inr (.inr false)) else some (.inl a.at_) else bif (a.fin == 2) then (DD c a.to).bind fun h => bif (h != 4) then some (.inr (.inr false)) else some (.inl a.at_) else bif (a.fin == 3) then (DD c a.to).bind fun i => bif (i != 1) then some (.inr (.inr false)) else some (.inl a.at_) else some (.inr (.inr false)) : Option (Int ⊕ ((Int × Int) ⊕ Bool)))) fun (e : Int) => some (.inl (e, AP (b.2 + 1))) else some (.inr true)
noncomputable def JZ (a : AK) (b : (List C4)) : Option Bool :=
 AO (Ge a b) (0, 0)
theorem X7 (c : AK) (b : (List C4)) (r : Bool) (h : JZ c b = some r) : Aw Tryz.prog 68 [.agg (AN c), .slice 4 (b.map DI)] (· = .bool r) := by
 refine fn AA Tryz.func68 Z Z 48 Z [.tmp 4] Z [(0, .p (.agg (AN c))), (1, .p (.slice 4 (b.map DI)))] Z Z fun A hA => ?_
 unfold JZ at h
 refine rs AA <| rl Z <| rs AA <| rl Z <| AB <| rs AA <| rn 1 Z <| sx Z (Ae Z Z <| rl Z <| AH ?_)
 apply lp (a := r) (fun d : (Int × Int) => ⟨48, [(2, .lpb 0 0), (5, li d.1), (8, ls 4 DI b), (9, li (b.length : Int)), (10, li d.2)], [(0, bx (AN c))], 1⟩) h
 . exact wf hA [(0, 0)] Z Z Z
 intro d g e
 unfold Ge at e
 refine rs AA <| rl Z <| AB <| cd Z e (fun n => ?_) (fun ax => ?_)
 .refine AE <| AC ?_
  apply jn (a := g) (fun f : Int => ⟨48, [(2, .lpb 0 0), (5, li f), (8, ls 4 DI b), (9, li (b.length : Int)), (10, li d.2)], [(0, bx (AN c))], 1⟩) n
  .intro ba o
   refine AH <| rs AA <| bq o fun bb i q => sx Z (Ab i Z Z Z <| rl Z <| AB <| rs AA <| rn 3 Z <| bq q fun bc j s => sx Z (AM (Fq _ _ _ _ j) (.inl Z) Z Z Z <| rl Z <| cd Z s (fun t => ?_) (fun w => ?_)))
   .refine rs AA <| rl Z <| AF <| AG <| AQ <| A3 t fun az u => A3 u fun a0 v => AQ <| AG ?_
    cases v
    exact er Z Le.rfl
   refine AE <| AC <| rs AA <| rl Z <| rs AA <| rl Z <| AH <| rs AA <| rl Z <| cd Z w (fun x => ?_) (fun ad => ?_)
   .refine rs AA <| rn 4 Z <| sx Z (Ae Z Z <| rn 1 Z <| bq x fun be k y => sx Z (AM (Fq _ _ _ _ k) (.inl Z) Z Z Z <| rl Z <| cd Z y (fun z => ?_) (fun ac => ?_)))
    .refine rs AA <| rl Z <| AF <| AQ <| AQ <| A3 z fun a1 aa => A3 aa fun a2 ab => AQ <| AG ?_
     cases ab
     exact er Z Le.rfl
    exact AE <| Ad <| Ad <| Aq ac (wf hA [(0, 0)] Z Z Z)
   refine rs AA <| rl Z <| cd Z ad (fun ae => ?_) (fun ak => ?_)
   .refine rs AA <| rn 3 Z <| bq ae fun bf l af => sx Z (AM (HW _ _ _ l) (.inl Z) Z Z Z <| rl Z <| cd Z af (fun ag => ?_) (fun aj => ?_))
    .refine rs AA <| rl Z <| AF <| AQ <| AQ <| A3 ag fun a3 ah => A3 ah fun a4 ai => AQ <| AG ?_
     cases ai
     exact er Z Le.rfl
    exact AE <| Ad <| Ad <| Aq aj (wf hA [(0, 0)] Z Z Z)
   refine rs AA <| rl Z <| cd Z ak (fun al => ?_) (fun ar => ?_)
   .refine rs AA <| rn 3 Z <| bq al fun bg m am => sx Z (AM (HW _ _ _ m) (.inl Z) Z Z Z <| rl Z <| cd Z am (fun an => ?_) (fun aq => ?_))
    .refine rs AA <| rl Z <| AF <| AQ <| AQ <| A3 an fun a5 ao => A3 ao fun a6 ap => AQ <| AG ?_
     cases ap
     exact er Z Le.rfl
    exact AE <| Ad <| Ad <| Aq aq (wf hA [(0, 0)] Z Z Z)
   refine rs AA <| rl Z <| AF <| AQ <| AQ <| A3 ar fun a7 au => A3 au fun a8 av => AQ <| AG ?_
   cases av
   exact er Z Le.rfl
  intro f aw
  exact rg AA <| rl Z <| Aq aw (wf hA [(0, 0)] Z Z Z)
 refine AT <| AZ <| BG ax fun a9 ay => An <| AC <| rs AA <| rl Z <| AF ?_
 cases ay
 exact er Z Le.rfl
noncomputable def Hv (c : Int) (d : Dg) (b : (List Dg)) (a : Int) : Option (Int ⊕ (Int ⊕ Int)) :=
 bif decide (a < (b.length : Int)) then (AY b a).bind fun e => bif (d.name.toList == e.name.toList) then some (.inr (.inr 4)) else some (.inl (AP (a + 1))) else some (.inr (.inl (AP (c + 1))))
noncomputable def EO (b : Ac) (a : Int) : Option (Int ⊕ Int) :=
 bif decide (a < (b.runs.length : Int)) then (AY b.runs a).bind fun c => (Jy b.runs 0 a).bind fun d => AO (Hv a c d) 0 else some (.inr 0)
noncomputable def Hw (d : AK) (b : Ac) (c : Int) : Option (Int ⊕ Int) :=
 bif decide (c < (b.runs.length : Int)) then (AY b.runs c).bind fun a => (((Co a.name).bind fun f => bif (!f) then some true else (Cg a.stock 0 (AP ((b.stock.length : Int) - 1))).bind fun g => bif (!g) then some true else (Cg a.frm 0 (AP ((d.signals.length : Int) - 1))).bind fun h => bif (!h) then some true else (Cg a.left 0 4000).bind fun i => bif (!i) then some true else (JZ d a.legs).bind fun j => some (!j) : Option (Bool))).bind fun (e : Bool) => bif e then some (.inr 1) else some (.inl (AP (c + 1))) else (AO (EO b) 0).map .inr
noncomputable def Hx (c : AK) (a : Ac) (b : Int) : Option (Int ⊕ Int) :=
 bif decide (b < (a.runs.length : Int)) then (AY a.runs b).bind fun e => bif decide (12 < (e.legs.length : Int)) then some (.inr 3) else some (.inl (AP (b + 1))) else ((IY c a.stock).bind fun d => bif (d != 0) then some d else (Cg a.begin 0 86399).bind fun f => bif (!f) then some 1 else AO (Hw c a) 0).map .inr
noncomputable def IZ (b : AK) (a : Ac) : Option Int :=
 bif decide (8 < (a.runs.length : Int)) then some 3 else AO (Hx b a) 0
theorem WX (c : AK) (b : Ac) (r : Int) (h : IZ c b = some r) : Aw Tryz.prog 36 [.agg (AN c), .agg (AV b)] (· = .int .i64 r) := by
 refine fn AA Tryz.func36 Z Z 110 Z [.tmp 4] Z [(0, .p (.agg (AN c))), (1, .p (.agg (AV b)))] Z Z fun A hA => ?_
 unfold IZ at h
 refine rs AA <| rl Z <| AB <| rs AA <| rn 2 Z <| sx Z (Ae Z Z <| rl Z <| cd Z h (fun a6 => ?_) (fun a7 => ?_))
 .refine rs AA <| rl Z <| AF <| AG ?_
  cases a6
  exact er Z Le.rfl
 refine AE <| AC <| AB <| rs AA <| rn 2 Z <| sx Z (Ae Z Z <| rl Z <| AH ?_)
 apply lp (a := r) (fun m : Int => ⟨110, [(2, .lpb 0 0), (3, .lpb 1 0), (19, ls 5 B4 b.runs), (20, li (b.runs.length : Int)), (21, li m)], [(0, bx (AN c)), (1, bx (AV b))], 2⟩) a7
 . exact wf hA [(0, 0), (1, 1)] Z Z Z
 intro m b8 k
 unfold Hx at k
 refine rs AA <| rl Z <| AB <| cd Z k (fun bw => ?_) (fun aj => ?_)
 .refine AE <| AC <| AB <| AH <| rs AA <| bq bw fun b9 t af => sx Z (Ab t Z Z Z <| rl Z <| rs AA <| rn 2 Z <| sx Z (Ae Z Z <| rl Z <| cd Z af (fun ag => ?_) (fun ai => ?_)))
  .refine rs AA <| rl Z <| AF <| AQ <| AG <| A3 ag fun b0 ah => AQ <| AG ?_
   cases ah
   exact er Z Le.rfl
  exact AE <| Ad <| AC <| rg AA <| rl Z <| Aq ai (wf hA [(0, 0), (1, 1)] Z Z Z)
 refine AT <| AZ <| CF aj fun o ak => An <| AC <| AB <| rs AA <| rn 3 Z <| bq ak fun ca u al => sx Z (AM (WW _ _ _ u) (.inl Z) Z Z Z <| rl Z <| rs AA <| rl Z <| cd Z al (fun am => ?_) (fun an => ?_))
 .refine rs AA <| rl Z <| AF <| AG ?_
  have hr := Option.some.inj am; subst hr
  exact er Z Le.rfl
 refine AE <| AC <| AB <| rs AA <| rn 2 Z <| bq an fun cb v ao => sx Z (AM (Fq _ _ _ _ v) (.inl Z) Z Z Z <| rl Z <| cd Z ao (fun ap => ?_) (fun ar => ?_))
 .refine rs AA <| rl Z <| AF <| AG ?_
  cases ap
  exact er Z Le.rfl
 refine AE <| AC <| AB <| rs AA <| rn 2 Z <| sx Z (Ae Z Z <| rl Z <| AH ?_)
 apply lp (a := o) (fun e : Int => ⟨110, [(2, .lpb 0 0), (3, .lpb 1 0), (42, ls 5 B4 b.runs), (43, li (b.runs.length : Int)), (44, li e)], [(0, bx (AN c)), (1, bx (AV b))], 2⟩) ar
 . exact wf hA [(0, 0), (1, 1)] Z Z Z
 intro e b7 j
 unfold Hw at j
 refine rs AA <| rl Z <| AB <| cd Z j (fun a8 => ?_) (fun bu => ?_)
 .refine AE <| AC <| AB <| AH <| rs AA <| bq a8 fun ce z a9 => sx Z (Ab z Z Z Z <| rl Z <| jb (fun f : Bool => ⟨110, [(2, .lpb 0 0), (3, .lpb 1 0), (42, ls 5 B4 b.runs), (43, li (b.runs.length : Int)), (44, li e), (84, lb f)], [(0, bx (AN c)), (1, bx (AV b))], 2⟩) a9 (fun f ba => ?_) (fun f bp => ?_))
  .refine rg AA <| rn 2 Z <| bq ba fun cf aa bb => sx Z (AM (Kv _ _ aa) (.inl Z) Z Z Z <| rn 2 Z <| gs 52 bb Z Z Z (fun bc => ?_) (fun be => ?_))
   .exact rl Z <| AL bc (wf hA [(0, 0), (1, 1)] Z Z Z)
   refine rn 4 Z <| sx Z (Ae Z Z <| rn 1 Z <| bq be fun cg ab bf => sx Z (AM (Fq _ _ _ _ ab) (.inl Z) Z Z Z <| rn 3 Z <| gs 62 bf Z Z Z (fun bg => ?_) (fun bh => ?_)))
   .exact rl Z <| AL bg (wf hA [(0, 0), (1, 1)] Z Z Z)
   refine rn 4 Z <| sx Z (Ae Z Z <| rn 1 Z <| bq bh fun ch ac bi => sx Z (AM (Fq _ _ _ _ ac) (.inl Z) Z Z Z <| rn 3 Z <| gs 72 bi Z Z Z (fun bj => ?_) (fun bk => ?_)))
   .exact rl Z <| AL bj (wf hA [(0, 0), (1, 1)] Z Z Z)
   refine rn 2 Z <| bq bk fun ci ad bl => sx Z (AM (Fq _ _ _ _ ad) (.inl Z) Z Z Z <| rn 3 Z <| gs 78 bl Z Z Z (fun bm => ?_) (fun bn => ?_))
   .exact rl Z <| AL bm (wf hA [(0, 0), (1, 1)] Z Z Z)
   exact rn 3 Z <| bq bn fun cj ae bo => sx Z (AM (X7 _ _ _ ae) (.inl Z) Z Z Z <| rl Z <| AL bo (wf hA [(0, 0), (1, 1)] Z Z Z))
  refine cd Z bp (fun br => ?_) (fun bt => ?_)
  .refine rs AA <| rl Z <| AF <| AQ <| AG <| A3 br fun b5 bs => AQ <| AG ?_
   cases bs
   exact er Z Le.rfl
  exact AE <| Ad <| AC <| rg AA <| rl Z <| Aq bt (wf hA [(0, 0), (1, 1)] Z Z Z)
 refine AT <| AZ <| CF bu fun q bv => An <| AC <| AB <| rs AA <| rn 2 Z <| sx Z (Ae Z Z <| rl Z <| AH ?_)
 apply lp (a := q) (fun d : Int => ⟨110, [(3, .lpb 0 0), (87, ls 5 B4 b.runs), (88, li (b.runs.length : Int)), (89, li d)], [(0, bx (AV b))], 1⟩) bv
 . exact wf hA [(0, 1)] Z Z Z
 intro d s g
 unfold EO at g
 refine rs AA <| rl Z <| AB <| cd Z g (fun aq => ?_) (fun a4 => ?_)
 .refine AE <| AC <| AB <| AH <| rs AA <| rn 1 Z <| bq aq fun bz w au => sx Z (Ab w Z Z Z <| rl Z <| rs AA <| rn 3 Z <| bq au fun n x av => sx Z (Ub x Z Z Z Z <| sx Z (Ae Z Z <| rl Z <| AH ?_)))
  apply lp (a := s) (fun l : Int => ⟨110, [(3, .lpb 0 0), (11, .lpb 1 0), (87, ls 5 B4 b.runs), (88, li (b.runs.length : Int)), (89, li d), (97, ls 5 B4 n), (98, li (n.length : Int)), (99, li l)], [(0, bx (AV b)), (1, bx (B4 bz))], 2⟩) av
  . exact wf hA [(0, 0), (1, 1)] Z Z Z
  intro l b6 i
  unfold Hv at i
  refine rs AA <| rl Z <| AB <| cd Z i (fun aw => ?_) (fun a2 => ?_)
  .refine AE <| AC <| AB <| AH <| rs AA <| bq aw fun cc y ax => sx Z (Ab y Z Z Z <| rl Z <| rs AA <| rl Z <| cd Z ax (fun ay => ?_) (fun a1 => ?_))
   .refine rs AA <| rl Z <| AF <| AQ <| AG <| A3 ay fun b1 az => AQ <| AQ <| AG <| A3 az fun b2 a0 => AQ <| AG ?_
    cases a0
    exact er Z Le.rfl
   exact AE <| Ad <| AC <| rg AA <| rl Z <| Aq a1 (wf hA [(0, 0), (1, 1)] Z Z Z)
  exact AT <| AZ <| BG a2 fun b3 a3 => An <| Ad <| AC <| rg AA <| rl Z <| Aq a3 (wf hA [(0, 0)] Z Z Z)
 refine AT <| AZ <| BG a4 fun b4 a5 => An <| AC <| rs AA <| rl Z <| AF ?_
 cases a5
 exact er Z Le.rfl
end Go.E
