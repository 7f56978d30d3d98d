/- Plain functions, and walks in step with them. Written by a program (gen.py). No condition. -/
import Derived.Test.YtlmjaeojocjhkaaGreatJ3
set_option linter.unusedVariables false
set_option linter.unusedSimpArgs false
set_option maxRecDepth 100000
set_option maxHeartbeats 1000000
namespace Go.E
open Go Go.RowKit Go.Proofs
noncomputable def Mj (b : Int) (a : Int × Int) : Option ((Int × Int) ⊕ Int) :=
 bif decide (0 < a.1) then some (.inl (AO (a.1 - b), AO (a.2 + a.1))) else some (.inr a.2)
noncomputable def JK (b : Int) (a : Int) : Option Int :=
 ((bif decide (b < 0) then some true else bif decide (60 < b) then some true else bif decide (a < 1) then some true else some (decide (10 < a)) : Option (Bool))).bind fun (c : Bool) => bif c then some 0 else AU (Mj a) (AO (b - a), 0)
theorem VA (c : Int) (b : Int) (r : Int) (h : JK c b = some r) : Aw Tryz.prog 161 [.int .i64 c, .int .i64 b] (· = .int .i64 r) := by
 refine fn AA Tryz.func161 Z Z 32 Z [.tmp 4] Z [(0, .p (.int .i64 c)), (1, .p (.int .i64 b))] Z Z fun A hA => ?_
 unfold JK at h
 refine rs AA <| rl Z <| AB <| jb (fun e : Bool => ⟨32, [(0, li c), (1, li b), (19, lb e)], [], 0⟩) h (fun e g => ?_) (fun e o => ?_)
 .refine rg AA <| rn 3 Z <| gs 8 g Z Z Z (fun i => ?_) (fun j => ?_)
  .exact rl Z <| AL i (wf hA [] Z Z Z)
  refine rn 4 Z <| gs 12 j Z Z Z (fun k => ?_) (fun l => ?_)
  .exact rl Z <| AL k (wf hA [] Z Z Z)
  refine rn 4 Z <| gs 16 l Z Z Z (fun m => ?_) (fun n => ?_)
  .exact rl Z <| AL m (wf hA [] Z Z Z)
  exact rl Z <| AL n (wf hA [] Z Z Z)
 refine cd Z o (fun q => ?_) (fun s => ?_)
 .refine rs AA <| rl Z <| AF <| AG ?_
  cases q
  exact er Z Le.rfl
 refine AE <| AC <| rs AA <| rl Z <| AB <| rs AA <| rl Z <| AH ?_
 apply lp (a := r) (fun d : (Int × Int) => ⟨32, [(0, li d.1), (1, li b), (5, li d.2)], [], 0⟩) s
 . exact wf hA [] Z Z Z
 intro d x f
 unfold Mj at f
 refine AB <| rs AA <| rl Z <| cd Z f (fun t => ?_) (fun u => ?_)
 .exact AE <| AC <| AB <| AH <| rg AA <| rl Z <| Ad <| AC <| rg AA <| rl Z <| Ar t (wf hA [] Z Z Z)
 refine AV <| AX <| BI u fun w v => Am <| AC <| rs AA <| rl Z <| AF ?_
 cases v
 exact er Z Le.rfl
noncomputable def Dv (b : AK) (a : Int) : Option (Int ⊕ Bool) :=
 bif decide (a < (b.elems.length : Int)) then (AZ b.elems a).bind fun c => ((bif (c.kind != 4) then some (decide (c.length < b.top)) else some false : Option (Bool))).bind fun (d : Bool) => bif d then some (.inr false) else some (.inl (AO (a + 1))) else some (.inr true)
noncomputable def E8 (a : AK) (b : Int) : Option (Int ⊕ Bool) :=
 bif decide (b < (a.signals.length : Int)) then (AZ a.signals b).bind fun e => (AZ a.elems e.at_.elem).bind fun c => ((bif (c.kind == 1) then some (decide (c.length < a.margin)) else some false : Option (Bool))).bind fun (d : Bool) => bif d then some (.inr false) else some (.inl (AO (b + 1))) else (AU (Dv a) 0).map .inr
noncomputable def Hc (a : AK) : Option Bool :=
 (JK a.top a.brake).bind fun b => bif decide (a.margin < AO (a.top + b)) then some false else AU (E8 a) 0
theorem VB (b : AK) (r : Bool) (h : Hc b = some r) : Aw Tryz.prog 135 [.agg (AQ b)] (· = .bool r) := by
 refine fn AA Tryz.func135 Z Z 62 Z [.tmp 2] Z [(0, .p (.agg (AQ b)))] Z Z fun A hA => ?_
 unfold Hc at h
 refine rs AA <| rl Z <| AB <| AB ?_
 refine B0 AA mixed [0, 1, 2, 3, 4, 5, 6, 7, 8, 9, 10] 11 (by kernel_rfl) Z Z Z ?_
 refine Au 8 Z <| bq h fun a0 n o => As Z (A5 (VA _ _ _ n) (.inl Z) Z Z Z <| BJ Z <| AC <| cd Z o (fun q => ?_) (fun s => ?_))
 .refine rs AA <| rl Z <| AF <| AG ?_
  cases q
  exact er Z Le.rfl
 refine AE <| AC <| AB <| rs AA <| rn 2 Z <| sx Z (Ac Z Z <| rl Z <| AH ?_)
 apply lp (a := r) (fun c : Int => ⟨62, [(1, .lpb 0 0), (20, ls 4 BS b.signals), (21, li (b.signals.length : Int)), (22, li c)], [(0, bx (AQ b))], 1⟩) s
 . exact wf hA [(0, 0)] Z Z Z
 intro c av g
 unfold E8 at g
 refine rs AA <| rl Z <| AB <| cd Z g (fun t => ?_) (fun ad => ?_)
 .refine AE <| AC <| AB <| AH <| rs AA <| bq t fun ax k u => sx Z (Aa k Z Z Z <| rl Z <| rs AA <| rn 5 Z <| bq u fun ay l v => sx Z (Aa l Z Z Z <| rl Z <| jb (fun e : Bool => ⟨62, [(1, .lpb 0 0), (20, ls 4 BS b.signals), (21, li (b.signals.length : Int)), (22, li c), (42, lb e)], [(0, bx (AQ b))], 1⟩) v (fun e w => ?_) (fun e z => ?_)))
  .refine rg AA <| rn 4 Z <| gs 36 w Z Z Z (fun x => ?_) (fun y => ?_)
   .exact rl Z <| AL x (wf hA [(0, 0)] Z Z Z)
   exact rl Z <| AL y (wf hA [(0, 0)] Z Z Z)
  refine cd Z z (fun aa => ?_) (fun ac => ?_)
  .refine rs AA <| rl Z <| AF <| AN <| AG <| A1 aa fun aq ab => AN <| AG ?_
   cases ab
   exact er Z Le.rfl
  exact AE <| Ad <| AC <| rg AA <| rl Z <| Ar ac (wf hA [(0, 0)] Z Z Z)
 refine AV <| AX <| CM ad fun j ae => Am <| AC <| AB <| rs AA <| rn 2 Z <| sx Z (Ac Z Z <| rl Z <| AH ?_)
 apply lp (a := j) (fun d : Int => ⟨62, [(1, .lpb 0 0), (45, ls 3 B7 b.elems), (46, li (b.elems.length : Int)), (47, li d)], [(0, bx (AQ b))], 1⟩) ae
 . exact wf hA [(0, 0)] Z Z Z
 intro d aw i
 unfold Dv at i
 refine rs AA <| rl Z <| AB <| cd Z i (fun af => ?_) (fun ao => ?_)
 .refine AE <| AC <| AB <| AH <| rs AA <| bq af fun az m ag => sx Z (Aa m Z Z Z <| rl Z <| jb (fun f : Bool => ⟨62, [(1, .lpb 0 0), (45, ls 3 B7 b.elems), (46, li (b.elems.length : Int)), (47, li d), (60, lb f)], [(0, bx (AQ b))], 1⟩) ag (fun f ah => ?_) (fun f ak => ?_))
  .refine rg AA <| rn 4 Z <| gs 54 ah Z Z Z (fun ai => ?_) (fun aj => ?_)
   .exact rl Z <| AL ai (wf hA [(0, 0)] Z Z Z)
   exact rl Z <| AL aj (wf hA [(0, 0)] Z Z Z)
  refine cd Z ak (fun al => ?_) (fun an => ?_)
  .refine rs AA <| rl Z <| AF <| AN <| AG <| A1 al fun ar am => AN <| AG ?_
   cases am
   exact er Z Le.rfl
  exact AE <| Ad <| AC <| rg AA <| rl Z <| Ar an (wf hA [(0, 0)] Z Z Z)
 refine AV <| AX <| BI ao fun au ap => Am <| AC <| rs AA <| rl Z <| AF ?_
 cases ap
 exact er Z Le.rfl
noncomputable def DS (b : AK) (a : Int × (List (ByteArray × Bool))) : Option ((Int × (List (ByteArray × Bool))) ⊕ Bool) :=
 bif decide (a.1 < (b.elems.length : Int)) then (E4 a.1 b).bind fun c => bif ((Ah a.2 c).getD false) then some (.inr true) else (E4 a.1 b).bind fun d => some (.inl (AO (a.1 + 1), A2 d true a.2)) else some (.inr false)
noncomputable def DT (b : AK) (a : Int × (List (ByteArray × Bool))) : Option ((Int × (List (ByteArray × Bool))) ⊕ Bool) :=
 bif decide (a.1 < (b.signals.length : Int)) then (E5 a.1 b).bind fun c => bif ((Ah a.2 c).getD false) then some (.inr true) else (E5 a.1 b).bind fun d => some (.inl (AO (a.1 + 1), A2 d true a.2)) else some (.inr false)
noncomputable def DU (b : AK) (a : Int × (List (ByteArray × Bool))) : Option ((Int × (List (ByteArray × Bool))) ⊕ Bool) :=
 bif decide (a.1 < (b.lines.length : Int)) then (E6 a.1 b).bind fun c => bif ((Ah a.2 c).getD false) then some (.inr true) else (E6 a.1 b).bind fun d => some (.inl (AO (a.1 + 1), A2 d true a.2)) else some (.inr false)
noncomputable def Gf (a : AK) : Option Int :=
 ((bif decide (40 < (a.elems.length : Int)) then some true else bif decide (24 < (a.signals.length : Int)) then some true else bif decide (4 < (a.lines.length : Int)) then some true else some (decide (80 < (a.joins.length : Int))) : Option (Bool))).bind fun (c : Bool) => bif c then some 3 else (E3 a).bind fun h => bif (!h) then some 1 else ((((AU (DS a) (0, []) : Option (Bool))).bind fun (e : Bool) => bif e then some true else ((AU (DT a) (0, []) : Option (Bool))).bind fun (f : Bool) => bif f then some true else ((AU (DU a) (0, []) : Option (Bool))).bind fun (g : Bool) => some g : Option (Bool))).bind fun (d : Bool) => bif d then some 4 else (Fk a).bind fun b => bif (!b.2) then some 6 else (E7 a b.1).bind fun i => bif (!i) then some 7 else (Ge a b.1).bind fun j => bif (!j) then some 8 else (Hc a).bind fun k => bif (!k) then some 9 else some 0
theorem T4 (b : AK) (r : Int) (h : Gf b = some r) : Aw Tryz.prog 91 [.agg (AQ b)] (· = .int .i64 r) := by
 refine fn AA Tryz.func91 Z Z 71 Z [.tmp 2] Z [(0, .p (.agg (AQ b)))] Z Z fun A hA => ?_
 unfold Gf at h
 refine rs AA <| rl Z <| AB <| jb (fun j : Bool => ⟨71, [(1, .lpb 0 0), (26, lb j)], [(0, bx (AQ b))], 1⟩) h (fun j ad => ?_) (fun j ak => ?_)
 .refine rg AA <| rn 2 Z <| sx Z (Ac Z Z <| rn 2 Z <| gs 9 ad Z Z Z (fun ae => ?_) (fun af => ?_))
  .exact rl Z <| AL ae (wf hA [(0, 0)] Z Z Z)
  refine rn 2 Z <| sx Z (Ac Z Z <| rn 3 Z <| gs 15 af Z Z Z (fun ag => ?_) (fun ah => ?_))
  .exact rl Z <| AL ag (wf hA [(0, 0)] Z Z Z)
  refine rn 2 Z <| sx Z (Ac Z Z <| rn 3 Z <| gs 21 ah Z Z Z (fun ai => ?_) (fun aj => ?_))
  .exact rl Z <| AL ai (wf hA [(0, 0)] Z Z Z)
  exact rn 2 Z <| sx Z (Ac Z Z <| rl Z <| AL aj (wf hA [(0, 0)] Z Z Z))
 refine cd Z ak (fun al => ?_) (fun am => ?_)
 .refine rs AA <| rl Z <| AF <| AG ?_
  cases al
  exact er Z Le.rfl
 refine AE <| AC <| AB <| rs AA <| rn 1 Z <| bq am fun cq s a2 => sx Z (AM (Rx _ _ s) (.inl Z) Z Z Z <| rl Z <| cd Z a2 (fun a4 => ?_) (fun a6 => ?_))
 .refine rs AA <| rl Z <| AF <| AG ?_
  cases a4
  exact er Z Le.rfl
 refine AE <| AC <| AB <| jb (fun k : Bool => ⟨71, [(1, .lpb 0 0), (48, lb k)], [(0, bx (AQ b))], 1⟩) a6 (fun k an => ?_) (fun k bt => ?_)
 .refine rg AA <| rn 2 Z <| sx Z (Ac Z Z <| rn 1 Z <| sx Z (CP AA (fun f : Bool => lb f) (fun f : Bool => [(0, bx (AQ b))]) 1 an Tryz.func128 22 [.tmp 4] [(0, li (b.elems.length : Int)), (1, .fn 129 [.lpb 0 0])] Z Z Z Z Z Z Z Z (fun A hA f ao => ?_) (fun f az => ?_)))
  .refine rs AA <| rl Z <| rs AA <| rl Z <| AB <| rs AA <| rl Z <| AH ?_
   apply lp (a := f) (fun c : (Int × (List (ByteArray × Bool))) => ⟨22, [(1, .fn 129 [.lpb 0 0]), (5, .lmap 1), (8, li (b.elems.length : Int)), (9, li c.1)], [(0, bx (AQ b)), (1, .map (Ak .str .bool c.2))], 2⟩) ao
   . exact wj hA [(0, 0), (1, 1)] Z Z Z Z
   intro c cn l
   unfold DS at l
   refine rs AA <| rl Z <| AB <| cd Z l (fun ap => ?_) (fun ax => ?_)
   .refine AE <| AC <| AB <| AH <| rs AA <| rl Z <| AB <| rs AA <| rn 3 Z <| bq ap fun ca o aq => sx Z (AM (Mg _ _ _ o) (.inl Z) Z Z (Da.eq (.cons (.one (.p _)) (.cons (.box Z (.cons (.p _) (.cons (.p _) (.cons (.p _) (.cons (.p _) (.cons (.p _) (.cons (.p _) (.cons (.p _) (.cons (.p _) (.cons (.p _) .nil)))))))))) .nil))) <| sx Z (KM (et := 4) (ke := .str) (ve := .bool) (mp := c.2) (y := ca) false Mk Z Z Z Z <| rl Z <| cd Z aq (fun ar => ?_) (fun av => ?_)))
    .refine rs AA <| rl Z <| AF <| AG <| AN <| AG <| A1 ar fun ch au => AN <| AG ?_
     cases au
     exact CS (nt := 22) (sl := [(4, lb true)]) (wj hA [(0, 0)] Z Z Z Z) Z
    exact AE <| AC <| rg AA <| rn 3 Z <| bq av fun cb q aw => sx Z (AM (Mg _ _ _ q) (.inl Z) Z Z (Da.eq (.cons (.one (.p _)) (.cons (.box Z (.cons (.p _) (.cons (.p _) (.cons (.p _) (.cons (.p _) (.cons (.p _) (.cons (.p _) (.cons (.p _) (.cons (.p _) (.cons (.p _) .nil)))))))))) .nil))) <| sx Z (F9 (et := 4) (ke := .str) (ve := .bool) (mp := c.2) (y := cb) (z := true) Mk Z Z Z Z Z Z <| rl Z <| Ad <| AC <| rg AA <| rl Z <| Ar aw (wj hA [(0, 0), (1, 1)] Z Z Z Z)))
   refine AV <| AX <| BI ax fun ci ay => Am <| AC <| rs AA <| rl Z <| AF ?_
   cases ay
   exact CS (nt := 22) (sl := [(4, lb false)]) (wj hA [(0, 0)] Z Z Z Z) Z
  refine rn 1 Z <| gs 35 az Z Z Z (fun a0 => ?_) (fun a1 => ?_)
  .exact rl Z <| AL a0 (wf hA [(0, 0)] Z Z Z)
  refine rn 2 Z <| sx Z (Ac Z Z <| rn 1 Z <| sx Z (CP AA (fun g : Bool => lb g) (fun g : Bool => [(0, bx (AQ b))]) 1 a1 Tryz.func128 22 [.tmp 4] [(0, li (b.signals.length : Int)), (1, .fn 130 [.lpb 0 0])] Z Z Z Z Z Z Z Z (fun A hA g a3 => ?_) (fun g bf => ?_)))
  .refine rs AA <| rl Z <| rs AA <| rl Z <| AB <| rs AA <| rl Z <| AH ?_
   apply lp (a := g) (fun d : (Int × (List (ByteArray × Bool))) => ⟨22, [(1, .fn 130 [.lpb 0 0]), (5, .lmap 1), (8, li (b.signals.length : Int)), (9, li d.1)], [(0, bx (AQ b)), (1, .map (Ak .str .bool d.2))], 2⟩) a3
   . exact wj hA [(0, 0), (1, 1)] Z Z Z Z
   intro d co m
   unfold DT at m
   refine rs AA <| rl Z <| AB <| cd Z m (fun a5 => ?_) (fun bc => ?_)
   .refine AE <| AC <| AB <| AH <| rs AA <| rl Z <| AB <| rs AA <| rn 3 Z <| bq a5 fun cc t a7 => sx Z (AM (Mh _ _ _ t) (.inl Z) Z Z (Da.eq (.cons (.one (.p _)) (.cons (.box Z (.cons (.p _) (.cons (.p _) (.cons (.p _) (.cons (.p _) (.cons (.p _) (.cons (.p _) (.cons (.p _) (.cons (.p _) (.cons (.p _) .nil)))))))))) .nil))) <| sx Z (KM (et := 4) (ke := .str) (ve := .bool) (mp := d.2) (y := cc) false Mk Z Z Z Z <| rl Z <| cd Z a7 (fun a8 => ?_) (fun ba => ?_)))
    .refine rs AA <| rl Z <| AF <| AG <| AN <| AG <| A1 a8 fun cj a9 => AN <| AG ?_
     cases a9
     exact CS (nt := 22) (sl := [(4, lb true)]) (wj hA [(0, 0)] Z Z Z Z) Z
    exact AE <| AC <| rg AA <| rn 3 Z <| bq ba fun ce u bb => sx Z (AM (Mh _ _ _ u) (.inl Z) Z Z (Da.eq (.cons (.one (.p _)) (.cons (.box Z (.cons (.p _) (.cons (.p _) (.cons (.p _) (.cons (.p _) (.cons (.p _) (.cons (.p _) (.cons (.p _) (.cons (.p _) (.cons (.p _) .nil)))))))))) .nil))) <| sx Z (F9 (et := 4) (ke := .str) (ve := .bool) (mp := d.2) (y := ce) (z := true) Mk Z Z Z Z Z Z <| rl Z <| Ad <| AC <| rg AA <| rl Z <| Ar bb (wj hA [(0, 0), (1, 1)] Z Z Z Z)))
   refine AV <| AX <| BI bc fun ck be => Am <| AC <| rs AA <| rl Z <| AF ?_
   cases be
   exact CS (nt := 22) (sl := [(4, lb false)]) (wj hA [(0, 0)] Z Z Z Z) Z
  refine rn 2 Z <| gs 42 bf Z Z Z (fun bg => ?_) (fun bh => ?_)
  .exact rl Z <| AL bg (wf hA [(0, 0)] Z Z Z)
  refine rn 2 Z <| sx Z (Ac Z Z <| rn 1 Z <| sx Z (CP AA (fun i : Bool => lb i) (fun i : Bool => [(0, bx (AQ b))]) 1 bh Tryz.func128 22 [.tmp 4] [(0, li (b.lines.length : Int)), (1, .fn 131 [.lpb 0 0])] Z Z Z Z Z Z Z Z (fun A hA i bi => ?_) (fun i bs => ?_)))
  .refine rs AA <| rl Z <| rs AA <| rl Z <| AB <| rs AA <| rl Z <| AH ?_
   apply lp (a := i) (fun e : (Int × (List (ByteArray × Bool))) => ⟨22, [(1, .fn 131 [.lpb 0 0]), (5, .lmap 1), (8, li (b.lines.length : Int)), (9, li e.1)], [(0, bx (AQ b)), (1, .map (Ak .str .bool e.2))], 2⟩) bi
   . exact wj hA [(0, 0), (1, 1)] Z Z Z Z
   intro e cp n
   unfold DU at n
   refine rs AA <| rl Z <| AB <| cd Z n (fun bj => ?_) (fun bp => ?_)
   .refine AE <| AC <| AB <| AH <| rs AA <| rl Z <| AB <| rs AA <| rn 3 Z <| bq bj fun cf v bk => sx Z (AM (Mi _ _ _ v) (.inl Z) Z Z (Da.eq (.cons (.one (.p _)) (.cons (.box Z (.cons (.p _) (.cons (.p _) (.cons (.p _) (.cons (.p _) (.cons (.p _) (.cons (.p _) (.cons (.p _) (.cons (.p _) (.cons (.p _) .nil)))))))))) .nil))) <| sx Z (KM (et := 4) (ke := .str) (ve := .bool) (mp := e.2) (y := cf) false Mk Z Z Z Z <| rl Z <| cd Z bk (fun bl => ?_) (fun bn => ?_)))
    .refine rs AA <| rl Z <| AF <| AG <| AN <| AG <| A1 bl fun cl bm => AN <| AG ?_
     cases bm
     exact CS (nt := 22) (sl := [(4, lb true)]) (wj hA [(0, 0)] Z Z Z Z) Z
    exact AE <| AC <| rg AA <| rn 3 Z <| bq bn fun cg w bo => sx Z (AM (Mi _ _ _ w) (.inl Z) Z Z (Da.eq (.cons (.one (.p _)) (.cons (.box Z (.cons (.p _) (.cons (.p _) (.cons (.p _) (.cons (.p _) (.cons (.p _) (.cons (.p _) (.cons (.p _) (.cons (.p _) (.cons (.p _) .nil)))))))))) .nil))) <| sx Z (F9 (et := 4) (ke := .str) (ve := .bool) (mp := e.2) (y := cg) (z := true) Mk Z Z Z Z Z Z <| rl Z <| Ad <| AC <| rg AA <| rl Z <| Ar bo (wj hA [(0, 0), (1, 1)] Z Z Z Z)))
   refine AV <| AX <| BI bp fun cm br => Am <| AC <| rs AA <| rl Z <| AF ?_
   cases br
   exact CS (nt := 22) (sl := [(4, lb false)]) (wj hA [(0, 0)] Z Z Z Z) Z
  exact rl Z <| AL bs (wf hA [(0, 0)] Z Z Z)
 refine cd Z bt (fun bu => ?_) (fun bv => ?_)
 .refine rs AA <| rl Z <| AF <| AG ?_
  cases bu
  exact er Z Le.rfl
 refine AE <| AC <| rs AA <| rn 1 Z <| bq bv fun cr x bw => sx Z (AM (Sx _ _ x) (.inr Z) Z Z Z <| rl Z <| AB <| AH <| rs AA <| rl Z <| cd Z bw (fun bz => ?_) (fun b0 => ?_))
 .refine rs AA <| rl Z <| AF <| AN <| AG ?_
  cases bz
  exact er Z Le.rfl
 refine rs AA <| rn 2 Z <| bq b0 fun cs aa b1 => sx Z (AM (Ry _ _ _ aa) (.inl Z) Z Z Z <| rl Z <| cd Z b1 (fun b2 => ?_) (fun b3 => ?_))
 .refine rs AA <| rl Z <| AF <| AN <| AG ?_
  cases b2
  exact er Z Le.rfl
 refine rs AA <| rn 2 Z <| bq b3 fun ct ab b4 => sx Z (AM (T3 _ _ _ ab) (.inl Z) Z Z Z <| rl Z <| cd Z b4 (fun b5 => ?_) (fun b6 => ?_))
 .refine rs AA <| rl Z <| AF <| AN <| AG ?_
  cases b5
  exact er Z Le.rfl
 refine rs AA <| rn 1 Z <| bq b6 fun cu ac b7 => sx Z (AM (VB _ _ ac) (.inl Z) Z Z Z <| rl Z <| cd Z b7 (fun b8 => ?_) (fun b9 => ?_))
 .refine rs AA <| rl Z <| AF <| AN <| AG ?_
  cases b8
  exact er Z Le.rfl
 refine AE <| Ad <| AC <| rs AA <| rl Z <| AF ?_
 cases b9
 exact er Z Le.rfl
noncomputable def DD (a : (List Co)) : Option (List Co) :=
 Lw a (some []) ((Br ([] : List Co) a).bind fun b => some b)
theorem L5 (a : (List Co)) (r : (List Co)) (h : DD a = some r) : Aw Tryz.prog 103 [.slice 3 (a.map B7)] (· = .slice 3 (r.map B7)) := by
 refine fn AA Tryz.func103 Z Z 8 Z [.tmp 2] Z [(0, .p (.slice 3 (a.map B7)))] Z Z fun A hA => ?_
 unfold DD at h
 refine rs AA <| rl Z <| AB <| rs AA <| rn 1 Z <| sx Z (Jd h Z Z Z (fun d => ?_) (fun e => ?_))
 .refine rl Z <| Qs Z <| rs AA <| rl Z <| AF <| AG ?_
  cases d
  exact er Z (Le.nil _)
 refine rl Z <| SG Z <| AE <| AC <| rs AA <| rn 2 Z <| bq e fun f b c => sx Z (BX (enc := B7) (l := ([] : List Co)) (m := a) b (fun _ => ⟨Z, Z⟩) Z Z Z Z Z Z <| rl Z <| AF ?_)
 have hr := Option.some.inj c; subst hr
 exact er (ID Z (.one (.own (enc := B7) f Z Z))) Le.rfl
noncomputable def DE (a : (List Cy)) : Option (List Cy) :=
 Lw a (some []) ((Br ([] : List Cy) a).bind fun b => some b)
theorem L6 (a : (List Cy)) (r : (List Cy)) (h : DE a = some r) : Aw Tryz.prog 104 [.slice 4 (a.map Cn)] (· = .slice 4 (r.map Cn)) := by
 refine fn AA Tryz.func104 Z Z 8 Z [.tmp 2] Z [(0, .p (.slice 4 (a.map Cn)))] Z Z fun A hA => ?_
 unfold DE at h
 refine rs AA <| rl Z <| AB <| rs AA <| rn 1 Z <| sx Z (Jd h Z Z Z (fun d => ?_) (fun e => ?_))
 .refine rl Z <| Qs Z <| rs AA <| rl Z <| AF <| AG ?_
  cases d
  exact er Z (Le.nil _)
 refine rl Z <| SG Z <| AE <| AC <| rs AA <| rn 2 Z <| bq e fun f b c => sx Z (BX (enc := Cn) (l := ([] : List Cy)) (m := a) b (fun _ => ⟨Z, Z⟩) Z Z Z Z Z Z <| rl Z <| AF ?_)
 have hr := Option.some.inj c; subst hr
 exact er (ID Z (.one (.own (enc := Cn) f Z Z))) Le.rfl
noncomputable def Cr (a : (List Bp)) : Option (List Bp) :=
 Lw a (some []) ((Br ([] : List Bp) a).bind fun b => some b)
theorem K3 (a : (List Bp)) (r : (List Bp)) (h : Cr a = some r) : Aw Tryz.prog 105 [.slice 4 (a.map BS)] (· = .slice 4 (r.map BS)) := by
 refine fn AA Tryz.func105 Z Z 8 Z [.tmp 2] Z [(0, .p (.slice 4 (a.map BS)))] Z Z fun A hA => ?_
 unfold Cr at h
 refine rs AA <| rl Z <| AB <| rs AA <| rn 1 Z <| sx Z (Jd h Z Z Z (fun d => ?_) (fun e => ?_))
 .refine rl Z <| Qs Z <| rs AA <| rl Z <| AF <| AG ?_
  cases d
  exact er Z (Le.nil _)
 refine rl Z <| SG Z <| AE <| AC <| rs AA <| rn 2 Z <| bq e fun f b c => sx Z (BX (enc := BS) (l := ([] : List Bp)) (m := a) b (fun _ => ⟨Z, Z⟩) Z Z Z Z Z Z <| rl Z <| AF ?_)
 have hr := Option.some.inj c; subst hr
 exact er (ID Z (.one (.own (enc := BS) f Z Z))) Le.rfl
noncomputable def DF (a : (List Cp)) : Option (List Cp) :=
 Lw a (some []) ((Br ([] : List Cp) a).bind fun b => some b)
theorem LF (a : (List Cp)) (r : (List Cp)) (h : DF a = some r) : GN Tryz.prog 106 [.slice 2 (a.map Bd)] 147 2 (r.map Bd) := by
 refine fnN (enc := Bd) (fun _ => ⟨Z, Z⟩) Tryz.func106 Z Z 8 Z 2 Z [(0, .p (.slice 2 (a.map Bd)))] Z Z fun A hA => ?_
 unfold DF at h
 refine rs AA <| rl Z <| AB <| rs AA <| rn 1 Z <| sx Z (Jd h Z Z Z (fun d => ?_) (fun e => ?_))
 .refine rl Z <| Qs Z <| rs AA <| rl Z <| AF <| AG ?_
  cases d
  exact AAB Z
 refine rl Z <| SG Z <| AE <| AC <| rs AA <| rn 2 Z <| bq e fun f b c => sx Z (BX (enc := Bd) (l := ([] : List Cp)) (m := a) b (fun _ => ⟨Z, Z⟩) Z Z Z Z Z Z <| rl Z <| AF ?_)
 have hr := Option.some.inj c; subst hr
 exact erN Z Z Z
noncomputable def EU (a : (List Int)) : Option (List Int) :=
 Lw a (some []) ((Br ([] : List Int) a).bind fun b => some b)
theorem Ou (a : (List Int)) (r : (List Int)) (h : EU a = some r) : Aw Tryz.prog 107 [.slice 1 (a.map Ae)] (· = .slice 1 (r.map Ae)) := by
 refine fn AA Tryz.func107 Z Z 8 Z [.tmp 2] Z [(0, .p (.slice 1 (a.map Ae)))] Z Z fun A hA => ?_
 unfold EU at h
 refine rs AA <| rl Z <| AB <| rs AA <| rn 1 Z <| sx Z (Jd h Z Z Z (fun d => ?_) (fun e => ?_))
 .refine rl Z <| Qs Z <| rs AA <| rl Z <| AF <| AG ?_
  cases d
  exact er Z (Le.nil _)
 refine rl Z <| SG Z <| AE <| AC <| rs AA <| rn 2 Z <| bq e fun f b c => sx Z (BX (enc := Ae) (l := ([] : List Int)) (m := a) b (fun _ => ⟨Z, Z⟩) Z Z Z Z Z Z <| rl Z <| AF ?_)
 have hr := Option.some.inj c; subst hr
 exact er (ID Z (.one (.own (enc := Ae) f Z Z))) Le.rfl
end Go.E
/- Plain functions, and walks in step with them. Written by a program (gen.py). No condition. -/
set_option maxRecDepth 100000
set_option maxHeartbeats 1000000
namespace Go.E
open Go Go.RowKit Go.Proofs
noncomputable def Fm (b : AK) (h : (List Co)) (i : (List Cy)) (c : (List Bp)) (g : (List Cp)) (a : Int × (List Cp)) : Option ((Int × (List Cp)) ⊕ AK) :=
 bif decide (a.1 < (g.length : Int)) then (AZ a.2 a.1).bind fun d => (EU d.elems).bind fun e => (AZ a.2 a.1).bind fun f => some (.inl (AO (a.1 + 1), A6 a.2 a.1 (⟨f.name, e⟩ : Cp))) else some (.inr (⟨h, i, c, a.2, b.top, b.brake, b.margin, b.throw, b.hard⟩ : AK))
noncomputable def G4 (a : AK) : Option AK :=
 (DD a.elems).bind fun d => (DE a.joins).bind fun e => (Cr a.signals).bind fun c => (DF a.lines).bind fun b => AU (Fm a d e c b) (0, b)
theorem RB (b : AK) (r : AK) (h : G4 b = some r) : Aw Tryz.prog 75 [.agg (AQ b)] (· = .agg (AQ r)) := by
 refine fn AA Tryz.func75 Z Z 40 Z [.cell 2 27] Z [(0, .p (.agg (AQ b)))] Z Z fun A hA => ?_
 unfold G4 at h
 refine rs AA <| rl Z <| AB ?_
 refine B0 AA mixed [0, 1, 2, 3, 4, 5, 6, 7, 8, 9, 10, 11, 12, 13, 14] 15 (by kernel_rfl) Z Z Z ?_
 refine Au 2 Z <| bq h fun ad k x => As Z (A5 (L5 _ _ k) (.inr Z) Z Z Z <| Au 2 Z <| bq x fun ae l m => As Z (A5 (L6 _ _ l) (.inr Z) Z Z Z <| Au 2 Z <| bq m fun y g t => As Z (A5 (K3 _ _ g) (.inr Z) Z Z Z <| BJ Z <| AC <| rs AA <| rn 2 Z <| bq t fun ac j w => sx Z (ZX (LF _ _ j) Z Z Z Z <| rl Z <| AB <| rs AA <| rl Z <| AH ?_))))
 apply lp (a := r) (fun c : (Int × (List Cp)) => ⟨40, [(1, .lpb 0 0), (2, .lpb 1 0), (22, li (ac.length : Int)), (23, li c.1)], [(0, .box [ls 3 B7 ad, ls 4 Cn ae, ls 4 BS y, .lsl 2 2 0 c.2.length, li b.top, li b.brake, li b.margin, li b.throw, lb b.hard]), (1, .box [.p (.nils), .p (.nils), .p (.nils), .p (.nils), li 0, li 0, li 0, li 0, lb false]), (2, .row 147 2 (c.2.map Bd))], 3⟩) w
 . exact wf hA [(0, 0), (1, 1), (2, 17)] Z Z Z
 intro c ag f
 unfold Fm at f
 refine rs AA <| rl Z <| AB <| cd Z f (fun n => ?_) (fun u => ?_)
 .refine AE <| AC <| AB <| AH <| rs AA <| rl Z ?_
  refine B0 AA mixed [0, 1, 2, 3, 4, 5, 6, 7, 8, 9, 10, 11, 12] 13 (by kernel_rfl) Z Z Z ?_
  exact Au 6 Z <| bq n fun ah d o => As Z (Aj Z (Bt d Z Z Z Z <| Au 1 Z <| As Z (GR Z (C0 d Z Z Z <| bq o fun aa i q => As Z (A5 (Ou _ _ i) (.inr Z) Z Z Z <| bq q fun ab e s => As Z (Aj Z (Bt e Z Z Z Z <| Au 1 Z <| As Z (MR Z (LO (z := (⟨ab.name, aa⟩ : Cp)) e Z Z Z Z Z Z Z Z <| BJ Z <| Ad <| AC <| rg AA <| rl Z <| Ar s (wk (gi 3 []) (free hA _) Z Z Z (.cons Z (.cons Z (.cons Z (.cons Z .nil)))) (.cons Z (by simp only [BH]; rfl) (.cons Z Z (.cons Z Z .nil)))))))))))))
 refine AV <| AX <| BI u fun af v => Am <| AC <| rs AA <| rl Z <| AF ?_
 cases v
 exact er (ID Z (.agg (.cons (.p _) (.cons (.p _) (.cons (.p _) (.cons (.own (enc := Bd) c.2 Z Z) (.cons (.p _) (.cons (.p _) (.cons (.p _) (.cons (.p _) (.cons (.p _) .nil))))))))))) Le.rfl
noncomputable def DN (e : (Int × (List (AI × AI)))) (c : (Int × (List (Int × Bf)) × (List (Int × Int)))) (d : Cp) (a : Int × Int × (List (Int × Bf)) × (List (Int × Int))) : Option ((Int × Int × (List (Int × Bf)) × (List (Int × Int))) ⊕ ((Int × (List (Int × Bf)) × (List (Int × Int))) ⊕ ((Option Az) × Int))) :=
 bif decide (a.2.1 < (d.elems.length : Int)) then (AZ d.elems a.2.1).bind fun b => some (.inl (((Ah e.2 (⟨b, AO (1 - a.1)⟩ : AI)).getD (⟨0, 0⟩ : AI)).fin, AO (a.2.1 + 1), A2 b (⟨c.1, a.2.1⟩ : Bf) a.2.2.1, A2 b a.1 a.2.2.2)) else some (.inr (.inl (AO (c.1 + 1), a.2.2.1, a.2.2.2)))
noncomputable def CY (d : AK) (j : AK) (b : (Int × (List (AI × AI)))) (f : (Int × (List (AI × Int)))) (a : Int × (List (Int × Bf)) × (List (Int × Int))) : Option ((Int × (List (Int × Bf)) × (List (Int × Int))) ⊕ ((Option Az) × Int)) :=
 bif decide (a.1 < (d.lines.length : Int)) then (AZ d.lines a.1).bind fun c => ((bif decide (1 < (c.elems.length : Int)) then (AZ c.elems 0).bind fun e => ((bif (Ah b.2 (⟨e, 0⟩ : AI)).isSome then (AZ c.elems 1).bind fun i => some ((((Ah b.2 (⟨e, 0⟩ : AI)).getD (⟨0, 0⟩ : AI)).elem) == i) else some false : Option (Bool))).bind fun (h : Bool) => bif h then some 1 else some 0 else some 0 : Option (Int))).bind fun (g : Int) => AU (DN b a c) (g, 0, a.2.1, a.2.2) else some (.inr (some (⟨j, b.2, f.2, a.2.1, a.2.2⟩ : Az), 0))
noncomputable def DO (b : AK) (d : AK) (c : (Int × (List (AI × AI)))) (a : Int × (List (AI × Int))) : Option ((Int × (List (AI × Int))) ⊕ ((Option Az) × Int)) :=
 bif decide (a.1 < (b.signals.length : Int)) then (AZ b.signals a.1).bind fun e => some (.inl (AO (a.1 + 1), A2 e.at_ a.1 a.2)) else (AU (CY b d c a) (0, [], [])).map .inr
noncomputable def DP (e : AK) (f : AK) (c : Int × (List (AI × AI))) : Option ((Int × (List (AI × AI))) ⊕ ((Option Az) × Int)) :=
 bif decide (c.1 < (e.joins.length : Int)) then (AZ e.joins c.1).bind fun d => some (.inl (AO (c.1 + 1), A2 d.b d.a (A2 d.a d.b c.2))) else (AU (DO e f c) (0, [])).map .inr
noncomputable def Cf (a : AK) : Option ((Option Az) × Int) :=
 (Gf a).bind fun b => bif (b != 0) then some (none, b) else (G4 a).bind fun c => AU (DP a c) (0, [])
theorem Oq (d : AK) (r : ((Option Az) × Int)) (h : Cf d = some r) : Aw Tryz.prog 56 [.agg (AQ d)] (· = .tup [WY Ap r.1, .int .i64 r.2]) := by
 refine fn AA Tryz.func56 Z Z 148 Z [.tmp 2, .tmp 3] Z [(0, .p (.agg (AQ d)))] Z Z fun A hA => ?_
 unfold Cf at h
 refine rs AA <| rl Z <| AB <| rs AA <| rn 1 Z <| bq h fun br ah aj => sx Z (AM (T4 _ _ ah) (.inl Z) Z Z Z <| rl Z <| rs AA <| rl Z <| cd Z aj (fun al => ?_) (fun ay => ?_))
 .refine rs AA <| rl Z <| AF <| AG ?_
  cases al
  exact er Z Le.rfl
 refine AE <| AC <| rs AA <| rn 1 Z <| bq ay fun c af a8 => sx Z (AM (RB _ _ af) (.inr Z) Z Z Z <| rl Z <| AB <| rs AA <| rn 2 Z <| sx Z (Ac Z Z <| rl Z <| AH ?_))
 apply lp (a := r) (fun f : (Int × (List (AI × AI))) => ⟨148, [(1, .lpb 0 0), (5, .lpb 1 0), (31, ls 4 Cn d.joins), (32, li (d.joins.length : Int)), (33, li f.1)], [(0, bx (AQ d)), (1, .box [ls 3 B7 c.elems, ls 4 Cn c.joins, ls 4 BS c.signals, ls 2 Bd c.lines, li c.top, li c.brake, li c.margin, li c.throw, lb c.hard, .lmap 2, .lmap 3, .lmap 4, .lmap 5]), (2, .map (Ak (fun x => .agg (AT x)) (fun x => .agg (AT x)) f.2)), (3, .map (Ak (fun x => .agg (AT x)) (.int .i64) [])), (4, .map (Ak (.int .i64) (fun x => .agg (Ej x)) [])), (5, .map (Ak (.int .i64) (.int .i64) []))], 6⟩) a8
 . exact wf hA [(0, 0), (1, 5), (2, 1), (3, 2), (4, 3), (5, 4)] Z Z Z
 intro f bo t
 unfold DP at t
 refine rs AA <| rl Z <| AB <| cd Z t (fun be => ?_) (fun bg => ?_)
 .refine AE <| AC <| AB <| AH <| rs AA <| bq be fun i ai bf => sx Z (Aa ai Z Z Z <| rl Z ?_)
  refine B0 AA mixed [0, 1, 2, 3, 4, 5, 6, 7, 8, 9, 10, 11, 12, 13, 14, 15, 16, 17, 18, 19, 20, 21] 22 (by kernel_rfl) Z Z Z ?_
  exact Au 16 Z <| As Z (Aj Z (Qz (et := 40) (ke := (fun x => .agg (AT x))) (ve := (fun x => .agg (AT x))) (mp := f.2) (y := i.a) (⟨0, 0⟩ : AI) CF Z Z Z Z Z Z <| Au 1 Z <| As Z (Aj Z (Q0 (ke := (fun x => .agg (AT x))) (ve := (fun x => .agg (AT x))) (mp := f.2) (y := i.a) (z := (⟨0, 0⟩ : AI)) (w := i.b) Z Z Z Z Z <| As Z (Aj Z (Qz (et := 40) (ke := (fun x => .agg (AT x))) (ve := (fun x => .agg (AT x))) (mp := A2 i.a i.b f.2) (y := i.b) (⟨0, 0⟩ : AI) CF Z Z Z Z Z Z <| Au 1 Z <| As Z (Aj Z (Q0 (ke := (fun x => .agg (AT x))) (ve := (fun x => .agg (AT x))) (mp := A2 i.a i.b f.2) (y := i.b) (z := (⟨0, 0⟩ : AI)) (w := i.a) Z Z Z Z Z <| BJ Z <| Ad <| AC <| rg AA <| rl Z <| Ar bf (wf hA (gi 6 []) Z Z Z)))))))))
 refine AV <| AX <| CM bg fun v bh => Am <| AC <| AB <| rs AA <| rn 2 Z <| sx Z (Ac Z Z <| rl Z <| AH ?_)
 apply lp (a := v) (fun j : (Int × (List (AI × Int))) => ⟨148, [(1, .lpb 0 0), (5, .lpb 1 0), (59, ls 4 BS d.signals), (60, li (d.signals.length : Int)), (61, li j.1)], [(0, bx (AQ d)), (1, .box [ls 3 B7 c.elems, ls 4 Cn c.joins, ls 4 BS c.signals, ls 2 Bd c.lines, li c.top, li c.brake, li c.margin, li c.throw, lb c.hard, .lmap 2, .lmap 3, .lmap 4, .lmap 5]), (2, .map (Ak (fun x => .agg (AT x)) (fun x => .agg (AT x)) f.2)), (3, .map (Ak (fun x => .agg (AT x)) (.int .i64) j.2)), (4, .map (Ak (.int .i64) (fun x => .agg (Ej x)) [])), (5, .map (Ak (.int .i64) (.int .i64) []))], 6⟩) bh
 . exact wf hA (gi 6 []) Z Z Z
 intro j bn s
 unfold DO at s
 refine rs AA <| rl Z <| AB <| cd Z s (fun a9 => ?_) (fun bb => ?_)
 .refine AE <| AC <| AB <| AH <| rs AA <| rn 1 Z <| bq a9 fun bj ag ba => sx Z (Aa ag Z Z Z <| rl Z ?_)
  refine B0 AA mixed [0, 1, 2, 3, 4, 5, 6, 7] 8 (by kernel_rfl) Z Z Z ?_
  exact Au 7 Z <| As Z (Aj Z (F9 (et := 3) (ke := (fun x => .agg (AT x))) (ve := (.int .i64)) (mp := j.2) (y := bj.at_) (z := j.1) CF Z Z Z Z Z Z <| BJ Z <| Ad <| AC <| rg AA <| rl Z <| Ar ba (wf hA (gi 6 []) Z Z Z)))
 refine AV <| AX <| CM bb fun u bc => Am <| AC <| AB <| rs AA <| rn 2 Z <| sx Z (Ac Z Z <| rl Z <| AH ?_)
 apply lp (a := u) (fun e : (Int × (List (Int × Bf)) × (List (Int × Int))) => ⟨148, [(5, .lpb 0 0), (75, ls 2 Bd d.lines), (76, li (d.lines.length : Int)), (77, li e.1)], [(0, .box [ls 3 B7 c.elems, ls 4 Cn c.joins, ls 4 BS c.signals, ls 2 Bd c.lines, li c.top, li c.brake, li c.margin, li c.throw, lb c.hard, .lmap 1, .lmap 2, .lmap 3, .lmap 4]), (1, .map (Ak (fun x => .agg (AT x)) (fun x => .agg (AT x)) f.2)), (2, .map (Ak (fun x => .agg (AT x)) (.int .i64) j.2)), (3, .map (Ak (.int .i64) (fun x => .agg (Ej x)) e.2.1)), (4, .map (Ak (.int .i64) (.int .i64) e.2.2))], 5⟩) bc
 . exact wf hA [(0, 1), (1, 2), (2, 3), (3, 4), (4, 5)] Z Z Z
 intro e aa o
 unfold CY at o
 refine rs AA <| rl Z <| AB <| cd Z o (fun ak => ?_) (fun a6 => ?_)
 .refine AE <| AC <| AB <| AH <| rs AA <| rn 1 Z <| bq ak fun k ab am => sx Z (Aa ab Z Z Z <| rl Z <| rs AA <| rl Z <| jb (fun m : Int => ⟨148, [(5, .lpb 0 0), (10, li e.1), (11, .lpb 1 0), (12, li m), (75, ls 2 Bd d.lines), (76, li (d.lines.length : Int)), (77, li e.1)], [(0, .box [ls 3 B7 c.elems, ls 4 Cn c.joins, ls 4 BS c.signals, ls 2 Bd c.lines, li c.top, li c.brake, li c.margin, li c.throw, lb c.hard, .lmap 2, .lmap 3, .lmap 4, .lmap 5]), (1, .box [.p (.str k.name), ls 1 Ae k.elems]), (2, .map (Ak (fun x => .agg (AT x)) (fun x => .agg (AT x)) f.2)), (3, .map (Ak (fun x => .agg (AT x)) (.int .i64) j.2)), (4, .map (Ak (.int .i64) (fun x => .agg (Ej x)) e.2.1)), (5, .map (Ak (.int .i64) (.int .i64) e.2.2))], 6⟩) am (fun m an => ?_) (fun m a1 => ?_))
  .refine rs AA <| rn 2 Z <| sx Z (Ac Z Z <| rl Z <| cd Z an (fun ao => ?_) (fun a0 => ?_))
   .refine AB ?_
    refine B0 AA mixed [0, 1, 2, 3, 4, 5, 6, 7, 8, 9, 10, 11, 12, 13, 14, 15] 16 (by kernel_rfl) Z Z Z ?_
    refine Au 6 Z <| bq ao fun bi ac ap => As Z (Aj Z (Aa ac Z Z Z <| Au 2 Z <| As Z (Aj Z (JD (et := 40) (ke := (fun x => .agg (AT x))) (ve := (fun x => .agg (AT x))) (mp := f.2) (y := (⟨bi, 0⟩ : AI)) (⟨0, 0⟩ : AI) CF Z Z Z Z <| BJ Z <| AC <| jb (fun n : Bool => ⟨148, [(5, .lpb 0 0), (10, li e.1), (11, .lpb 1 0), (12, li 0), (75, ls 2 Bd d.lines), (76, li (d.lines.length : Int)), (77, li e.1), (108, lb n)], [(0, .box [ls 3 B7 c.elems, ls 4 Cn c.joins, ls 4 BS c.signals, ls 2 Bd c.lines, li c.top, li c.brake, li c.margin, li c.throw, lb c.hard, .lmap 2, .lmap 3, .lmap 4, .lmap 5]), (1, .box [.p (.str k.name), ls 1 Ae k.elems]), (2, .map (Ak (fun x => .agg (AT x)) (fun x => .agg (AT x)) f.2)), (3, .map (Ak (fun x => .agg (AT x)) (.int .i64) j.2)), (4, .map (Ak (.int .i64) (fun x => .agg (Ej x)) e.2.1)), (5, .map (Ak (.int .i64) (.int .i64) e.2.2))], 6⟩) ap (fun n aq => ?_) (fun n aw => ?_)))))
    .refine B0 AA mixed [0, 1, 2, 3, 4, 5, 6, 7, 8, 9] 10 (by kernel_rfl) Z Z Z ?_
     refine Au 2 Z <| D5 100 aq Z Z Z (fun ar => ?_) (fun av => ?_)
     .exact Au 4 Z <| bq ar fun bp ad au => As Z (Aj Z (Aa ad Z Z Z <| BJ Z <| AL au (wf hA [(0, 0), (1, 5), (2, 1), (3, 2), (4, 3), (5, 4)] Z Z Z)))
     exact BJ Z <| AL av (wf hA [(0, 0), (1, 5), (2, 1), (3, 2), (4, 3), (5, 4)] Z Z Z)
    refine cd Z aw (fun ax => ?_) (fun az => ?_)
    .exact rg AA <| rl Z <| AL ax (wf hA (gi 6 []) Z Z Z)
    exact AE <| AL az (wf hA (gi 6 []) Z Z Z)
   exact AE <| AL a0 (wf hA [(0, 0), (1, 5), (2, 1), (3, 2), (4, 3), (5, 4)] Z Z Z)
  refine rs AA <| rn 2 Z <| sx Z (Ac Z Z <| rl Z <| AH ?_)
  apply lp (a := aa) (fun g : (Int × Int × (List (Int × Bf)) × (List (Int × Int))) => ⟨148, [(5, .lpb 0 0), (10, li e.1), (12, li g.1), (75, ls 2 Bd d.lines), (76, li (d.lines.length : Int)), (77, li e.1), (110, ls 1 Ae k.elems), (111, li (k.elems.length : Int)), (112, li g.2.1)], [(0, .box [ls 3 B7 c.elems, ls 4 Cn c.joins, ls 4 BS c.signals, ls 2 Bd c.lines, li c.top, li c.brake, li c.margin, li c.throw, lb c.hard, .lmap 1, .lmap 2, .lmap 3, .lmap 4]), (1, .map (Ak (fun x => .agg (AT x)) (fun x => .agg (AT x)) f.2)), (2, .map (Ak (fun x => .agg (AT x)) (.int .i64) j.2)), (3, .map (Ak (.int .i64) (fun x => .agg (Ej x)) g.2.2.1)), (4, .map (Ak (.int .i64) (.int .i64) g.2.2.2))], 5⟩) a1
  . exact wf hA [(0, 0), (1, 2), (2, 3), (3, 4), (4, 5)] Z Z Z
  intro g bm q
  unfold DN at q
  refine rs AA <| rl Z <| AB <| cd Z q (fun a2 => ?_) (fun a4 => ?_)
  .refine AE <| AC <| AB <| AH <| rs AA <| rn 1 Z <| bq a2 fun l ae a3 => sx Z (Aa ae Z Z Z <| rl Z <| AB ?_)
   refine B0 AA mixed [0, 1, 2, 3, 4, 5, 6, 7, 8, 9, 10, 11, 12, 13, 14, 15, 16, 17, 18, 19] 20 (by kernel_rfl) Z Z Z ?_
   exact Au 14 Z <| As Z (Aj Z (Qz (et := 161) (ke := (.int .i64)) (ve := (fun x => .agg (Ej x))) (mp := g.2.2.1) (y := l) (⟨0, 0⟩ : Bf) Fh Z Z Z Z Z Z <| Au 1 Z <| As Z (Aj Z (Q0 (ke := (.int .i64)) (ve := (fun x => .agg (Ej x))) (mp := g.2.2.1) (y := l) (z := (⟨0, 0⟩ : Bf)) (w := (⟨e.1, g.2.1⟩ : Bf)) Z Z Z Z Z <| As Z (Aj Z (Qz (et := 3) (ke := (.int .i64)) (ve := (.int .i64)) (mp := g.2.2.2) (y := l) 0 Fh Z Z Z Z Z Z <| Au 1 Z <| As Z (Aj Z (Q0 (ke := (.int .i64)) (ve := (.int .i64)) (mp := g.2.2.2) (y := l) (z := 0) (w := g.1) Z Z Z Z Z <| BJ Z <| AC <| rg AA <| rn 8 Z <| sx Z (KM (et := 40) (ke := (fun x => .agg (AT x))) (ve := (fun x => .agg (AT x))) (mp := f.2) (y := (⟨l, AO (1 - g.1)⟩ : AI)) (⟨0, 0⟩ : AI) CF Z Z Z Z <| rl Z <| Ad <| AC <| rg AA <| rl Z <| Ar a3 (wf hA (gi 5 []) Z Z Z))))))))))
  exact AV <| AX <| BI a4 fun bk a5 => Am <| Ad <| AC <| rg AA <| rl Z <| Ar a5 (wf hA (gi 5 []) Z Z Z)
 refine AV <| AX <| BI a6 fun bl a7 => Am <| AC <| rs AA <| rl Z <| AF ?_
 cases a7
 exact er (Tn Z (.cons (.box Z (.cons (.p _) (.cons (.p _) (.cons (.p _) (.cons (.p _) (.cons (.p _) (.cons (.p _) (.cons (.p _) (.cons (.p _) (.cons (.p _) (.cons (.map Z) (.cons (.map Z) (.cons (.map Z) (.cons (.map Z) .nil)))))))))))))) (.cons (.one (.p _)) .nil))) Le.rfl
noncomputable def De (a : Az) : Option Int :=
 some (a.p.signals.length : Int)
theorem Pj (a : Az) (r : Int) (h : De a = some r) : Aw Tryz.prog 111 [.place (Ap a) 0] (· = .int .i64 r) := by
 refine fn AA Tryz.func111 Z Z 9 Z [.tmp 2] Z [(0, .p (.place (Ap a) 0))] Z Z fun A hA => ?_
 unfold De at h
 refine rs AA <| rl Z <| rs AA <| rn 5 Z <| sx Z (Ac Z Z <| rl Z <| AF ?_)
 cases h
 exact er Z Le.rfl
noncomputable def CW (b : Az) (a : Int) : Option (AI × Bool) :=
 ((bif decide (a < 0) then some true else some (decide ((b.p.signals.length : Int) <= a)) : Option (Bool))).bind fun (c : Bool) => bif c then some ((⟨0, 0⟩ : AI), false) else (AZ b.p.signals a).bind fun d => some (d.at_, true)
theorem GX (a : Az) (b : Int) (r : (AI × Bool)) (h : CW a b = some r) : Aw Tryz.prog 37 [.place (Ap a) 0, .int .i64 b] (· = .tup [.agg (AT r.1), .bool r.2]) := by
 refine fn AA Tryz.func37 Z Z 28 Z [.cell 4 40, .tmp 5] Z [(0, .p (.place (Ap a) 0)), (1, .p (.int .i64 b))] Z Z fun A hA => ?_
 unfold CW at h
 refine rs AA <| rl Z <| AB <| jb (fun c : Bool => ⟨28, [(0, lq (Ap a)), (1, li b), (4, .lpb 0 0), (17, lb c)], [(0, .box [li 0, li 0])], 1⟩) h (fun c e => ?_) (fun c i => ?_)
 .refine rg AA <| rn 3 Z <| gs 8 e Z Z Z (fun f => ?_) (fun g => ?_)
  .exact rl Z <| AL f (wf hA [(0, 0)] Z Z Z)
  exact rn 6 Z <| sx Z (Ac Z Z <| rl Z <| AL g (wf hA [(0, 0)] Z Z Z))
 refine cd Z i (fun j => ?_) (fun k => ?_)
 .refine rs AA <| rl Z <| AF <| AG ?_
  cases j
  exact er Z Le.rfl
 refine AE <| AC <| rs AA <| rn 6 Z <| bq k fun m d l => sx Z (Aa d Z Z Z <| rl Z <| AF ?_)
 cases l
 exact er Z Le.rfl
noncomputable def Bb (a : Az) (b : AI) : Option (AI × Bool) :=
 some (((Ah a.next b).getD (⟨0, 0⟩ : AI)), (Ah a.next b).isSome)
theorem CB (a : Az) (b : AI) (r : (AI × Bool)) (h : Bb a b = some r) : Aw Tryz.prog 72 [.place (Ap a) 0, .agg (AT b)] (· = .tup [.agg (AT r.1), .bool r.2]) := by
 refine fn AA Tryz.func72 Z Z 19 Z [.cell 4 40, .tmp 5] Z [(0, .p (.place (Ap a) 0)), (1, .p (.agg (AT b)))] Z Z fun A hA => ?_
 unfold Bb at h
 refine rs AA <| rl Z <| AB ?_
 refine B0 AA mixed [0, 1, 2, 3, 4, 5, 6, 7, 8, 9, 10, 11] 12 (by kernel_rfl) Z Z Z ?_
 refine Au 5 Z <| As Z (Aj Z (JD (et := 40) (ke := (fun x => .agg (AT x))) (ve := (fun x => .agg (AT x))) (mp := a.next) (y := b) (⟨0, 0⟩ : AI) CF Z Z Z Z <| BJ Z <| AC <| rs AA <| rl Z <| AF ?_))
 cases h
 exact er Z Le.rfl
noncomputable def Df (a : Ab) (b : Int) : Option Bool :=
 some (a.elem == b)
theorem Pk (a : Ab) (b : Int) (r : Bool) (h : Df a b = some r) : Aw Tryz.prog 165 [.agg (Ay a), .place (Ae b) 0] (· = .bool r) := by
 refine fn AA Tryz.func165 Z Z 8 Z [.tmp 3] Z [(0, .p (.agg (Ay a))), (1, .p (.place (Ae b) 0))] Z Z fun A hA => ?_
 unfold Df at h
 refine rs AA <| rl Z <| rs AA <| rl Z <| AF ?_
 cases h
 exact er Z Le.rfl
noncomputable def BO (b : (List Ab)) (x1_0 : Int) (a : Int) : Option (Int ⊕ Int) :=
 bif decide (a < (b.length : Int)) then (AZ b a).bind fun c => (Df c x1_0).bind fun d => bif d then some (.inr a) else some (.inl (AO (a + 1))) else some (.inr (-1))
noncomputable def Bj (b : (List Ab)) (x1_0 : Int) : Option Bool :=
 ((AU (BO b x1_0) 0 : Option (Int))).bind fun (a : Int) => some (decide (0 <= a))
theorem HH (b : (List Ab)) (x1_0 : Int) (r : Bool) (h : Bj b x1_0 = some r) : Aw Tryz.prog 150 [.slice 3 (b.map Ay), .fn 165 [.place (Ae x1_0) 0]] (· = .bool r) := by
 refine fn AA Tryz.func150 Z Z 9 Z [.tmp 4] Z [(0, .p (.slice 3 (b.map Ay))), (1, .p (.fn 165 [.place (Ae x1_0) 0]))] Z Z fun A hA => ?_
 unfold Bj at h
 refine ND (Yb 1 Z) <| rs AA <| rl Z <| rs AA <| rn 2 Z <| sx Z (CP AA (fun c : Int => li c) (fun c : Int => []) 0 h Tryz.func167 19 [.tmp 4] [(0, ls 3 Ay b), (1, .fn 165 [lq (Ae x1_0)])] Z Z Z Z Z Z Z Z (fun A hA c i => ?_) (fun c t => ?_))
 .refine rs AA <| rl Z <| AB <| rs AA <| rn 1 Z <| sx Z (Ac Z Z <| rl Z <| AH ?_)
  apply lp (a := c) (fun d : Int => ⟨19, [(0, ls 3 Ay b), (1, .fn 165 [lq (Ae x1_0)]), (7, li (b.length : Int)), (8, li d)], [], 0⟩) i
  . exact wj hA [] Z Z Z Z
  intro d w e
  unfold BO at e
  refine rs AA <| rl Z <| AB <| cd Z e (fun j => ?_) (fun q => ?_)
  .refine AE <| AC <| AB <| AH <| rs AA <| rl Z <| rs AA <| rn 3 Z <| bq j fun x f k => sx Z (Aa f Z Z Z <| rn 1 Z <| bq k fun y g l => sx Z (AM (Pk _ _ _ g) (.inl Z) Z Z Z <| rl Z <| cd Z l (fun m => ?_) (fun o => ?_)))
   .refine rs AA <| rl Z <| AF <| AN <| AG <| A1 m fun u n => AN <| AG ?_
    have hr := Option.some.inj n; subst hr
    exact CS (nt := 19) (sl := [(4, li d)]) (wj hA [] Z Z Z Z) Z
   exact AE <| Ad <| AC <| rg AA <| rl Z <| Ar o (wj hA [] Z Z Z Z)
  refine AV <| AX <| BI q fun v s => Am <| AC <| rs AA <| rl Z <| AF ?_
  cases s
  exact CS (nt := 19) (sl := [(4, li (-1))]) (wj hA [] Z Z Z Z) Z
 refine rl Z <| AF ?_
 cases t
 exact er Z Le.rfl
noncomputable def EV (a : Na) (b : Int) : Option Bool :=
 ((bif decide ((a.steps.length : Int) < 12) then bif (b != a.berth) then (Bj a.steps b).bind fun d => some (!d) else some false else some false : Option (Bool))).bind fun (c : Bool) => some c
theorem RC (b : Na) (c : Int) (r : Bool) (h : EV b c = some r) : Aw Tryz.prog 146 [.place (SS b) 0, .int .i64 c] (· = .bool r) := by
 refine fn AA Tryz.func146 Z Z 28 Z [.tmp 4] Z [(0, .p (.place (SS b) 0)), (1, .p (.int .i64 c))] Z Z fun A hA => ?_
 unfold EV at h
 refine rs AA <| rl Z <| jb (fun a : Bool => ⟨28, [(4, lb a)], [], 0⟩) h (fun a k => ?_) (fun a j => ?_)
 .refine B0 AA mixed [0, 1, 2, 3, 4, 5, 6, 7, 8, 9, 10, 11, 12, 13, 14, 15, 16, 17, 18, 19, 20, 21, 22, 23] 24 (by kernel_rfl) Z Z Z ?_
  refine Au 4 Z <| As Z (Jb Z Z <| Au 2 Z <| D5 11 k Z Z Z (fun l => ?_) (fun i => ?_))
  .refine Au 8 Z <| D5 19 l Z Z Z (fun e => ?_) (fun g => ?_)
   .exact Au 5 Z <| bq e fun m d f => As Z (A5 (HH _ _ _ d) (.inl Z) Z Z (Da.eq (.cons (.one (.p _)) (.cons (.fn (.box Z (.cons (.p _) .nil) .nil)) .nil))) <| BJ Z <| AL f (wf hA [] Z Z Z))
   exact BJ Z <| AL g (wf hA [] Z Z Z)
  exact BJ Z <| AL i (wf hA [] Z Z Z)
 refine AF ?_
 have hr := Option.some.inj j; subst hr
 exact er Z Le.rfl
noncomputable def Dw (b : Az) (a : Int) : Option Co :=
 ((bif decide (a < 0) then some true else some (decide ((b.p.elems.length : Int) <= a)) : Option (Bool))).bind fun (c : Bool) => bif c then some (⟨ByteArray.empty, 0, 0⟩ : Co) else (AZ b.p.elems a).bind fun d => some d
theorem Ml (a : Az) (b : Int) (r : Co) (h : Dw a b = some r) : Aw Tryz.prog 69 [.place (Ap a) 0, .int .i64 b] (· = .agg (B7 r)) := by
 refine fn AA Tryz.func69 Z Z 26 Z [.cell 4 123] Z [(0, .p (.place (Ap a) 0)), (1, .p (.int .i64 b))] Z Z fun A hA => ?_
 unfold Dw at h
 refine rs AA <| rl Z <| AB <| jb (fun c : Bool => ⟨26, [(0, lq (Ap a)), (1, li b), (4, .lpb 0 0), (16, lb c)], [(0, .box [.p (.str ByteArray.empty), li 0, li 0])], 1⟩) h (fun c e => ?_) (fun c i => ?_)
 .refine rg AA <| rn 3 Z <| gs 7 e Z Z Z (fun f => ?_) (fun g => ?_)
  .exact rl Z <| AL f (wf hA [(0, 0)] Z Z Z)
  exact rn 6 Z <| sx Z (Ac Z Z <| rl Z <| AL g (wf hA [(0, 0)] Z Z Z))
 refine cd Z i (fun j => ?_) (fun k => ?_)
 .refine rs AA <| rl Z <| AF <| AG ?_
  cases j
  exact er Z Le.rfl
 refine AE <| AC <| rs AA <| rn 6 Z <| bq k fun m d l => sx Z (Aa d Z Z Z <| rl Z <| AF ?_)
 have hr := Option.some.inj l; subst hr
 exact er Z Le.rfl
noncomputable def BR (a : Az) (b : Int) : Option Int :=
 (Dw a b).bind fun c => some c.kind
theorem Bo (a : Az) (b : Int) (r : Int) (h : BR a b = some r) : Aw Tryz.prog 38 [.place (Ap a) 0, .int .i64 b] (· = .int .i64 r) := by
 refine fn AA Tryz.func38 Z Z 9 Z [.tmp 4] Z [(0, .p (.place (Ap a) 0)), (1, .p (.int .i64 b))] Z Z fun A hA => ?_
 unfold BR at h
 refine rs AA <| rl Z <| rs AA <| rn 2 Z <| bq h fun e c d => sx Z (AM (Ml _ _ _ c) (.inl Z) Z Z Z <| rl Z <| AF ?_)
 cases d
 exact er Z Le.rfl
noncomputable def Dx (c : Az) (d : Int) (a : Int) : Option (List Bk) :=
 ((bif decide (a < 0) then some true else (BR c d).bind fun f => (Ei f).bind fun g => some (decide (g <= a)) : Option (Bool))).bind fun (e : Bool) => bif e then some [] else (BR c d).bind fun b => bif (b == 1) then some [(⟨AO (1 - a), 0⟩ : Bk)] else bif (b == 3) then (AZ ([1, 0, 3, 2] : List Int) a).bind fun h => some [(⟨h, 0⟩ : Bk)] else bif (b == 2) then bif (a == 0) then some [(⟨1, 1⟩ : Bk), (⟨2, 2⟩ : Bk)] else (AZ ([0, 1, 2] : List Int) a).bind fun i => some [(⟨0, i⟩ : Bk)] else some []
theorem Mm (b : Az) (c : Int) (a : Int) (r : (List Bk)) (h : Dx b c a = some r) : Aw Tryz.prog 166 [.place (Ap b) 0, .int .i64 c, .int .i64 a] (· = .slice 2 (r.map DZ)) := by
 refine fn AA Tryz.func166 Z Z 47 Z [.tmp 6] Z [(0, .p (.place (Ap b) 0)), (1, .p (.int .i64 c)), (2, .p (.int .i64 a))] Z Z fun A hA => ?_
 unfold Dx at h
 refine rs AA <| rl Z <| AB <| jb (fun d : Bool => ⟨47, [(0, lq (Ap b)), (1, li c), (2, li a), (17, lb d)], [], 0⟩) h (fun d m => ?_) (fun d t => ?_)
 .refine rg AA <| rn 3 Z <| gs 10 m Z Z Z (fun n => ?_) (fun o => ?_)
  .exact rl Z <| AL n (wf hA [] Z Z Z)
  exact rn 3 Z <| bq o fun ak f q => sx Z (AM (Bo _ _ _ f) (.inl Z) Z Z Z <| bq q fun al i s => sx Z (AM (JI _ _ i) (.inl Z) Z Z Z <| rl Z <| AL s (wf hA [] Z Z Z)))
 refine cd Z t (fun u => ?_) (fun v => ?_)
 .refine rs AA <| rl Z <| AF <| AG ?_
  cases u
  exact er Z (Le.nil _)
 refine AE <| AC <| AB <| rs AA <| rn 2 Z <| bq v fun am j w => sx Z (AM (Bo _ _ _ j) (.inl Z) Z Z Z <| rl Z <| AH <| rs AA <| rl Z <| cd Z w (fun x => ?_) (fun z => ?_))
 .refine rs AA <| rl Z <| AF <| AN <| AG ?_
  cases x
  exact er (ID Z (.one (.own (enc := DZ) ([(⟨AO (1 - a), 0⟩ : Bk)] : List Bk) Z Z))) Le.rfl
 refine rs AA <| rl Z <| cd Z z (fun aa => ?_) (fun ac => ?_)
 .refine rs AA <| rl Z <| rs AA <| rn 1 Z <| bq aa fun ai e ab => sx Z (WN (l := ([1, 0, 3, 2] : List Int)) e Z Z Z Z <| sx Z (WP (g := fun y => .p (.int .i64 y)) e Z Z Z Z <| rl Z <| AF <| AN <| AG ?_))
  cases ab
  exact er (ID Z (.one (.own (enc := DZ) ([(⟨ai, 0⟩ : Bk)] : List Bk) Z Z))) Le.rfl
 refine rs AA <| rl Z <| cd Z ac (fun ad => ?_) (fun ah => ?_)
 .refine AB <| rs AA <| rl Z <| cd Z ad (fun ae => ?_) (fun af => ?_)
  .refine rs AA <| rl Z <| AF <| AG <| AN <| AG ?_
   cases ae
   exact er (ID Z (.one (.own (enc := DZ) ([(⟨1, 1⟩ : Bk), (⟨2, 2⟩ : Bk)] : List Bk) Z Z))) Le.rfl
  refine AE <| AC <| rs AA <| rn 2 Z <| bq af fun aj k ag => sx Z (AA3 (l := ([0, 1, 2] : List Int)) (g := fun y => .int .i64 y) k Z Z Z Z <| rl Z <| AF <| AN <| AG ?_)
  cases ag
  exact er (ID Z (.one (.own (enc := DZ) ([(⟨0, aj⟩ : Bk)] : List Bk) Z Z))) Le.rfl
 refine AE <| Ad <| AC <| rs AA <| rl Z <| AF ?_
 cases ah
 exact er Z (Le.nil _)
noncomputable def BU (a : (List Ab)) : Option (List Ab) :=
 Lw a (some []) ((Br ([] : List Ab) a).bind fun b => some b)
theorem L7 (a : (List Ab)) (r : (List Ab)) (h : BU a = some r) : Aw Tryz.prog 113 [.slice 3 (a.map Ay)] (· = .slice 3 (r.map Ay)) := by
 refine fn AA Tryz.func113 Z Z 8 Z [.tmp 2] Z [(0, .p (.slice 3 (a.map Ay)))] Z Z fun A hA => ?_
 unfold BU at h
 refine rs AA <| rl Z <| AB <| rs AA <| rn 1 Z <| sx Z (Jd h Z Z Z (fun d => ?_) (fun e => ?_))
 .refine rl Z <| Qs Z <| rs AA <| rl Z <| AF <| AG ?_
  cases d
  exact er Z (Le.nil _)
 refine rl Z <| SG Z <| AE <| AC <| rs AA <| rn 2 Z <| bq e fun f b c => sx Z (BX (enc := Ay) (l := ([] : List Ab)) (m := a) b (fun _ => ⟨Z, Z⟩) Z Z Z Z Z Z <| rl Z <| AF ?_)
 have hr := Option.some.inj c; subst hr
 exact er (ID Z (.one (.own (enc := Ay) f Z Z))) Le.rfl
theorem EF (a : (List Ab)) (r : (List Ab)) (h : BU a = some r) : GN Tryz.prog 113 [.slice 3 (a.map Ay)] 76 3 (r.map Ay) := by
 refine fnN (enc := Ay) (fun _ => ⟨Z, Z⟩) Tryz.func113 Z Z 8 Z 2 Z [(0, .p (.slice 3 (a.map Ay)))] Z Z fun A hA => ?_
 unfold BU at h
 refine rs AA <| rl Z <| AB <| rs AA <| rn 1 Z <| sx Z (Jd h Z Z Z (fun d => ?_) (fun e => ?_))
 .refine rl Z <| Qs Z <| rs AA <| rl Z <| AF <| AG ?_
  cases d
  exact AAB Z
 refine rl Z <| SG Z <| AE <| AC <| rs AA <| rn 2 Z <| bq e fun f b c => sx Z (BX (enc := Ay) (l := ([] : List Ab)) (m := a) b (fun _ => ⟨Z, Z⟩) Z Z Z Z Z Z <| rl Z <| AF ?_)
 have hr := Option.some.inj c; subst hr
 exact erN Z Z Z
noncomputable def CT (a : Az) (b : AI) : Option Int :=
 bif (Ah a.reads b).isSome then some ((Ah a.reads b).getD 0) else some (-1)
theorem GC (a : Az) (b : AI) (r : Int) (h : CT a b = some r) : Aw Tryz.prog 43 [.place (Ap a) 0, .agg (AT b)] (· = .int .i64 r) := by
 refine fn AA Tryz.func43 Z Z 18 Z [.tmp 4] Z [(0, .p (.place (Ap a) 0)), (1, .p (.agg (AT b)))] Z Z fun A hA => ?_
 unfold CT at h
 refine rs AA <| rl Z <| AB <| AB ?_
 refine B0 AA mixed [0, 1, 2, 3, 4, 5, 6, 7, 8, 9, 10] 11 (by kernel_rfl) Z Z Z ?_
 refine Au 5 Z <| As Z (Aj Z (JD (et := 3) (ke := (fun x => .agg (AT x))) (ve := (.int .i64)) (mp := a.reads) (y := b) 0 CF Z Z Z Z <| BJ Z <| AC <| rs AA <| rl Z <| cd Z h (fun c => ?_) (fun d => ?_)))
 .refine rs AA <| rl Z <| AF <| AG ?_
  cases c
  exact er Z Le.rfl
 refine AE <| AC <| rs AA <| rl Z <| AF ?_
 cases d
 exact er Z Le.rfl
end Go.E
/- Plain functions, and walks in step with them. Written by a program (gen.py). No condition. -/
set_option maxRecDepth 100000
set_option maxHeartbeats 1000000
namespace Go.E
open Go Go.RowKit Go.Proofs
noncomputable def K4 (b : ((List Ab) × (List Int) × (List (List Bk)))) (d : (List Ab)) (a : Int × (List Al)) : Option ((Int × (List Al)) ⊕ ((List Ab) × (List Al))) :=
 bif decide (a.1 < (b.1.length : Int)) then (((AZ b.1 a.1).bind fun e => (AZ b.2.1 a.1).bind fun f => bif (f != 0) then (AZ b.2.1 a.1).bind fun g => (Br a.2 [(⟨e.elem, g⟩ : Al)]).bind fun h => some h else some a.2 : Option ((List Al)))).bind fun (c : (List Al)) => some (.inl (AO (a.1 + 1), c)) else some (.inr (d, a.2))
noncomputable def K5 (a : ((List An) × (List Ab) × (List Int) × (List (List Bk)))) (c : Bk) (d : Ab) (f : (List Ab)) (b : Int × (List Al)) : Option ((Int × (List Al)) ⊕ ((List Ab) × (List Al))) :=
 bif decide (b.1 < ((A6 a.2.1 (AO ((a.2.1.length : Int) - 1)) (⟨d.elem, d.in_, c.out⟩ : Ab)).length : Int)) then (((AZ (A6 a.2.1 (AO ((a.2.1.length : Int) - 1)) (⟨d.elem, d.in_, c.out⟩ : Ab)) b.1).bind fun g => (AZ (A6 a.2.2.1 (AO ((a.2.1.length : Int) - 1)) c.pos) b.1).bind fun h => bif (h != 0) then (AZ (A6 a.2.2.1 (AO ((a.2.1.length : Int) - 1)) c.pos) b.1).bind fun i => (Br b.2 [(⟨g.elem, i⟩ : Al)]).bind fun j => some j else some b.2 : Option ((List Al)))).bind fun (e : (List Al)) => some (.inl (AO (b.1 + 1), e)) else some (.inr (f, b.2))
noncomputable def K6 (a : ((List An) × (List Ab) × (List Int) × (List (List Bk)))) (c : Bk) (d : Ab) (f : (List Ab)) (b : Int × (List Al)) : Option ((Int × (List Al)) ⊕ ((List Ab) × (List Al))) :=
 bif decide (b.1 < ((A6 a.2.1 (AO ((a.2.1.length : Int) - 1)) (⟨d.elem, d.in_, c.out⟩ : Ab)).length : Int)) then (((AZ (A6 a.2.1 (AO ((a.2.1.length : Int) - 1)) (⟨d.elem, d.in_, c.out⟩ : Ab)) b.1).bind fun g => (AZ (A6 a.2.2.1 (AO ((a.2.1.length : Int) - 1)) c.pos) b.1).bind fun h => bif (h != 0) then (AZ (A6 a.2.2.1 (AO ((a.2.1.length : Int) - 1)) c.pos) b.1).bind fun i => (Br b.2 [(⟨g.elem, i⟩ : Al)]).bind fun j => some j else some b.2 : Option ((List Al)))).bind fun (e : (List Al)) => some (.inl (AO (b.1 + 1), e)) else some (.inr (f, b.2))
noncomputable def B8 (i : Az) (j : Int) (a : (List An) × (List Ab) × (List Int) × (List (List Bk))) : Option (((List An) × (List Ab) × (List Int) × (List (List Bk))) ⊕ ((Int × Int × (List An) × (List Ab) × (List Int) × (List (List Bk))) ⊕ (List An))) :=
 bif decide (0 < (a.2.1.length : Int)) then (AZ a.2.2.2 (AO ((a.2.1.length : Int) - 1))).bind fun n => bif ((n.length : Int) == 0) then (((LW a.2.1 0 (AO ((a.2.1.length : Int) - 1))).bind fun o => (LW a.2.2.1 0 (AO ((a.2.1.length : Int) - 1))).bind fun p => (LW a.2.2.2 0 (AO ((a.2.1.length : Int) - 1))).bind fun q => some (o, p, q) : Option ((List Ab) × (List Int) × (List (List Bk))))).bind fun (d : (List Ab) × (List Int) × (List (List Bk))) => some (.inl (a.1, d.1, d.2.1, d.2.2)) else (AZ a.2.2.2 (AO ((a.2.1.length : Int) - 1))).bind fun r => (AZ r 0).bind fun c => (AZ a.2.2.2 (AO ((a.2.1.length : Int) - 1))).bind fun k => (KE k 1 (k.length : Int)).bind fun e => (AZ a.2.2.2 (AO ((a.2.1.length : Int) - 1))).bind fun w => (AZ a.2.1 (AO ((a.2.1.length : Int) - 1))).bind fun b => (AZ a.2.2.1 (AO ((a.2.1.length : Int) - 1))).bind fun x => (AZ (A6 a.2.1 (AO ((a.2.1.length : Int) - 1)) (⟨b.elem, b.in_, c.out⟩ : Ab)) (AO ((a.2.1.length : Int) - 1))).bind fun l => (CT i (⟨l.elem, c.out⟩ : AI)).bind fun m => bif decide (0 <= m) then (((BU (A6 a.2.1 (AO ((a.2.1.length : Int) - 1)) (⟨b.elem, b.in_, c.out⟩ : Ab))).bind fun s => AU (K5 a c b s) (0, ([] : List Al)) : Option ((List Ab) × (List Al)))).bind fun (g : (List Ab) × (List Al)) => (Br a.1 ([(⟨j, m, 1, g.1, g.2, ([] : List Al), ([] : List Int), ([] : List Int), false⟩ : An)])).bind fun t => some (.inl (t, A6 a.2.1 (AO ((a.2.1.length : Int) - 1)) (⟨b.elem, b.in_, c.out⟩ : Ab), A6 a.2.2.1 (AO ((a.2.1.length : Int) - 1)) c.pos, A6 a.2.2.2 (AO ((a.2.1.length : Int) - 1)) e)) else (Bb i (⟨l.elem, c.out⟩ : AI)).bind fun f => bif (!f.2) then (((BU (A6 a.2.1 (AO ((a.2.1.length : Int) - 1)) (⟨b.elem, b.in_, c.out⟩ : Ab))).bind fun u => AU (K6 a c b u) (0, ([] : List Al)) : Option ((List Ab) × (List Al)))).bind fun (h : (List Ab) × (List Al)) => (Br a.1 ([(⟨j, (-1), 3, h.1, h.2, ([] : List Al), ([] : List Int), ([] : List Int), false⟩ : An)])).bind fun v => some (.inl (v, A6 a.2.1 (AO ((a.2.1.length : Int) - 1)) (⟨b.elem, b.in_, c.out⟩ : Ab), A6 a.2.2.1 (AO ((a.2.1.length : Int) - 1)) c.pos, A6 a.2.2.2 (AO ((a.2.1.length : Int) - 1)) e)) else some (.inr (.inl (f.1.elem, f.1.fin, a.1, A6 a.2.1 (AO ((a.2.1.length : Int) - 1)) (⟨b.elem, b.in_, c.out⟩ : Ab), A6 a.2.2.1 (AO ((a.2.1.length : Int) - 1)) c.pos, A6 a.2.2.2 (AO ((a.2.1.length : Int) - 1)) e))) else some (.inr (.inr a.1))
noncomputable def CI (d : Az) (f : Int) (o : (AI × Bool)) (a : Int × Int × (List An) × (List Ab) × (List Int) × (List (List Bk))) : Option ((Int × Int × (List An) × (List Ab) × (List Int) × (List (List Bk))) ⊕ (List An)) :=
 (((EV (⟨o.1.elem, a.2.2.2.1, a.2.2.2.2.1, a.2.2.2.2.2⟩ : Na) a.1).bind fun g => bif g then (((Br a.2.2.2.1 [(⟨a.1, a.2.1, (-1)⟩ : Ab)]).bind fun h => (Br a.2.2.2.2.1 [0]).bind fun i => (Dx d a.1 a.2.1).bind fun j => (Br a.2.2.2.2.2 [j]).bind fun k => some (h, i, k) : Option ((List Ab) × (List Int) × (List (List Bk))))).bind fun (b : (List Ab) × (List Int) × (List (List Bk))) => (BR d a.1).bind fun l => bif (l == 4) then (((BU b.1).bind fun m => AU (K4 b m) (0, ([] : List Al)) : Option ((List Ab) × (List Al)))).bind fun (e : (List Ab) × (List Al)) => (Br a.2.2.1 ([(⟨f, (-1), 2, e.1, e.2, ([] : List Al), ([] : List Int), ([] : List Int), false⟩ : An)])).bind fun n => some (n, b.1, b.2.1, b.2.2) else some (a.2.2.1, b.1, b.2.1, b.2.2) else some (a.2.2.1, a.2.2.2.1, a.2.2.2.2.1, a.2.2.2.2.2) : Option ((List An) × (List Ab) × (List Int) × (List (List Bk))))).bind fun (c : (List An) × (List Ab) × (List Int) × (List (List Bk))) => AU (B8 d f) (c.1, c.2.1, c.2.2.1, c.2.2.2)
noncomputable def Jp (a : Az) (d : Int) : Option (List An) :=
 (CW a d).bind fun c => bif (!c.2) then some [] else (Bb a c.1).bind fun b => bif (!b.2) then some [] else AU (CI a d c) (b.1.elem, b.1.fin, ([] : List An), ([] : List Ab), ([] : List Int), ([] : List (List Bk)))
theorem Xd (t : Az) (g : Int) (r : (List An)) (h : Jp t g = some r) : Aw Tryz.prog 112 [.place (Ap t) 0, .int .i64 g] (· = .slice 9 (r.map BK)) := by
 refine fn AA Tryz.func112 Z Z 157 Z [.tmp 4] Z [(0, .p (.place (Ap t) 0)), (1, .p (.int .i64 g))] Z Z fun A hA => ?_
 unfold Jp at h
 refine rs AA <| rl Z <| sc <| rs AA <| rn 2 Z <| bq h fun j bu ef => sx Z (AM (GX _ _ _ bu) (.inl Z) Z Z Z <| rl Z <| AB <| rs AA <| rl Z <| cd Z ef (fun eg => ?_) (fun eh => ?_))
 .refine rs AA <| rl Z <| AF <| AG <| IE ?_
  cases eg
  exact er Z (Le.nil _)
 refine AE <| AC <| rs AA <| rn 2 Z <| bq eh fun e2 a8 bv => sx Z (AM (CB _ _ _ a8) (.inl Z) Z Z Z <| rl Z <| AB <| rs AA <| rl Z <| cd Z bv (fun bw => ?_) (fun bx => ?_))
 .refine rs AA <| rl Z <| AF <| AG <| IE ?_
  cases bw
  exact er Z (Le.nil _)
 refine AE <| AC <| rs AA <| rl Z <| rs AA <| rl Z <| AB <| JQ <| AC <| AB <| AH ?_
 apply lp (a := r) (fun d : (Int × Int × (List An) × (List Ab) × (List Int) × (List (List Bk))) => ⟨157, [(0, lq (Ap t)), (1, li g), (7, .lpb 0 0), (8, .lsl 1 9 0 d.2.2.1.length), (9, .lpb 2 0)], [(0, .box [li d.1, li d.2.1]), (1, .row 72 9 (d.2.2.1.map BK)), (2, .box [li j.1.elem, .lsl 3 3 0 d.2.2.2.1.length, .lsl 4 1 0 d.2.2.2.2.1.length, .lsl 5 1 0 d.2.2.2.2.2.length]), (3, .row 76 3 (d.2.2.2.1.map Ay)), (4, .row 3 1 (d.2.2.2.2.1.map Ae)), (5, .row 215 1 (d.2.2.2.2.2.map (DQ 2 DZ)))], 6⟩) bx
 . exact A7.trans (Cc 8 72 9 Z) (A7.trans (CK 2 1 76 3 Z Z Z Z) (A7.trans (CK 2 2 3 1 Z Z Z Z) (A7.trans (CK 2 3 215 1 Z Z Z Z) (wf hA [(0, 1), (1, 3), (2, 2), (3, 4), (4, 5), (5, 6)] Z Z Z))))
 intro d a7 a2
 unfold CI at a2
 refine AH <| sc <| jb (fun k : ((List An) × (List Ab) × (List Int) × (List (List Bk))) => ⟨157, [(0, lq (Ap t)), (1, li g), (7, .lpb 0 0), (8, .lsl 1 9 0 k.1.length), (9, .lpb 2 0)], [(0, .box [li d.1, li d.2.1]), (1, .row 72 9 (k.1.map BK)), (2, .box [li j.1.elem, .lsl 3 3 0 k.2.1.length, .lsl 4 1 0 k.2.2.1.length, .lsl 5 1 0 k.2.2.2.length]), (3, .row 76 3 (k.2.1.map Ay)), (4, .row 3 1 (k.2.2.1.map Ae)), (5, .row 215 1 (k.2.2.2.map (DQ 2 DZ)))], 6⟩) a2 (fun k bz => ?_) (fun k cs => ?_)
 .refine rs AA <| rn 3 Z <| bq bz fun e3 a9 b0 => sx Z (AM (RC _ _ _ a9) (.inl Z) Z Z (Da.eq (.cons (.box Z (.cons (.p _) (.cons (.own (enc := Ay) d.2.2.2.1 Z Z) (.cons (.own (enc := Ae) d.2.2.2.2.1 Z Z) (.cons (.own (enc := (DQ 2 DZ)) d.2.2.2.2.2 Z Z) .nil))))) (.cons (.one (.p _)) .nil))) <| rl Z <| cd Z b0 (fun b1 => ?_) (fun cr => ?_))
  .refine rs AA <| rn 3 Z <| sx Z (CP AA (fun f : ((List Ab) × (List Int) × (List (List Bk))) => .tup []) (fun f : ((List Ab) × (List Int) × (List (List Bk))) => [(0, .box [li d.1, li d.2.1]), (1, .row 72 9 (d.2.2.1.map BK)), (2, .box [li j.1.elem, .lsl 6 3 0 f.1.length, .lsl 7 1 0 f.2.1.length, .lsl 8 1 0 f.2.2.length]), (6, .row 76 3 (f.1.map Ay)), (7, .row 3 1 (f.2.1.map Ae)), (8, .row 215 1 (f.2.2.map (DQ 2 DZ)))]) 9 b1 Tryz.func147 44 [] [(0, .lpb 2 0), (1, lq (Ap t)), (2, .p (.agg [.int .i64 d.1, .int .i64 d.2.1]))] Z Z Z Z Z Z Z Z (fun A hA f b2 => ?_) (fun f b7 => ?_))
   .refine rs AA <| rl Z <| AB ?_
    refine B0 AA mixed [0, 1, 2, 3, 4, 5, 6, 7, 8, 9, 10, 11, 12, 13, 14] 15 (by kernel_rfl) Z Z Z ?_
    refine Au 11 Z <| bq b2 fun e4 ba b3 => As Z (It Z (BX (enc := Ay) (l := d.2.2.2.1) (m := [(⟨d.1, d.2.1, (-1)⟩ : Ab)]) ba (fun _ => ⟨Z, Z⟩) Z Z Z Z Z Z <| BJ Z <| AC <| rs AA <| rn 6 Z <| bq b3 fun e5 bb b4 => sx Z (BX (enc := Ae) (l := d.2.2.2.2.1) (m := [0]) bb (fun _ => ⟨Z, Z⟩) Z Z Z Z Z Z <| rl Z ?_)))
    refine B0 AA mixed [0, 1, 2, 3, 4, 5, 6, 7, 8, 9, 10, 11, 12, 13, 14, 15] 16 (by kernel_rfl) Z Z Z ?_
    refine Au 10 Z <| bq b4 fun ei bc b5 => As Z (A5 (Mm _ _ _ _ bc) (.inr Z) Z Z Z <| Au 1 Z <| bq b5 fun e6 be b6 => As Z (It Z (BX (enc := (DQ 2 DZ)) (l := d.2.2.2.2.2) (m := [ei]) be (fun _ => ⟨Z, Z⟩) Z Z Z Z Z Z <| BJ Z ?_)))
    cases b6
    exact LR (nt := 44) (sl := []) (wj hA (gi 6 [(6, 18), (7, 23), (8, 36)]) Z Z Z Z) Z
   refine rl Z <| rs AA <| rn 3 Z <| bq b7 fun e7 bf b8 => sx Z (AM (Bo _ _ _ bf) (.inl Z) Z Z Z <| rl Z <| cd Z b8 (fun b9 => ?_) (fun cq => ?_))
   .refine rg AA <| rn 3 Z <| sx Z (CP AA (fun n : ((List Ab) × (List Al)) => .p (.agg [.int .i64 g, .int .i64 (-1), .int .i64 2, .slice 3 (n.1.map Ay), .slice 2 (n.2.map A0), .slice 2 (([] : List Al).map A0), .slice 1 (([] : List Int).map Ae), .slice 1 (([] : List Int).map Ae), .bool false])) (fun n : ((List Ab) × (List Al)) => [(0, .box [li d.1, li d.2.1]), (1, .row 72 9 (d.2.2.1.map BK)), (2, .box [li j.1.elem, .lsl 6 3 0 f.1.length, .lsl 7 1 0 f.2.1.length, .lsl 8 1 0 f.2.2.length]), (6, .row 76 3 (f.1.map Ay)), (7, .row 3 1 (f.2.1.map Ae)), (8, .row 215 1 (f.2.2.map (DQ 2 DZ))), (9, .box [li g, li (-1), li 2, ls 3 Ay n.1, ls 2 A0 n.2, ls 2 A0 ([] : List Al), ls 1 Ae ([] : List Int), ls 1 Ae ([] : List Int), lb false])]) 10 b9 Tryz.func148 56 [.cell 8 72] [(0, .lpb 2 0), (1, li g), (2, li (-1)), (3, li 2)] Z Z Z Z Z Z Z Z (fun A hA n ca => ?_) (fun n co => ?_))
    .refine rs AA <| rl Z <| rs AA <| rn 7 Z <| bq ca fun ab bg cb => sx Z (NW (EF _ _ bg) (fun _ => Z) Z Z (Da.eq (.cons (.one (.own (enc := Ay) f.1 Z Z)) .nil)) <| rl Z <| AB <| rs AA <| rl Z <| AH ?_)
     apply lp (a := n) (fun u : (Int × (List Al)) => ⟨56, [(0, .lpb 2 0), (8, .lpb 9 0), (9, .lpb 10 0), (24, .lsl 6 3 0 f.1.length), (25, li (f.1.length : Int)), (26, li u.1)], [(0, .box [li d.1, li d.2.1]), (1, .row 72 9 (d.2.2.1.map BK)), (2, .box [li j.1.elem, .lsl 6 3 0 f.1.length, .lsl 7 1 0 f.2.1.length, .lsl 8 1 0 f.2.2.length]), (6, .row 76 3 (f.1.map Ay)), (7, .row 3 1 (f.2.1.map Ae)), (8, .row 215 1 (f.2.2.map (DQ 2 DZ))), (9, .box [li 0, li 0, li 0, .p (.nils), .p (.nils), .p (.nils), .p (.nils), .p (.nils), lb false]), (10, .box [li g, li (-1), li 2, .lsl 11 3 0 ab.length, .lsl 12 2 0 u.2.length, .p (.nils), .p (.nils), .p (.nils), lb false]), (11, .row 76 3 (ab.map Ay)), (12, .row 185 2 (u.2.map A0))], 13⟩) cb
     . exact A7.trans (CK 11 4 185 2 Z Z Z Z) (wj hA (gi 10 [(10, 11), (11, 10), (12, 12)]) Z Z Z Z)
     intro u ey a3
     unfold K4 at a3
     refine rs AA <| rl Z <| AB <| cd Z a3 (fun cc => ?_) (fun cm => ?_)
     .refine AE <| AC <| jb (fun af : (List Al) => ⟨56, [(0, .lpb 2 0), (8, .lpb 9 0), (9, .lpb 10 0), (24, .lsl 6 3 0 f.1.length), (25, li (f.1.length : Int)), (26, li u.1)], [(0, .box [li d.1, li d.2.1]), (1, .row 72 9 (d.2.2.1.map BK)), (2, .box [li j.1.elem, .lsl 6 3 0 f.1.length, .lsl 7 1 0 f.2.1.length, .lsl 8 1 0 f.2.2.length]), (6, .row 76 3 (f.1.map Ay)), (7, .row 3 1 (f.2.1.map Ae)), (8, .row 215 1 (f.2.2.map (DQ 2 DZ))), (9, .box [li 0, li 0, li 0, .p (.nils), .p (.nils), .p (.nils), .p (.nils), .p (.nils), lb false]), (10, .box [li g, li (-1), li 2, .lsl 11 3 0 ab.length, .lsl 12 2 0 af.length, .p (.nils), .p (.nils), .p (.nils), lb false]), (11, .row 76 3 (ab.map Ay)), (12, .row 185 2 (af.map A0))], 13⟩) cc (fun af ce => ?_) (fun af cl => ?_)
      .refine AH <| rs AA <| rn 1 Z <| bq ce fun ej aj cf => sx Z (Bt aj Z Z Z Z <| sx Z (C0 aj Z Z Z <| rl Z <| rs AA <| rn 5 Z <| bq cf fun e8 ak cg => sx Z (Bt ak Z Z Z Z <| sx Z (C0 ak Z Z Z <| rl Z <| cd Z cg (fun ch => ?_) (fun ck => ?_)))))
       .refine B0 AA mixed [0, 1, 2, 3, 4, 5, 6, 7, 8, 9, 10, 11, 12, 13, 14, 15] 16 (by kernel_rfl) Z Z Z ?_
        exact Au 9 Z <| bq ch fun ek al ci => As Z (Aj Z (Bt al Z Z Z Z <| As Z (GR Z (C0 al Z Z Z <| Au 2 Z <| bq ci fun e9 bh cj => As Z (It Z (BX (enc := A0) (l := u.2) (m := [(⟨ej.elem, ek⟩ : Al)]) bh (fun _ => ⟨Z, Z⟩) Z Z Z Z Z Z <| BJ Z <| Ad <| AL cj (wj hA (gi 12 [(12, 27)]) Z Z Z Z)))))))
       exact AE <| Ad <| AL ck (wj hA (gi 13 []) Z Z Z Z)
      exact rg AA <| rl Z <| Ar cl (wj hA (gi 13 []) Z Z Z Z)
     refine AV <| AX <| BI cm fun es cn => Am <| AC <| rs AA <| rl Z <| AF ?_
     cases cn
     exact CS (nt := 56) (sl := [(8, .lpb 9 0)]) (A7.trans (Iz 11 (Mn (enc := Ay) (l := ab) Z) (.cons 8 (.same _) .nil) (.cons 0 Z Z (.same _) (.cons 1 Z Z (.same _) (.cons 2 Z Z (.same _) (.cons 6 Z Z (.same _) (.cons 7 Z Z (.same _) (.cons 8 Z Z (.same _) (.cons 9 Z Z (.box (.cons (.same _) (.cons (.same _) (.cons (.same _) (.cons .hit (.cons (.same _) (.cons (.same _) (.cons (.same _) (.cons (.same _) (.cons (.same _) .nil)))))))))) (.cons 10 Z Z (.box (.cons (.same _) (.cons (.same _) (.cons (.same _) (.cons .hit (.cons (.same _) (.cons (.same _) (.cons (.same _) (.cons (.same _) (.cons (.same _) .nil)))))))))) (.cons 12 Z Z (.same _) .nil)))))))))) (A7.trans (Iz 12 (Mn (enc := A0) (l := u.2) Z) (.cons 8 (.same _) .nil) (.cons 0 Z Z (.same _) (.cons 1 Z Z (.same _) (.cons 2 Z Z (.same _) (.cons 6 Z Z (.same _) (.cons 7 Z Z (.same _) (.cons 8 Z Z (.same _) (.cons 9 Z Z (.box (.cons (.same _) (.cons (.same _) (.cons (.same _) (.cons (.same _) (.cons .hit (.cons (.same _) (.cons (.same _) (.cons (.same _) (.cons (.same _) .nil)))))))))) (.cons 10 Z Z (.box (.cons (.same _) (.cons (.same _) (.cons (.same _) (.cons (.same _) (.cons .hit (.cons (.same _) (.cons (.same _) (.cons (.same _) (.cons (.same _) .nil)))))))))) .nil))))))))) (A7.trans (EW (.cons 8 (.same _) .nil) (.cons 0 Z Z (.same _) (.cons 1 Z Z (.same _) (.cons 2 Z Z (.same _) (.cons 6 Z Z (.same _) (.cons 7 Z Z (.same _) (.cons 8 Z Z (.same _) (.cons 9 Z Z (.box (.cons (.same _) (.cons (.same _) (.cons (.same _) (.cons (.same _) (.cons (.same _) (.cons (.nil 2) (.cons (.same _) (.cons (.same _) (.cons (.same _) .nil)))))))))) (.cons 10 Z Z (.same _) .nil))))))))) (A7.trans (EW (.cons 8 (.same _) .nil) (.cons 0 Z Z (.same _) (.cons 1 Z Z (.same _) (.cons 2 Z Z (.same _) (.cons 6 Z Z (.same _) (.cons 7 Z Z (.same _) (.cons 8 Z Z (.same _) (.cons 9 Z Z (.box (.cons (.same _) (.cons (.same _) (.cons (.same _) (.cons (.same _) (.cons (.same _) (.cons (.same _) (.cons (.nil 1) (.cons (.same _) (.cons (.same _) .nil)))))))))) (.cons 10 Z Z (.same _) .nil))))))))) (A7.trans (EW (.cons 8 (.same _) .nil) (.cons 0 Z Z (.same _) (.cons 1 Z Z (.same _) (.cons 2 Z Z (.same _) (.cons 6 Z Z (.same _) (.cons 7 Z Z (.same _) (.cons 8 Z Z (.same _) (.cons 9 Z Z (.box (.cons (.same _) (.cons (.same _) (.cons (.same _) (.cons (.same _) (.cons (.same _) (.cons (.same _) (.cons (.same _) (.cons (.nil 1) (.cons (.same _) .nil)))))))))) (.cons 10 Z Z (.same _) .nil))))))))) (wj hA (gi 10 []) Z Z Z Z)))))) Z
    exact rn 1 Z <| bq co fun fa bi cp => sx Z (BX (enc := BK) (l := d.2.2.1) (m := [(⟨g, (-1), 2, n.1, n.2, ([] : List Al), ([] : List Int), ([] : List Int), false⟩ : An)]) bi (fun _ => ⟨Z, Z⟩) Z Z Z Z Z Z <| rl Z <| AL cp (wf hA [(0, 0), (1, 11), (2, 2), (3, 6), (4, 7), (5, 8)] Z Z Z))
   exact AE <| AL cq (wf hA (gi 3 [(3, 6), (4, 7), (5, 8)]) Z Z Z)
  exact AE <| AL cr (wf hA (gi 6 []) Z Z Z)
 refine AB <| JQ <| AC <| AB <| AH ?_
 apply lp (a := a7) (fun b : ((List An) × (List Ab) × (List Int) × (List (List Bk))) => ⟨157, [(0, lq (Ap t)), (1, li g), (7, .lpb 0 0), (8, .lsl 1 9 0 b.1.length), (9, .lpb 2 0)], [(0, .box [li d.1, li d.2.1]), (1, .row 72 9 (b.1.map BK)), (2, .box [li j.1.elem, .lsl 3 3 0 b.2.1.length, .lsl 4 1 0 b.2.2.1.length, .lsl 5 1 0 b.2.2.2.length]), (3, .row 76 3 (b.2.1.map Ay)), (4, .row 3 1 (b.2.2.1.map Ae)), (5, .row 215 1 (b.2.2.2.map (DQ 2 DZ)))], 6⟩) cs
 . exact wf hA (gi 6 []) Z Z Z
 intro b ez a4
 unfold B8 at a4
 refine AB <| rs AA <| rl Z <| cd Z a4 (fun ct => ?_) (fun ec => ?_)
 .refine AE <| AC <| AH <| rs AA <| rl Z <| AB <| rs AA <| rn 5 Z <| bq ct fun fb am cu => sx Z (Bt am Z Z Z Z <| sx Z (C0 am Z Z Z <| sx Z (Ac Z Z <| rl Z <| cd Z cu (fun cv => ?_) (fun c1 => ?_))))
  .refine rs AA <| rn 1 Z <| sx Z (CP AA (fun s : ((List Ab) × (List Int) × (List (List Bk))) => .tup []) (fun s : ((List Ab) × (List Int) × (List (List Bk))) => [(0, .box [li d.1, li d.2.1]), (1, .row 72 9 (b.1.map BK)), (2, .box [li j.1.elem, .lsl 3 3 0 s.1.length, .lsl 4 1 0 s.2.1.length, .lsl 5 1 0 s.2.2.length]), (3, .row 76 3 (s.1.map Ay)), (4, .row 3 1 (s.2.1.map Ae)), (5, .row 215 1 (s.2.2.map (DQ 2 DZ)))]) 6 cv Tryz.func149 36 [] [(0, .lpb 2 0)] Z Z Z Z Z Z Z Z (fun A hA s cw => ?_) (fun s c0 => ?_))
   .refine rs AA <| rl Z ?_
    refine B0 AA mixed [0, 1, 2, 3, 4, 5, 6, 7, 8, 9, 10, 11, 12, 13, 14, 15, 16, 17, 18, 19, 20, 21, 22, 23, 24, 25, 26, 27, 28, 29] 30 (by kernel_rfl) Z Z Z ?_
    refine Au 8 Z <| bq cw fun fc an cx => As Z (Aj Z (Q6 (l := b.2.1) an Z Z Z Z <| Au 5 Z <| bq cx fun fd ao cy => As Z (Aj Z (Q6 (l := b.2.2.1) ao Z Z Z Z <| Au 5 Z <| bq cy fun fe ap cz => As Z (Aj Z (Q6 (l := b.2.2.2) ap Z Z Z Z <| BJ Z ?_))))))
    cases cz
    exact LR (nt := 36) (sl := []) (A7.trans (Iw 3 an Z Z) (A7.trans (Iw 4 ao Z Z) (A7.trans (Iw 5 ap Z Z) (wj hA (gi 6 []) Z Z Z Z)))) Z
   exact rl Z <| AV <| AX <| Am <| Ar c0 (wf hA (gi 6 []) Z Z Z)
  refine AE <| AC <| rs AA <| rn 5 Z <| bq c1 fun ff aq c2 => sx Z (Bt aq Z Z Z Z <| sx Z (C0 aq Z Z Z <| bq c2 fun c bj c3 => sx Z (Aa bj Z Z Z <| rl Z <| AB ?_)))
  refine B0 AA mixed [0, 1, 2, 3, 4, 5, 6, 7, 8, 9, 10, 11, 12, 13, 14] 15 (by kernel_rfl) Z Z Z ?_
  refine Au 10 Z <| bq c3 fun fg ar c4 => As Z (Aj Z (Bt ar Z Z Z Z <| As Z (GR Z (C0 ar Z Z Z <| bq c4 fun i bk c5 => As Z (Aj Z (TA bk Z Z Z Z <| bq c5 fun fh au c6 => As Z (Aj Z (Bt au Z Z Z Z <| As Z (MR Z (LO (z := i) au Z Z Z Z Z Z Z Z <| BJ Z <| AC <| AB <| bq c6 fun e ai c7 => bq c7 fun fi ae c8 => ?_))))))))))
  refine ABa AA mixed (.picks [0, 1, 2, 3, 4, 5, 6, 7, 8, 9, 10, 11, 12, 14, 15] (.alt 13 [16, 17, 18] .done (.alt 16 [13, 17, 18] .done .nil))) 19 ⟨157, [(0, lq (Ap t)), (1, li g), (7, .lpb 0 0), (8, .lsl 1 9 0 b.1.length), (9, .lpb 2 0), (10, li (AO ((b.2.1.length : Int) - 1))), (11, .lpb 3 0)], [(0, .box [li d.1, li d.2.1]), (1, .row 72 9 (b.1.map BK)), (2, .box [li j.1.elem, .lsl 4 3 0 (A6 b.2.1 (AO ((b.2.1.length : Int) - 1)) (⟨e.elem, e.in_, c.out⟩ : Ab)).length, .lsl 5 1 0 (A6 b.2.2.1 (AO ((b.2.1.length : Int) - 1)) c.pos).length, .lsl 6 1 0 (A6 b.2.2.2 (AO ((b.2.1.length : Int) - 1)) i).length]), (3, .box [li c.out, li c.pos]), (4, .row 76 3 ((A6 b.2.1 (AO ((b.2.1.length : Int) - 1)) (⟨e.elem, e.in_, c.out⟩ : Ab)).map Ay)), (5, .row 3 1 ((A6 b.2.2.1 (AO ((b.2.1.length : Int) - 1)) c.pos).map Ae)), (6, .row 215 1 ((A6 b.2.2.2 (AO ((b.2.1.length : Int) - 1)) i).map (DQ 2 DZ)))], 7⟩ (by kernel_rfl) Z ?_ ?_
  .refine AA6 <| Au 13 Z <| As Z (Aj Z (Bt ai Z Z Z Z <| BJ Z <| Y5 ?_ ?_))
   .exact Au 1 Z <| As Z (MR Z (LO (z := (⟨e.elem, e.in_, c.out⟩ : Ab)) ai Z Z Z Z Z Z Z Z <| As Z (Aj Z (Bt ae Z Z Z Z <| As Z (MR Z (LO (z := c.pos) ae Z Z Z Z Z Z Z Z <| BJ Z <| Y6 (wk (gi 3 [(3, 6), (4, 3), (5, 4), (6, 5)]) (free hA _) Z Z Z (.cons Z (.cons Z (.cons Z (.cons Z (.cons Z (.cons Z (.cons Z .nil))))))) (.cons Z Z (.cons Z Z (.cons Z (by simp only [BH]; rfl) (.cons Z Z (.cons Z Z (.cons Z Z (.cons Z Z .nil))))))))))))))
   refine Y5 ?_ ?_
   .exact As Z (MR Z (LO (z := (⟨e.elem, e.in_, c.out⟩ : Ab)) ai Z Z Z Z Z Z Z Z <| Au 1 Z <| As Z (Aj Z (Bt ae Z Z Z Z <| As Z (MR Z (LO (z := c.pos) ae Z Z Z Z Z Z Z Z <| BJ Z <| Y6 (wk (gi 3 [(3, 6), (4, 3), (5, 4), (6, 5)]) (free hA _) Z Z Z (.cons Z (.cons Z (.cons Z (.cons Z (.cons Z (.cons Z (.cons Z .nil))))))) (.cons Z Z (.cons Z Z (.cons Z (by simp only [BH]; rfl) (.cons Z Z (.cons Z Z (.cons Z Z (.cons Z Z .nil))))))))))))))
   exact AA7
  refine AC <| AB ?_
  refine B0 AA mixed [0, 1, 2, 3, 4, 5, 6, 7, 8, 9, 10, 11, 12] 13 (by kernel_rfl) Z Z Z ?_
  refine Au 5 Z <| bq c8 fun x av c9 => As Z (Aj Z (Bt av Z Z Z (by simp only [BH]) <| Au 1 Z <| As Z (GR Z (C0 av Z Z Z <| BJ Z <| AC <| AB <| rs AA <| rn 2 Z <| bq c9 fun y bl da => sx Z (AM (GC _ _ _ bl) (.inl Z) Z Z Z <| rl Z <| rs AA <| rl Z <| cd Z da (fun db => ?_) (fun ds => ?_))))))
  .refine rs AA <| rn 4 Z <| sx Z (CP AA (fun o : ((List Ab) × (List Al)) => .p (.agg [.int .i64 g, .int .i64 y, .int .i64 1, .slice 3 (o.1.map Ay), .slice 2 (o.2.map A0), .slice 2 (([] : List Al).map A0), .slice 1 (([] : List Int).map Ae), .slice 1 (([] : List Int).map Ae), .bool false])) (fun o : ((List Ab) × (List Al)) => [(0, .box [li d.1, li d.2.1]), (1, .row 72 9 (b.1.map BK)), (2, .box [li j.1.elem, .lsl 4 3 0 (A6 b.2.1 (AO ((b.2.1.length : Int) - 1)) (⟨e.elem, e.in_, c.out⟩ : Ab)).length, .lsl 5 1 0 (A6 b.2.2.1 (AO ((b.2.1.length : Int) - 1)) c.pos).length, .lsl 6 1 0 (A6 b.2.2.2 (AO ((b.2.1.length : Int) - 1)) i).length]), (3, .box [li c.out, li c.pos]), (4, .row 76 3 ((A6 b.2.1 (AO ((b.2.1.length : Int) - 1)) (⟨e.elem, e.in_, c.out⟩ : Ab)).map Ay)), (5, .row 3 1 ((A6 b.2.2.1 (AO ((b.2.1.length : Int) - 1)) c.pos).map Ae)), (6, .row 215 1 ((A6 b.2.2.2 (AO ((b.2.1.length : Int) - 1)) i).map (DQ 2 DZ))), (18, .box [li x.elem, li c.out]), (20, .box [li g, li y, li 1, ls 3 Ay o.1, ls 2 A0 o.2, ls 2 A0 ([] : List Al), ls 1 Ae ([] : List Int), ls 1 Ae ([] : List Int), lb false])]) 21 db Tryz.func148 56 [.cell 8 72] [(0, .lpb 2 0), (1, li g), (2, li y), (3, li 1)] Z Z Z Z Z Z Z Z (fun A hA o dc => ?_) (fun o dq => ?_))
   .refine rs AA <| rl Z <| rs AA <| rn 7 Z <| bq dc fun ac bm dd => sx Z (NW (EF _ _ bm) (fun _ => Z) Z Z (Da.eq (.cons (.one (.own (enc := Ay) (A6 b.2.1 (AO ((b.2.1.length : Int) - 1)) (⟨e.elem, e.in_, c.out⟩ : Ab)) Z (by simp only [BH]))) .nil)) <| rl Z <| AB <| rs AA <| rl Z <| AH ?_)
    apply lp (a := o) (fun v : (Int × (List Al)) => ⟨56, [(0, .lpb 2 0), (8, .lpb 20 0), (9, .lpb 21 0), (24, .lsl 4 3 0 (A6 b.2.1 (AO ((b.2.1.length : Int) - 1)) (⟨e.elem, e.in_, c.out⟩ : Ab)).length), (25, li ((A6 b.2.1 (AO ((b.2.1.length : Int) - 1)) (⟨e.elem, e.in_, c.out⟩ : Ab)).length : Int)), (26, li v.1)], [(0, .box [li d.1, li d.2.1]), (1, .row 72 9 (b.1.map BK)), (2, .box [li j.1.elem, .lsl 4 3 0 (A6 b.2.1 (AO ((b.2.1.length : Int) - 1)) (⟨e.elem, e.in_, c.out⟩ : Ab)).length, .lsl 5 1 0 (A6 b.2.2.1 (AO ((b.2.1.length : Int) - 1)) c.pos).length, .lsl 6 1 0 (A6 b.2.2.2 (AO ((b.2.1.length : Int) - 1)) i).length]), (3, .box [li c.out, li c.pos]), (4, .row 76 3 ((A6 b.2.1 (AO ((b.2.1.length : Int) - 1)) (⟨e.elem, e.in_, c.out⟩ : Ab)).map Ay)), (5, .row 3 1 ((A6 b.2.2.1 (AO ((b.2.1.length : Int) - 1)) c.pos).map Ae)), (6, .row 215 1 ((A6 b.2.2.2 (AO ((b.2.1.length : Int) - 1)) i).map (DQ 2 DZ))), (18, .box [li x.elem, li c.out]), (20, .box [li 0, li 0, li 0, .p (.nils), .p (.nils), .p (.nils), .p (.nils), .p (.nils), lb false]), (21, .box [li g, li y, li 1, .lsl 22 3 0 ac.length, .lsl 23 2 0 v.2.length, .p (.nils), .p (.nils), .p (.nils), lb false]), (22, .row 76 3 (ac.map Ay)), (23, .row 185 2 (v.2.map A0))], 24⟩) dd
    . exact A7.trans (CK 22 4 185 2 Z Z Z Z) (wk (gi 21 [(21, 22), (22, 21), (23, 23)]) (J0 hA _ Z) Z Z Z (.cons Z (.cons Z (.cons Z (.cons (by simp only [BH]; rfl) (.cons Z (.cons Z .nil)))))) (.cons Z Z (.cons Z Z (.cons Z (by simp only [BH]; rfl) (.cons Z Z (.cons Z Z (.cons Z Z (.cons Z Z (.cons Z Z (.cons Z Z (.cons Z Z (.cons Z Z (.cons Z Z .nil)))))))))))))
    intro v e0 a5
    unfold K5 at a5
    refine rs AA <| rl Z <| AB <| cd Z a5 (fun de => ?_) (fun dn => ?_)
    .refine AE <| AC <| jb (fun ag : (List Al) => ⟨56, [(0, .lpb 2 0), (8, .lpb 20 0), (9, .lpb 21 0), (24, .lsl 4 3 0 (A6 b.2.1 (AO ((b.2.1.length : Int) - 1)) (⟨e.elem, e.in_, c.out⟩ : Ab)).length), (25, li ((A6 b.2.1 (AO ((b.2.1.length : Int) - 1)) (⟨e.elem, e.in_, c.out⟩ : Ab)).length : Int)), (26, li v.1)], [(0, .box [li d.1, li d.2.1]), (1, .row 72 9 (b.1.map BK)), (2, .box [li j.1.elem, .lsl 4 3 0 (A6 b.2.1 (AO ((b.2.1.length : Int) - 1)) (⟨e.elem, e.in_, c.out⟩ : Ab)).length, .lsl 5 1 0 (A6 b.2.2.1 (AO ((b.2.1.length : Int) - 1)) c.pos).length, .lsl 6 1 0 (A6 b.2.2.2 (AO ((b.2.1.length : Int) - 1)) i).length]), (3, .box [li c.out, li c.pos]), (4, .row 76 3 ((A6 b.2.1 (AO ((b.2.1.length : Int) - 1)) (⟨e.elem, e.in_, c.out⟩ : Ab)).map Ay)), (5, .row 3 1 ((A6 b.2.2.1 (AO ((b.2.1.length : Int) - 1)) c.pos).map Ae)), (6, .row 215 1 ((A6 b.2.2.2 (AO ((b.2.1.length : Int) - 1)) i).map (DQ 2 DZ))), (18, .box [li x.elem, li c.out]), (20, .box [li 0, li 0, li 0, .p (.nils), .p (.nils), .p (.nils), .p (.nils), .p (.nils), lb false]), (21, .box [li g, li y, li 1, .lsl 22 3 0 ac.length, .lsl 23 2 0 ag.length, .p (.nils), .p (.nils), .p (.nils), lb false]), (22, .row 76 3 (ac.map Ay)), (23, .row 185 2 (ag.map A0))], 24⟩) de (fun ag df => ?_) (fun ag dm => ?_)
     .refine AH <| rs AA <| rn 1 Z <| bq df fun el aw dg => sx Z (Bt aw Z Z Z (by simp only [BH]) <| sx Z (C0 aw Z Z Z <| rl Z <| rs AA <| rn 5 Z <| bq dg fun fj ax dh => sx Z (Bt ax Z Z Z (by simp only [BH]) <| sx Z (C0 ax Z Z Z <| rl Z <| cd Z dh (fun di => ?_) (fun dl => ?_)))))
      .refine B0 AA mixed [0, 1, 2, 3, 4, 5, 6, 7, 8, 9, 10, 11, 12, 13, 14, 15] 16 (by kernel_rfl) Z Z Z ?_
       exact Au 9 Z <| bq di fun em ay dj => As Z (Aj Z (Bt ay Z Z Z (by simp only [BH]) <| As Z (GR Z (C0 ay Z Z Z <| Au 2 Z <| bq dj fun fk bn dk => As Z (It Z (BX (enc := A0) (l := v.2) (m := [(⟨el.elem, em⟩ : Al)]) bn (fun _ => ⟨Z, Z⟩) Z Z Z Z Z Z <| BJ Z <| Ad <| AL dk (wk (gi 23 [(23, 38)]) (J0 hA _ Z) Z Z Z (.cons Z (.cons Z (.cons Z (.cons (by simp only [BH]; rfl) (.cons Z (.cons Z .nil)))))) (.cons Z Z (.cons Z Z (.cons Z (by simp only [BH]; rfl) (.cons Z Z (.cons Z Z (.cons Z Z (.cons Z Z (.cons Z Z (.cons Z Z (.cons Z Z (.cons Z Z (.cons Z Z .nil)))))))))))))))))))
      exact AE <| Ad <| AL dl (wk (gi 24 []) (J0 hA _ Z) Z Z Z (.cons Z (.cons Z (.cons Z (.cons (by simp only [BH]; rfl) (.cons Z (.cons Z .nil)))))) (.cons Z Z (.cons Z Z (.cons Z (by simp only [BH]; rfl) (.cons Z Z (.cons Z Z (.cons Z Z (.cons Z Z (.cons Z Z (.cons Z Z (.cons Z Z (.cons Z Z (.cons Z Z .nil)))))))))))))
     exact rg AA <| rl Z <| Ar dm (wk (gi 24 []) (J0 hA _ Z) Z Z Z (.cons Z (.cons Z (.cons Z (.cons (by simp only [BH]; rfl) (.cons Z (.cons Z .nil)))))) (.cons Z Z (.cons Z Z (.cons Z (by simp only [BH]; rfl) (.cons Z Z (.cons Z Z (.cons Z Z (.cons Z Z (.cons Z Z (.cons Z Z (.cons Z Z (.cons Z Z (.cons Z Z .nil)))))))))))))
    refine AV <| AX <| BI dn fun et dp => Am <| AC <| rs AA <| rl Z <| AF ?_
    cases dp
    exact CS (nt := 56) (sl := [(8, .lpb 20 0)]) (A7.trans (Iz 22 (Mn (enc := Ay) (l := ac) Z) (.cons 8 (.same _) .nil) (.cons 0 Z Z (.same _) (.cons 1 Z Z (.same _) (.cons 2 Z Z (.same _) (.cons 3 Z Z (.same _) (.cons 4 Z Z (.same _) (.cons 5 Z Z (.same _) (.cons 6 Z Z (.same _) (.cons 18 Z Z (.same _) (.cons 20 Z Z (.box (.cons (.same _) (.cons (.same _) (.cons (.same _) (.cons .hit (.cons (.same _) (.cons (.same _) (.cons (.same _) (.cons (.same _) (.cons (.same _) .nil)))))))))) (.cons 21 Z Z (.box (.cons (.same _) (.cons (.same _) (.cons (.same _) (.cons .hit (.cons (.same _) (.cons (.same _) (.cons (.same _) (.cons (.same _) (.cons (.same _) .nil)))))))))) (.cons 23 Z Z (.same _) .nil)))))))))))) (A7.trans (Iz 23 (Mn (enc := A0) (l := v.2) Z) (.cons 8 (.same _) .nil) (.cons 0 Z Z (.same _) (.cons 1 Z Z (.same _) (.cons 2 Z Z (.same _) (.cons 3 Z Z (.same _) (.cons 4 Z Z (.same _) (.cons 5 Z Z (.same _) (.cons 6 Z Z (.same _) (.cons 18 Z Z (.same _) (.cons 20 Z Z (.box (.cons (.same _) (.cons (.same _) (.cons (.same _) (.cons (.same _) (.cons .hit (.cons (.same _) (.cons (.same _) (.cons (.same _) (.cons (.same _) .nil)))))))))) (.cons 21 Z Z (.box (.cons (.same _) (.cons (.same _) (.cons (.same _) (.cons (.same _) (.cons .hit (.cons (.same _) (.cons (.same _) (.cons (.same _) (.cons (.same _) .nil)))))))))) .nil))))))))))) (A7.trans (EW (.cons 8 (.same _) .nil) (.cons 0 Z Z (.same _) (.cons 1 Z Z (.same _) (.cons 2 Z Z (.same _) (.cons 3 Z Z (.same _) (.cons 4 Z Z (.same _) (.cons 5 Z Z (.same _) (.cons 6 Z Z (.same _) (.cons 18 Z Z (.same _) (.cons 20 Z Z (.box (.cons (.same _) (.cons (.same _) (.cons (.same _) (.cons (.same _) (.cons (.same _) (.cons (.nil 2) (.cons (.same _) (.cons (.same _) (.cons (.same _) .nil)))))))))) (.cons 21 Z Z (.same _) .nil))))))))))) (A7.trans (EW (.cons 8 (.same _) .nil) (.cons 0 Z Z (.same _) (.cons 1 Z Z (.same _) (.cons 2 Z Z (.same _) (.cons 3 Z Z (.same _) (.cons 4 Z Z (.same _) (.cons 5 Z Z (.same _) (.cons 6 Z Z (.same _) (.cons 18 Z Z (.same _) (.cons 20 Z Z (.box (.cons (.same _) (.cons (.same _) (.cons (.same _) (.cons (.same _) (.cons (.same _) (.cons (.same _) (.cons (.nil 1) (.cons (.same _) (.cons (.same _) .nil)))))))))) (.cons 21 Z Z (.same _) .nil))))))))))) (A7.trans (EW (.cons 8 (.same _) .nil) (.cons 0 Z Z (.same _) (.cons 1 Z Z (.same _) (.cons 2 Z Z (.same _) (.cons 3 Z Z (.same _) (.cons 4 Z Z (.same _) (.cons 5 Z Z (.same _) (.cons 6 Z Z (.same _) (.cons 18 Z Z (.same _) (.cons 20 Z Z (.box (.cons (.same _) (.cons (.same _) (.cons (.same _) (.cons (.same _) (.cons (.same _) (.cons (.same _) (.cons (.same _) (.cons (.nil 1) (.cons (.same _) .nil)))))))))) (.cons 21 Z Z (.same _) .nil))))))))))) (wk (gi 21 []) (J0 hA _ Z) Z Z Z (.cons Z .nil) (.cons Z Z (.cons Z Z (.cons Z (by simp only [BH]; rfl) (.cons Z Z (.cons Z Z (.cons Z Z (.cons Z Z (.cons Z Z (.cons Z Z .nil))))))))))))))) Z
   exact rn 1 Z <| bq dq fun fl bo dr => sx Z (BX (enc := BK) (l := b.1) (m := [(⟨g, y, 1, o.1, o.2, ([] : List Al), ([] : List Int), ([] : List Int), false⟩ : An)]) bo (fun _ => ⟨Z, Z⟩) Z Z Z Z Z Z <| rl Z <| AV <| AX <| Am <| Ar dr (wk [(0, 0), (1, 22), (2, 2), (3, 4), (4, 5), (5, 6)] (free hA _) Z Z Z (.cons Z (.cons Z (.cons Z (.cons Z (.cons Z .nil))))) (.cons Z Z (.cons Z Z (.cons Z (by simp only [BH]; rfl) (.cons Z Z (.cons Z Z (.cons Z Z .nil))))))))
  refine AE <| AC <| rs AA <| rn 2 Z <| bq ds fun aa bp dt => sx Z (AM (CB _ _ _ bp) (.inl Z) Z Z Z <| rl Z <| AB <| rs AA <| rl Z <| cd Z dt (fun du => ?_) (fun ea => ?_))
  .refine rs AA <| rn 3 Z <| sx Z (CP AA (fun q : ((List Ab) × (List Al)) => .p (.agg [.int .i64 g, .int .i64 (-1), .int .i64 3, .slice 3 (q.1.map Ay), .slice 2 (q.2.map A0), .slice 2 (([] : List Al).map A0), .slice 1 (([] : List Int).map Ae), .slice 1 (([] : List Int).map Ae), .bool false])) (fun q : ((List Ab) × (List Al)) => [(0, .box [li d.1, li d.2.1]), (1, .row 72 9 (b.1.map BK)), (2, .box [li j.1.elem, .lsl 4 3 0 (A6 b.2.1 (AO ((b.2.1.length : Int) - 1)) (⟨e.elem, e.in_, c.out⟩ : Ab)).length, .lsl 5 1 0 (A6 b.2.2.1 (AO ((b.2.1.length : Int) - 1)) c.pos).length, .lsl 6 1 0 (A6 b.2.2.2 (AO ((b.2.1.length : Int) - 1)) i).length]), (3, .box [li c.out, li c.pos]), (4, .row 76 3 ((A6 b.2.1 (AO ((b.2.1.length : Int) - 1)) (⟨e.elem, e.in_, c.out⟩ : Ab)).map Ay)), (5, .row 3 1 ((A6 b.2.2.1 (AO ((b.2.1.length : Int) - 1)) c.pos).map Ae)), (6, .row 215 1 ((A6 b.2.2.2 (AO ((b.2.1.length : Int) - 1)) i).map (DQ 2 DZ))), (18, .box [li x.elem, li c.out]), (20, .box [li aa.1.elem, li aa.1.fin]), (21, .box [li g, li (-1), li 3, ls 3 Ay q.1, ls 2 A0 q.2, ls 2 A0 ([] : List Al), ls 1 Ae ([] : List Int), ls 1 Ae ([] : List Int), lb false])]) 22 du Tryz.func148 56 [.cell 8 72] [(0, .lpb 2 0), (1, li g), (2, li (-1)), (3, li 3)] Z Z Z Z Z Z Z Z (fun A hA q dv => ?_) (fun q d8 => ?_))
   .refine rs AA <| rl Z <| rs AA <| rn 7 Z <| bq dv fun ad br dw => sx Z (NW (EF _ _ br) (fun _ => Z) Z Z (Da.eq (.cons (.one (.own (enc := Ay) (A6 b.2.1 (AO ((b.2.1.length : Int) - 1)) (⟨e.elem, e.in_, c.out⟩ : Ab)) Z (by simp only [BH]))) .nil)) <| rl Z <| AB <| rs AA <| rl Z <| AH ?_)
    apply lp (a := q) (fun w : (Int × (List Al)) => ⟨56, [(0, .lpb 2 0), (8, .lpb 21 0), (9, .lpb 22 0), (24, .lsl 4 3 0 (A6 b.2.1 (AO ((b.2.1.length : Int) - 1)) (⟨e.elem, e.in_, c.out⟩ : Ab)).length), (25, li ((A6 b.2.1 (AO ((b.2.1.length : Int) - 1)) (⟨e.elem, e.in_, c.out⟩ : Ab)).length : Int)), (26, li w.1)], [(0, .box [li d.1, li d.2.1]), (1, .row 72 9 (b.1.map BK)), (2, .box [li j.1.elem, .lsl 4 3 0 (A6 b.2.1 (AO ((b.2.1.length : Int) - 1)) (⟨e.elem, e.in_, c.out⟩ : Ab)).length, .lsl 5 1 0 (A6 b.2.2.1 (AO ((b.2.1.length : Int) - 1)) c.pos).length, .lsl 6 1 0 (A6 b.2.2.2 (AO ((b.2.1.length : Int) - 1)) i).length]), (3, .box [li c.out, li c.pos]), (4, .row 76 3 ((A6 b.2.1 (AO ((b.2.1.length : Int) - 1)) (⟨e.elem, e.in_, c.out⟩ : Ab)).map Ay)), (5, .row 3 1 ((A6 b.2.2.1 (AO ((b.2.1.length : Int) - 1)) c.pos).map Ae)), (6, .row 215 1 ((A6 b.2.2.2 (AO ((b.2.1.length : Int) - 1)) i).map (DQ 2 DZ))), (18, .box [li x.elem, li c.out]), (20, .box [li aa.1.elem, li aa.1.fin]), (21, .box [li 0, li 0, li 0, .p (.nils), .p (.nils), .p (.nils), .p (.nils), .p (.nils), lb false]), (22, .box [li g, li (-1), li 3, .lsl 23 3 0 ad.length, .lsl 24 2 0 w.2.length, .p (.nils), .p (.nils), .p (.nils), lb false]), (23, .row 76 3 (ad.map Ay)), (24, .row 185 2 (w.2.map A0))], 25⟩) dw
    . exact A7.trans (CK 23 4 185 2 Z Z Z Z) (wk (gi 22 [(22, 23), (23, 22), (24, 24)]) (J0 hA _ Z) Z Z Z (.cons Z (.cons Z (.cons Z (.cons (by simp only [BH]; rfl) (.cons Z (.cons Z .nil)))))) (.cons Z Z (.cons Z Z (.cons Z (by simp only [BH]; rfl) (.cons Z Z (.cons Z Z (.cons Z Z (.cons Z Z (.cons Z Z (.cons Z Z (.cons Z Z (.cons Z Z (.cons Z Z (.cons Z Z .nil))))))))))))))
    intro w e1 a6
    unfold K6 at a6
    refine rs AA <| rl Z <| AB <| cd Z a6 (fun dx => ?_) (fun d6 => ?_)
    .refine AE <| AC <| jb (fun ah : (List Al) => ⟨56, [(0, .lpb 2 0), (8, .lpb 21 0), (9, .lpb 22 0), (24, .lsl 4 3 0 (A6 b.2.1 (AO ((b.2.1.length : Int) - 1)) (⟨e.elem, e.in_, c.out⟩ : Ab)).length), (25, li ((A6 b.2.1 (AO ((b.2.1.length : Int) - 1)) (⟨e.elem, e.in_, c.out⟩ : Ab)).length : Int)), (26, li w.1)], [(0, .box [li d.1, li d.2.1]), (1, .row 72 9 (b.1.map BK)), (2, .box [li j.1.elem, .lsl 4 3 0 (A6 b.2.1 (AO ((b.2.1.length : Int) - 1)) (⟨e.elem, e.in_, c.out⟩ : Ab)).length, .lsl 5 1 0 (A6 b.2.2.1 (AO ((b.2.1.length : Int) - 1)) c.pos).length, .lsl 6 1 0 (A6 b.2.2.2 (AO ((b.2.1.length : Int) - 1)) i).length]), (3, .box [li c.out, li c.pos]), (4, .row 76 3 ((A6 b.2.1 (AO ((b.2.1.length : Int) - 1)) (⟨e.elem, e.in_, c.out⟩ : Ab)).map Ay)), (5, .row 3 1 ((A6 b.2.2.1 (AO ((b.2.1.length : Int) - 1)) c.pos).map Ae)), (6, .row 215 1 ((A6 b.2.2.2 (AO ((b.2.1.length : Int) - 1)) i).map (DQ 2 DZ))), (18, .box [li x.elem, li c.out]), (20, .box [li aa.1.elem, li aa.1.fin]), (21, .box [li 0, li 0, li 0, .p (.nils), .p (.nils), .p (.nils), .p (.nils), .p (.nils), lb false]), (22, .box [li g, li (-1), li 3, .lsl 23 3 0 ad.length, .lsl 24 2 0 ah.length, .p (.nils), .p (.nils), .p (.nils), lb false]), (23, .row 76 3 (ad.map Ay)), (24, .row 185 2 (ah.map A0))], 25⟩) dx (fun ah dy => ?_) (fun ah d5 => ?_)
     .refine AH <| rs AA <| rn 1 Z <| bq dy fun eo az dz => sx Z (Bt az Z Z Z (by simp only [BH]) <| sx Z (C0 az Z Z Z <| rl Z <| rs AA <| rn 5 Z <| bq dz fun fm a0 d0 => sx Z (Bt a0 Z Z Z (by simp only [BH]) <| sx Z (C0 a0 Z Z Z <| rl Z <| cd Z d0 (fun d1 => ?_) (fun d4 => ?_)))))
      .refine B0 AA mixed [0, 1, 2, 3, 4, 5, 6, 7, 8, 9, 10, 11, 12, 13, 14, 15] 16 (by kernel_rfl) Z Z Z ?_
       exact Au 9 Z <| bq d1 fun ep a1 d2 => As Z (Aj Z (Bt a1 Z Z Z (by simp only [BH]) <| As Z (GR Z (C0 a1 Z Z Z <| Au 2 Z <| bq d2 fun fo bs d3 => As Z (It Z (BX (enc := A0) (l := w.2) (m := [(⟨eo.elem, ep⟩ : Al)]) bs (fun _ => ⟨Z, Z⟩) Z Z Z Z Z Z <| BJ Z <| Ad <| AL d3 (wk (gi 24 [(24, 39)]) (J0 hA _ Z) Z Z Z (.cons Z (.cons Z (.cons Z (.cons (by simp only [BH]; rfl) (.cons Z (.cons Z .nil)))))) (.cons Z Z (.cons Z Z (.cons Z (by simp only [BH]; rfl) (.cons Z Z (.cons Z Z (.cons Z Z (.cons Z Z (.cons Z Z (.cons Z Z (.cons Z Z (.cons Z Z (.cons Z Z (.cons Z Z .nil))))))))))))))))))))
      exact AE <| Ad <| AL d4 (wk (gi 25 []) (J0 hA _ Z) Z Z Z (.cons Z (.cons Z (.cons Z (.cons (by simp only [BH]; rfl) (.cons Z (.cons Z .nil)))))) (.cons Z Z (.cons Z Z (.cons Z (by simp only [BH]; rfl) (.cons Z Z (.cons Z Z (.cons Z Z (.cons Z Z (.cons Z Z (.cons Z Z (.cons Z Z (.cons Z Z (.cons Z Z (.cons Z Z .nil))))))))))))))
     exact rg AA <| rl Z <| Ar d5 (wk (gi 25 []) (J0 hA _ Z) Z Z Z (.cons Z (.cons Z (.cons Z (.cons (by simp only [BH]; rfl) (.cons Z (.cons Z .nil)))))) (.cons Z Z (.cons Z Z (.cons Z (by simp only [BH]; rfl) (.cons Z Z (.cons Z Z (.cons Z Z (.cons Z Z (.cons Z Z (.cons Z Z (.cons Z Z (.cons Z Z (.cons Z Z (.cons Z Z .nil))))))))))))))
    refine AV <| AX <| BI d6 fun eu d7 => Am <| AC <| rs AA <| rl Z <| AF ?_
    cases d7
    exact CS (nt := 56) (sl := [(8, .lpb 21 0)]) (A7.trans (Iz 23 (Mn (enc := Ay) (l := ad) Z) (.cons 8 (.same _) .nil) (.cons 0 Z Z (.same _) (.cons 1 Z Z (.same _) (.cons 2 Z Z (.same _) (.cons 3 Z Z (.same _) (.cons 4 Z Z (.same _) (.cons 5 Z Z (.same _) (.cons 6 Z Z (.same _) (.cons 18 Z Z (.same _) (.cons 20 Z Z (.same _) (.cons 21 Z Z (.box (.cons (.same _) (.cons (.same _) (.cons (.same _) (.cons .hit (.cons (.same _) (.cons (.same _) (.cons (.same _) (.cons (.same _) (.cons (.same _) .nil)))))))))) (.cons 22 Z Z (.box (.cons (.same _) (.cons (.same _) (.cons (.same _) (.cons .hit (.cons (.same _) (.cons (.same _) (.cons (.same _) (.cons (.same _) (.cons (.same _) .nil)))))))))) (.cons 24 Z Z (.same _) .nil))))))))))))) (A7.trans (Iz 24 (Mn (enc := A0) (l := w.2) Z) (.cons 8 (.same _) .nil) (.cons 0 Z Z (.same _) (.cons 1 Z Z (.same _) (.cons 2 Z Z (.same _) (.cons 3 Z Z (.same _) (.cons 4 Z Z (.same _) (.cons 5 Z Z (.same _) (.cons 6 Z Z (.same _) (.cons 18 Z Z (.same _) (.cons 20 Z Z (.same _) (.cons 21 Z Z (.box (.cons (.same _) (.cons (.same _) (.cons (.same _) (.cons (.same _) (.cons .hit (.cons (.same _) (.cons (.same _) (.cons (.same _) (.cons (.same _) .nil)))))))))) (.cons 22 Z Z (.box (.cons (.same _) (.cons (.same _) (.cons (.same _) (.cons (.same _) (.cons .hit (.cons (.same _) (.cons (.same _) (.cons (.same _) (.cons (.same _) .nil)))))))))) .nil)))))))))))) (A7.trans (EW (.cons 8 (.same _) .nil) (.cons 0 Z Z (.same _) (.cons 1 Z Z (.same _) (.cons 2 Z Z (.same _) (.cons 3 Z Z (.same _) (.cons 4 Z Z (.same _) (.cons 5 Z Z (.same _) (.cons 6 Z Z (.same _) (.cons 18 Z Z (.same _) (.cons 20 Z Z (.same _) (.cons 21 Z Z (.box (.cons (.same _) (.cons (.same _) (.cons (.same _) (.cons (.same _) (.cons (.same _) (.cons (.nil 2) (.cons (.same _) (.cons (.same _) (.cons (.same _) .nil)))))))))) (.cons 22 Z Z (.same _) .nil)))))))))))) (A7.trans (EW (.cons 8 (.same _) .nil) (.cons 0 Z Z (.same _) (.cons 1 Z Z (.same _) (.cons 2 Z Z (.same _) (.cons 3 Z Z (.same _) (.cons 4 Z Z (.same _) (.cons 5 Z Z (.same _) (.cons 6 Z Z (.same _) (.cons 18 Z Z (.same _) (.cons 20 Z Z (.same _) (.cons 21 Z Z (.box (.cons (.same _) (.cons (.same _) (.cons (.same _) (.cons (.same _) (.cons (.same _) (.cons (.same _) (.cons (.nil 1) (.cons (.same _) (.cons (.same _) .nil)))))))))) (.cons 22 Z Z (.same _) .nil)))))))))))) (A7.trans (EW (.cons 8 (.same _) .nil) (.cons 0 Z Z (.same _) (.cons 1 Z Z (.same _) (.cons 2 Z Z (.same _) (.cons 3 Z Z (.same _) (.cons 4 Z Z (.same _) (.cons 5 Z Z (.same _) (.cons 6 Z Z (.same _) (.cons 18 Z Z (.same _) (.cons 20 Z Z (.same _) (.cons 21 Z Z (.box (.cons (.same _) (.cons (.same _) (.cons (.same _) (.cons (.same _) (.cons (.same _) (.cons (.same _) (.cons (.same _) (.cons (.nil 1) (.cons (.same _) .nil)))))))))) (.cons 22 Z Z (.same _) .nil)))))))))))) (wk (gi 22 []) (J0 hA _ Z) Z Z Z (.cons Z .nil) (.cons Z Z (.cons Z Z (.cons Z (by simp only [BH]; rfl) (.cons Z Z (.cons Z Z (.cons Z Z (.cons Z Z (.cons Z Z (.cons Z Z (.cons Z Z .nil)))))))))))))))) Z
   exact rn 1 Z <| bq d8 fun fp bt d9 => sx Z (BX (enc := BK) (l := b.1) (m := [(⟨g, (-1), 3, q.1, q.2, ([] : List Al), ([] : List Int), ([] : List Int), false⟩ : An)]) bt (fun _ => ⟨Z, Z⟩) Z Z Z Z Z Z <| rl Z <| AV <| AX <| Am <| Ar d9 (wk [(0, 0), (1, 23), (2, 2), (3, 4), (4, 5), (5, 6)] (free hA _) Z Z Z (.cons Z (.cons Z (.cons Z (.cons Z (.cons Z .nil))))) (.cons Z Z (.cons Z Z (.cons Z (by simp only [BH]; rfl) (.cons Z Z (.cons Z Z (.cons Z Z .nil))))))))
  exact AE <| AC <| rs AA <| rl Z <| AV <| LL Z <| BI ea fun ev eb => LL Z <| AX <| AAA <| Am <| Ar eb (wk (gi 3 [(3, 4), (4, 5), (5, 6)]) (free hA _) Z Z Z (.cons Z (.cons Z (.cons Z (.cons Z (.cons Z .nil))))) (.cons Z Z (.cons Z Z (.cons Z (by simp only [BH]; rfl) (.cons Z Z (.cons Z Z (.cons Z Z .nil)))))))
 refine AV <| AX <| BI ec fun ew ed => Am <| AC <| AV <| AAA <| LL Z <| BI ed fun ex ee => Am <| AC <| rs AA <| rl Z <| AF <| IE ?_
 cases ee
 exact er (ID Z (.one (.own (enc := BK) b.1 Z Z))) Le.rfl
end Go.E
/- Plain functions, and walks in step with them. Written by a program (gen.py). No condition. -/
set_option maxRecDepth 100000
set_option maxHeartbeats 1000000
namespace Go.E
open Go Go.RowKit Go.Proofs
noncomputable def EM (b : Az) (e : Int) (a : Int × (List An)) : Option ((Int × (List An)) ⊕ ((List An) × Int)) :=
 bif decide (a.1 < e) then (Jp b a.1).bind fun c => (Br a.2 c).bind fun d => some (.inl (AO (a.1 + 1), d)) else (bif decide (64 < (a.2.length : Int)) then some (([] : List An), 3) else some (a.2, 0)).map .inr
noncomputable def Ia (a : Az) : Option ((List An) × Int) :=
 (De a).bind fun b => AU (EM a b) (0, ([] : List An))
theorem Wd (c : Az) (r : ((List An) × Int)) (h : Ia c = some r) : Yc Tryz.prog 81 [] 0 [lq (Ap c)] (.tup [.lsl 0 9 0 r.1.length, li r.2]) [(0, .row 72 9 (r.1.map BK))] 1 := by
 refine fnM AA Tryz.func81 21 [.tmp 2, .tmp 3] [(0, lq (Ap c))] Z Z Z Z Z Z (fun A hA => ?_)
 unfold Ia at h
 refine rs AA <| rl Z <| rs AA <| rl Z <| AB <| rs AA <| rn 1 Z <| bq h fun u g s => sx Z (AM (Pj _ _ g) (.inl Z) Z Z Z <| rl Z <| AH ?_)
 apply lp (a := r) (fun b : (Int × (List An)) => ⟨21, [(0, lq (Ap c)), (4, .lsl 0 9 0 b.2.length), (7, li u), (8, li b.1)], [(0, .row 72 9 (b.2.map BK))], 1⟩) s
 . exact A7.trans (Cc 4 72 9 Z) (wj hA [(0, 0)] Z Z Z Z)
 intro b w d
 unfold EM at d
 refine rs AA <| rl Z <| AB <| cd Z d (fun i => ?_) (fun n => ?_)
 .exact AE <| AC <| AB <| AH <| rs AA <| rl Z <| rg AA <| rn 3 Z <| bq i fun t e j => sx Z (AM (Xd _ _ _ e) (.inr Z) Z Z Z <| bq j fun x f k => sx Z (BX (enc := BK) (l := b.2) (m := t) f (fun _ => ⟨Z, Z⟩) Z Z Z Z Z Z <| rl Z <| Ad <| AC <| rg AA <| rl Z <| Ar k (wj hA [(0, 1)] Z Z Z Z)))
 refine AV <| AX <| CM n fun v o => Am <| AC <| AB <| rs AA <| rl Z <| cd Z o (fun p => ?_) (fun q => ?_)
 .refine rs AA <| rl Z <| AF <| AG ?_
  cases p
  exact CS (nt := 21) (sl := [(2, .lsl 0 9 0 ([] : List An).length), (3, li 3)]) (A7.trans (Cc 2 72 9 Z) (wj hA [(0, 1)] Z Z Z Z)) Z
 refine AE <| AC <| rs AA <| rl Z <| AF ?_
 cases q
 exact CS (nt := 21) (sl := [(2, .lsl 0 9 0 b.2.length), (3, li 0)]) (wj hA [(0, 0)] Z Z Z Z) Z
noncomputable def DG (a : (List Al)) : Option (List Al) :=
 Lw a (some []) ((Br ([] : List Al) a).bind fun b => some b)
theorem L8 (a : (List Al)) (r : (List Al)) (h : DG a = some r) : Aw Tryz.prog 114 [.slice 2 (a.map A0)] (· = .slice 2 (r.map A0)) := by
 refine fn AA Tryz.func114 Z Z 8 Z [.tmp 2] Z [(0, .p (.slice 2 (a.map A0)))] Z Z fun A hA => ?_
 unfold DG at h
 refine rs AA <| rl Z <| AB <| rs AA <| rn 1 Z <| sx Z (Jd h Z Z Z (fun d => ?_) (fun e => ?_))
 .refine rl Z <| Qs Z <| rs AA <| rl Z <| AF <| AG ?_
  cases d
  exact er Z (Le.nil _)
 refine rl Z <| SG Z <| AE <| AC <| rs AA <| rn 2 Z <| bq e fun f b c => sx Z (BX (enc := A0) (l := ([] : List Al)) (m := a) b (fun _ => ⟨Z, Z⟩) Z Z Z Z Z Z <| rl Z <| AF ?_)
 have hr := Option.some.inj c; subst hr
 exact er (ID Z (.one (.own (enc := A0) f Z Z))) Le.rfl
noncomputable def B9 (a : Az) : Option AK :=
 (G4 a.p).bind fun b => some b
theorem Gu (a : Az) (r : AK) (h : B9 a = some r) : Aw Tryz.prog 49 [.place (Ap a) 0] (· = .agg (AQ r)) := by
 refine fn AA Tryz.func49 Z Z 8 Z [.cell 2 27] Z [(0, .p (.place (Ap a) 0))] Z Z fun A hA => ?_
 unfold B9 at h
 refine rs AA <| rl Z <| rs AA <| rn 4 Z <| bq h fun d b c => sx Z (AM (RB _ _ b) (.inr Z) Z Z Z <| rl Z <| AF ?_)
 have hr := Option.some.inj c; subst hr
 exact er Z Le.rfl
noncomputable def EX (g : Az) (e : (Int × (List AI))) (c : Ab) (b : (List Int)) (a : Int × (List AI)) : Option ((Int × (List AI)) ⊕ ((Int × (List AI)) ⊕ (List AI))) :=
 bif decide (a.1 < (b.length : Int)) then (((AZ b a.1).bind fun d => (Bb g (⟨c.elem, d⟩ : AI)).bind fun h => bif h.2 then (Br a.2 [(⟨c.elem, d⟩ : AI)]).bind fun i => some i else some a.2 : Option ((List AI)))).bind fun (f : (List AI)) => some (.inl (AO (a.1 + 1), f)) else some (.inr (.inl (AO (e.1 + 1), a.2)))
noncomputable def GF (c : Az) (d : An) (b : Int × (List AI)) : Option ((Int × (List AI)) ⊕ (List AI)) :=
 bif decide (b.1 < (d.steps.length : Int)) then (AZ d.steps b.1).bind fun a => (((BR c a.elem).bind fun e => bif (e == 2) then some [AO (3 - (if a.out > a.in_ then a.out else a.in_))] else bif (e == 3) then bif decide (1 < a.in_) then some [0, 1] else some [2, 3] else some ([] : List Int) : Option ((List Int)))).bind fun (f : (List Int)) => AU (EX c b a f) (0, b.2) else some (.inr b.2)
noncomputable def Gg (a : Az) (b : An) : Option (List AI) :=
 AU (GF a b) (0, ([] : List AI))
theorem T5 (e : Az) (b : An) (r : (List AI)) (h : Gg e b = some r) : Aw Tryz.prog 115 [.place (Ap e) 0, .agg (BK b)] (· = .slice 2 (r.map AT)) := by
 refine fn AA Tryz.func115 Z Z 67 Z [.tmp 4] Z [(0, .p (.place (Ap e) 0)), (1, .p (.agg (BK b)))] Z Z fun A hA => ?_
 unfold Gg at h
 refine rs AA <| rl Z <| rs AA <| rl Z <| AB <| rs AA <| rn 2 Z <| sx Z (Ac Z Z <| rl Z <| AH ?_)
 apply lp (a := r) (fun c : (Int × (List AI)) => ⟨67, [(0, lq (Ap e)), (5, .lsl 0 2 0 c.2.length), (16, ls 3 Ay b.steps), (17, li (b.steps.length : Int)), (18, li c.1)], [(0, .row 40 2 (c.2.map AT))], 1⟩) h
 . exact A7.trans (Cc 5 40 2 Z) (wf hA [(0, 1)] Z Z Z)
 intro c o k
 unfold GF at k
 refine rs AA <| rl Z <| AB <| cd Z k (fun v => ?_) (fun aq => ?_)
 .refine AE <| AC <| AB <| AH <| rs AA <| bq v fun i q w => sx Z (Aa q Z Z Z <| rl Z <| rs AA <| rl Z <| jb (fun d : (List Int) => ⟨67, [(0, lq (Ap e)), (5, .lsl 0 2 0 c.2.length), (7, .lpb 1 0), (8, .lsl 2 1 0 d.length), (16, ls 3 Ay b.steps), (17, li (b.steps.length : Int)), (18, li c.1)], [(0, .row 40 2 (c.2.map AT)), (1, bx (Ay i)), (2, .row 3 1 (d.map Ae))], 3⟩) w (fun d x => ?_) (fun d af => ?_))
  .refine rs AA <| rn 3 Z <| bq x fun ay s y => sx Z (AM (Bo _ _ _ s) (.inl Z) Z Z Z <| rl Z <| AH <| rs AA <| rl Z <| cd Z y (fun z => ?_) (fun aa => ?_))
   .exact rs AA <| rl Z <| rg AA <| rl Z <| Ad <| AL z (wf hA (gi 3 []) Z Z Z)
   refine rs AA <| rl Z <| cd Z aa (fun ab => ?_) (fun ae => ?_)
   .refine rs AA <| rl Z <| rs AA <| rl Z <| cd Z ab (fun ac => ?_) (fun ad => ?_)
    .exact rg AA <| rl Z <| Ad <| AL ac (wf hA [(0, 0), (1, 1), (2, 3)] Z Z Z)
    exact AE <| Ad <| AL ad (wf hA (gi 3 []) Z Z Z)
   exact AE <| Ad <| AL ae (A7.trans (Cc 8 3 1 Z) (wf hA (gi 3 []) Z Z Z))
  refine rs AA <| rl Z <| AH ?_
  apply lp (a := o) (fun f : (Int × (List AI)) => ⟨67, [(0, lq (Ap e)), (5, .lsl 0 2 0 f.2.length), (7, .lpb 1 0), (16, ls 3 Ay b.steps), (17, li (b.steps.length : Int)), (18, li c.1), (43, .lsl 2 1 0 d.length), (44, li (d.length : Int)), (45, li f.1)], [(0, .row 40 2 (f.2.map AT)), (1, bx (Ay i)), (2, .row 3 1 (d.map Ae))], 3⟩) af
  . exact wf hA (gi 3 []) Z Z Z
  intro f ax n
  unfold EX at n
  refine rs AA <| rl Z <| AB <| cd Z n (fun ag => ?_) (fun ao => ?_)
  .refine AE <| AC <| jb (fun g : (List AI) => ⟨67, [(0, lq (Ap e)), (5, .lsl 0 2 0 g.length), (7, .lpb 1 0), (16, ls 3 Ay b.steps), (17, li (b.steps.length : Int)), (18, li c.1), (43, .lsl 2 1 0 d.length), (44, li (d.length : Int)), (45, li f.1)], [(0, .row 40 2 (g.map AT)), (1, bx (Ay i)), (2, .row 3 1 (d.map Ae))], 3⟩) ag (fun g ah => ?_) (fun g an => ?_)
   .refine AH <| rs AA <| bq ah fun au j ai => sx Z (Bt j Z Z Z Z <| sx Z (C0 j Z Z Z <| rl Z <| rs AA <| rl Z <| rs AA <| rn 2 Z <| bq ai fun az t aj => sx Z (AM (CB _ _ _ t) (.inl Z) Z Z Z <| rl Z <| rs AA <| rl Z <| cd Z aj (fun ak => ?_) (fun am => ?_))))
    .exact rg AA <| rn 3 Z <| bq ak fun a0 u al => sx Z (BX (enc := AT) (l := f.2) (m := [(⟨i.elem, au⟩ : AI)]) u (fun _ => ⟨Z, Z⟩) Z Z Z Z Z Z <| rl Z <| Ad <| AL al (wf hA [(0, 6), (1, 1), (2, 2)] Z Z Z))
    exact AE <| Ad <| AL am (wf hA (gi 3 []) Z Z Z)
   exact rg AA <| rl Z <| Ar an (wf hA (gi 3 []) Z Z Z)
  exact AV <| AX <| BI ao fun av ap => Am <| Ad <| AC <| rg AA <| rl Z <| Ar ap (wf hA [(0, 0)] Z Z Z)
 refine AV <| AX <| BI aq fun aw ar => Am <| AC <| rs AA <| rl Z <| AF ?_
 cases ar
 exact er (ID Z (.one (.own (enc := AT) c.2 Z Z))) Le.rfl
noncomputable def Ib (a : Ab) (b : Int) : Option Bool :=
 some (a.elem == b)
theorem T6 (a : Ab) (b : Int) (r : Bool) (h : Ib a b = some r) : Aw Tryz.prog 151 [.agg (Ay a), .place (Ae b) 0] (· = .bool r) := by
 refine fn AA Tryz.func151 Z Z 8 Z [.tmp 3] Z [(0, .p (.agg (Ay a))), (1, .p (.place (Ae b) 0))] Z Z fun A hA => ?_
 unfold Ib at h
 refine rs AA <| rl Z <| rs AA <| rl Z <| AF ?_
 cases h
 exact er Z Le.rfl
noncomputable def Fo (b : An) (c : Int) (a : Int) : Option (Int ⊕ Int) :=
 bif decide (a < (b.steps.length : Int)) then (AZ b.steps a).bind fun d => (Ib d c).bind fun e => bif e then some (.inr a) else some (.inl (AO (a + 1))) else some (.inr (-1))
noncomputable def Ic (c : An) (d : Int) : Option Bool :=
 ((((AU (Fo c d) 0 : Option (Int))).bind fun (b : Int) => some (decide (0 <= b)) : Option (Bool))).bind fun (a : Bool) => some a
theorem Wf (b : An) (d : Int) (r : Bool) (h : Ic b d = some r) : Aw Tryz.prog 117 [.agg (BK b), .int .i64 d] (· = .bool r) := by
 refine fn AA Tryz.func117 Z Z 9 Z [.tmp 4] Z [(0, .p (.agg (BK b))), (1, .p (.int .i64 d))] Z Z fun A hA => ?_
 unfold Ic at h
 refine rs AA <| rl Z <| rs AA <| rn 3 Z <| sx Z (CP AA (fun e : Bool => lb e) (fun e : Bool => [(0, bx (BK b)), (1, .box [li d])]) 2 h Tryz.func150 9 [.tmp 4] [(0, ls 3 Ay b.steps), (1, .fn 151 [.lpb 1 0])] Z Z Z Z Z Z Z Z (fun A hA e k => ?_) (fun e x => ?_))
 .refine rs AA <| rl Z <| rs AA <| rn 2 Z <| sx Z (CP AA (fun c : Int => li c) (fun c : Int => [(0, bx (BK b)), (1, .box [li d])]) 2 k Tryz.func167 19 [.tmp 4] [(0, ls 3 Ay b.steps), (1, .fn 151 [.lpb 1 0])] Z Z Z Z Z Z Z Z (fun A hA c l => ?_) (fun c w => ?_))
  .refine rs AA <| rl Z <| AB <| rs AA <| rn 1 Z <| sx Z (Ac Z Z <| rl Z <| AH ?_)
   apply lp (a := c) (fun f : Int => ⟨19, [(0, ls 3 Ay b.steps), (1, .fn 151 [.lpb 1 0]), (7, li (b.steps.length : Int)), (8, li f)], [(0, bx (BK b)), (1, .box [li d])], 2⟩) l
   . exact wj hA [(0, 0), (1, 1)] Z Z Z Z
   intro f aa g
   unfold Fo at g
   refine rs AA <| rl Z <| AB <| cd Z g (fun m => ?_) (fun u => ?_)
   .refine AE <| AC <| AB <| AH <| rs AA <| rl Z <| rs AA <| rn 3 Z <| bq m fun ab i n => sx Z (Aa i Z Z Z <| rn 1 Z <| bq n fun ac j o => sx Z (AM (T6 _ _ _ j) (.inl Z) Z Z (Da.eq (.cons (.one (.p _)) (.cons (.box Z (.cons (.p _) .nil)) .nil))) <| rl Z <| cd Z o (fun q => ?_) (fun t => ?_)))
    .refine rs AA <| rl Z <| AF <| AN <| AG <| A1 q fun y s => AN <| AG ?_
     have hr := Option.some.inj s; subst hr
     exact CS (nt := 19) (sl := [(4, li f)]) (wj hA [(0, 0), (1, 1)] Z Z Z Z) Z
    exact AE <| Ad <| AC <| rg AA <| rl Z <| Ar t (wj hA [(0, 0), (1, 1)] Z Z Z Z)
   refine AV <| AX <| BI u fun z v => Am <| AC <| rs AA <| rl Z <| AF ?_
   cases v
   exact CS (nt := 19) (sl := [(4, li (-1))]) (wj hA [(0, 0), (1, 1)] Z Z Z Z) Z
  refine rl Z <| AF ?_
  cases w
  exact CS (nt := 9) (sl := [(4, lb (decide (0 <= c)))]) (wj hA [(0, 0), (1, 1)] Z Z Z Z) Z
 refine rl Z <| AF ?_
 have hr := Option.some.inj x; subst hr
 exact er Z Le.rfl
noncomputable def Ch (b : (List Int)) (c : Int) (a : Int) : Option (Int ⊕ Int) :=
 bif decide (a < (b.length : Int)) then (AZ b a).bind fun d => bif (c == d) then some (.inr a) else some (.inl (AO (a + 1))) else some (.inr (-1))
noncomputable def EY (a : (List Int)) (b : Int) : Option Int :=
 AU (Ch a b) 0
theorem Ov (b : (List Int)) (c : Int) (r : Int) (h : EY b c = some r) : Aw Tryz.prog 73 [.slice 1 (b.map Ae), .int .i64 c] (· = .int .i64 r) := by
 refine fn AA Tryz.func73 Z Z 19 Z [.tmp 4] Z [(0, .p (.slice 1 (b.map Ae))), (1, .p (.int .i64 c))] Z Z fun A hA => ?_
 unfold EY at h
 refine rs AA <| rl Z <| AB <| rs AA <| rn 1 Z <| sx Z (Ac Z Z <| rl Z <| AH ?_)
 apply lp (a := r) (fun e : Int => ⟨19, [(0, ls 1 Ae b), (1, li c), (7, li (b.length : Int)), (8, li e)], [], 0⟩) h
 . exact wf hA [] Z Z Z
 intro e s d
 unfold Ch at d
 refine rs AA <| rl Z <| AB <| cd Z d (fun n => ?_) (fun l => ?_)
 .refine AE <| AC <| AB <| AH <| rs AA <| rl Z <| rs AA <| rn 3 Z <| bq n fun t f g => sx Z (Aa f Z Z Z <| rl Z <| cd Z g (fun i => ?_) (fun k => ?_))
  .refine rs AA <| rl Z <| AF <| AN <| AG <| A1 i fun o j => AN <| AG ?_
   have hr := Option.some.inj j; subst hr
   exact er Z Le.rfl
  exact AE <| Ad <| AC <| rg AA <| rl Z <| Ar k (wf hA [] Z Z Z)
 refine AV <| AX <| BI l fun q m => Am <| AC <| rs AA <| rl Z <| AF ?_
 cases m
 exact er Z Le.rfl
noncomputable def BZ (a : (List Int)) (b : Int) : Option Bool :=
 (EY a b).bind fun c => some (decide (0 <= c))
theorem Ci (a : (List Int)) (b : Int) (r : Bool) (h : BZ a b = some r) : Aw Tryz.prog 46 [.slice 1 (a.map Ae), .int .i64 b] (· = .bool r) := by
 refine fn AA Tryz.func46 Z Z 9 Z [.tmp 4] Z [(0, .p (.slice 1 (a.map Ae))), (1, .p (.int .i64 b))] Z Z fun A hA => ?_
 unfold BZ at h
 refine rs AA <| rl Z <| rs AA <| rn 2 Z <| bq h fun e c d => sx Z (AM (Ov _ _ _ c) (.inl Z) Z Z Z <| rl Z <| AF ?_)
 cases d
 exact er Z Le.rfl
noncomputable def CE (b : (List Al)) (c : Al) (a : Int) : Option (Int ⊕ Int) :=
 bif decide (a < (b.length : Int)) then (AZ b a).bind fun d => bif (c == d) then some (.inr a) else some (.inl (AO (a + 1))) else some (.inr (-1))
noncomputable def DH (a : (List Al)) (b : Al) : Option Int :=
 AU (CE a b) 0
theorem L9 (c : (List Al)) (b : Al) (r : Int) (h : DH c b = some r) : Aw Tryz.prog 152 [.slice 2 (c.map A0), .agg (A0 b)] (· = .int .i64 r) := by
 refine fn AA Tryz.func152 Z Z 19 Z [.tmp 4] Z [(0, .p (.slice 2 (c.map A0))), (1, .p (.agg (A0 b)))] Z Z fun A hA => ?_
 unfold DH at h
 refine rs AA <| rl Z <| AB <| rs AA <| rn 1 Z <| sx Z (Ac Z Z <| rl Z <| AH ?_)
 apply lp (a := r) (fun e : Int => ⟨19, [(0, ls 2 A0 c), (3, .lpb 0 0), (7, li (c.length : Int)), (8, li e)], [(0, .box [li b.elem, li b.pos])], 1⟩) h
 . exact wf hA [(0, 0)] Z Z Z
 intro e t d
 unfold CE at d
 refine rs AA <| rl Z <| AB <| cd Z d (fun n => ?_) (fun l => ?_)
 .refine AE <| AC <| AB <| AH <| rs AA <| rl Z <| AB ?_
  refine B0 AA mixed [0, 1, 2, 3, 4, 5] 6 (by kernel_rfl) Z Z Z ?_
  refine Au 3 Z <| bq n fun o f g => As Z (Aj Z (Aa f Z Z Z <| Au 1 Z <| As Z (MS (Yd b o) Z Z Z Z Z <| BJ Z <| AC <| cd Z g (fun i => ?_) (fun k => ?_))))
  .refine rs AA <| rl Z <| AF <| AN <| AG <| A1 i fun q j => AN <| AG ?_
   have hr := Option.some.inj j; subst hr
   exact er Z Le.rfl
  exact AE <| Ad <| AC <| rg AA <| rl Z <| Ar k (wf hA [(0, 0)] Z Z Z)
 refine AV <| AX <| BI l fun s m => Am <| AC <| rs AA <| rl Z <| AF ?_
 cases m
 exact er Z Le.rfl
noncomputable def Bn (a : (List Al)) (b : Al) : Option Bool :=
 (DH a b).bind fun c => some (decide (0 <= c))
theorem Dk (a : (List Al)) (b : Al) (r : Bool) (h : Bn a b = some r) : Aw Tryz.prog 119 [.slice 2 (a.map A0), .agg (A0 b)] (· = .bool r) := by
 refine fn AA Tryz.func119 Z Z 9 Z [.tmp 4] Z [(0, .p (.slice 2 (a.map A0))), (1, .p (.agg (A0 b)))] Z Z fun A hA => ?_
 unfold Bn at h
 refine rs AA <| rl Z <| rs AA <| rn 2 Z <| bq h fun e c d => sx Z (AM (L9 _ _ _ c) (.inl Z) Z Z Z <| rl Z <| AF ?_)
 cases d
 exact er Z Le.rfl
noncomputable def Dl (e : Int) (c : (List Bk)) (a : Int) : Option (Int ⊕ (Int × Bool)) :=
 bif decide (a < (c.length : Int)) then (AZ c a).bind fun b => ((bif (b.pos == 0) then some true else some (b.pos == e) : Option (Bool))).bind fun (d : Bool) => bif d then some (.inr (b.out, true)) else some (.inl (AO (a + 1))) else some (.inr (0, false))
noncomputable def Dg (a : Az) (b : Int) (c : Int) (d : Int) : Option (Int × Bool) :=
 (Dx a b c).bind fun e => AU (Dl d e) 0
theorem Pl (f : Az) (g : Int) (i : Int) (b : Int) (r : (Int × Bool)) (h : Dg f g i b = some r) : Aw Tryz.prog 153 [.place (Ap f) 0, .int .i64 g, .int .i64 i, .int .i64 b] (· = .tup [.int .i64 r.1, .bool r.2]) := by
 refine fn AA Tryz.func153 Z Z 33 Z [.tmp 8, .tmp 9] Z [(0, .p (.place (Ap f) 0)), (1, .p (.int .i64 g)), (2, .p (.int .i64 i)), (3, .p (.int .i64 b))] Z Z fun A hA => ?_
 unfold Dg at h
 refine rs AA <| rl Z <| AB <| rs AA <| rn 3 Z <| bq h fun c l n => sx Z (AM (Mm _ _ _ _ l) (.inr Z) Z Z Z <| sx Z (Ac Z Z <| rl Z <| AH ?_))
 apply lp (a := r) (fun d : Int => ⟨33, [(3, li b), (15, ls 2 DZ c), (16, li (c.length : Int)), (17, li d)], [], 0⟩) n
 . exact wf hA [] Z Z Z
 intro d ad j
 unfold Dl at j
 refine rs AA <| rl Z <| AB <| cd Z j (fun o => ?_) (fun z => ?_)
 .refine AE <| AC <| AB <| AH <| rs AA <| bq o fun k m q => sx Z (Aa m Z Z Z <| rl Z <| jb (fun e : Bool => ⟨33, [(3, li b), (11, .lpb 0 0), (15, ls 2 DZ c), (16, li (c.length : Int)), (17, li d), (29, lb e)], [(0, .box [li k.out, li k.pos])], 1⟩) q (fun e s => ?_) (fun e v => ?_))
  .refine rg AA <| rn 4 Z <| gs 24 s Z Z Z (fun t => ?_) (fun u => ?_)
   .exact rl Z <| AL t (wf hA [(0, 0)] Z Z Z)
   exact rl Z <| AL u (wf hA [(0, 0)] Z Z Z)
  refine cd Z v (fun w => ?_) (fun y => ?_)
  .refine rs AA <| rl Z <| AF <| AN <| AG <| A1 w fun ab x => AN <| AG ?_
   cases x
   exact er Z Le.rfl
  exact AE <| Ad <| AC <| rg AA <| rl Z <| Ar y (wf hA [] Z Z Z)
 refine AV <| AX <| BI z fun ac aa => Am <| AC <| rs AA <| rl Z <| AF ?_
 cases aa
 exact er Z Le.rfl
noncomputable def G5 (b : Az) (c : Int) (d : Int) (e : Int) : Option (Int × Bool) :=
 (Dg b c d e).bind fun a => some (a.1, a.2)
theorem Rz (a : Az) (b : Int) (c : Int) (d : Int) (r : (Int × Bool)) (h : G5 a b c d = some r) : Aw Tryz.prog 120 [.place (Ap a) 0, .int .i64 b, .int .i64 c, .int .i64 d] (· = .tup [.int .i64 r.1, .bool r.2]) := by
 refine fn AA Tryz.func120 Z Z 17 Z [.tmp 8, .tmp 9] Z [(0, .p (.place (Ap a) 0)), (1, .p (.int .i64 b)), (2, .p (.int .i64 c)), (3, .p (.int .i64 d))] Z Z fun A hA => ?_
 unfold G5 at h
 refine rs AA <| rl Z <| rs AA <| rn 4 Z <| bq h fun g e f => sx Z (AM (Pl _ _ _ _ _ e) (.inl Z) Z Z Z <| rl Z <| AF ?_)
 cases f
 exact er Z Le.rfl
noncomputable def Cx (d : Az) (e : An) (r : (List Ab)) (l : (List Al)) (am : AK) (a : Bool × (List (AI × Bool)) × (List Al) × (List Int) × (List Int) × (List AI)) : Option ((Bool × (List (AI × Bool)) × (List Al) × (List Int) × (List Int) × (List AI)) ⊕ An) :=
 bif decide (0 < (a.2.2.2.2.2.length : Int)) then (AZ a.2.2.2.2.2 (AO ((a.2.2.2.2.2.length : Int) - 1))).bind fun b => (LW a.2.2.2.2.2 0 (AO ((a.2.2.2.2.2.length : Int) - 1))).bind fun c => (((Ic (⟨e.frm, e.to, e.fin, r, l, a.2.2.1, a.2.2.2.1, a.2.2.2.2.1, a.1⟩ : An) b.elem).bind fun an => bif an then some true else some ((Ah a.2.1 b).getD false) : Option (Bool))).bind fun (y : Bool) => bif y then some (.inl (a.1, a.2.1, a.2.2.1, a.2.2.2.1, a.2.2.2.2.1, c)) else (CT d b).bind fun m => ((bif decide (0 <= m) then some (!am.hard) else some false : Option (Bool))).bind fun (z : Bool) => bif z then (((BZ a.2.2.2.2.1 m).bind fun ao => bif (!ao) then (Br a.2.2.2.2.1 [m]).bind fun ap => some ap else some a.2.2.2.2.1 : Option ((List Int)))).bind fun (aa : (List Int)) => some (.inl (a.1, A2 b true a.2.1, a.2.2.1, a.2.2.2.1, aa, c)) else (BR d b.elem).bind fun s => bif (s == 4) then some (.inl (true, A2 b true a.2.1, a.2.2.1, a.2.2.2.1, a.2.2.2.2.1, c)) else bif (s == 2) then bif (b.fin == 0) then (((((BZ a.2.2.2.1 b.elem).bind fun aq => bif aq then some (true, a.1, a.2.2.2.1) else bif decide (12 <= (a.2.2.2.1.length : Int)) then some (false, true, a.2.2.2.1) else (Br a.2.2.2.1 [b.elem]).bind fun ar => some (true, a.1, ar) : Option (Bool × Bool × (List Int)))).bind fun (h : Bool × Bool × (List Int)) => bif h.1 then (((Bb d (⟨b.elem, 2⟩ : AI)).bind fun t => bif t.2 then (Br c [t.1]).bind fun au => some au else some c : Option ((List AI)))).bind fun (n : (List AI)) => (((Bb d (⟨b.elem, 1⟩ : AI)).bind fun u => bif u.2 then (Br n [u.1]).bind fun av => some av else some n : Option ((List AI)))).bind fun (ab : (List AI)) => some (h.2.1, h.2.2, ab) else some (h.2.1, h.2.2, c) : Option (Bool × (List Int) × (List AI)))).bind fun (k : Bool × (List Int) × (List AI)) => some (.inl (k.1, A2 b true a.2.1, a.2.2.1, k.2.1, a.2.2.2.2.1, k.2.2)) else (((Bn l (⟨b.elem, b.fin⟩ : Al)).bind fun ac => bif ac then some true else (Bn a.2.2.1 (⟨b.elem, b.fin⟩ : Al)).bind fun ad => some ad : Option (Bool))).bind fun (v : Bool) => bif v then (((((BZ a.2.2.2.1 b.elem).bind fun ae => bif ae then some (true, a.1, a.2.2.2.1) else bif decide (12 <= (a.2.2.2.1.length : Int)) then some (false, true, a.2.2.2.1) else (Br a.2.2.2.1 [b.elem]).bind fun af => some (true, a.1, af) : Option (Bool × Bool × (List Int)))).bind fun (f : Bool × Bool × (List Int)) => bif f.1 then (((Bb d (⟨b.elem, 0⟩ : AI)).bind fun o => bif o.2 then (Br c [o.1]).bind fun ag => some ag else some c : Option ((List AI)))).bind fun (w : (List AI)) => some (f.2.1, f.2.2, w) else some (f.2.1, f.2.2, c) : Option (Bool × (List Int) × (List AI)))).bind fun (i : Bool × (List Int) × (List AI)) => some (.inl (i.1, A2 b true a.2.1, a.2.2.1, i.2.1, a.2.2.2.2.1, i.2.2)) else (Bn a.2.2.1 (⟨b.elem, AO (3 - b.fin)⟩ : Al)).bind fun ah => bif (!ah) then (Br a.2.2.1 [(⟨b.elem, AO (3 - b.fin)⟩ : Al)]).bind fun ai => some (.inl (a.1, A2 b true a.2.1, ai, a.2.2.2.1, a.2.2.2.2.1, c)) else some (.inl (a.1, A2 b true a.2.1, a.2.2.1, a.2.2.2.1, a.2.2.2.2.1, c)) else (G5 d b.elem b.fin 0).bind fun p => ((bif p.2 then (((BZ a.2.2.2.1 b.elem).bind fun aj => bif aj then some (true, a.1, a.2.2.2.1) else bif decide (12 <= (a.2.2.2.1.length : Int)) then some (false, true, a.2.2.2.1) else (Br a.2.2.2.1 [b.elem]).bind fun ak => some (true, a.1, ak) : Option (Bool × Bool × (List Int)))).bind fun (j : Bool × Bool × (List Int)) => some (j.1, j.2.1, j.2.2) else some (false, a.1, a.2.2.2.1) : Option (Bool × Bool × (List Int)))).bind fun (g : Bool × Bool × (List Int)) => bif g.1 then (((Bb d (⟨b.elem, p.1⟩ : AI)).bind fun q => bif q.2 then (Br c [q.1]).bind fun al => some al else some c : Option ((List AI)))).bind fun (x : (List AI)) => some (.inl (g.2.1, A2 b true a.2.1, a.2.2.1, g.2.2, a.2.2.2.2.1, x)) else some (.inl (g.2.1, A2 b true a.2.1, a.2.2.1, g.2.2, a.2.2.2.2.1, c)) else some (.inr (⟨e.frm, e.to, e.fin, r, l, a.2.2.1, a.2.2.2.1, a.2.2.2.2.1, a.1⟩ : An))
noncomputable def EN (b : Az) (c : An) (i : (List Ab)) (j : (List Al)) (d : AK) (e : (List AI)) (a : Int × (List AI)) : Option ((Int × (List AI)) ⊕ An) :=
 bif decide (0 <= a.1) then (AZ e a.1).bind fun f => (Bb b f).bind fun g => (Br a.2 [g.1]).bind fun h => some (.inl (AO (a.1 - 1), h)) else (AU (Cx b c i j d) (false, [], ([] : List Al), ([] : List Int), ([] : List Int), a.2)).map .inr
noncomputable def EZ (b : Az) (a : An) : Option An :=
 (BU a.steps).bind fun d => (DG a.needs).bind fun e => (B9 b).bind fun f => (Gg b (⟨a.frm, a.to, a.fin, d, e, [], [], [], false⟩ : An)).bind fun c => AU (EN b a d e f c) (AO ((c.length : Int) - 1), ([] : List AI))
theorem Wg (e : Az) (c : An) (r : An) (h : EZ e c = some r) : Aw Tryz.prog 82 [.place (Ap e) 0, .agg (BK c)] (· = .agg (BK r)) := by
 refine fn AA Tryz.func82 Z Z 187 Z [.cell 4 72] Z [(0, .p (.place (Ap e) 0)), (1, .p (.agg (BK c)))] Z Z fun A hA => ?_
 unfold EZ at h
 refine rs AA <| rl Z <| sc <| AB ?_
 refine B0 AA mixed [0, 1, 2, 3, 4, 5, 6, 7, 8, 9] 10 (by kernel_rfl) Z Z Z ?_
 refine Au 2 Z <| bq h fun g a7 de => As Z (A5 (L7 _ _ a7) (.inr Z) Z Z Z <| Au 2 Z <| bq de fun i a8 df => As Z (A5 (L8 _ _ a8) (.inr Z) Z Z Z <| BJ Z <| AC <| rs AA <| rl Z <| rs AA <| rn 1 Z <| bq df fun o a2 c6 => sx Z (AM (Gu _ _ a2) (.inr Z) Z Z Z <| rl Z <| rs AA <| rl Z <| rs AA <| rl Z <| rs AA <| rn 2 Z <| bq c6 fun e4 a3 c7 => sx Z (AM (Aw.le (T5 _ _ _ a3) (.cons Le.rfl (.cons (Le.agg' (.cons Le.rfl (.cons Le.rfl (.cons Le.rfl (.cons Le.rfl (.cons Le.rfl (.cons (Le.nil _) (.cons (Le.nil _) (.cons (Le.nil _) (.cons Le.rfl .nil)))))))))) .nil))) (.inr Z) Z Z Z <| rl Z <| AB <| rs AA <| rn 1 Z <| sx Z (Ac Z Z <| rl Z <| AH ?_)))))
 apply lp (a := r) (fun v : (Int × (List AI)) => ⟨187, [(2, .lpb 0 0), (3, .lpb 1 0), (4, .lpb 2 0), (5, lb o.hard), (6, .lmap 3), (7, .lpb 4 0), (8, ls 2 AT e4), (9, li v.1)], [(0, .box [lq (Ap e)]), (1, .box [li c.frm, li c.to, li c.fin, ls 3 Ay g, ls 2 A0 i, .p (.nils), .p (.nils), .p (.nils), lb false]), (2, .box [li 0, li 0, li 0, .p (.nils), .p (.nils), .p (.nils), .p (.nils), .p (.nils), lb false]), (3, .map (Ak (fun x => .agg (AT x)) .bool [])), (4, .box [.lsl 5 2 0 v.2.length]), (5, .row 40 2 (v.2.map AT))], 6⟩) c7
 . exact A7.trans (CK 14 0 40 2 Z Z Z Z) (wf hA (gi 3 [(3, 13), (4, 14), (5, 15)]) Z Z Z)
 intro v e9 ai
 unfold EN at ai
 refine AB <| rs AA <| rl Z <| cd Z ai (fun c8 => ?_) (fun dc => ?_)
 .refine AE <| AC <| AB <| AH <| AB ?_
  refine B0 AA mixed [0, 1, 2, 3, 4, 5, 6, 7, 8, 9, 10, 11] 12 (by kernel_rfl) Z Z Z ?_
  exact Au 3 Z <| bq c8 fun fl a4 c9 => As Z (Aj Z (Aa a4 Z Z Z <| Au 1 Z <| bq c9 fun e5 a5 da => As Z (A5 (CB _ _ _ a5) (.inl Z) Z Z Z <| BJ Z <| AC <| rg AA <| rn 3 Z <| bq da fun fm a6 db => sx Z (BX (enc := AT) (l := v.2) (m := [e5.1]) a6 (fun _ => ⟨Z, Z⟩) Z Z Z Z Z Z <| rl Z <| Ad <| AC <| rg AA <| rl Z <| Ar db (wf hA (gi 5 [(5, 19)]) Z Z Z)))))
 refine AV <| AX <| CM dc fun am dd => Am <| AC <| rs AA <| rl Z <| AB <| JQ <| AC <| AB <| AH ?_
 apply lp (a := am) (fun b : (Bool × (List (AI × Bool)) × (List Al) × (List Int) × (List Int) × (List AI)) => ⟨187, [(2, .lpb 0 0), (3, .lpb 1 0), (4, .lpb 2 0), (5, lb o.hard), (6, .lmap 3), (7, .lpb 4 0), (12, .fn 116 [.lpb 0 0, .lpb 4 0])], [(0, .box [lq (Ap e)]), (1, .box [li c.frm, li c.to, li c.fin, ls 3 Ay g, ls 2 A0 i, .lsl 5 2 0 b.2.2.1.length, .lsl 6 1 0 b.2.2.2.1.length, .lsl 7 1 0 b.2.2.2.2.1.length, lb b.1]), (2, .box [li 0, li 0, li 0, .p (.nils), .p (.nils), .p (.nils), .p (.nils), .p (.nils), lb false]), (3, .map (Ak (fun x => .agg (AT x)) .bool b.2.1)), (4, .box [.lsl 8 2 0 b.2.2.2.2.2.length]), (5, .row 185 2 (b.2.2.1.map A0)), (6, .row 3 1 (b.2.2.2.1.map Ae)), (7, .row 3 1 (b.2.2.2.2.1.map Ae)), (8, .row 40 2 (b.2.2.2.2.2.map AT))], 9⟩) dd
 . exact A7.trans (CK 1 5 185 2 Z Z Z Z) (A7.trans (CK 1 6 3 1 Z Z Z Z) (A7.trans (CK 1 7 3 1 Z Z Z Z) (wf hA (gi 5 [(5, 6), (6, 7), (7, 8), (8, 5)]) Z Z Z)))
 intro b fa aj
 unfold Cx at aj
 refine AB <| rs AA <| rl Z <| cd Z aj (fun dg => ?_) (fun c4 => ?_)
 .refine AE <| AC <| AH <| rs AA <| rn 4 Z <| bq dg fun d ah dh => sx Z (Bt ah Z Z Z Z <| sx Z (C0 ah Z Z Z <| rl Z <| rs AA <| rn 4 Z <| bq dh fun f ad di => sx Z (Q6 (l := b.2.2.2.2.2) ad Z Z Z Z <| rl Z <| AB <| jb (fun af : Bool => ⟨187, [(2, .lpb 0 0), (3, .lpb 1 0), (4, .lpb 2 0), (5, lb o.hard), (6, .lmap 3), (7, .lpb 4 0), (12, .fn 116 [.lpb 0 0, .lpb 4 0]), (13, .lpb 5 0), (81, lb af)], [(0, .box [lq (Ap e)]), (1, .box [li c.frm, li c.to, li c.fin, ls 3 Ay g, ls 2 A0 i, .lsl 6 2 0 b.2.2.1.length, .lsl 7 1 0 b.2.2.2.1.length, .lsl 8 1 0 b.2.2.2.2.1.length, lb b.1]), (2, .box [li 0, li 0, li 0, .p (.nils), .p (.nils), .p (.nils), .p (.nils), .p (.nils), lb false]), (3, .map (Ak (fun x => .agg (AT x)) .bool b.2.1)), (4, .box [.lsl 9 2 0 f.length]), (5, .box [li d.elem, li d.fin]), (6, .row 185 2 (b.2.2.1.map A0)), (7, .row 3 1 (b.2.2.2.1.map Ae)), (8, .row 3 1 (b.2.2.2.2.1.map Ae)), (9, .row 40 2 (f.map AT))], 10⟩) di (fun af dj => ?_) (fun af dn => ?_))))
  .refine rg AA <| rn 3 Z <| bq dj fun fo a9 dk => sx Z (AM (Wf _ _ _ a9) (.inl Z) Z Z (Da.eq (.cons (.agg (.cons (.p _) (.cons (.p _) (.cons (.p _) (.cons (.p _) (.cons (.p _) (.cons (.own (enc := A0) b.2.2.1 Z Z) (.cons (.own (enc := Ae) b.2.2.2.1 Z Z) (.cons (.own (enc := Ae) b.2.2.2.2.1 Z Z) (.cons (.p _) .nil)))))))))) (.cons (.one (.p _)) .nil))) <| rn 1 Z <| gs 77 dk Z Z Z (fun dl => ?_) (fun dm => ?_))
   .exact rl Z <| AL dl (A7.trans (Iw 8 ad Z Z) (wf hA (gi 5 [(5, 9), (6, 5), (7, 6), (8, 7), (9, 8)]) Z Z Z))
   exact rn 2 Z <| sx Z (KM (et := 4) (ke := (fun x => .agg (AT x))) (ve := .bool) (mp := b.2.1) (y := d) false CF Z Z Z Z <| rl Z <| AL dm (A7.trans (Iw 8 ad Z Z) (wf hA (gi 5 [(5, 9), (6, 5), (7, 6), (8, 7), (9, 8)]) Z Z Z)))
  refine cd Z dn (fun dp => ?_) (fun dq => ?_)
  .exact AV <| AX <| Am <| Ar dp (wf hA (gi 5 [(5, 6), (6, 7), (7, 8), (8, 9)]) Z Z Z)
  refine AE <| AC <| rs AA <| rn 2 Z <| sx Z (F9 (et := 4) (ke := (fun x => .agg (AT x))) (ve := .bool) (mp := b.2.1) (y := d) (z := true) CF Z Z Z Z Z Z <| rl Z <| AB <| rs AA <| rn 2 Z <| bq dq fun al ba dr => sx Z (AM (GC _ _ _ ba) (.inl Z) Z Z Z <| rl Z <| jb (fun ag : Bool => ⟨187, [(2, .lpb 0 0), (3, .lpb 1 0), (4, .lpb 2 0), (5, lb o.hard), (6, .lmap 3), (7, .lpb 4 0), (12, .fn 116 [.lpb 0 0, .lpb 4 0]), (13, .lpb 5 0), (14, li al), (92, lb ag)], [(0, .box [lq (Ap e)]), (1, .box [li c.frm, li c.to, li c.fin, ls 3 Ay g, ls 2 A0 i, .lsl 6 2 0 b.2.2.1.length, .lsl 7 1 0 b.2.2.2.1.length, .lsl 8 1 0 b.2.2.2.2.1.length, lb b.1]), (2, .box [li 0, li 0, li 0, .p (.nils), .p (.nils), .p (.nils), .p (.nils), .p (.nils), lb false]), (3, .map (Ak (fun x => .agg (AT x)) .bool (A2 d true b.2.1))), (4, .box [.lsl 9 2 0 f.length]), (5, .box [li d.elem, li d.fin]), (6, .row 185 2 (b.2.2.1.map A0)), (7, .row 3 1 (b.2.2.2.1.map Ae)), (8, .row 3 1 (b.2.2.2.2.1.map Ae)), (9, .row 40 2 (f.map AT))], 10⟩) dr (fun ag ds => ?_) (fun ag dv => ?_)))
  .refine rg AA <| rn 3 Z <| gs 89 ds Z Z Z (fun dt => ?_) (fun du => ?_)
   .exact rl Z <| AL dt (wf hA (gi 10 []) Z Z Z)
   exact rl Z <| AL du (wf hA (gi 10 []) Z Z Z)
  refine cd Z dv (fun dw => ?_) (fun d3 => ?_)
  .refine jb (fun ac : (List Int) => ⟨187, [(2, .lpb 0 0), (3, .lpb 1 0), (4, .lpb 2 0), (5, lb o.hard), (6, .lmap 3), (7, .lpb 4 0), (12, .fn 116 [.lpb 0 0, .lpb 4 0])], [(0, .box [lq (Ap e)]), (1, .box [li c.frm, li c.to, li c.fin, ls 3 Ay g, ls 2 A0 i, .lsl 5 2 0 b.2.2.1.length, .lsl 6 1 0 b.2.2.2.1.length, .lsl 7 1 0 ac.length, lb b.1]), (2, .box [li 0, li 0, li 0, .p (.nils), .p (.nils), .p (.nils), .p (.nils), .p (.nils), lb false]), (3, .map (Ak (fun x => .agg (AT x)) .bool (A2 d true b.2.1))), (4, .box [.lsl 8 2 0 f.length]), (5, .row 185 2 (b.2.2.1.map A0)), (6, .row 3 1 (b.2.2.2.1.map Ae)), (7, .row 3 1 (ac.map Ae)), (8, .row 40 2 (f.map AT))], 9⟩) dw (fun ac dx => ?_) (fun ac d2 => ?_)
   .refine rs AA <| rn 3 Z <| bq dx fun fp bb dy => sx Z (AM (Ci _ _ _ bb) (.inl Z) Z Z (Da.eq (.cons (.one (.own (enc := Ae) b.2.2.2.2.1 Z Z)) (.cons (.one (.p _)) .nil))) <| rl Z <| cd Z dy (fun dz => ?_) (fun d1 => ?_))
    .exact rg AA <| rn 4 Z <| bq dz fun fq bc d0 => sx Z (BX (enc := Ae) (l := b.2.2.2.2.1) (m := [al]) bc (fun _ => ⟨Z, Z⟩) Z Z Z Z Z Z <| rl Z <| AL d0 (wf hA (gi 5 [(5, 6), (6, 7), (7, 11), (8, 9)]) Z Z Z))
    exact AE <| AL d1 (wf hA (gi 5 [(5, 6), (6, 7), (7, 8), (8, 9)]) Z Z Z)
   exact AV <| AX <| Am <| Ar d2 (wf hA (gi 9 []) Z Z Z)
  refine AE <| AC <| rs AA <| rn 3 Z <| bq d3 fun fr be d4 => sx Z (AM (Bo _ _ _ be) (.inl Z) Z Z Z <| rl Z <| AH <| rs AA <| rl Z <| cd Z d4 (fun d5 => ?_) (fun d6 => ?_))
  .exact rg AA <| rl Z <| Ad <| Ad <| Ar d5 (wf hA (gi 5 [(5, 6), (6, 7), (7, 8), (8, 9)]) Z Z Z)
  refine rs AA <| rl Z <| cd Z d6 (fun d7 => ?_) (fun ci => ?_)
  .refine AB <| rs AA <| rl Z <| cd Z d7 (fun d8 => ?_) (fun e1 => ?_)
   .refine jb (fun t : (Bool × (List Int) × (List AI)) => ⟨187, [(2, .lpb 0 0), (3, .lpb 1 0), (4, .lpb 2 0), (5, lb o.hard), (6, .lmap 3), (7, .lpb 4 0), (12, .fn 116 [.lpb 0 0, .lpb 4 0])], [(0, .box [lq (Ap e)]), (1, .box [li c.frm, li c.to, li c.fin, ls 3 Ay g, ls 2 A0 i, .lsl 5 2 0 b.2.2.1.length, .lsl 6 1 0 t.2.1.length, .lsl 7 1 0 b.2.2.2.2.1.length, lb t.1]), (2, .box [li 0, li 0, li 0, .p (.nils), .p (.nils), .p (.nils), .p (.nils), .p (.nils), lb false]), (3, .map (Ak (fun x => .agg (AT x)) .bool (A2 d true b.2.1))), (4, .box [.lsl 8 2 0 t.2.2.length]), (5, .row 185 2 (b.2.2.1.map A0)), (6, .row 3 1 (t.2.1.map Ae)), (7, .row 3 1 (b.2.2.2.2.1.map Ae)), (8, .row 40 2 (t.2.2.map AT))], 9⟩) d8 (fun t d9 => ?_) (fun t e0 => ?_)
    .refine rs AA <| rn 2 Z <| sx Z (CP AA (fun j : (Bool × Bool × (List Int)) => lb j.1) (fun j : (Bool × Bool × (List Int)) => [(0, .box [lq (Ap e)]), (1, .box [li c.frm, li c.to, li c.fin, ls 3 Ay g, ls 2 A0 i, .lsl 6 2 0 b.2.2.1.length, .lsl 10 1 0 j.2.2.length, .lsl 8 1 0 b.2.2.2.2.1.length, lb j.2.1]), (2, .box [li 0, li 0, li 0, .p (.nils), .p (.nils), .p (.nils), .p (.nils), .p (.nils), lb false]), (3, .map (Ak (fun x => .agg (AT x)) .bool (A2 d true b.2.1))), (4, .box [.lsl 9 2 0 f.length]), (5, .box [li d.elem, li d.fin]), (6, .row 185 2 (b.2.2.1.map A0)), (8, .row 3 1 (b.2.2.2.2.1.map Ae)), (9, .row 40 2 (f.map AT)), (10, .row 3 1 (j.2.2.map Ae))]) 11 d9 Tryz.func118 30 [.tmp 4] [(0, .lpb 1 0), (1, li d.elem)] Z Z Z Z Z Z Z Z (fun A hA j ea => ?_) (fun j eh => ?_))
     .refine rs AA <| rl Z <| AB <| rs AA <| rn 5 Z <| bq ea fun fs bf eb => sx Z (AM (Ci _ _ _ bf) (.inl Z) Z Z (Da.eq (.cons (.one (.own (enc := Ae) b.2.2.2.1 Z Z)) (.cons (.one (.p _)) .nil))) <| rl Z <| cd Z eb (fun ec => ?_) (fun ed => ?_))
      .refine rs AA <| rl Z <| AF <| AG ?_
       cases ec
       exact CS (nt := 30) (sl := [(4, lb true)]) (wj hA (gi 7 [(8, 8), (9, 9), (10, 7), (7, 7)]) Z Z Z Z) Z
      refine AE <| AC <| AB <| rs AA <| rl Z <| cd Z ed (fun ee => ?_) (fun ef => ?_)
      .refine rs AA <| rl Z <| rs AA <| rl Z <| AF <| AG ?_
       cases ee
       exact CS (nt := 30) (sl := [(4, lb false)]) (wj hA (gi 7 [(8, 8), (9, 9), (10, 7), (7, 7)]) Z Z Z Z) Z
      refine AE <| AC <| rs AA <| rn 7 Z <| bq ef fun ft bg eg => sx Z (BX (enc := Ae) (l := b.2.2.2.1) (m := [d.elem]) bg (fun _ => ⟨Z, Z⟩) Z Z Z Z Z Z <| rl Z <| rs AA <| rl Z <| AF ?_)
      cases eg
      exact CS (nt := 30) (sl := [(4, lb true)]) (wj hA (gi 7 [(8, 8), (9, 9), (10, 11), (7, 7)]) Z Z Z Z) Z
     refine rl Z <| cd Z eh (fun ei => ?_) (fun ez => ?_)
     .refine rs AA <| rn 3 Z <| sx Z (CP AA (fun u : (List AI) => .tup []) (fun u : (List AI) => [(0, .box [lq (Ap e)]), (1, .box [li c.frm, li c.to, li c.fin, ls 3 Ay g, ls 2 A0 i, .lsl 6 2 0 b.2.2.1.length, .lsl 10 1 0 j.2.2.length, .lsl 8 1 0 b.2.2.2.2.1.length, lb j.2.1]), (2, .box [li 0, li 0, li 0, .p (.nils), .p (.nils), .p (.nils), .p (.nils), .p (.nils), lb false]), (3, .map (Ak (fun x => .agg (AT x)) .bool (A2 d true b.2.1))), (4, .box [.lsl 11 2 0 u.length]), (5, .box [li d.elem, li d.fin]), (6, .row 185 2 (b.2.2.1.map A0)), (8, .row 3 1 (b.2.2.2.2.1.map Ae)), (10, .row 3 1 (j.2.2.map Ae)), (11, .row 40 2 (u.map AT))]) 12 ei Tryz.func116 21 [] [(0, li d.elem), (1, li 2), (2, .lpb 0 0), (3, .lpb 4 0)] Z Z Z Z Z Z Z Z (fun A hA u ej => ?_) (fun u ep => ?_))
      .refine rs AA <| rn 4 Z <| bq ej fun e6 bh ek => sx Z (AM (CB _ _ _ bh) (.inl Z) Z Z Z <| rl Z <| rs AA <| rl Z <| cd Z ek (fun el => ?_) (fun eo => ?_))
       .refine rg AA <| rn 3 Z <| bq el fun fu bi em => sx Z (BX (enc := AT) (l := f) (m := [e6.1]) bi (fun _ => ⟨Z, Z⟩) Z Z Z Z Z Z <| rl Z ?_)
        have hr := Option.some.inj em; subst hr
        exact LR (nt := 21) (sl := []) (wj hA (gi 9 [(10, 10), (11, 13), (9, 9)]) Z Z Z Z) Z
       refine AE ?_
       have hr := Option.some.inj eo; subst hr
       exact LR (nt := 21) (sl := []) (wj hA (gi 9 [(10, 10), (11, 9), (9, 9)]) Z Z Z Z) Z
      refine rl Z <| rg AA <| rn 3 Z <| sx Z (CP AA (fun ab : (List AI) => .tup []) (fun ab : (List AI) => [(0, .box [lq (Ap e)]), (1, .box [li c.frm, li c.to, li c.fin, ls 3 Ay g, ls 2 A0 i, .lsl 6 2 0 b.2.2.1.length, .lsl 10 1 0 j.2.2.length, .lsl 8 1 0 b.2.2.2.2.1.length, lb j.2.1]), (2, .box [li 0, li 0, li 0, .p (.nils), .p (.nils), .p (.nils), .p (.nils), .p (.nils), lb false]), (3, .map (Ak (fun x => .agg (AT x)) .bool (A2 d true b.2.1))), (4, .box [.lsl 12 2 0 ab.length]), (5, .box [li d.elem, li d.fin]), (6, .row 185 2 (b.2.2.1.map A0)), (8, .row 3 1 (b.2.2.2.2.1.map Ae)), (10, .row 3 1 (j.2.2.map Ae)), (12, .row 40 2 (ab.map AT))]) 13 ep Tryz.func116 21 [] [(0, li d.elem), (1, li 1), (2, .lpb 0 0), (3, .lpb 4 0)] Z Z Z Z Z Z Z Z (fun A hA ab es => ?_) (fun ab ey => ?_))
      .refine rs AA <| rn 4 Z <| bq es fun e7 bj eu => sx Z (AM (CB _ _ _ bj) (.inl Z) Z Z Z <| rl Z <| rs AA <| rl Z <| cd Z eu (fun ev => ?_) (fun ex => ?_))
       .refine rg AA <| rn 3 Z <| bq ev fun fv bk ew => sx Z (BX (enc := AT) (l := u) (m := [e7.1]) bk (fun _ => ⟨Z, Z⟩) Z Z Z Z Z Z <| rl Z ?_)
        have hr := Option.some.inj ew; subst hr
        exact LR (nt := 21) (sl := []) (wj hA (gi 11 [(12, 14), (11, 11)]) Z Z Z Z) Z
       refine AE ?_
       have hr := Option.some.inj ex; subst hr
       exact LR (nt := 21) (sl := []) (wj hA (gi 11 [(12, 11), (11, 11)]) Z Z Z Z) Z
      exact rl Z <| AL ey (wf hA (gi 5 [(5, 6), (6, 10), (7, 8), (8, 12)]) Z Z Z)
     exact AE <| AL ez (wf hA (gi 5 [(5, 6), (6, 10), (7, 8), (8, 9)]) Z Z Z)
    exact AV <| AX <| LL Z <| Am <| Ar e0 (wf hA (gi 9 []) Z Z Z)
   refine AE <| AC <| rs AA <| rl Z <| AB <| jb (fun ae : Bool => ⟨187, [(2, .lpb 0 0), (3, .lpb 1 0), (4, .lpb 2 0), (5, lb o.hard), (6, .lmap 3), (7, .lpb 4 0), (12, .fn 116 [.lpb 0 0, .lpb 4 0]), (13, .lpb 5 0), (161, lb ae)], [(0, .box [lq (Ap e)]), (1, .box [li c.frm, li c.to, li c.fin, ls 3 Ay g, ls 2 A0 i, .lsl 6 2 0 b.2.2.1.length, .lsl 7 1 0 b.2.2.2.1.length, .lsl 8 1 0 b.2.2.2.2.1.length, lb b.1]), (2, .box [li 0, li 0, li 0, .p (.nils), .p (.nils), .p (.nils), .p (.nils), .p (.nils), lb false]), (3, .map (Ak (fun x => .agg (AT x)) .bool (A2 d true b.2.1))), (4, .box [.lsl 9 2 0 f.length]), (5, .box [li d.elem, li d.fin]), (6, .row 185 2 (b.2.2.1.map A0)), (7, .row 3 1 (b.2.2.2.1.map Ae)), (8, .row 3 1 (b.2.2.2.2.1.map Ae)), (9, .row 40 2 (f.map AT))], 10⟩) e1 (fun ae bl => ?_) (fun ae br => ?_)
   .refine rg AA <| rn 3 Z <| bq bl fun fb an bm => sx Z (AM (Dk _ _ _ an) (.inl Z) Z Z Z <| rn 1 Z <| gs 156 bm Z Z Z (fun bn => ?_) (fun bo => ?_))
    .exact rl Z <| AL bn (wf hA (gi 10 []) Z Z Z)
    exact rn 3 Z <| bq bo fun fc ao bp => sx Z (AM (Dk _ _ _ ao) (.inl Z) Z Z (Da.eq (.cons (.one (.own (enc := A0) b.2.2.1 Z Z)) (.cons (.one (.p _)) .nil))) <| rl Z <| AL bp (wf hA (gi 10 []) Z Z Z))
   refine cd Z br (fun bs => ?_) (fun cc => ?_)
   .refine jb (fun q : (Bool × (List Int) × (List AI)) => ⟨187, [(2, .lpb 0 0), (3, .lpb 1 0), (4, .lpb 2 0), (5, lb o.hard), (6, .lmap 3), (7, .lpb 4 0), (12, .fn 116 [.lpb 0 0, .lpb 4 0])], [(0, .box [lq (Ap e)]), (1, .box [li c.frm, li c.to, li c.fin, ls 3 Ay g, ls 2 A0 i, .lsl 5 2 0 b.2.2.1.length, .lsl 6 1 0 q.2.1.length, .lsl 7 1 0 b.2.2.2.2.1.length, lb q.1]), (2, .box [li 0, li 0, li 0, .p (.nils), .p (.nils), .p (.nils), .p (.nils), .p (.nils), lb false]), (3, .map (Ak (fun x => .agg (AT x)) .bool (A2 d true b.2.1))), (4, .box [.lsl 8 2 0 q.2.2.length]), (5, .row 185 2 (b.2.2.1.map A0)), (6, .row 3 1 (q.2.1.map Ae)), (7, .row 3 1 (b.2.2.2.2.1.map Ae)), (8, .row 40 2 (q.2.2.map AT))], 9⟩) bs (fun q bt => ?_) (fun q cb => ?_)
    .refine rs AA <| rn 2 Z <| sx Z (CP AA (fun k : (Bool × Bool × (List Int)) => lb k.1) (fun k : (Bool × Bool × (List Int)) => [(0, .box [lq (Ap e)]), (1, .box [li c.frm, li c.to, li c.fin, ls 3 Ay g, ls 2 A0 i, .lsl 6 2 0 b.2.2.1.length, .lsl 10 1 0 k.2.2.length, .lsl 8 1 0 b.2.2.2.2.1.length, lb k.2.1]), (2, .box [li 0, li 0, li 0, .p (.nils), .p (.nils), .p (.nils), .p (.nils), .p (.nils), lb false]), (3, .map (Ak (fun x => .agg (AT x)) .bool (A2 d true b.2.1))), (4, .box [.lsl 9 2 0 f.length]), (5, .box [li d.elem, li d.fin]), (6, .row 185 2 (b.2.2.1.map A0)), (8, .row 3 1 (b.2.2.2.2.1.map Ae)), (9, .row 40 2 (f.map AT)), (10, .row 3 1 (k.2.2.map Ae))]) 11 bt Tryz.func118 30 [.tmp 4] [(0, .lpb 1 0), (1, li d.elem)] Z Z Z Z Z Z Z Z (fun A hA k bu => ?_) (fun k b2 => ?_))
     .refine rs AA <| rl Z <| AB <| rs AA <| rn 5 Z <| bq bu fun fd ap bv => sx Z (AM (Ci _ _ _ ap) (.inl Z) Z Z (Da.eq (.cons (.one (.own (enc := Ae) b.2.2.2.1 Z Z)) (.cons (.one (.p _)) .nil))) <| rl Z <| cd Z bv (fun bw => ?_) (fun bx => ?_))
      .refine rs AA <| rl Z <| AF <| AG ?_
       cases bw
       exact CS (nt := 30) (sl := [(4, lb true)]) (wj hA (gi 7 [(8, 8), (9, 9), (10, 7), (7, 7)]) Z Z Z Z) Z
      refine AE <| AC <| AB <| rs AA <| rl Z <| cd Z bx (fun bz => ?_) (fun b0 => ?_)
      .refine rs AA <| rl Z <| rs AA <| rl Z <| AF <| AG ?_
       cases bz
       exact CS (nt := 30) (sl := [(4, lb false)]) (wj hA (gi 7 [(8, 8), (9, 9), (10, 7), (7, 7)]) Z Z Z Z) Z
      refine AE <| AC <| rs AA <| rn 7 Z <| bq b0 fun fe aq b1 => sx Z (BX (enc := Ae) (l := b.2.2.2.1) (m := [d.elem]) aq (fun _ => ⟨Z, Z⟩) Z Z Z Z Z Z <| rl Z <| rs AA <| rl Z <| AF ?_)
      cases b1
      exact CS (nt := 30) (sl := [(4, lb true)]) (wj hA (gi 7 [(8, 8), (9, 9), (10, 11), (7, 7)]) Z Z Z Z) Z
     refine rl Z <| cd Z b2 (fun b3 => ?_) (fun ca => ?_)
     .refine rg AA <| rn 3 Z <| sx Z (CP AA (fun w : (List AI) => .tup []) (fun w : (List AI) => [(0, .box [lq (Ap e)]), (1, .box [li c.frm, li c.to, li c.fin, ls 3 Ay g, ls 2 A0 i, .lsl 6 2 0 b.2.2.1.length, .lsl 10 1 0 k.2.2.length, .lsl 8 1 0 b.2.2.2.2.1.length, lb k.2.1]), (2, .box [li 0, li 0, li 0, .p (.nils), .p (.nils), .p (.nils), .p (.nils), .p (.nils), lb false]), (3, .map (Ak (fun x => .agg (AT x)) .bool (A2 d true b.2.1))), (4, .box [.lsl 11 2 0 w.length]), (5, .box [li d.elem, li d.fin]), (6, .row 185 2 (b.2.2.1.map A0)), (8, .row 3 1 (b.2.2.2.2.1.map Ae)), (10, .row 3 1 (k.2.2.map Ae)), (11, .row 40 2 (w.map AT))]) 12 b3 Tryz.func116 21 [] [(0, li d.elem), (1, li 0), (2, .lpb 0 0), (3, .lpb 4 0)] Z Z Z Z Z Z Z Z (fun A hA w b4 => ?_) (fun w b9 => ?_))
      .refine rs AA <| rn 4 Z <| bq b4 fun e2 ar b5 => sx Z (AM (CB _ _ _ ar) (.inl Z) Z Z Z <| rl Z <| rs AA <| rl Z <| cd Z b5 (fun b6 => ?_) (fun b8 => ?_))
       .refine rg AA <| rn 3 Z <| bq b6 fun ff au b7 => sx Z (BX (enc := AT) (l := f) (m := [e2.1]) au (fun _ => ⟨Z, Z⟩) Z Z Z Z Z Z <| rl Z ?_)
        have hr := Option.some.inj b7; subst hr
        exact LR (nt := 21) (sl := []) (wj hA (gi 9 [(10, 10), (11, 13), (9, 9)]) Z Z Z Z) Z
       refine AE ?_
       have hr := Option.some.inj b8; subst hr
       exact LR (nt := 21) (sl := []) (wj hA (gi 9 [(10, 10), (11, 9), (9, 9)]) Z Z Z Z) Z
      exact rl Z <| AL b9 (wf hA (gi 5 [(5, 6), (6, 10), (7, 8), (8, 11)]) Z Z Z)
     exact AE <| AL ca (wf hA (gi 5 [(5, 6), (6, 10), (7, 8), (8, 9)]) Z Z Z)
    exact AV <| AX <| LL Z <| Am <| Ar cb (wf hA (gi 9 []) Z Z Z)
   refine AE <| AC <| rs AA <| rl Z <| rs AA <| rn 3 Z <| bq cc fun fg av ce => sx Z (AM (Dk _ _ _ av) (.inl Z) Z Z (Da.eq (.cons (.one (.own (enc := A0) b.2.2.1 Z Z)) (.cons (.one (.p _)) .nil))) <| rl Z <| cd Z ce (fun cf => ?_) (fun ch => ?_))
   .exact rg AA <| rn 4 Z <| bq cf fun fh aw cg => sx Z (BX (enc := A0) (l := b.2.2.1) (m := [(⟨d.elem, AO (3 - d.fin)⟩ : Al)]) aw (fun _ => ⟨Z, Z⟩) Z Z Z Z Z Z <| rl Z <| Ad <| Ad <| Ar cg (wf hA (gi 5 [(5, 12), (6, 7), (7, 8), (8, 9)]) Z Z Z))
   exact AE <| Ad <| Ad <| Ar ch (wf hA (gi 5 [(5, 6), (6, 7), (7, 8), (8, 9)]) Z Z Z)
  refine rs AA <| rn 5 Z <| bq ci fun ak ax cj => sx Z (AM (Rz _ _ _ _ _ ax) (.inl Z) Z Z Z <| rl Z <| jb (fun n : (Bool × Bool × (List Int)) => ⟨187, [(2, .lpb 0 0), (3, .lpb 1 0), (4, .lpb 2 0), (5, lb o.hard), (6, .lmap 3), (7, .lpb 4 0), (12, .fn 116 [.lpb 0 0, .lpb 4 0]), (13, .lpb 5 0), (17, li ak.1), (122, lb n.1)], [(0, .box [lq (Ap e)]), (1, .box [li c.frm, li c.to, li c.fin, ls 3 Ay g, ls 2 A0 i, .lsl 6 2 0 b.2.2.1.length, .lsl 7 1 0 n.2.2.length, .lsl 8 1 0 b.2.2.2.2.1.length, lb n.2.1]), (2, .box [li 0, li 0, li 0, .p (.nils), .p (.nils), .p (.nils), .p (.nils), .p (.nils), lb false]), (3, .map (Ak (fun x => .agg (AT x)) .bool (A2 d true b.2.1))), (4, .box [.lsl 9 2 0 f.length]), (5, .box [li d.elem, li d.fin]), (6, .row 185 2 (b.2.2.1.map A0)), (7, .row 3 1 (n.2.2.map Ae)), (8, .row 3 1 (b.2.2.2.2.1.map Ae)), (9, .row 40 2 (f.map AT))], 10⟩) cj (fun n ck => ?_) (fun n cv => ?_))
  .refine rg AA <| rn 2 Z <| gs 118 ck Z Z Z (fun cl => ?_) (fun cu => ?_)
   .refine rn 2 Z <| sx Z (CP AA (fun s : (Bool × Bool × (List Int)) => lb s.1) (fun s : (Bool × Bool × (List Int)) => [(0, .box [lq (Ap e)]), (1, .box [li c.frm, li c.to, li c.fin, ls 3 Ay g, ls 2 A0 i, .lsl 6 2 0 b.2.2.1.length, .lsl 10 1 0 s.2.2.length, .lsl 8 1 0 b.2.2.2.2.1.length, lb s.2.1]), (2, .box [li 0, li 0, li 0, .p (.nils), .p (.nils), .p (.nils), .p (.nils), .p (.nils), lb false]), (3, .map (Ak (fun x => .agg (AT x)) .bool (A2 d true b.2.1))), (4, .box [.lsl 9 2 0 f.length]), (5, .box [li d.elem, li d.fin]), (6, .row 185 2 (b.2.2.1.map A0)), (8, .row 3 1 (b.2.2.2.2.1.map Ae)), (9, .row 40 2 (f.map AT)), (10, .row 3 1 (s.2.2.map Ae))]) 11 cl Tryz.func118 30 [.tmp 4] [(0, .lpb 1 0), (1, li d.elem)] Z Z Z Z Z Z Z Z (fun A hA s cm => ?_) (fun s ct => ?_))
    .refine rs AA <| rl Z <| AB <| rs AA <| rn 5 Z <| bq cm fun fi ay cn => sx Z (AM (Ci _ _ _ ay) (.inl Z) Z Z (Da.eq (.cons (.one (.own (enc := Ae) b.2.2.2.1 Z Z)) (.cons (.one (.p _)) .nil))) <| rl Z <| cd Z cn (fun co => ?_) (fun cp => ?_))
     .refine rs AA <| rl Z <| AF <| AG ?_
      cases co
      exact CS (nt := 30) (sl := [(4, lb true)]) (wj hA (gi 7 [(8, 8), (9, 9), (10, 7), (7, 7)]) Z Z Z Z) Z
     refine AE <| AC <| AB <| rs AA <| rl Z <| cd Z cp (fun cq => ?_) (fun cr => ?_)
     .refine rs AA <| rl Z <| rs AA <| rl Z <| AF <| AG ?_
      cases cq
      exact CS (nt := 30) (sl := [(4, lb false)]) (wj hA (gi 7 [(8, 8), (9, 9), (10, 7), (7, 7)]) Z Z Z Z) Z
     refine AE <| AC <| rs AA <| rn 7 Z <| bq cr fun fj az cs => sx Z (BX (enc := Ae) (l := b.2.2.2.1) (m := [d.elem]) az (fun _ => ⟨Z, Z⟩) Z Z Z Z Z Z <| rl Z <| rs AA <| rl Z <| AF ?_)
     cases cs
     exact CS (nt := 30) (sl := [(4, lb true)]) (wj hA (gi 7 [(8, 8), (9, 9), (10, 11), (7, 7)]) Z Z Z Z) Z
    exact rl Z <| AL ct (wf hA (gi 7 [(7, 10), (8, 8), (9, 9)]) Z Z Z)
   exact rl Z <| AL cu (wf hA (gi 10 []) Z Z Z)
  refine cd Z cv (fun cw => ?_) (fun c3 => ?_)
  .refine rg AA <| rn 4 Z <| sx Z (CP AA (fun aa : (List AI) => .tup []) (fun aa : (List AI) => [(0, .box [lq (Ap e)]), (1, .box [li c.frm, li c.to, li c.fin, ls 3 Ay g, ls 2 A0 i, .lsl 6 2 0 b.2.2.1.length, .lsl 7 1 0 n.2.2.length, .lsl 8 1 0 b.2.2.2.2.1.length, lb n.2.1]), (2, .box [li 0, li 0, li 0, .p (.nils), .p (.nils), .p (.nils), .p (.nils), .p (.nils), lb false]), (3, .map (Ak (fun x => .agg (AT x)) .bool (A2 d true b.2.1))), (4, .box [.lsl 10 2 0 aa.length]), (5, .box [li d.elem, li d.fin]), (6, .row 185 2 (b.2.2.1.map A0)), (7, .row 3 1 (n.2.2.map Ae)), (8, .row 3 1 (b.2.2.2.2.1.map Ae)), (10, .row 40 2 (aa.map AT))]) 11 cw Tryz.func116 21 [] [(0, li d.elem), (1, li ak.1), (2, .lpb 0 0), (3, .lpb 4 0)] Z Z Z Z Z Z Z Z (fun A hA aa cx => ?_) (fun aa c2 => ?_))
   .refine rs AA <| rn 4 Z <| bq cx fun e3 a0 cy => sx Z (AM (CB _ _ _ a0) (.inl Z) Z Z Z <| rl Z <| rs AA <| rl Z <| cd Z cy (fun cz => ?_) (fun c1 => ?_))
    .refine rg AA <| rn 3 Z <| bq cz fun fk a1 c0 => sx Z (BX (enc := AT) (l := f) (m := [e3.1]) a1 (fun _ => ⟨Z, Z⟩) Z Z Z Z Z Z <| rl Z ?_)
     have hr := Option.some.inj c0; subst hr
     exact LR (nt := 21) (sl := []) (wj hA (gi 9 [(10, 12), (9, 9)]) Z Z Z Z) Z
    refine AE ?_
    have hr := Option.some.inj c1; subst hr
    exact LR (nt := 21) (sl := []) (wj hA (gi 9 [(10, 9), (9, 9)]) Z Z Z Z) Z
   exact rl Z <| Ad <| Ad <| Ar c2 (wf hA (gi 5 [(5, 6), (6, 7), (7, 8), (8, 10)]) Z Z Z)
  exact AE <| Ad <| Ad <| Ar c3 (wf hA (gi 5 [(5, 6), (6, 7), (7, 8), (8, 9)]) Z Z Z)
 refine AV <| AX <| BI c4 fun e8 c5 => Am <| AC <| rs AA <| rl Z <| AF <| IE ?_
 cases c5
 exact er (ID Z (.agg (.cons (.p _) (.cons (.p _) (.cons (.p _) (.cons (.p _) (.cons (.p _) (.cons (.own (enc := A0) b.2.2.1 Z Z) (.cons (.own (enc := Ae) b.2.2.2.1 Z Z) (.cons (.own (enc := Ae) b.2.2.2.2.1 Z Z) (.cons (.p _) .nil))))))))))) Le.rfl
end Go.E
/- Plain functions, and walks in step with them. Written by a program (gen.py). No condition. -/
set_option maxRecDepth 100000
set_option maxHeartbeats 1000000
namespace Go.E
open Go Go.RowKit Go.Proofs
noncomputable def D9 (b : Az) (f : ((List An) × Int)) (a : Int × (List An)) : Option ((Int × (List An)) ⊕ (DC × Int)) :=
 bif decide (a.1 < (f.1.length : Int)) then (AZ a.2 a.1).bind fun c => (EZ b c).bind fun d => (AZ a.2 a.1).bind fun g => some (.inl (AO (a.1 + 1), A6 a.2 a.1 d)) else ((B9 b).bind fun e => some ((⟨e, a.2⟩ : DC), 0)).map .inr
noncomputable def Fp (d : AK) : Option (DC × Int) :=
 (Cf d).bind fun a => Is a.1 (bif (a.2 != 0) then some ((⟨(⟨[], [], [], [], 0, 0, 0, 0, false⟩ : AK), []⟩ : DC), a.2) else none) fun c => bif (a.2 != 0) then some ((⟨(⟨[], [], [], [], 0, 0, 0, 0, false⟩ : AK), []⟩ : DC), a.2) else (Ia c).bind fun b => bif (b.2 != 0) then some ((⟨(⟨[], [], [], [], 0, 0, 0, 0, false⟩ : AK), []⟩ : DC), b.2) else AU (D9 c b) (0, b.1)
theorem Sy (d : AK) (r : (DC × Int)) (h : Fp d = some r) : Aw Tryz.prog 52 [.agg (AQ d)] (· = .tup [.agg (D7 r.1), .int .i64 r.2]) := by
 refine fn AA Tryz.func52 Z Z 45 Z [.cell 2 35, .tmp 3] Z [(0, .p (.agg (AQ d)))] Z Z fun A hA => ?_
 unfold Fp at h
 refine rs AA <| rl Z <| rs AA <| rn 1 Z <| bq h fun af l b => sx Z (AM (Oq _ _ l) (.inr Z) Z Z Z ?_)
 revert b; rcases aj : af.1 with _ | ag <;> intro b
 .replace b := Ti b
  refine rl Z <| AB <| rs AA <| rl Z <| cd Z b (fun ac => ?_) (fun m => ?_)
  .refine rs AA <| rl Z <| AF <| AG ?_
   cases ac
   exact er Z (Le.tup' (.cons (Le.agg' (.cons (Le.nil _) (.cons (Le.nil _) (.cons (Le.nil _) (.cons (Le.nil _) (.cons Le.rfl (.cons Le.rfl (.cons Le.rfl (.cons Le.rfl (.cons Le.rfl (.cons (Le.nil _) .nil))))))))))) (.cons Le.rfl .nil)))
  refine AE <| AC <| rs AA <| rn 1 Z ?_
  cases m
 replace b := Tj b
 refine rl Z <| AB <| rs AA <| rl Z <| cd Z b (fun v => ?_) (fun x => ?_)
 .refine rs AA <| rl Z <| AF <| AG ?_
  cases v
  exact er Z (Le.tup' (.cons (Le.agg' (.cons (Le.nil _) (.cons (Le.nil _) (.cons (Le.nil _) (.cons (Le.nil _) (.cons Le.rfl (.cons Le.rfl (.cons Le.rfl (.cons Le.rfl (.cons Le.rfl (.cons (Le.nil _) .nil))))))))))) (.cons Le.rfl .nil)))
 refine AE <| AC <| rs AA <| rn 1 Z <| bq x fun ae k y => sx Z (Vi (c' := 3) (Wd _ _ k) [] Z trivial Z Z Z Z Z Z Z <| rl Z <| AB <| rs AA <| rl Z <| cd Z y (fun aa => ?_) (fun ab => ?_))
 .refine rs AA <| rl Z <| AF <| AG ?_
  cases aa
  exact er Z (Le.tup' (.cons (Le.agg' (.cons (Le.nil _) (.cons (Le.nil _) (.cons (Le.nil _) (.cons (Le.nil _) (.cons Le.rfl (.cons Le.rfl (.cons Le.rfl (.cons Le.rfl (.cons Le.rfl (.cons (Le.nil _) .nil))))))))))) (.cons Le.rfl .nil)))
 refine AE <| AC <| AB <| rs AA <| rl Z <| AH ?_
 apply lp (a := r) (fun c : (Int × (List An)) => ⟨45, [(2, .lpb 0 0), (4, lq (Ap ag)), (6, .lsl 1 9 0 c.2.length), (27, li (ae.1.length : Int)), (28, li c.1)], [(0, .box [.p (.nils), .p (.nils), .p (.nils), .p (.nils), li 0, li 0, li 0, li 0, lb false, .p (.nils)]), (1, .row 72 9 (c.2.map BK))], 2⟩) ab
 . exact wf hA [(0, 1), (1, 2)] Z Z Z
 intro c ai g
 unfold D9 at g
 refine rs AA <| rl Z <| AB <| cd Z g (fun n => ?_) (fun t => ?_)
 .exact AE <| AC <| AB <| AH <| rs AA <| rl Z <| rg AA <| rn 5 Z <| bq n fun ak e o => sx Z (Bt e Z Z Z Z <| sx Z (C0 e Z Z Z <| bq o fun ad i q => sx Z (AM (Wg _ _ _ i) (.inr Z) Z Z Z <| bq q fun al f s => sx Z (Bt f Z Z Z Z <| sx Z (LO (z := ad) f Z Z Z Z Z Z Z Z <| rl Z <| Ad <| AC <| rg AA <| rl Z <| Ar s (wk [(0, 0), (1, 1)] (free hA _) Z Z Z (.cons Z (.cons Z (.cons (by simp only [BH]; rfl) (.cons Z (.cons Z .nil))))) (.cons Z Z (.cons Z Z .nil))))))))
 refine AV <| AX <| CM t fun ah u => Am <| AC <| rs AA <| rn 1 Z <| bq u fun am j w => sx Z (AM (Gu _ _ j) (.inr Z) Z Z Z <| rl Z <| AF ?_)
 cases w
 exact er (Tn Z (.cons (.agg (.cons (.p _) (.cons (.p _) (.cons (.p _) (.cons (.p _) (.cons (.p _) (.cons (.p _) (.cons (.p _) (.cons (.p _) (.cons (.p _) (.cons (.own (enc := BK) c.2 Z Z) .nil))))))))))) (.cons (.one (.p _)) .nil))) Le.rfl
noncomputable def Fz (a : AK) : Option (DC × Bool) :=
 (Ga a).bind fun c => bif (!c) then some ((⟨(⟨[], [], [], [], 0, 0, 0, 0, false⟩ : AK), []⟩ : DC), false) else (Fp a).bind fun b => some (b.1, (b.2 == 0))
theorem Pu (a : AK) (r : (DC × Bool)) (h : Fz a = some r) : Aw Tryz.prog 24 [.agg (AQ a)] (· = .tup [.agg (D7 r.1), .bool r.2]) := by
 refine fn AA Tryz.func24 Z Z 18 Z [.cell 2 35, .tmp 3] Z [(0, .p (.agg (AQ a)))] Z Z fun A hA => ?_
 unfold Fz at h
 refine rs AA <| rl Z <| AB <| rs AA <| rn 1 Z <| bq h fun j c d => sx Z (AM (Ot _ _ c) (.inl Z) Z Z Z <| rl Z <| cd Z d (fun e => ?_) (fun f => ?_))
 .refine rs AA <| rl Z <| AF <| AG ?_
  cases e
  exact er Z (Le.tup' (.cons (Le.agg' (.cons (Le.nil _) (.cons (Le.nil _) (.cons (Le.nil _) (.cons (Le.nil _) (.cons Le.rfl (.cons Le.rfl (.cons Le.rfl (.cons Le.rfl (.cons Le.rfl (.cons (Le.nil _) .nil))))))))))) (.cons Le.rfl .nil)))
 refine AE <| AC <| rs AA <| rn 1 Z <| bq f fun i b g => sx Z (AM (Sy _ _ b) (.inr Z) Z Z Z <| rl Z <| rs AA <| rl Z <| AF ?_)
 cases g
 exact er Z Le.rfl
noncomputable def H0 (b : AK) : Option (Option Az) :=
 (Ga b).bind fun c => bif (!c) then some none else (Cf b).bind fun a => Is a.1 (bif (a.2 != 0) then some none else some none) fun d => bif (a.2 != 0) then some none else some (some d)
theorem SR (b : AK) (r : (Option Az)) (h : H0 b = some r) : Aw Tryz.prog 33 [.agg (AQ b)] (· = WY Ap r) := by
 refine fn AA Tryz.func33 Z Z 16 Z [.tmp 2] Z [(0, .p (.agg (AQ b)))] Z Z fun A hA => ?_
 unfold H0 at h
 refine rs AA <| rl Z <| AB <| rs AA <| rn 1 Z <| bq h fun o d e => sx Z (AM (Ot _ _ d) (.inl Z) Z Z Z <| rl Z <| cd Z e (fun f => ?_) (fun g => ?_))
 .refine rs AA <| rl Z <| AF <| AG ?_
  cases f
  exact er Z Le.rfl
 refine AE <| AC <| rs AA <| rn 1 Z <| bq g fun m c a => sx Z (AM (Oq _ _ c) (.inr Z) Z Z Z ?_)
 revert a; rcases n : m.1 with _ | q <;> intro a
 .replace a := Ti a
  refine rl Z <| AB <| rs AA <| rl Z <| cd Z a (fun i => ?_) (fun j => ?_)
  .refine rs AA <| rl Z <| AF <| AG ?_
   cases i
   exact er Z Le.rfl
  refine AE <| AC <| rs AA <| rl Z <| AF ?_
  cases j
  exact er Z Le.rfl
 replace a := Tj a
 refine rl Z <| AB <| rs AA <| rl Z <| cd Z a (fun k => ?_) (fun l => ?_)
 .refine rs AA <| rl Z <| AF <| AG ?_
  cases k
  exact er Z Le.rfl
 refine AE <| AC <| rs AA <| rl Z <| AF ?_
 cases l
 exact er Z Le.rfl
noncomputable def GY : Option Ai :=
 some (⟨0, ([(⟨(⟨#[120]⟩ : ByteArray), 5, 10, 10, 5⟩ : BT)] : List BT), ([(⟨(⟨#[116]⟩ : ByteArray), 0, 0, 0, ([(⟨false, 0, 1, 1⟩ : Db), (⟨false, 0, 3, 4⟩ : Db), (⟨true, 0, 2, 0⟩ : Db)] : List Db)⟩ : DR)] : List DR)⟩ : Ai)
theorem Jl (r : Ai) (h : GY = some r) : Aw Tryz.prog 34 [] (· = .agg (AW r)) := by
 refine fn AA Tryz.func34 Z Z 10 Z [.cell 0 31] Z [] Z Z fun A hA => ?_
 unfold GY at h
 refine rs AA <| rl Z <| rs AA <| rn 1 Z <| sx Z (WQ (sz := 5) (l := List.map BM ([(⟨(⟨#[120]⟩ : ByteArray), 5, 10, 10, 5⟩ : BT)] : List BT)) Z <| rn 3 Z <| sx Z (WQ (sz := 4) (l := List.map Dj ([(⟨false, 0, 1, 1⟩ : Db), (⟨false, 0, 3, 4⟩ : Db), (⟨true, 0, 2, 0⟩ : Db)] : List Db)) Z <| rn 1 Z <| sx Z (WQ (sz := 5) (l := List.map Bu ([(⟨(⟨#[116]⟩ : ByteArray), 0, 0, 0, ([(⟨false, 0, 1, 1⟩ : Db), (⟨false, 0, 3, 4⟩ : Db), (⟨true, 0, 2, 0⟩ : Db)] : List Db)⟩ : DR)] : List DR)) Z <| rl Z <| AF ?_)))
 cases h
 exact er Z Le.rfl
noncomputable def FP (b : Ai) (a : Int) (c : Int) : Option ((List Db) × Bool) :=
 ((bif decide (a < 0) then some true else bif decide ((b.runs.length : Int) <= a) then some true else bif decide (c < 0) then some true else (AZ b.runs a).bind fun e => some (decide ((e.legs.length : Int) < c)) : Option (Bool))).bind fun (d : Bool) => bif d then some ([], false) else (AZ b.runs a).bind fun f => some (f.legs, true)
theorem NX (a : Ai) (b : Int) (d : Int) (r : ((List Db) × Bool)) (h : FP a b d = some r) : Aw Tryz.prog 39 [.agg (AW a), .int .i64 b, .int .i64 d] (· = .tup [.slice 4 (r.1.map Dj), .bool r.2]) := by
 refine fn AA Tryz.func39 Z Z 38 Z [.tmp 6, .tmp 7] Z [(0, .p (.agg (AW a))), (1, .p (.int .i64 b)), (2, .p (.int .i64 d))] Z Z fun A hA => ?_
 unfold FP at h
 refine rs AA <| rl Z <| AB <| jb (fun c : Bool => ⟨38, [(1, li b), (3, .lpb 0 0), (31, lb c)], [(0, bx (AW a))], 1⟩) h (fun c g => ?_) (fun c q => ?_)
 .refine rg AA <| rn 3 Z <| gs 10 g Z Z Z (fun i => ?_) (fun j => ?_)
  .exact rl Z <| AL i (wf hA [(0, 0)] Z Z Z)
  refine rn 3 Z <| sx Z (Ac Z Z <| rn 3 Z <| gs 17 j Z Z Z (fun k => ?_) (fun l => ?_))
  .exact rl Z <| AL k (wf hA [(0, 0)] Z Z Z)
  refine rn 4 Z <| gs 21 l Z Z Z (fun m => ?_) (fun n => ?_)
  .exact rl Z <| AL m (wf hA [(0, 0)] Z Z Z)
  exact rn 4 Z <| bq n fun v e o => sx Z (Aa e Z Z Z <| rn 2 Z <| sx Z (Ac Z Z <| rl Z <| AL o (wf hA [(0, 0)] Z Z Z)))
 refine cd Z q (fun s => ?_) (fun t => ?_)
 .refine rs AA <| rl Z <| AF <| AG ?_
  cases s
  exact er Z (Le.tup' (.cons (Le.nil _) (.cons Le.rfl .nil)))
 refine AE <| AC <| rs AA <| rn 3 Z <| bq t fun w f u => sx Z (Aa f Z Z Z <| rl Z <| AF ?_)
 cases u
 exact er Z Le.rfl
noncomputable def Hn (b : Az) (c : Int) : Option (Int × Bool) :=
 (CW b c).bind fun a => some (a.1.elem, a.2)
theorem Sz (a : Az) (b : Int) (r : (Int × Bool)) (h : Hn a b = some r) : Aw Tryz.prog 70 [.place (Ap a) 0, .int .i64 b] (· = .tup [.int .i64 r.1, .bool r.2]) := by
 refine fn AA Tryz.func70 Z Z 17 Z [.tmp 4, .tmp 5] Z [(0, .p (.place (Ap a) 0)), (1, .p (.int .i64 b))] Z Z fun A hA => ?_
 unfold Hn at h
 refine rs AA <| rl Z <| rs AA <| rn 2 Z <| bq h fun e c d => sx Z (AM (GX _ _ _ c) (.inl Z) Z Z Z <| rl Z <| rs AA <| rl Z <| AF ?_)
 cases d
 exact er Z Le.rfl
noncomputable def F2 (b : Az) (c : Int) : Option Int :=
 (Hn b c).bind fun a => bif (!a.2) then some (-1) else some a.1
theorem Pw (a : Az) (b : Int) (r : Int) (h : F2 a b = some r) : Aw Tryz.prog 40 [.place (Ap a) 0, .int .i64 b] (· = .int .i64 r) := by
 refine fn AA Tryz.func40 Z Z 16 Z [.tmp 4] Z [(0, .p (.place (Ap a) 0)), (1, .p (.int .i64 b))] Z Z fun A hA => ?_
 unfold F2 at h
 refine rs AA <| rl Z <| rs AA <| rn 2 Z <| bq h fun g c d => sx Z (AM (Sz _ _ _ c) (.inl Z) Z Z Z <| rl Z <| AB <| rs AA <| rl Z <| cd Z d (fun e => ?_) (fun f => ?_))
 .refine rs AA <| rl Z <| AF <| AG ?_
  cases e
  exact er Z Le.rfl
 refine AE <| AC <| rs AA <| rl Z <| AF ?_
 cases f
 exact er Z Le.rfl
noncomputable def CV (c : Az) (d : Ai) (e : Int) (b : Int) : Option Int :=
 (FP d e b).bind fun f => bif (!f.2) then some (-1) else bif (b == 0) then (AZ d.runs e).bind fun g => (F2 c g.frm).bind fun h => some h else (AZ f.1 (AO (b - 1))).bind fun a => bif (a.fin == 1) then (F2 c a.to).bind fun i => some i else bif (a.fin == 3) then some a.to else some (-1)
theorem Ex (a : Az) (b : Ai) (c : Int) (d : Int) (r : Int) (h : CV a b c d = some r) : Aw Tryz.prog 13 [.place (Ap a) 0, .agg (AW b), .int .i64 c, .int .i64 d] (· = .int .i64 r) := by
 refine fn AA Tryz.func13 Z Z 48 Z [.tmp 8] Z [(0, .p (.place (Ap a) 0)), (1, .p (.agg (AW b))), (2, .p (.int .i64 c)), (3, .p (.int .i64 d))] Z Z fun A hA => ?_
 unfold CV at h
 refine rs AA <| rl Z <| rs AA <| rn 3 Z <| bq h fun ab g o => sx Z (AM (NX _ _ _ _ g) (.inr Z) Z Z Z <| rl Z <| AB <| rs AA <| rl Z <| cd Z o (fun x => ?_) (fun y => ?_))
 .refine rs AA <| rl Z <| AF <| AG ?_
  cases x
  exact er Z Le.rfl
 refine AE <| AC <| AB <| rs AA <| rl Z <| cd Z y (fun k => ?_) (fun n => ?_)
 .refine rs AA <| rn 4 Z <| bq k fun z e l => sx Z (Aa e Z Z Z <| rn 2 Z <| bq l fun aa f m => sx Z (AM (Pw _ _ _ f) (.inl Z) Z Z Z <| rl Z <| AF <| AG ?_))
  have hr := Option.some.inj m; subst hr
  exact er Z Le.rfl
 refine AE <| AC <| AB <| rs AA <| rn 3 Z <| bq n fun ac i q => sx Z (Aa i Z Z Z <| rl Z <| rs AA <| rl Z <| AH <| rs AA <| rl Z <| cd Z q (fun s => ?_) (fun u => ?_))
 .refine rs AA <| rn 3 Z <| bq s fun ad j t => sx Z (AM (Pw _ _ _ j) (.inl Z) Z Z Z <| rl Z <| AF <| AN <| AG ?_)
  have hr := Option.some.inj t; subst hr
  exact er Z Le.rfl
 refine rs AA <| rl Z <| cd Z u (fun v => ?_) (fun w => ?_)
 .refine rs AA <| rl Z <| AF <| AN <| AG ?_
  cases v
  exact er Z Le.rfl
 refine AE <| Ad <| AC <| rs AA <| rl Z <| AF ?_
 cases w
 exact er Z Le.rfl
noncomputable def JF (b : Az) (a : Int) : Option Int :=
 (BR b a).bind fun c => bif (c == 4) then some (-1) else some a
theorem Pr (a : Az) (b : Int) (r : Int) (h : JF a b = some r) : Aw Tryz.prog 48 [.place (Ap a) 0, .int .i64 b] (· = .int .i64 r) := by
 refine fn AA Tryz.func48 Z Z 10 Z [.tmp 4] Z [(0, .p (.place (Ap a) 0)), (1, .p (.int .i64 b))] Z Z fun A hA => ?_
 unfold JF at h
 refine rs AA <| rl Z <| AB <| rs AA <| rn 2 Z <| bq h fun g c d => sx Z (AM (Bo _ _ _ c) (.inl Z) Z Z Z <| rl Z <| cd Z d (fun e => ?_) (fun f => ?_))
 .refine rs AA <| rl Z <| AF <| AG ?_
  cases e
  exact er Z Le.rfl
 refine AE <| AC <| rs AA <| rl Z <| AF ?_
 have hr := Option.some.inj f; subst hr
 exact er Z Le.rfl
noncomputable def Gt (a : Az) (b : Int) : Option (Int × Int) :=
 bif (Ah a.line b).isSome then (AZ ([((Ah a.line b).getD (⟨0, 0⟩ : Bf)).a0, ((Ah a.line b).getD (⟨0, 0⟩ : Bf)).a1] : List Int) 0).bind fun c => (AZ ([((Ah a.line b).getD (⟨0, 0⟩ : Bf)).a0, ((Ah a.line b).getD (⟨0, 0⟩ : Bf)).a1] : List Int) 1).bind fun d => some (c, d) else some ((-1), (-1))
theorem MY (a : Az) (b : Int) (r : (Int × Int)) (h : Gt a b = some r) : Aw Tryz.prog 77 [.place (Ap a) 0, .int .i64 b] (· = .tup [.int .i64 r.1, .int .i64 r.2]) := by
 refine fn AA Tryz.func77 Z Z 22 Z [.tmp 4, .tmp 5] Z [(0, .p (.place (Ap a) 0)), (1, .p (.int .i64 b))] Z Z fun A hA => ?_
 unfold Gt at h
 refine rs AA <| rl Z <| AB <| rs AA <| rn 5 Z <| sx Z (JD (et := 161) (ke := (.int .i64)) (ve := (fun x => .agg (Ej x))) (mp := a.line) (y := b) (⟨0, 0⟩ : Bf) Fh Z Z Z Z <| rl Z <| rs AA <| rl Z <| cd Z h (fun e => ?_) (fun j => ?_))
 .refine AB ?_
  refine B0 AA mixed [0, 1, 2, 3, 4, 5] 6 (by kernel_rfl) Z Z Z ?_
  refine bq e fun k c f => As Z (Aj Z (WN (l := ([((Ah a.line b).getD (⟨0, 0⟩ : Bf)).a0, ((Ah a.line b).getD (⟨0, 0⟩ : Bf)).a1] : List Int)) c Z Z Z Z <| As Z (GR Z (WP (g := fun y => .p (.int .i64 y)) c Z Z Z Z <| bq f fun m d i => As Z (Aj Z (WN (l := ([((Ah a.line b).getD (⟨0, 0⟩ : Bf)).a0, ((Ah a.line b).getD (⟨0, 0⟩ : Bf)).a1] : List Int)) d Z Z Z Z <| As Z (GR Z (WP (g := fun y => .p (.int .i64 y)) d Z Z Z Z <| BJ Z <| AC <| AF <| AG ?_))))))))
  cases i
  exact er Z Le.rfl
 refine AE <| AC <| rs AA <| rl Z <| AF ?_
 cases j
 exact er Z Le.rfl
noncomputable def Hd (b : Az) (c : Ai) (d : Int) (e : Int) : Option (AI × Bool) :=
 bif (e == 0) then (AZ c.runs d).bind fun l => (CW b l.frm).bind fun f => some (f.1, f.2) else (AZ c.runs d).bind fun m => (AZ m.legs (AO (e - 1))).bind fun a => bif (a.fin == 1) then (CW b a.to).bind fun g => some (g.1, g.2) else bif (a.fin == 3) then (Bb b (⟨a.to, 0⟩ : AI)).bind fun h => (Bb b (⟨a.to, 1⟩ : AI)).bind fun i => ((bif (!h.2) then some i.2 else some false : Option (Bool))).bind fun (j : Bool) => bif j then some ((⟨a.to, 0⟩ : AI), true) else ((bif h.2 then some (!i.2) else some false : Option (Bool))).bind fun (k : Bool) => some ((⟨a.to, 1⟩ : AI), k) else some ((⟨0, 0⟩ : AI), false)
theorem VC (c : Az) (d : Ai) (e : Int) (f : Int) (r : (AI × Bool)) (h : Hd c d e f = some r) : Aw Tryz.prog 42 [.place (Ap c) 0, .agg (AW d), .int .i64 e, .int .i64 f] (· = .tup [.agg (AT r.1), .bool r.2]) := by
 refine fn AA Tryz.func42 Z Z 82 Z [.cell 8 40, .tmp 9] Z [(0, .p (.place (Ap c) 0)), (1, .p (.agg (AW d))), (2, .p (.int .i64 e)), (3, .p (.int .i64 f))] Z Z fun A hA => ?_
 unfold Hd at h
 refine rs AA <| rl Z <| AB <| rs AA <| rl Z <| cd Z h (fun w => ?_) (fun af => ?_)
 .refine rs AA <| rn 4 Z <| bq w fun aq i ad => sx Z (Aa i Z Z Z <| rn 2 Z <| bq ad fun ar j ae => sx Z (AM (GX _ _ _ j) (.inl Z) Z Z Z <| rl Z <| AF <| AG ?_))
  cases ae
  exact er Z Le.rfl
 refine AE <| AC <| AB <| rs AA <| rn 3 Z <| bq af fun au k ag => sx Z (Aa k Z Z Z <| rn 4 Z <| bq ag fun g l ah => sx Z (Aa l Z Z Z <| rl Z <| rs AA <| rl Z <| AH <| rs AA <| rl Z <| cd Z ah (fun ai => ?_) (fun ak => ?_)))
 .refine rs AA <| rn 3 Z <| bq ai fun av m aj => sx Z (AM (GX _ _ _ m) (.inl Z) Z Z Z <| rl Z <| AF <| AN <| AG ?_)
  cases aj
  exact er Z Le.rfl
 refine rs AA <| rl Z <| cd Z ak (fun al => ?_) (fun ac => ?_)
 .refine rs AA <| rn 4 Z <| bq al fun ao n am => sx Z (AM (CB _ _ _ n) (.inl Z) Z Z Z <| rl Z <| rs AA <| rn 4 Z <| bq am fun ap o an => sx Z (AM (CB _ _ _ o) (.inl Z) Z Z Z <| rl Z <| AB <| jb (fun a : Bool => ⟨82, [(8, .lpb 0 0), (10, .lpb 1 0), (12, lb ao.2), (14, lb ap.2), (69, lb a)], [(0, .box [li 0, li 0]), (1, bx (Dj g))], 2⟩) an (fun a q => ?_) (fun a u => ?_)))
  .refine rg AA <| rn 3 Z <| gs 67 q Z Z Z (fun s => ?_) (fun t => ?_)
   .exact rl Z <| AL s (wf hA [(0, 1), (1, 2)] Z Z Z)
   exact rl Z <| AL t (wf hA [(0, 1), (1, 2)] Z Z Z)
  refine cd Z u (fun v => ?_) (fun x => ?_)
  .refine rs AA <| rl Z <| AF <| AG <| AN <| AG ?_
   cases v
   exact er Z Le.rfl
  refine AE <| AC <| jb (fun b : Bool => ⟨82, [(8, .lpb 0 0), (9, lb b)], [(0, .box [li g.to, li 1])], 1⟩) x (fun b y => ?_) (fun b ab => ?_)
  .refine rg AA <| rn 5 Z <| gs 77 y Z Z Z (fun z => ?_) (fun aa => ?_)
   .exact rl Z <| AL z (wf hA [(0, 0)] Z Z Z)
   exact rl Z <| AL aa (wf hA [(0, 0)] Z Z Z)
  refine AF <| AN <| AG ?_
  cases ab
  exact er Z Le.rfl
 refine AE <| Ad <| AC <| rs AA <| rl Z <| AF ?_
 cases ac
 exact er Z Le.rfl
noncomputable def FR (d : Az) (e : Ai) (f : Int) (a : Int) : Option Int :=
 (FP e f a).bind fun c => ((bif (!c.2) then some true else some (a == (c.1.length : Int)) : Option (Bool))).bind fun (g : Bool) => bif g then some (-1) else (Hd d e f a).bind fun b => ((bif (!b.2) then some true else (AZ c.1 a).bind fun j => bif j.turn then (BR d b.1.elem).bind fun k => some (k != 1) else some false : Option (Bool))).bind fun (h : Bool) => bif h then some (-1) else (((AZ c.1 a).bind fun l => bif l.turn then some (AO (1 - b.1.fin)) else some b.1.fin : Option (Int))).bind fun (i : Int) => (CT d (⟨b.1.elem, i⟩ : AI)).bind fun m => some m
theorem NY (a : Az) (c : Ai) (d : Int) (b : Int) (r : Int) (h : FR a c d b = some r) : Aw Tryz.prog 15 [.place (Ap a) 0, .agg (AW c), .int .i64 d, .int .i64 b] (· = .int .i64 r) := by
 refine fn AA Tryz.func15 Z Z 63 Z [.tmp 8] Z [(0, .p (.place (Ap a) 0)), (1, .p (.agg (AW c))), (2, .p (.int .i64 d)), (3, .p (.int .i64 b))] Z Z fun A hA => ?_
 unfold FR at h
 refine rs AA <| rl Z <| rs AA <| rn 3 Z <| bq h fun j l z => sx Z (AM (NX _ _ _ _ l) (.inr Z) Z Z Z <| rl Z <| AB <| jb (fun e : Bool => ⟨63, [(0, lq (Ap a)), (2, li d), (3, li b), (5, .lpb 0 0), (9, ls 4 Dj j.1), (26, lb e)], [(0, bx (AW c))], 1⟩) z (fun e s => ?_) (fun e v => ?_))
 .refine rg AA <| rn 3 Z <| gs 21 s Z Z Z (fun t => ?_) (fun u => ?_)
  .exact rl Z <| AL t (wf hA [(0, 0)] Z Z Z)
  exact rn 2 Z <| sx Z (Ac Z Z <| rl Z <| AL u (wf hA [(0, 0)] Z Z Z))
 refine cd Z v (fun w => ?_) (fun x => ?_)
 .refine rs AA <| rl Z <| AF <| AG ?_
  cases w
  exact er Z Le.rfl
 refine AE <| AC <| rs AA <| rn 4 Z <| bq x fun i k y => sx Z (AM (VC _ _ _ _ _ k) (.inl Z) Z Z Z <| rl Z <| AB <| jb (fun f : Bool => ⟨63, [(0, lq (Ap a)), (3, li b), (9, ls 4 Dj j.1), (11, .lpb 0 0), (50, lb f)], [(0, .box [li i.1.elem, li i.1.fin])], 1⟩) y (fun f aa => ?_) (fun f ah => ?_))
 .refine rg AA <| rn 3 Z <| gs 37 aa Z Z Z (fun ab => ?_) (fun ac => ?_)
  .exact rl Z <| AL ab (wf hA [(0, 1)] Z Z Z)
  refine rn 2 Z <| bq ac fun aq m ad => sx Z (Aa m Z Z Z <| rn 3 Z <| gs 43 ad Z Z Z (fun ae => ?_) (fun ag => ?_))
  .exact rn 3 Z <| bq ae fun ar n af => sx Z (AM (Bo _ _ _ n) (.inl Z) Z Z Z <| rl Z <| AL af (wf hA [(0, 1)] Z Z Z))
  exact rl Z <| AL ag (wf hA [(0, 1)] Z Z Z)
 refine cd Z ah (fun ai => ?_) (fun aj => ?_)
 .refine rs AA <| rl Z <| AF <| AG ?_
  cases ai
  exact er Z Le.rfl
 refine AE <| AC <| jb (fun g : Int => ⟨63, [(0, lq (Ap a)), (11, .lpb 0 0)], [(0, .box [li i.1.elem, li g])], 1⟩) aj (fun g ak => ?_) (fun g ao => ?_)
 .refine rs AA <| rn 2 Z <| bq ak fun au o al => sx Z (Aa o Z Z Z <| rl Z <| cd Z al (fun am => ?_) (fun an => ?_))
  .exact rg AA <| rl Z <| AL am (wf hA [(0, 0)] Z Z Z)
  exact AE <| AL an (wf hA [(0, 0)] Z Z Z)
 refine rs AA <| rn 2 Z <| bq ao fun av q ap => sx Z (AM (GC _ _ _ q) (.inl Z) Z Z Z <| rl Z <| AF ?_)
 have hr := Option.some.inj ap; subst hr
 exact er Z Le.rfl
noncomputable def Nb (a : An) (b : Db) : Option Bool :=
 ((bif (a.fin != b.fin) then some true else some ((a.steps.length : Int) == 0) : Option (Bool))).bind fun (c : Bool) => bif c then some false else bif (b.fin == 1) then some (a.to == b.to) else (AZ a.steps (AO ((a.steps.length : Int) - 1))).bind fun d => some (d.elem == b.to)
theorem Wh (a : An) (b : Db) (r : Bool) (h : Nb a b = some r) : Aw Tryz.prog 45 [.agg (BK a), .agg (Dj b)] (· = .bool r) := by
 refine fn AA Tryz.func45 Z Z 36 Z [.tmp 4] Z [(0, .p (.agg (BK a))), (1, .p (.agg (Dj b)))] Z Z fun A hA => ?_
 unfold Nb at h
 refine rs AA <| rl Z <| AB <| jb (fun c : Bool => ⟨36, [(2, .lpb 0 0), (3, .lpb 1 0), (15, lb c)], [(0, bx (BK a)), (1, bx (Dj b))], 2⟩) h (fun c e => ?_) (fun c i => ?_)
 .refine rg AA <| rn 6 Z <| gs 10 e Z Z Z (fun f => ?_) (fun g => ?_)
  .exact rl Z <| AL f (wf hA [(0, 0), (1, 1)] Z Z Z)
  exact rn 2 Z <| sx Z (Ac Z Z <| rl Z <| AL g (wf hA [(0, 0), (1, 1)] Z Z Z))
 refine cd Z i (fun j => ?_) (fun k => ?_)
 .refine rs AA <| rl Z <| AF <| AG ?_
  cases j
  exact er Z Le.rfl
 refine AE <| AC <| AB <| rs AA <| rl Z <| cd Z k (fun l => ?_) (fun m => ?_)
 .refine rs AA <| rl Z <| AF <| AG ?_
  cases l
  exact er Z Le.rfl
 refine AE <| AC <| AB ?_
 refine B0 AA mixed [0, 1, 2, 3, 4, 5, 6, 7, 8, 9, 10, 11, 12] 13 (by kernel_rfl) Z Z Z ?_
 refine Au 4 Z <| As Z (Jb Z Z <| Au 1 Z <| bq m fun o d n => As Z (Aj Z (Aa d Z Z Z <| BJ Z <| AC <| AF ?_)))
 cases n
 exact er Z Le.rfl
noncomputable def FQ (a : Az) (b : Int) : Option Int :=
 (Dw a b).bind fun c => some c.length
theorem K0 (a : Az) (b : Int) (r : Int) (h : FQ a b = some r) : Aw Tryz.prog 74 [.place (Ap a) 0, .int .i64 b] (· = .int .i64 r) := by
 refine fn AA Tryz.func74 Z Z 9 Z [.tmp 4] Z [(0, .p (.place (Ap a) 0)), (1, .p (.int .i64 b))] Z Z fun A hA => ?_
 unfold FQ at h
 refine rs AA <| rl Z <| rs AA <| rn 2 Z <| bq h fun e c d => sx Z (AM (Ml _ _ _ c) (.inl Z) Z Z Z <| rl Z <| AF ?_)
 cases d
 exact er Z Le.rfl
noncomputable def K7 (a : Az) (d : BT) (b : Int) : Option Bool :=
 (BR a b).bind fun c => bif (c == 4) then some true else bif (c == 1) then (FQ a b).bind fun e => (B9 a).bind fun f => some (decide (AO (d.len + f.margin) <= e)) else some false
theorem T7 (a : Az) (b : BT) (c : Int) (r : Bool) (h : K7 a b c = some r) : Aw Tryz.prog 47 [.place (Ap a) 0, .agg (BM b), .int .i64 c] (· = .bool r) := by
 refine fn AA Tryz.func47 Z Z 24 Z [.tmp 6] Z [(0, .p (.place (Ap a) 0)), (1, .p (.agg (BM b))), (2, .p (.int .i64 c))] Z Z fun A hA => ?_
 unfold K7 at h
 refine rs AA <| rl Z <| AB <| rs AA <| rn 2 Z <| bq h fun o d g => sx Z (AM (Bo _ _ _ d) (.inl Z) Z Z Z <| rl Z <| AH <| rs AA <| rl Z <| cd Z g (fun i => ?_) (fun j => ?_))
 .refine rs AA <| rl Z <| AF <| AN <| AG ?_
  cases i
  exact er Z Le.rfl
 refine rs AA <| rl Z <| cd Z j (fun k => ?_) (fun n => ?_)
 .refine AB ?_
  refine B0 AA mixed [0, 1, 2, 3, 4, 5, 6, 7, 8, 9, 10] 11 (by kernel_rfl) Z Z Z ?_
  refine Au 2 Z <| bq k fun q e l => As Z (A5 (K0 _ _ _ e) (.inl Z) Z Z Z <| Au 3 Z <| bq l fun s f m => As Z (A5 (Gu _ _ f) (.inr Z) Z Z Z <| BJ Z <| AC <| AF <| AN <| AG ?_))
  cases m
  exact er Z Le.rfl
 refine AE <| Ad <| AC <| rs AA <| rl Z <| AF ?_
 cases n
 exact er Z Le.rfl
noncomputable def Mo (f : Az) (c : (List An)) (g : Ai) (h : Int) (i : Int) (j : Int) (l : Int) (k : BT) (a : Int × (List Int)) : Option ((Int × (List Int)) ⊕ (List Int)) :=
 bif decide (a.1 < (c.length : Int)) then (((AZ c a.1).bind fun b => ((bif (b.frm == j) then (AZ g.runs h).bind fun m => (AZ m.legs i).bind fun n => (Nb b n).bind fun o => bif o then bif (!b.bare) then (BZ b.zone l).bind fun p => bif (!p) then (AZ b.steps (AO ((b.steps.length : Int) - 1))).bind fun q => (K7 f k q.elem).bind fun r => some r else some false else some false else some false else some false : Option (Bool))).bind fun (e : Bool) => bif e then (Br a.2 [a.1]).bind fun s => some s else some a.2 : Option ((List Int)))).bind fun (d : (List Int)) => some (.inl (AO (a.1 + 1), d)) else some (.inr a.2)
noncomputable def HR (c : Az) (g : (List An)) (a : Ai) (b : Int) (d : Int) : Option (List Int) :=
 (FR c a b d).bind fun e => (CV c a b d).bind fun l => ((bif decide (e < 0) then some true else (AZ a.runs b).bind fun h => bif decide (h.stock < 0) then some true else (AZ a.runs b).bind fun i => some (decide ((a.stock.length : Int) <= i.stock)) : Option (Bool))).bind fun (f : Bool) => bif f then some [] else (AZ a.runs b).bind fun j => (AZ a.stock j.stock).bind fun k => AU (Mo c g a b d e l k) (0, ([] : List Int))
theorem Lz (d : Az) (c : (List An)) (e : Ai) (f : Int) (g : Int) (r : (List Int)) (h : HR d c e f g = some r) : Aw Tryz.prog 18 [.place (Ap d) 0, .slice 9 (c.map BK), .agg (AW e), .int .i64 f, .int .i64 g] (· = .slice 1 (r.map Ae)) := by
 refine fn AA Tryz.func18 Z Z 116 Z [.tmp 10] Z [(0, .p (.place (Ap d) 0)), (1, .p (.slice 9 (c.map BK))), (2, .p (.agg (AW e))), (3, .p (.int .i64 f)), (4, .p (.int .i64 g))] Z Z fun A hA => ?_
 unfold HR at h
 refine rs AA <| rl Z <| AB ?_
 refine B0 AA mixed [0, 1, 2, 3, 4, 5, 6, 7, 8, 9, 10, 11] 12 (by kernel_rfl) Z Z Z ?_
 refine Au 4 Z <| bq h fun j v av => As Z (A5 (NY _ _ _ _ _ v) (.inl Z) Z Z Z <| Au 4 Z <| bq av fun k y aw => As Z (A5 (Ex _ _ _ _ _ y) (.inl Z) Z Z Z <| BJ Z <| AC <| AB <| jb (fun n : Bool => ⟨116, [(0, lq (Ap d)), (1, ls 9 BK c), (3, li f), (4, li g), (7, .lpb 0 0), (11, li j), (12, li k), (49, lb n)], [(0, bx (AW e))], 1⟩) aw (fun n ah => ?_) (fun n ao => ?_)))
 .refine B0 AA mixed [0, 1, 2, 3, 4, 5, 6, 7, 8, 9, 10, 11, 12, 13, 14, 15, 16, 17, 18, 19, 20, 21, 22] 23 (by kernel_rfl) Z Z Z ?_
  refine Au 3 Z <| D5 29 ah Z Z Z (fun ai => ?_) (fun aj => ?_)
  .exact BJ Z <| AL ai (wf hA [(0, 0)] Z Z Z)
  refine Au 3 Z <| bq aj fun bp t ak => As Z (Aj Z (Aa t Z Z Z <| Au 5 Z <| D5 38 ak Z Z Z (fun al => ?_) (fun am => ?_)))
  .exact BJ Z <| AL al (wf hA [(0, 0)] Z Z Z)
  exact Au 3 Z <| bq am fun br u an => As Z (Aj Z (Aa u Z Z Z <| Au 4 Z <| As Z (Jb Z Z <| BJ Z <| AL an (wf hA [(0, 0)] Z Z Z))))
 refine cd Z ao (fun ap => ?_) (fun aq => ?_)
 .refine rs AA <| rl Z <| AF <| AG ?_
  cases ap
  exact er Z (Le.nil _)
 refine AE <| AC <| AB ?_
 refine B0 AA mixed [0, 1, 2, 3, 4, 5, 6, 7, 8, 9, 10, 11] 12 (by kernel_rfl) Z Z Z ?_
 refine Au 5 Z <| bq aq fun bs w ar => As Z (Aj Z (Aa w Z Z Z <| Au 2 Z <| bq ar fun q x au => As Z (Aj Z (Aa x Z Z Z <| BJ Z <| AC <| rs AA <| rl Z <| AB <| rs AA <| rn 1 Z <| sx Z (Ac Z Z <| rl Z <| AH ?_)))))
 apply lp (a := r) (fun b : (Int × (List Int)) => ⟨116, [(0, lq (Ap d)), (3, li f), (4, li g), (7, .lpb 0 0), (11, li j), (12, li k), (13, .lpb 1 0), (14, .lsl 2 1 0 b.2.length), (60, ls 9 BK c), (61, li (c.length : Int)), (62, li b.1)], [(0, bx (AW e)), (1, bx (BM q)), (2, .row 3 1 (b.2.map Ae))], 3⟩) au
 . exact A7.trans (Cc 14 3 1 Z) (wf hA [(0, 0), (1, 11), (2, 13)] Z Z Z)
 intro b bo s
 unfold Mo at s
 refine rs AA <| rl Z <| AB <| cd Z s (fun ax => ?_) (fun bl => ?_)
 .refine AE <| AC <| jb (fun i : (List Int) => ⟨116, [(0, lq (Ap d)), (3, li f), (4, li g), (7, .lpb 0 0), (11, li j), (12, li k), (13, .lpb 1 0), (14, .lsl 2 1 0 i.length), (60, ls 9 BK c), (61, li (c.length : Int)), (62, li b.1)], [(0, bx (AW e)), (1, bx (BM q)), (2, .row 3 1 (i.map Ae))], 3⟩) ax (fun i ay => ?_) (fun i bk => ?_)
  .refine AH <| rs AA <| rn 1 Z <| bq ay fun bt z az => sx Z (Aa z Z Z Z <| rl Z <| jb (fun o : Bool => ⟨116, [(0, lq (Ap d)), (3, li f), (4, li g), (7, .lpb 0 0), (11, li j), (12, li k), (13, .lpb 1 0), (14, .lsl 2 1 0 b.2.length), (15, li b.1), (60, ls 9 BK c), (61, li (c.length : Int)), (62, li b.1), (109, lb o)], [(0, bx (AW e)), (1, bx (BM q)), (2, .row 3 1 (b.2.map Ae))], 3⟩) az (fun o a0 => ?_) (fun o bg => ?_))
   .refine B0 AA mixed [0, 1, 2, 3, 4, 5, 6, 7, 8, 9, 10, 11, 12, 13, 14, 15, 16, 17, 18, 19, 20, 21, 22, 23, 24, 25, 26, 27, 28, 29, 30, 31, 32, 33, 34, 35, 36, 37, 38, 39, 40, 41, 42] 43 (by kernel_rfl) Z Z Z ?_
    refine Au 5 Z <| D5 71 a0 Z Z Z (fun a1 => ?_) (fun bf => ?_)
    .refine Au 4 Z <| bq a1 fun bu aa a2 => As Z (Aj Z (Aa aa Z Z Z <| Au 3 Z <| bq a2 fun bv ab a3 => As Z (Aj Z (Aa ab Z Z Z <| Au 1 Z <| bq a3 fun bw ac a4 => As Z (A5 (Wh _ _ _ ac) (.inl Z) Z Z Z <| Au 2 Z <| D5 84 a4 Z Z Z (fun a5 => ?_) (fun be => ?_))))))
     .refine Au 5 Z <| D5 89 a5 Z Z Z (fun a6 => ?_) (fun bc => ?_)
      .refine Au 3 Z <| bq a6 fun bz ad a7 => As Z (A5 (Ci _ _ _ ad) (.inl Z) Z Z Z <| Au 3 Z <| D5 96 a7 Z Z Z (fun a8 => ?_) (fun bb => ?_))
       .exact Au 6 Z <| As Z (Jb Z Z <| Au 1 Z <| bq a8 fun b0 ae a9 => As Z (Aj Z (Aa ae Z Z Z <| Au 2 Z <| bq a9 fun b1 af ba => As Z (A5 (T7 _ _ _ _ af) (.inl Z) Z Z Z <| BJ Z <| AL ba (wf hA (gi 3 []) Z Z Z)))))
       exact BJ Z <| AL bb (wf hA (gi 3 []) Z Z Z)
      exact BJ Z <| AL bc (wf hA (gi 3 []) Z Z Z)
     exact BJ Z <| AL be (wf hA (gi 3 []) Z Z Z)
    exact BJ Z <| AL bf (wf hA (gi 3 []) Z Z Z)
   refine cd Z bg (fun bh => ?_) (fun bj => ?_)
   .exact rg AA <| rn 3 Z <| bq bh fun b2 ag bi => sx Z (BX (enc := Ae) (l := b.2) (m := [b.1]) ag (fun _ => ⟨Z, Z⟩) Z Z Z Z Z Z <| rl Z <| Ad <| AL bi (wf hA [(0, 0), (1, 1), (2, 4)] Z Z Z))
   exact AE <| Ad <| AL bj (wf hA (gi 3 []) Z Z Z)
  exact rg AA <| rl Z <| Ar bk (wf hA (gi 3 []) Z Z Z)
 refine AV <| AX <| BI bl fun bn bm => Am <| AC <| rs AA <| rl Z <| AF ?_
 cases bm
 exact er (ID Z (.one (.own (enc := Ae) b.2 Z Z))) Le.rfl
end Go.E
/- Plain functions, and walks in step with them. Written by a program (gen.py). No condition. -/
set_option maxRecDepth 100000
set_option maxHeartbeats 1000000
namespace Go.E
open Go Go.RowKit Go.Proofs
noncomputable def KG (a : (List (Int × Bool))) : Option (List Int) := Rv a
theorem Ol (a : (List (Int × Bool))) (r : (List Int)) (h : KG a = some r) : GN Tryz.prog 79 [.map (Ak (.int .i64) .bool a)] 3 1 (r.map Ae) := XV XW rfl a r h
noncomputable def IJ (a : Int) (b : (Option Az)) : Option Bool :=
 Is b (none) fun d => (BR d a).bind fun c => some (c == 4)
theorem Om (b : Int) (a : (Option Az)) (r : Bool) (h : IJ b a = some r) : Aw Tryz.prog 80 [.int .i64 b, .place ((AAJ Ap) a) 0] (· = .bool r) := by
 refine fn AA Tryz.func80 Z Z 8 Z [.tmp 3] Z [(0, .p (.int .i64 b)), (1, .p (.place ((AAJ Ap) a) 0))] Z Z fun A hA => ?_
 unfold IJ at h
 refine rs AA <| rl Z <| rs AA <| rn 2 Z ?_
 revert h; rcases e : a with _ | g <;> intro h
 .replace h := Ti h
  cases h
 replace h := Tj h
 refine bq h fun f c d => sx Z (AM (Bo _ _ _ c) (.inl Z) Z Z Z <| rl Z <| AF ?_)
 cases d
 exact er Z Le.rfl
noncomputable def N0 (b : Cp) (a : Int × (List (Int × Bool))) : Option ((Int × (List (Int × Bool))) ⊕ (List (Int × Bool))) :=
 bif decide (a.1 < (b.elems.length : Int)) then (AZ b.elems a.1).bind fun c => some (.inl (AO (a.1 + 1), A2 c true a.2)) else some (.inr a.2)
noncomputable def N1 (b : Cp) (a : Int × (List (Int × Bool))) : Option ((Int × (List (Int × Bool))) ⊕ (List (Int × Bool))) :=
 bif decide (a.1 < (b.elems.length : Int)) then (AZ b.elems a.1).bind fun c => some (.inl (AO (a.1 + 1), A2 c true a.2)) else some (.inr a.2)
noncomputable def N2 (i : Az) (d : (List Cp)) (f : (Int × (List (Int × Bool)))) (e : An) (a : Int × (List (Int × Bool))) : Option ((Int × (List (Int × Bool))) ⊕ ((Int × (List (Int × Bool))) ⊕ (List Int))) :=
 bif decide (a.1 < (e.zone.length : Int)) then (AZ e.zone a.1).bind fun b => (((Gt i b).bind fun c => ((bif decide (0 <= c.1) then some (decide (c.1 < (d.length : Int))) else some false : Option (Bool))).bind fun (h : Bool) => bif h then (AZ d c.1).bind fun j => AU (N1 j) (0, A2 b true a.2) else some (A2 b true a.2) : Option ((List (Int × Bool))))).bind fun (g : (List (Int × Bool))) => some (.inl (AO (a.1 + 1), g)) else some (.inr (.inl (AO (f.1 + 1), a.2)))
noncomputable def N3 (e : Az) (b : (List Cp)) (j : (List An)) (g : (Int × (List (Int × Bool)))) (k : Int) (f : An) (a : Int × (List (Int × Bool))) : Option ((Int × (List (Int × Bool))) ⊕ ((Int × (List (Int × Bool))) ⊕ (List Int))) :=
 bif decide (a.1 < (f.steps.length : Int)) then (AZ f.steps a.1).bind fun c => (((Gt e c.elem).bind fun d => ((bif decide (0 <= d.1) then some (decide (d.1 < (b.length : Int))) else some false : Option (Bool))).bind fun (i : Bool) => bif i then (AZ b d.1).bind fun l => AU (N0 l) (0, A2 c.elem true a.2) else some (A2 c.elem true a.2) : Option ((List (Int × Bool))))).bind fun (h : (List (Int × Bool))) => some (.inl (AO (a.1 + 1), h)) else ((AZ j k).bind fun m => AU (N2 e b g m) (0, a.2)).map .inr
noncomputable def N4 (c : Az) (b : (List Int)) (a : Int) : Option (Int ⊕ Int) :=
 bif decide (a < (b.length : Int)) then (AZ b a).bind fun d => (IJ d (some c)).bind fun e => bif e then some (.inr a) else some (.inl (AO (a + 1))) else some (.inr (-1))
noncomputable def N5 (d : Az) (a : Int × Int × (List Int)) : Option ((Int × Int × (List Int)) ⊕ (List Int)) :=
 bif decide (a.2.1 < (a.2.2.length : Int)) then (((AZ a.2.2 a.2.1).bind fun c => (IJ c (some d)).bind fun e => bif (!e) then (AZ a.2.2 a.1).bind fun i => some (AO (a.1 + 1), A6 a.2.2 a.1 c) else some (a.1, a.2.2) : Option (Int × (List Int)))).bind fun (b : Int × (List Int)) => some (.inl (b.1, AO (a.2.1 + 1), b.2)) else ((LW a.2.2 a.1 (a.2.2.length : Int)).bind fun f => (Tw 0 a.2.2 f).bind fun g => (LW g 0 a.1).bind fun h => some h).map .inr
noncomputable def N6 (b : Az) (i : (List Cp)) (e : (List An)) (j : Ai) (k : Int) (l : Int) (f : (List Int)) (a : Int × (List (Int × Bool))) : Option ((Int × (List (Int × Bool))) ⊕ (List Int)) :=
 bif decide (a.1 < (f.length : Int)) then (AZ f a.1).bind fun g => (AZ e g).bind fun m => AU (N3 b i e a g m) (0, a.2) else ((CV b j k l).bind fun n => (KG (Kp n a.2)).bind fun d => ((((AU (N4 b d) 0 : Option (Int))).bind fun (c : Int) => bif (c == (-1)) then some d else AU (N5 b) (c, AO (c + 1), d) : Option ((List Int)))).bind fun (h : (List Int)) => some h).map .inr
noncomputable def NV (a : Az) (f : (List Cp)) (b : (List An)) (c : Ai) (d : Int) (e : Int) : Option (List Int) :=
 (HR a b c d e).bind fun g => AU (N6 a f b c d e g) (0, [])
theorem WU (b : Az) (c : (List Cp)) (j : (List An)) (d : Ai) (k : Int) (m : Int) (r : (List Int)) (h : NV b c j d k m = some r) : Aw Tryz.prog 50 [.place (Ap b) 0, .slice 2 (c.map Bd), .slice 9 (j.map BK), .agg (AW d), .int .i64 k, .int .i64 m] (· = .slice 1 (r.map Ae)) := by
 refine fn AA Tryz.func50 Z Z 74 Z [.tmp 12] Z [(0, .p (.place (Ap b) 0)), (1, .p (.slice 2 (c.map Bd))), (2, .p (.slice 9 (j.map BK))), (3, .p (.agg (AW d))), (4, .p (.int .i64 k)), (5, .p (.int .i64 m))] Z Z fun A hA => ?_
 unfold NV at h
 refine rs AA <| rl Z <| rs AA <| rl Z <| rs AA <| rl Z <| AB <| rs AA <| rn 5 Z <| bq h fun n a1 bi => sx Z (AM (Lz _ _ _ _ _ _ a1) (.inr Z) Z Z Z <| sx Z (Ac Z Z <| rl Z <| AH ?_))
 apply lp (a := r) (fun e : (Int × (List (Int × Bool))) => ⟨74, [(2, ls 9 BK j), (4, li k), (5, li m), (6, .lpb 0 0), (9, .lpb 1 0), (13, .lpb 2 0), (14, .fn 76 [.lpb 2 0, .lpb 0 0, .lpb 3 0]), (28, ls 1 Ae n), (29, li (n.length : Int)), (30, li e.1)], [(0, .box [lq (Ap b)]), (1, bx (AW d)), (2, .box [.lmap 4]), (3, .box [ls 2 Bd c]), (4, .map (Ak (.int .i64) .bool e.2))], 5⟩) bi
 . exact wf hA [(0, 0), (1, 2), (2, 4), (3, 1), (4, 3)] Z Z Z
 intro e a0 am
 unfold N6 at am
 refine rs AA <| rl Z <| AB <| cd Z am (fun bj => ?_) (fun cr => ?_)
 .refine AE <| AC <| AB <| AH <| rs AA <| bq bj fun dm a2 bk => sx Z (Aa a2 Z Z Z <| rl Z <| AB <| rs AA <| rn 2 Z <| bq bk fun av a3 bl => sx Z (Aa a3 Z Z Z <| rn 2 Z <| sx Z (Ac Z Z <| rl Z <| AH ?_)))
  apply lp (a := a0) (fun s : (Int × (List (Int × Bool))) => ⟨74, [(2, ls 9 BK j), (4, li k), (5, li m), (6, .lpb 0 0), (9, .lpb 1 0), (13, .lpb 2 0), (14, .fn 76 [.lpb 2 0, .lpb 0 0, .lpb 3 0]), (16, li dm), (28, ls 1 Ae n), (29, li (n.length : Int)), (30, li e.1), (38, ls 3 Ay av.steps), (39, li (av.steps.length : Int)), (40, li s.1)], [(0, .box [lq (Ap b)]), (1, bx (AW d)), (2, .box [.lmap 4]), (3, .box [ls 2 Bd c]), (4, .map (Ak (.int .i64) .bool s.2))], 5⟩) bl
  . exact wf hA (gi 5 []) Z Z Z
  intro s d2 an
  unfold N3 at an
  refine rs AA <| rl Z <| AB <| cd Z an (fun bm => ?_) (fun b5 => ?_)
  .refine AE <| AC <| AB <| AH <| rs AA <| bq bm fun o a4 bn => sx Z (Aa a4 Z Z Z <| rl Z <| rg AA <| rn 3 Z <| sx Z (CP AA (fun u : (List (Int × Bool)) => .tup []) (fun u : (List (Int × Bool)) => [(0, .box [lq (Ap b)]), (1, bx (AW d)), (2, .box [.lmap 4]), (3, .box [ls 2 Bd c]), (4, .map (Ak (.int .i64) .bool u)), (5, bx (Ay o))]) 6 bn Tryz.func76 38 [] [(0, li o.elem), (1, .lpb 2 0), (2, .lpb 0 0), (3, .lpb 3 0)] Z Z Z Z Z Z Z Z (fun A hA u bo => ?_) (fun u b4 => ?_)))
   .refine rs AA <| rn 2 Z <| sx Z (F9 (et := 4) (ke := (.int .i64)) (ve := .bool) (mp := s.2) (y := o.elem) (z := true) Fh Z Z Z Z Z Z <| rl Z <| rs AA <| rn 2 Z <| bq bo fun dn a5 bp => sx Z (AM (MY _ _ _ a5) (.inl Z) Z Z Z <| rl Z <| jb (fun ad : Bool => ⟨38, [(1, .lpb 2 0), (3, .lpb 3 0), (5, li dn.1), (24, lb ad)], [(0, .box [lq (Ap b)]), (1, bx (AW d)), (2, .box [.lmap 4]), (3, .box [ls 2 Bd c]), (4, .map (Ak (.int .i64) .bool (A2 o.elem true s.2))), (5, bx (Ay o))], 6⟩) bp (fun ad br => ?_) (fun ad bu => ?_)))
    .refine rg AA <| rn 3 Z <| gs 19 br Z Z Z (fun bs => ?_) (fun bt => ?_)
     .exact rn 2 Z <| sx Z (Ac Z Z <| rl Z <| AL bs (wj hA (gi 6 []) Z Z Z Z))
     exact rl Z <| AL bt (wj hA (gi 6 []) Z Z Z Z)
    refine cd Z bu (fun bv => ?_) (fun b3 => ?_)
    .refine rs AA <| rn 2 Z <| bq bv fun aw a6 bw => sx Z (Aa a6 Z Z Z <| rn 2 Z <| sx Z (Ac Z Z <| rl Z <| AH ?_))
     apply lp (a := u) (fun aa : (Int × (List (Int × Bool))) => ⟨38, [(1, .lpb 2 0), (29, ls 1 Ae aw.elems), (30, li (aw.elems.length : Int)), (31, li aa.1)], [(0, .box [lq (Ap b)]), (1, bx (AW d)), (2, .box [.lmap 4]), (3, .box [ls 2 Bd c]), (4, .map (Ak (.int .i64) .bool aa.2)), (5, bx (Ay o))], 6⟩) bw
     . exact wj hA (gi 6 []) Z Z Z Z
     intro aa d3 ao
     unfold N0 at ao
     refine rs AA <| rl Z <| AB <| cd Z ao (fun bz => ?_) (fun b1 => ?_)
     .exact AE <| AC <| AB <| AH <| rs AA <| bq bz fun dp a7 b0 => sx Z (Aa a7 Z Z Z <| rl Z <| rg AA <| rn 2 Z <| sx Z (F9 (et := 4) (ke := (.int .i64)) (ve := .bool) (mp := aa.2) (y := dp) (z := true) Fh Z Z Z Z Z Z <| rl Z <| Ad <| AC <| rg AA <| rl Z <| Ar b0 (wj hA (gi 6 []) Z Z Z Z)))
     refine AV <| AX <| BI b1 fun dv b2 => Am ?_
     cases b2
     exact LR (nt := 38) (sl := []) (wj hA (gi 6 []) Z Z Z Z) Z
    refine AE ?_
    cases b3
    exact LR (nt := 38) (sl := []) (wj hA (gi 6 []) Z Z Z Z) Z
   exact rl Z <| Ad <| AC <| rg AA <| rl Z <| Ar b4 (wf hA (gi 5 []) Z Z Z)
  refine AV <| AX <| CM b5 fun az b6 => Am <| AC <| rs AA <| rn 2 Z <| bq b6 fun ax a8 b7 => sx Z (Aa a8 Z Z Z <| rn 2 Z <| sx Z (Ac Z Z <| rl Z <| AH ?_))
  apply lp (a := az) (fun t : (Int × (List (Int × Bool))) => ⟨74, [(2, ls 9 BK j), (4, li k), (5, li m), (6, .lpb 0 0), (9, .lpb 1 0), (13, .lpb 2 0), (14, .fn 76 [.lpb 2 0, .lpb 0 0, .lpb 3 0]), (28, ls 1 Ae n), (29, li (n.length : Int)), (30, li e.1), (53, ls 1 Ae ax.zone), (54, li (ax.zone.length : Int)), (55, li t.1)], [(0, .box [lq (Ap b)]), (1, bx (AW d)), (2, .box [.lmap 4]), (3, .box [ls 2 Bd c]), (4, .map (Ak (.int .i64) .bool t.2))], 5⟩) b7
  . exact wf hA (gi 5 []) Z Z Z
  intro t d4 ap
  unfold N2 at ap
  refine rs AA <| rl Z <| AB <| cd Z ap (fun b8 => ?_) (fun cp => ?_)
  .refine AE <| AC <| AB <| AH <| rs AA <| bq b8 fun af a9 b9 => sx Z (Aa a9 Z Z Z <| rl Z <| rg AA <| rn 2 Z <| sx Z (CP AA (fun v : (List (Int × Bool)) => .tup []) (fun v : (List (Int × Bool)) => [(0, .box [lq (Ap b)]), (1, bx (AW d)), (2, .box [.lmap 4]), (3, .box [ls 2 Bd c]), (4, .map (Ak (.int .i64) .bool v))]) 5 b9 Tryz.func76 38 [] [(0, li af), (1, .lpb 2 0), (2, .lpb 0 0), (3, .lpb 3 0)] Z Z Z Z Z Z Z Z (fun A hA v ca => ?_) (fun v co => ?_)))
   .refine rs AA <| rn 2 Z <| sx Z (F9 (et := 4) (ke := (.int .i64)) (ve := .bool) (mp := t.2) (y := af) (z := true) Fh Z Z Z Z Z Z <| rl Z <| rs AA <| rn 2 Z <| bq ca fun dq ba cb => sx Z (AM (MY _ _ _ ba) (.inl Z) Z Z Z <| rl Z <| jb (fun ae : Bool => ⟨38, [(1, .lpb 2 0), (3, .lpb 3 0), (5, li dq.1), (24, lb ae)], [(0, .box [lq (Ap b)]), (1, bx (AW d)), (2, .box [.lmap 4]), (3, .box [ls 2 Bd c]), (4, .map (Ak (.int .i64) .bool (A2 af true t.2)))], 5⟩) cb (fun ae cc => ?_) (fun ae cg => ?_)))
    .refine rg AA <| rn 3 Z <| gs 19 cc Z Z Z (fun ce => ?_) (fun cf => ?_)
     .exact rn 2 Z <| sx Z (Ac Z Z <| rl Z <| AL ce (wj hA (gi 5 []) Z Z Z Z))
     exact rl Z <| AL cf (wj hA (gi 5 []) Z Z Z Z)
    refine cd Z cg (fun ch => ?_) (fun cn => ?_)
    .refine rs AA <| rn 2 Z <| bq ch fun ay bb ci => sx Z (Aa bb Z Z Z <| rn 2 Z <| sx Z (Ac Z Z <| rl Z <| AH ?_))
     apply lp (a := v) (fun ab : (Int × (List (Int × Bool))) => ⟨38, [(1, .lpb 2 0), (29, ls 1 Ae ay.elems), (30, li (ay.elems.length : Int)), (31, li ab.1)], [(0, .box [lq (Ap b)]), (1, bx (AW d)), (2, .box [.lmap 4]), (3, .box [ls 2 Bd c]), (4, .map (Ak (.int .i64) .bool ab.2))], 5⟩) ci
     . exact wj hA (gi 5 []) Z Z Z Z
     intro ab d5 aq
     unfold N1 at aq
     refine rs AA <| rl Z <| AB <| cd Z aq (fun cj => ?_) (fun cl => ?_)
     .exact AE <| AC <| AB <| AH <| rs AA <| bq cj fun dr bc ck => sx Z (Aa bc Z Z Z <| rl Z <| rg AA <| rn 2 Z <| sx Z (F9 (et := 4) (ke := (.int .i64)) (ve := .bool) (mp := ab.2) (y := dr) (z := true) Fh Z Z Z Z Z Z <| rl Z <| Ad <| AC <| rg AA <| rl Z <| Ar ck (wj hA (gi 5 []) Z Z Z Z)))
     refine AV <| AX <| BI cl fun dw cm => Am ?_
     cases cm
     exact LR (nt := 38) (sl := []) (wj hA (gi 5 []) Z Z Z Z) Z
    refine AE ?_
    cases cn
    exact LR (nt := 38) (sl := []) (wj hA (gi 5 []) Z Z Z Z) Z
   exact rl Z <| Ad <| AC <| rg AA <| rl Z <| Ar co (wf hA (gi 5 []) Z Z Z)
  exact AV <| AX <| BI cp fun dx cq => Am <| Ad <| AC <| rg AA <| rl Z <| Ar cq (wf hA (gi 5 []) Z Z Z)
 refine AV <| AX <| CM cr fun dy cs => Am <| AC <| AB ?_
 refine ABZ false AA mixed [0, 1, 2, 3, 4, 5] 7 Z Z (by kernel_rfl) (by kernel_rfl) Z Z ?_
 refine Au 5 Z <| bq cs fun q be ct => As Z (A5 (Ex _ _ _ _ _ be) (.inl Z) Z Z Z <| BJ Z <| (AA1 (et := 4) (ke := (.int .i64)) (ve := .bool) (mp := e.2) (y := q) Fh Z Z Z Z Z Z Z Z <| AC <| rs AA <| rn 1 Z <| bq ct fun i bf cu => sx Z (NW (Ol _ _ bf) (fun _ => Z) Z Z (Da.eq (.cons (.one (.mapd Z)) .nil)) <| rn 1 Z <| sx Z (CP AA (fun g : (List Int) => .lsl 12 1 0 g.length) (fun g : (List Int) => [(0, .box [lq (Ap b)]), (1, bx (AW d)), (2, .box [.lmap 4]), (3, .box [ls 2 Bd c]), (4, .mapd (Ak (.int .i64) .bool (Kp q e.2))), (12, .row 3 1 (g.map Ae))]) 13 cu Tryz.func78 42 [.tmp 4] [(0, .lsl 12 1 0 i.length), (1, .fn 80 [.lpb 0 0])] Z Z Z Z Z Z Z Z (fun A hA g cv => ?_) (fun g dl => ?_)))))
 .refine rs AA <| rl Z <| rs AA <| rn 2 Z <| sx Z (CP AA (fun w : Int => li w) (fun w : Int => [(0, .box [lq (Ap b)]), (1, bx (AW d)), (2, .box [.lmap 4]), (3, .box [ls 2 Bd c]), (4, .mapd (Ak (.int .i64) .bool (Kp q e.2))), (12, .row 3 1 (i.map Ae))]) 13 cv Tryz.func108 19 [.tmp 4] [(0, .lsl 12 1 0 i.length), (1, .fn 80 [.lpb 0 0])] Z Z Z Z Z Z Z Z (fun A hA w cw => ?_) (fun w c5 => ?_))
  .refine rs AA <| rl Z <| AB <| rs AA <| rl Z <| AH ?_
   apply lp (a := w) (fun ac : Int => ⟨19, [(0, .lsl 12 1 0 i.length), (1, .fn 80 [.lpb 0 0]), (7, li (i.length : Int)), (8, li ac)], [(0, .box [lq (Ap b)]), (1, bx (AW d)), (2, .box [.lmap 4]), (3, .box [ls 2 Bd c]), (4, .mapd (Ak (.int .i64) .bool (Kp q e.2))), (12, .row 3 1 (i.map Ae))], 13⟩) cw
   . exact wj hA (gi 13 []) Z Z Z Z
   intro ac d6 ar
   unfold N4 at ar
   refine rs AA <| rl Z <| AB <| cd Z ar (fun cx => ?_) (fun c3 => ?_)
   .refine AE <| AC <| AB <| AH <| rs AA <| rl Z <| rs AA <| rn 3 Z <| bq cx fun d8 ag cy => sx Z (Bt ag Z Z Z Z <| sx Z (C0 ag Z Z Z <| bq cy fun d9 bg cz => sx Z (AM (Om _ _ _ bg) (.inl Z) Z Z (Da.eq (.cons (.one (.p _)) (.cons (.box Z (.cons (.p _) .nil)) .nil))) <| rl Z <| cd Z cz (fun c0 => ?_) (fun c2 => ?_))))
    .refine rs AA <| rl Z <| AF <| AN <| AG <| A1 c0 fun dz c1 => AN <| AG ?_
     have hr := Option.some.inj c1; subst hr
     exact CS (nt := 19) (sl := [(4, li ac)]) (wj hA (gi 13 []) Z Z Z Z) Z
    exact AE <| Ad <| AC <| rg AA <| rl Z <| Ar c2 (wj hA (gi 13 []) Z Z Z Z)
   refine AV <| AX <| BI c3 fun d0 c4 => Am <| AC <| rs AA <| rl Z <| AF ?_
   cases c4
   exact CS (nt := 19) (sl := [(4, li (-1))]) (wj hA (gi 13 []) Z Z Z Z) Z
  refine rl Z <| AB <| rs AA <| rl Z <| cd Z c5 (fun c6 => ?_) (fun c7 => ?_)
  .refine rs AA <| rl Z <| AF <| AG ?_
   have hr := Option.some.inj c6; subst hr
   exact CS (nt := 42) (sl := [(4, .lsl 12 1 0 i.length)]) (wj hA (gi 13 []) Z Z Z Z) Z
  refine AE <| AC <| AB <| rs AA <| rl Z <| AH ?_
  apply lp (a := g) (fun f : (Int × Int × (List Int)) => ⟨42, [(0, .lsl 12 1 0 f.2.2.length), (1, .fn 80 [.lpb 0 0]), (5, li f.1), (6, li f.2.1)], [(0, .box [lq (Ap b)]), (1, bx (AW d)), (2, .box [.lmap 4]), (3, .box [ls 2 Bd c]), (4, .mapd (Ak (.int .i64) .bool (Kp q e.2))), (12, .row 3 1 (f.2.2.map Ae))], 13⟩) c7
  . exact wj hA (gi 13 []) Z Z Z Z
  intro f d7 au
  unfold N5 at au
  refine AB <| rs AA <| rl Z <| cd Z au (fun c8 => ?_) (fun dg => ?_)
  .refine AE <| AC <| jb (fun x : (Int × (List Int)) => ⟨42, [(0, .lsl 12 1 0 x.2.length), (1, .fn 80 [.lpb 0 0]), (5, li x.1), (6, li f.2.1)], [(0, .box [lq (Ap b)]), (1, bx (AW d)), (2, .box [.lmap 4]), (3, .box [ls 2 Bd c]), (4, .mapd (Ak (.int .i64) .bool (Kp q e.2))), (12, .row 3 1 (x.2.map Ae))], 13⟩) c8 (fun x c9 => ?_) (fun x df => ?_)
   .refine AH <| rs AA <| rn 2 Z <| bq c9 fun ds ah da => sx Z (Bt ah Z Z Z Z <| sx Z (C0 ah Z Z Z <| rl Z <| rs AA <| rn 2 Z <| bq da fun ea bh db => sx Z (AM (Om _ _ _ bh) (.inl Z) Z Z (Da.eq (.cons (.one (.p _)) (.cons (.box Z (.cons (.p _) .nil)) .nil))) <| rl Z <| cd Z db (fun dc => ?_) (fun de => ?_))))
    .exact rs AA <| rn 3 Z <| bq dc fun eb ai dd => sx Z (Bt ai Z Z Z Z <| sx Z (LO (z := ds) ai Z Z Z Z Z Z Z Z <| rl Z <| rg AA <| rl Z <| Ad <| AL dd (wk (gi 13 []) (J0 hA _ Z) Z Z Z (.cons (by simp only [BH]; rfl) (.cons Z (.cons Z (.cons Z .nil)))) (.cons Z Z (.cons Z Z (.cons Z Z (.cons Z Z (.cons Z Z (.cons Z Z .nil)))))))))
    exact AE <| Ad <| AL de (wj hA (gi 13 []) Z Z Z Z)
   exact rg AA <| rl Z <| Ar df (wj hA (gi 13 []) Z Z Z Z)
  refine AV <| AX <| CM dg fun d1 dh => Am <| AC <| rs AA <| rn 2 Z <| bq dh fun ec aj di => sx Z (Y4 (l := f.2.2) aj Z Z Z Z Z <| bq di fun dt ak dj => sx Z (AA5 (enc := Ae) (l := f.2.2) (z := 0) aj Z ak Z Z Z Z Z Z Z <| rl Z <| rs AA <| rn 2 Z <| bq dj fun du al dk => sx Z (Q6 (l := dt) al Z (by first | rfl | exact Ya ak) Z Z <| rl Z <| AF ?_)))
  have hr := Option.some.inj dk; subst hr
  exact CS (nt := 42) (sl := [(4, .lsl 12 1 0 du.length)]) (A7.trans (Iw 12 al Z Z) (wj hA (gi 13 []) Z Z Z Z)) Z
 refine rl Z <| AF ?_
 have hr := Option.some.inj dl; subst hr
 exact er (ID Z (.one (.own (enc := Ae) g Z Z))) Le.rfl
noncomputable def MZ (b : Az) (f : (List An)) (c : Ai) (d : Int) (k : ((List Db) × Bool)) (e : (List Int)) (l : AK) (a : Int × (List Oo)) : Option ((Int × (List Oo)) ⊕ PW) :=
 bif decide (a.1 < (k.1.length : Int)) then (NV b l.lines f c d a.1).bind fun g => (CV b c d (AO (a.1 + 1))).bind fun h => (JF b h).bind fun i => (Br a.2 [(⟨g, i⟩ : Oo)]).bind fun j => some (.inl (AO (a.1 + 1), j)) else some (.inr (⟨e, a.2⟩ : PW))
noncomputable def L0 (a : Az) (h : (List An)) (b : Ai) (c : Int) (d : Int) : Option PW :=
 (FP b c d).bind fun f => bif (!f.2) then some (⟨[], []⟩ : PW) else (((CV a b c d).bind fun i => (JF a i).bind fun e => bif decide (0 <= e) then some [e] else some ([] : List Int) : Option ((List Int)))).bind fun (g : (List Int)) => (B9 a).bind fun j => AU (MZ a h b c f g j) (d, ([] : List Oo))
theorem Ux (d : Az) (e : (List An)) (f : Ai) (g : Int) (i : Int) (r : PW) (h : L0 d e f g i = some r) : Aw Tryz.prog 21 [.place (Ap d) 0, .slice 9 (e.map BK), .agg (AW f), .int .i64 g, .int .i64 i] (· = .agg (AAK r)) := by
 refine fn AA Tryz.func21 Z Z 71 Z [.cell 10 56] Z [(0, .p (.place (Ap d) 0)), (1, .p (.slice 9 (e.map BK))), (2, .p (.agg (AW f))), (3, .p (.int .i64 g)), (4, .p (.int .i64 i))] Z Z fun A hA => ?_
 unfold L0 at h
 refine rs AA <| rl Z <| rs AA <| rl Z <| rs AA <| rn 3 Z <| bq h fun k v al => sx Z (AM (NX _ _ _ _ v) (.inr Z) Z Z Z <| rl Z <| AB <| rs AA <| rl Z <| cd Z al (fun am => ?_) (fun an => ?_))
 .refine rs AA <| rl Z <| AF <| AG ?_
  cases am
  exact er Z (Le.agg' (.cons (Le.nil _) (.cons (Le.nil _) .nil)))
 refine AE <| AC <| jb (fun b : (List Int) => ⟨71, [(0, lq (Ap d)), (1, ls 9 BK e), (3, li g), (4, li i), (7, .lpb 0 0), (10, .lpb 1 0), (11, .lpb 2 0), (12, ls 4 Dj k.1)], [(0, bx (AW f)), (1, .box [.p (.nils), .p (.nils)]), (2, .box [.lsl 3 1 0 b.length, .p (.nils)]), (3, .row 3 1 (b.map Ae))], 4⟩) an (fun b aa => ?_) (fun b aj => ?_)
 .refine rs AA <| rn 5 Z <| bq aa fun ax t af => sx Z (AM (Ex _ _ _ _ _ t) (.inl Z) Z Z Z <| bq af fun ay u ag => sx Z (AM (Pr _ _ _ u) (.inl Z) Z Z Z <| rl Z <| rs AA <| rl Z <| cd Z ag (fun ah => ?_) (fun ai => ?_)))
  .exact rg AA <| rl Z <| AL ah (wf hA (gi 4 []) Z Z Z)
  exact AE <| AL ai (A7.trans (CK 2 0 3 1 Z Z Z Z) (wf hA (gi 4 []) Z Z Z))
 refine rs AA <| rn 1 Z <| bq aj fun aq w ak => sx Z (AM (Gu _ _ w) (.inr Z) Z Z Z <| rl Z <| AB <| rs AA <| rl Z <| AH ?_)
 apply lp (a := r) (fun c : (Int × (List Oo)) => ⟨71, [(0, lq (Ap d)), (1, ls 9 BK e), (3, li g), (7, .lpb 0 0), (10, .lpb 1 0), (11, .lpb 2 0), (12, ls 4 Dj k.1), (15, ls 2 Bd aq.lines), (16, li c.1)], [(0, bx (AW f)), (1, .box [.p (.nils), .p (.nils)]), (2, .box [.lsl 3 1 0 b.length, .lsl 4 2 0 c.2.length]), (3, .row 3 1 (b.map Ae)), (4, .row 88 2 (c.2.map TG))], 5⟩) ak
 . exact A7.trans (CK 2 1 88 2 Z Z Z Z) (wf hA (gi 5 []) Z Z Z)
 intro c au j
 unfold MZ at j
 refine AB <| rs AA <| rn 2 Z <| sx Z (Ac Z Z <| rl Z <| cd Z j (fun x => ?_) (fun ad => ?_))
 .refine AE <| AC <| AB <| AH ?_
  refine B0 AA mixed [0, 1, 2, 3, 4, 5, 6, 7, 8, 9, 10, 11, 12, 13, 14, 15, 16, 17, 18, 19, 20, 21] 22 (by kernel_rfl) Z Z Z ?_
  exact Au 8 Z <| bq x fun ao n y => As Z (A5 (WU _ _ _ _ _ _ _ n) (.inr Z) Z Z Z <| Au 6 Z <| bq y fun av o z => As Z (A5 (Ex _ _ _ _ _ o) (.inl Z) Z Z Z <| bq z fun ap q ab => As Z (A5 (Pr _ _ _ q) (.inl Z) Z Z Z <| Au 2 Z <| bq ab fun aw s ac => As Z (It Z (BX (enc := TG) (l := c.2) (m := [(⟨ao, ap⟩ : Oo)]) s (fun _ => ⟨Z, Z⟩) Z Z Z Z Z Z <| BJ Z <| Ad <| AC <| rg AA <| rl Z <| Ar ac (wf hA (gi 4 [(4, 24)]) Z Z Z))))))
 refine AV <| AX <| BI ad fun ar ae => Am <| AC <| rs AA <| rl Z <| AF ?_
 cases ae
 exact er (ID Z (.agg (.cons (.own (enc := Ae) b Z Z) (.cons (.own (enc := TG) c.2 Z Z) .nil)))) Le.rfl
noncomputable def J4 (a : Bp) : Option Bool :=
 some a.auto
theorem Sr (a : Bp) (r : Bool) (h : J4 a = some r) : Aw Tryz.prog 54 [.agg (BS a)] (· = .bool r) := by
 refine fn AA Tryz.func54 Z Z 5 Z [.tmp 2] Z [(0, .p (.agg (BS a)))] Z Z fun A hA => ?_
 unfold J4 at h
 refine rs AA <| rl Z <| rs AA <| rl Z <| AF ?_
 cases h
 exact er Z Le.rfl
noncomputable def HE (a : DR) : Option Bool :=
 some (decide (12 < (a.legs.length : Int)))
theorem Pg (a : DR) (r : Bool) (h : HE a = some r) : Aw Tryz.prog 85 [.agg (Bu a)] (· = .bool r) := by
 refine fn AA Tryz.func85 Z Z 7 Z [.tmp 2] Z [(0, .p (.agg (Bu a)))] Z Z fun A hA => ?_
 unfold HE at h
 refine rs AA <| rl Z <| rs AA <| rn 2 Z <| sx Z (Ac Z Z <| rl Z <| AF ?_)
 cases h
 exact er Z Le.rfl
noncomputable def Fx (a : Int) (c : Int) : Option Bool :=
 ((bif decide (1 <= a) then some (decide (a <= c)) else some false : Option (Bool))).bind fun (b : Bool) => some b
theorem JG (b : Int) (c : Int) (r : Bool) (h : Fx b c = some r) : Aw Tryz.prog 168 [.int .i64 b, .int .i64 c] (· = .bool r) := by
 refine fn AA Tryz.func168 Z Z 12 Z [.tmp 4] Z [(0, .p (.int .i64 b)), (1, .p (.int .i64 c))] Z Z fun A hA => ?_
 unfold Fx at h
 refine rs AA <| rl Z <| jb (fun a : Bool => ⟨12, [(4, lb a)], [], 0⟩) h (fun a d => ?_) (fun a g => ?_)
 .refine rg AA <| rn 3 Z <| gs 7 d Z Z Z (fun e => ?_) (fun f => ?_)
  .exact rl Z <| AL e (wf hA [] Z Z Z)
  exact rl Z <| AL f (wf hA [] Z Z Z)
 refine AF ?_
 have hr := Option.some.inj g; subst hr
 exact er Z Le.rfl
noncomputable def L1 (a : BT) : Option Bool :=
 (((CA a.name).bind fun c => bif c then (Fx a.len 4000).bind fun d => bif d then (Fx a.top 60).bind fun e => bif e then (Fx a.acc 10).bind fun f => bif f then (Fx a.brake 10).bind fun g => some g else some false else some false else some false else some false : Option (Bool))).bind fun (b : Bool) => some b
theorem Uy (b : BT) (r : Bool) (h : L1 b = some r) : Aw Tryz.prog 154 [.agg (BM b)] (· = .bool r) := by
 refine fn AA Tryz.func154 Z Z 26 Z [.tmp 2] Z [(0, .p (.agg (BM b)))] Z Z fun A hA => ?_
 unfold L1 at h
 refine rs AA <| rl Z <| jb (fun a : Bool => ⟨26, [(2, lb a)], [], 0⟩) h (fun a i => ?_) (fun a y => ?_)
 .refine rg AA <| rn 2 Z <| bq i fun z c j => sx Z (AM (HS _ _ c) (.inl Z) Z Z Z <| rn 1 Z <| gs 6 j Z Z Z (fun k => ?_) (fun x => ?_))
  .refine rn 2 Z <| bq k fun aa d l => sx Z (AM (JG _ _ _ d) (.inl Z) Z Z Z <| rn 2 Z <| gs 11 l Z Z Z (fun m => ?_) (fun w => ?_))
   .refine rn 2 Z <| bq m fun ab e n => sx Z (AM (JG _ _ _ e) (.inl Z) Z Z Z <| rn 2 Z <| gs 16 n Z Z Z (fun o => ?_) (fun v => ?_))
    .refine rn 2 Z <| bq o fun ac f q => sx Z (AM (JG _ _ _ f) (.inl Z) Z Z Z <| rn 2 Z <| gs 21 q Z Z Z (fun s => ?_) (fun u => ?_))
     .exact rn 2 Z <| bq s fun ad g t => sx Z (AM (JG _ _ _ g) (.inl Z) Z Z Z <| rl Z <| AL t (wf hA [] Z Z Z))
     exact rl Z <| AL u (wf hA [] Z Z Z)
    exact rl Z <| AL v (wf hA [] Z Z Z)
   exact rl Z <| AL w (wf hA [] Z Z Z)
  exact rl Z <| AL x (wf hA [] Z Z Z)
 refine AF ?_
 have hr := Option.some.inj y; subst hr
 exact er Z Le.rfl
noncomputable def Ku (c : (Int × Int)) (d : BT) (b : (List BT)) (a : Int) : Option (Int ⊕ (Int ⊕ ((Int × Int) ⊕ Int))) :=
 bif decide (a < (b.length : Int)) then (AZ b a).bind fun e => bif (e.name.toList == d.name.toList) then some (.inr (.inl 4)) else some (.inl (AO (a + 1))) else some (.inr (.inl c.1))
noncomputable def Kv (b : (List BT)) (a : Int × Int) : Option ((Int × Int) ⊕ Int) :=
 bif decide (a.2 < (b.length : Int)) then D4 (((AZ b a.2).bind fun c => (L1 c).bind fun e => bif (!e) then some (.inr (.inr 1)) else (KE b 0 a.2).bind fun f => AU (Ku a c f) 0 : Option (Int ⊕ ((Int × Int) ⊕ Int)))) fun (d : Int) => some (.inl (d, AO (a.2 + 1))) else some (.inr a.1)
noncomputable def J5 (a : (List BT)) : Option Int :=
 bif decide (4 < (a.length : Int)) then some 3 else AU (Kv a) (0, 0)
theorem Ss (b : (List BT)) (r : Int) (h : J5 b = some r) : Aw Tryz.prog 122 [.slice 5 (b.map BM)] (· = .int .i64 r) := by
 refine fn AA Tryz.func122 Z Z 37 Z [.tmp 2] Z [(0, .p (.slice 5 (b.map BM)))] Z Z fun A hA => ?_
 unfold J5 at h
 refine rs AA <| rl Z <| sc <| AB <| rs AA <| rn 1 Z <| sx Z (Ac Z Z <| rl Z <| cd Z h (fun q => ?_) (fun s => ?_))
 .refine rs AA <| rl Z <| AF <| AG <| IE ?_
  cases q
  exact er Z Le.rfl
 refine AE <| AC <| rs AA <| rl Z <| AB <| JQ <| AC <| AB <| rs AA <| rn 1 Z <| sx Z (Ac Z Z <| rl Z <| AH ?_)
 apply lp (a := r) (fun c : (Int × Int) => ⟨37, [(0, ls 5 BM b), (3, li c.1), (11, ls 5 BM b), (12, li (b.length : Int)), (13, li c.2)], [], 0⟩) s
 . exact wf hA [] Z Z Z
 intro c j d
 unfold Kv at d
 refine rs AA <| rl Z <| AB <| cd Z d (fun t => ?_) (fun ak => ?_)
 .refine AE <| AC ?_
  apply jn (a := j) (fun g : Int => ⟨37, [(0, ls 5 BM b), (3, li g), (11, ls 5 BM b), (12, li (b.length : Int)), (13, li c.2)], [], 0⟩) t
  .intro k u
   refine AH <| rs AA <| rn 1 Z <| bq u fun am l v => sx Z (Aa l Z Z Z <| rl Z <| AB <| rs AA <| rn 1 Z <| bq v fun av m w => sx Z (AM (Uy _ _ m) (.inl Z) Z Z Z <| rl Z <| cd Z w (fun x => ?_) (fun aa => ?_)))
   .refine rs AA <| rl Z <| AF <| AG <| AN <| A1 x fun an y => A1 y fun ao z => AN <| AG <| IE ?_
    cases z
    exact er Z Le.rfl
   refine AE <| AC <| rs AA <| rn 2 Z <| bq aa fun i n ab => sx Z (TA n Z Z Z Z <| sx Z (Ac Z Z <| rl Z <| AH ?_))
   apply lp (a := k) (fun f : Int => ⟨37, [(0, ls 5 BM b), (3, li c.1), (5, .lpb 0 0), (11, ls 5 BM b), (12, li (b.length : Int)), (13, li c.2), (23, ls 5 BM i), (24, li (i.length : Int)), (25, li f)], [(0, bx (BM am))], 1⟩) ab
   . exact wf hA [(0, 0)] Z Z Z
   intro f au e
   unfold Ku at e
   refine rs AA <| rl Z <| AB <| cd Z e (fun ac => ?_) (fun ah => ?_)
   .refine AE <| AC <| AB <| AH <| rs AA <| bq ac fun aw o ad => sx Z (Aa o Z Z Z <| rl Z <| rs AA <| rl Z <| cd Z ad (fun ae => ?_) (fun ag => ?_))
    .exact rs AA <| rl Z <| AV <| LL Z <| AX <| BI ae fun ap af => LL Z <| Am <| Ar af (wf hA [] Z Z Z)
    exact AE <| Ad <| AC <| rg AA <| rl Z <| Ar ag (wf hA [(0, 0)] Z Z Z)
   exact AV <| AX <| BI ah fun aq ai => Am <| Ad <| Ar ai (wf hA [] Z Z Z)
  intro g aj
  exact rg AA <| rl Z <| Ar aj (wf hA [] Z Z Z)
 refine AV <| AX <| BI ak fun ar al => Am <| AC <| rs AA <| rl Z <| AF <| IE ?_
 cases al
 exact er Z Le.rfl
end Go.E
/- Plain functions, and walks in step with them. Written by a program (gen.py). No condition. -/
set_option maxRecDepth 100000
set_option maxHeartbeats 1000000
namespace Go.E
open Go Go.RowKit Go.Proofs
noncomputable def IK (a : BT) (b : AK) : Option Bool :=
 ((bif decide (b.top < a.top) then some true else some (decide (a.brake < b.brake)) : Option (Bool))).bind fun (c : Bool) => some c
theorem Q7 (b : BT) (c : AK) (r : Bool) (h : IK b c = some r) : Aw Tryz.prog 124 [.agg (BM b), .place (AQ c) 0] (· = .bool r) := by
 refine fn AA Tryz.func124 Z Z 16 Z [.tmp 3] Z [(0, .p (.agg (BM b))), (1, .p (.place (AQ c) 0))] Z Z fun A hA => ?_
 unfold IK at h
 refine rs AA <| rl Z <| jb (fun a : Bool => ⟨16, [(3, lb a)], [], 0⟩) h (fun a d => ?_) (fun a g => ?_)
 .refine rg AA <| rn 6 Z <| gs 9 d Z Z Z (fun e => ?_) (fun f => ?_)
  .exact rl Z <| AL e (wf hA [] Z Z Z)
  exact rl Z <| AL f (wf hA [] Z Z Z)
 refine AF ?_
 have hr := Option.some.inj g; subst hr
 exact er Z Le.rfl
noncomputable def Kw (c : AK) (b : (List BT)) (a : Int) : Option (Int ⊕ Int) :=
 bif decide (a < (b.length : Int)) then (AZ b a).bind fun d => (IK d c).bind fun e => bif e then some (.inr a) else some (.inl (AO (a + 1))) else some (.inr (-1))
noncomputable def J6 (e : AK) (a : (List BT)) : Option Int :=
 (J5 a).bind fun b => bif (b != 0) then some b else ((((AU (Kw e a) 0 : Option (Int))).bind fun (d : Int) => some (decide (0 <= d)) : Option (Bool))).bind fun (c : Bool) => bif c then some 9 else some 0
theorem Su (d : AK) (b : (List BT)) (r : Int) (h : J6 d b = some r) : Aw Tryz.prog 86 [.agg (AQ d), .slice 5 (b.map BM)] (· = .int .i64 r) := by
 refine fn AA Tryz.func86 Z Z 14 Z [.tmp 4] Z [(0, .p (.agg (AQ d))), (1, .p (.slice 5 (b.map BM)))] Z Z fun A hA => ?_
 unfold J6 at h
 refine rs AA <| rl Z <| AB <| rs AA <| rn 1 Z <| bq h fun aj k l => sx Z (AM (Ss _ _ k) (.inl Z) Z Z Z <| rl Z <| rs AA <| rl Z <| cd Z l (fun m => ?_) (fun n => ?_))
 .refine rs AA <| rl Z <| AF <| AG ?_
  have hr := Option.some.inj m; subst hr
  exact er Z Le.rfl
 refine AE <| AC <| AB <| rs AA <| rn 2 Z <| sx Z (CP AA (fun e : Bool => lb e) (fun e : Bool => [(0, bx (AQ d))]) 1 n Tryz.func123 9 [.tmp 4] [(0, ls 5 BM b), (1, .fn 124 [.lpb 0 0])] Z Z Z Z Z Z Z Z (fun A hA e o => ?_) (fun e ab => ?_))
 .refine rs AA <| rl Z <| rs AA <| rn 2 Z <| sx Z (CP AA (fun c : Int => li c) (fun c : Int => [(0, bx (AQ d))]) 1 o Tryz.func155 19 [.tmp 4] [(0, ls 5 BM b), (1, .fn 124 [.lpb 0 0])] Z Z Z Z Z Z Z Z (fun A hA c q => ?_) (fun c aa => ?_))
  .refine rs AA <| rl Z <| AB <| rs AA <| rn 1 Z <| sx Z (Ac Z Z <| rl Z <| AH ?_)
   apply lp (a := c) (fun f : Int => ⟨19, [(0, ls 5 BM b), (1, .fn 124 [.lpb 0 0]), (7, li (b.length : Int)), (8, li f)], [(0, bx (AQ d))], 1⟩) q
   . exact wj hA [(0, 0)] Z Z Z Z
   intro f ag g
   unfold Kw at g
   refine rs AA <| rl Z <| AB <| cd Z g (fun s => ?_) (fun y => ?_)
   .refine AE <| AC <| AB <| AH <| rs AA <| rl Z <| rs AA <| rn 3 Z <| bq s fun ah i t => sx Z (Aa i Z Z Z <| rn 1 Z <| bq t fun ai j u => sx Z (AM (Q7 _ _ _ j) (.inl Z) Z Z (Da.eq (.cons (.one (.p _)) (.cons (.box Z (.cons (.p _) (.cons (.p _) (.cons (.p _) (.cons (.p _) (.cons (.p _) (.cons (.p _) (.cons (.p _) (.cons (.p _) (.cons (.p _) .nil)))))))))) .nil))) <| rl Z <| cd Z u (fun v => ?_) (fun x => ?_)))
    .refine rs AA <| rl Z <| AF <| AN <| AG <| A1 v fun ae w => AN <| AG ?_
     have hr := Option.some.inj w; subst hr
     exact CS (nt := 19) (sl := [(4, li f)]) (wj hA [(0, 0)] Z Z Z Z) Z
    exact AE <| Ad <| AC <| rg AA <| rl Z <| Ar x (wj hA [(0, 0)] Z Z Z Z)
   refine AV <| AX <| BI y fun af z => Am <| AC <| rs AA <| rl Z <| AF ?_
   cases z
   exact CS (nt := 19) (sl := [(4, li (-1))]) (wj hA [(0, 0)] Z Z Z Z) Z
  refine rl Z <| AF ?_
  cases aa
  exact CS (nt := 9) (sl := [(4, lb (decide (0 <= c)))]) (wj hA [(0, 0)] Z Z Z Z) Z
 refine rl Z <| cd Z ab (fun ac => ?_) (fun ad => ?_)
 .refine rs AA <| rl Z <| AF <| AG ?_
  cases ac
  exact er Z Le.rfl
 refine AE <| AC <| rs AA <| rl Z <| AF ?_
 cases ad
 exact er Z Le.rfl
noncomputable def Cq (a : Int) (c : Int) : Option Bool :=
 ((bif decide (0 <= a) then some (decide (a <= c)) else some false : Option (Bool))).bind fun (b : Bool) => some b
theorem D6 (b : Int) (c : Int) (r : Bool) (h : Cq b c = some r) : Aw Tryz.prog 87 [.int .i64 b, .int .i64 c] (· = .bool r) := by
 refine fn AA Tryz.func87 Z Z 12 Z [.tmp 4] Z [(0, .p (.int .i64 b)), (1, .p (.int .i64 c))] Z Z fun A hA => ?_
 unfold Cq at h
 refine rs AA <| rl Z <| jb (fun a : Bool => ⟨12, [(4, lb a)], [], 0⟩) h (fun a d => ?_) (fun a g => ?_)
 .refine rg AA <| rn 3 Z <| gs 7 d Z Z Z (fun e => ?_) (fun f => ?_)
  .exact rl Z <| AL e (wf hA [] Z Z Z)
  exact rl Z <| AL f (wf hA [] Z Z Z)
 refine AF ?_
 have hr := Option.some.inj g; subst hr
 exact er Z Le.rfl
noncomputable def Gv (a : AK) (b : Int) : Option Int :=
 (Cq b (AO ((a.elems.length : Int) - 1))).bind fun d => bif (!d) then some 0 else (AZ a.elems b).bind fun c => some c.kind
theorem Ma (a : AK) (b : Int) (r : Int) (h : Gv a b = some r) : Aw Tryz.prog 157 [.agg (AQ a), .int .i64 b] (· = .int .i64 r) := by
 refine fn AA Tryz.func157 Z Z 18 Z [.tmp 4] Z [(0, .p (.agg (AQ a))), (1, .p (.int .i64 b))] Z Z fun A hA => ?_
 unfold Gv at h
 refine rs AA <| rl Z <| AB <| rs AA <| rn 3 Z <| sx Z (Ac Z Z <| rn 1 Z <| bq h fun k d e => sx Z (AM (D6 _ _ _ d) (.inl Z) Z Z Z <| rl Z <| cd Z e (fun f => ?_) (fun g => ?_)))
 .refine rs AA <| rl Z <| AF <| AG ?_
  cases f
  exact er Z Le.rfl
 refine AE <| AC <| rs AA <| rn 3 Z <| bq g fun j c i => sx Z (Aa c Z Z Z <| rl Z <| AF ?_)
 cases i
 exact er Z Le.rfl
noncomputable def IL (b : AK) (a : Db) : Option Bool :=
 bif (a.fin == 1) then (Cq a.to (AO ((b.signals.length : Int) - 1))).bind fun c => some c else bif (a.fin == 2) then (Gv b a.to).bind fun d => some (d == 4) else bif (a.fin == 3) then (Gv b a.to).bind fun e => some (e == 1) else some false
theorem Q8 (a : AK) (b : Db) (r : Bool) (h : IL a b = some r) : Aw Tryz.prog 126 [.agg (AQ a), .agg (Dj b)] (· = .bool r) := by
 refine fn AA Tryz.func126 Z Z 30 Z [.tmp 4] Z [(0, .p (.agg (AQ a))), (1, .p (.agg (Dj b)))] Z Z fun A hA => ?_
 unfold IL at h
 refine rs AA <| rl Z <| AB <| rs AA <| rl Z <| AH <| rs AA <| rl Z <| cd Z h (fun f => ?_) (fun i => ?_)
 .refine rs AA <| rn 4 Z <| sx Z (Ac Z Z <| rn 1 Z <| bq f fun q c g => sx Z (AM (D6 _ _ _ c) (.inl Z) Z Z Z <| rl Z <| AF <| AN <| AG ?_))
  have hr := Option.some.inj g; subst hr
  exact er Z Le.rfl
 refine rs AA <| rl Z <| cd Z i (fun j => ?_) (fun l => ?_)
 .refine rs AA <| rn 3 Z <| bq j fun s d k => sx Z (AM (Ma _ _ _ d) (.inl Z) Z Z Z <| rl Z <| AF <| AN <| AG ?_)
  cases k
  exact er Z Le.rfl
 refine rs AA <| rl Z <| cd Z l (fun m => ?_) (fun o => ?_)
 .refine rs AA <| rn 3 Z <| bq m fun t e n => sx Z (AM (Ma _ _ _ e) (.inl Z) Z Z Z <| rl Z <| AF <| AN <| AG ?_)
  cases n
  exact er Z Le.rfl
 refine AE <| Ad <| AC <| rs AA <| rl Z <| AF ?_
 cases o
 exact er Z Le.rfl
noncomputable def Kx (e : AK) (c : DR) (a : Int × Int) : Option ((Int × Int) ⊕ Bool) :=
 bif decide (a.2 < (c.legs.length : Int)) then (AZ c.legs a.2).bind fun b => (((Cq b.at_ 2000).bind fun f => bif (!f) then some true else bif decide (b.at_ < a.1) then some true else (IL e b).bind fun g => some (!g) : Option (Bool))).bind fun (d : Bool) => bif d then some (.inr false) else some (.inl (b.at_, AO (a.2 + 1))) else some (.inr true)
noncomputable def J7 (b : AK) (d : Ai) (a : DR) : Option Bool :=
 (((CA a.name).bind fun e => bif (!e) then some true else (Cq a.stock (AO ((d.stock.length : Int) - 1))).bind fun f => bif (!f) then some true else (Cq a.frm (AO ((b.signals.length : Int) - 1))).bind fun g => bif (!g) then some true else (Cq a.left 4000).bind fun h => some (!h) : Option (Bool))).bind fun (c : Bool) => bif c then some false else AU (Kx b a) (0, 0)
theorem Sv (c : AK) (g : Ai) (b : DR) (r : Bool) (h : J7 c g b = some r) : Aw Tryz.prog 89 [.agg (AQ c), .agg (AW g), .agg (Bu b)] (· = .bool r) := by
 refine fn AA Tryz.func89 Z Z 66 Z [.tmp 6] Z [(0, .p (.agg (AQ c))), (1, .p (.agg (AW g))), (2, .p (.agg (Bu b)))] Z Z fun A hA => ?_
 unfold J7 at h
 refine rs AA <| rl Z <| AB <| jb (fun e : Bool => ⟨66, [(3, .lpb 0 0), (5, .lpb 1 0), (39, lb e)], [(0, bx (AQ c)), (1, bx (Bu b))], 2⟩) h (fun e s => ?_) (fun e af => ?_)
 .refine rg AA <| rn 2 Z <| bq s fun a1 j t => sx Z (AM (HS _ _ j) (.inl Z) Z Z Z <| rn 2 Z <| gs 14 t Z Z Z (fun u => ?_) (fun v => ?_))
  .exact rl Z <| AL u (wf hA [(0, 0), (1, 2)] Z Z Z)
  refine rn 4 Z <| sx Z (Ac Z Z <| rn 1 Z <| bq v fun a2 k w => sx Z (AM (D6 _ _ _ k) (.inl Z) Z Z Z <| rn 3 Z <| gs 24 w Z Z Z (fun y => ?_) (fun z => ?_)))
  .exact rl Z <| AL y (wf hA [(0, 0), (1, 2)] Z Z Z)
  refine rn 4 Z <| sx Z (Ac Z Z <| rn 1 Z <| bq z fun a3 l aa => sx Z (AM (D6 _ _ _ l) (.inl Z) Z Z Z <| rn 3 Z <| gs 34 aa Z Z Z (fun ab => ?_) (fun ad => ?_)))
  .exact rl Z <| AL ab (wf hA [(0, 0), (1, 2)] Z Z Z)
  exact rn 2 Z <| bq ad fun a4 n ae => sx Z (AM (D6 _ _ _ n) (.inl Z) Z Z Z <| rl Z <| AL ae (wf hA [(0, 0), (1, 2)] Z Z Z))
 refine cd Z af (fun ao => ?_) (fun aw => ?_)
 .refine rs AA <| rl Z <| AF <| AG ?_
  cases ao
  exact er Z Le.rfl
 refine AE <| AC <| rs AA <| rl Z <| AB <| rs AA <| rn 2 Z <| sx Z (Ac Z Z <| rl Z <| AH ?_)
 apply lp (a := r) (fun d : (Int × Int) => ⟨66, [(3, .lpb 0 0), (7, li d.1), (41, ls 4 Dj b.legs), (42, li (b.legs.length : Int)), (43, li d.2)], [(0, bx (AQ c))], 1⟩) aw
 . exact wf hA [(0, 0)] Z Z Z
 intro d a0 i
 unfold Kx at i
 refine rs AA <| rl Z <| AB <| cd Z i (fun x => ?_) (fun au => ?_)
 .refine AE <| AC <| AB <| AH <| rs AA <| bq x fun ax m ac => sx Z (Aa m Z Z Z <| rl Z <| AB <| jb (fun f : Bool => ⟨66, [(3, .lpb 0 0), (9, .lpb 1 0), (41, ls 4 Dj b.legs), (42, li (b.legs.length : Int)), (43, li d.2), (62, lb f)], [(0, bx (AQ c)), (1, bx (Dj ax))], 2⟩) ac (fun f ag => ?_) (fun f an => ?_))
  .refine rg AA <| rn 2 Z <| bq ag fun a5 o ah => sx Z (AM (D6 _ _ _ o) (.inl Z) Z Z Z <| rn 2 Z <| gs 51 ah Z Z Z (fun ai => ?_) (fun aj => ?_))
   .exact rl Z <| AL ai (wf hA [(0, 0), (1, 1)] Z Z Z)
   refine rn 6 Z <| gs 57 aj Z Z Z (fun ak => ?_) (fun al => ?_)
   .exact rl Z <| AL ak (wf hA [(0, 0), (1, 1)] Z Z Z)
   exact rn 2 Z <| bq al fun a6 q am => sx Z (AM (Q8 _ _ _ q) (.inl Z) Z Z Z <| rl Z <| AL am (wf hA [(0, 0), (1, 1)] Z Z Z))
  refine cd Z an (fun ap => ?_) (fun ar => ?_)
  .refine rs AA <| rl Z <| AF <| AG <| AN <| AG <| A1 ap fun ay aq => AN <| AG ?_
   cases aq
   exact er Z Le.rfl
  exact AE <| AC <| rg AA <| rl Z <| Ad <| AC <| rg AA <| rl Z <| Ar ar (wf hA [(0, 0)] Z Z Z)
 refine AV <| AX <| BI au fun az av => Am <| AC <| rs AA <| rl Z <| AF ?_
 cases av
 exact er Z Le.rfl
noncomputable def HF (a : DR) (b : AK) (c : Ai) : Option Bool :=
 (J7 b c a).bind fun d => some (!d)
theorem Ph (a : DR) (b : AK) (c : Ai) (r : Bool) (h : HF a b c = some r) : Aw Tryz.prog 88 [.agg (Bu a), .place (AQ b) 0, .place (AW c) 0] (· = .bool r) := by
 refine fn AA Tryz.func88 Z Z 10 Z [.tmp 4] Z [(0, .p (.agg (Bu a))), (1, .p (.place (AQ b) 0)), (2, .p (.place (AW c) 0))] Z Z fun A hA => ?_
 unfold HF at h
 refine rs AA <| rl Z <| rs AA <| rn 3 Z <| bq h fun f d e => sx Z (AM (Sv _ _ _ _ d) (.inl Z) Z Z Z <| rl Z <| AF ?_)
 cases e
 exact er Z Le.rfl
noncomputable def HG (a : DR) (b : DR) : Option Bool :=
 some (a.name.toList == b.name.toList)
theorem Pi (a : DR) (b : DR) (r : Bool) (h : HG a b = some r) : Aw Tryz.prog 90 [.agg (Bu a), .place (Bu b) 0] (· = .bool r) := by
 refine fn AA Tryz.func90 Z Z 9 Z [.tmp 3] Z [(0, .p (.agg (Bu a))), (1, .p (.place (Bu b) 0))] Z Z fun A hA => ?_
 unfold HG at h
 refine rs AA <| rl Z <| rs AA <| rl Z <| AF ?_
 cases h
 exact er Z Le.rfl
noncomputable def Jh (b : Ai) (a : Int) : Option (Int ⊕ Int) :=
 bif decide (a < (b.runs.length : Int)) then (AZ b.runs a).bind fun c => (HE c).bind fun d => bif d then some (.inr a) else some (.inl (AO (a + 1))) else some (.inr (-1))
noncomputable def Ji (c : AK) (b : Ai) (a : Int) : Option (Int ⊕ Int) :=
 bif decide (a < (b.runs.length : Int)) then (AZ b.runs a).bind fun d => (HF d c b).bind fun e => bif e then some (.inr a) else some (.inl (AO (a + 1))) else some (.inr (-1))
noncomputable def Jj (c : DR) (b : (List DR)) (a : Int) : Option (Int ⊕ Int) :=
 bif decide (a < (b.length : Int)) then (AZ b a).bind fun d => (HG d c).bind fun e => bif e then some (.inr a) else some (.inl (AO (a + 1))) else some (.inr (-1))
noncomputable def Jk (b : Ai) (a : Int) : Option (Int ⊕ Int) :=
 bif decide (a < (b.runs.length : Int)) then (AZ b.runs a).bind fun e => (KE b.runs 0 a).bind fun f => ((((AU (Jj e f) 0 : Option (Int))).bind fun (d : Int) => some (decide (0 <= d)) : Option (Bool))).bind fun (c : Bool) => bif c then some (.inr 4) else some (.inl (AO (a + 1))) else some (.inr 0)
noncomputable def IM (b : AK) (a : Ai) : Option Int :=
 ((bif decide (8 < (a.runs.length : Int)) then some true else ((((AU (Jh a) 0 : Option (Int))).bind fun (g : Int) => some (decide (0 <= g)) : Option (Bool))).bind fun (f : Bool) => some f : Option (Bool))).bind fun (e : Bool) => bif e then some 3 else (J6 b a.stock).bind fun c => bif (c != 0) then some c else (((Cq a.begin 86399).bind fun j => bif (!j) then some true else ((((AU (Ji b a) 0 : Option (Int))).bind fun (d : Int) => some (decide (0 <= d)) : Option (Bool))).bind fun (i : Bool) => some i : Option (Bool))).bind fun (h : Bool) => bif h then some 1 else AU (Jk a) 0
theorem Q9 (c : AK) (b : Ai) (r : Int) (h : IM c b = some r) : Aw Tryz.prog 55 [.agg (AQ c), .agg (AW b)] (· = .int .i64 r) := by
 refine fn AA Tryz.func55 Z Z 49 Z [.tmp 4] Z [(0, .p (.agg (AQ c))), (1, .p (.agg (AW b)))] Z Z fun A hA => ?_
 unfold IM at h
 refine rs AA <| rl Z <| AB <| jb (fun o : Bool => ⟨49, [(2, .lpb 0 0), (3, .lpb 1 0), (16, lb o)], [(0, bx (AQ c)), (1, bx (AW b))], 2⟩) h (fun o az => ?_) (fun o b1 => ?_)
 .refine rg AA <| rn 2 Z <| sx Z (Ac Z Z <| rn 2 Z <| gs 12 az Z Z Z (fun a0 => ?_) (fun a1 => ?_))
  .exact rl Z <| AL a0 (wf hA [(0, 0), (1, 1)] Z Z Z)
  refine rn 2 Z <| sx Z (CP AA (fun i : Bool => lb i) (fun i : Bool => [(0, bx (AQ c)), (1, bx (AW b))]) 2 a1 Tryz.func84 9 [.tmp 4] [(0, ls 5 Bu b.runs), (1, .fn 85 [])] Z Z Z Z Z Z Z Z (fun A hA i bm => ?_) (fun i b0 => ?_))
  .refine rs AA <| rl Z <| rs AA <| rn 2 Z <| sx Z (CP AA (fun f : Int => li f) (fun f : Int => [(0, bx (AQ c)), (1, bx (AW b))]) 2 bm Tryz.func121 19 [.tmp 4] [(0, ls 5 Bu b.runs), (1, .fn 85 [])] Z Z Z Z Z Z Z Z (fun A hA f bn => ?_) (fun f bz => ?_))
   .refine rs AA <| rl Z <| AB <| rs AA <| rn 1 Z <| sx Z (Ac Z Z <| rl Z <| AH ?_)
    apply lp (a := f) (fun n : Int => ⟨19, [(0, ls 5 Bu b.runs), (1, .fn 85 []), (7, li (b.runs.length : Int)), (8, li n)], [(0, bx (AQ c)), (1, bx (AW b))], 2⟩) bn
    . exact wj hA [(0, 0), (1, 1)] Z Z Z Z
    intro n co w
    unfold Jh at w
    refine rs AA <| rl Z <| AB <| cd Z w (fun bo => ?_) (fun bv => ?_)
    .refine AE <| AC <| AB <| AH <| rs AA <| rl Z <| rs AA <| rn 3 Z <| bq bo fun ct ae bp => sx Z (Aa ae Z Z Z <| rn 1 Z <| bq bp fun cu af br => sx Z (AM (Pg _ _ af) (.inl Z) Z Z Z <| rl Z <| cd Z br (fun bs => ?_) (fun bu => ?_)))
     .refine rs AA <| rl Z <| AF <| AN <| AG <| A1 bs fun cj bt => AN <| AG ?_
      have hr := Option.some.inj bt; subst hr
      exact CS (nt := 19) (sl := [(4, li n)]) (wj hA [(0, 0), (1, 1)] Z Z Z Z) Z
     exact AE <| Ad <| AC <| rg AA <| rl Z <| Ar bu (wj hA [(0, 0), (1, 1)] Z Z Z Z)
    refine AV <| AX <| BI bv fun ck bw => Am <| AC <| rs AA <| rl Z <| AF ?_
    cases bw
    exact CS (nt := 19) (sl := [(4, li (-1))]) (wj hA [(0, 0), (1, 1)] Z Z Z Z) Z
   refine rl Z <| AF ?_
   cases bz
   exact CS (nt := 9) (sl := [(4, lb (decide (0 <= f)))]) (wj hA [(0, 0), (1, 1)] Z Z Z Z) Z
  exact rl Z <| AL b0 (wf hA [(0, 0), (1, 1)] Z Z Z)
 refine cd Z b1 (fun b2 => ?_) (fun b3 => ?_)
 .refine rs AA <| rl Z <| AF <| AG ?_
  cases b2
  exact er Z Le.rfl
 refine AE <| AC <| AB <| rs AA <| rn 3 Z <| bq b3 fun cv ag b4 => sx Z (AM (Su _ _ _ ag) (.inl Z) Z Z Z <| rl Z <| rs AA <| rl Z <| cd Z b4 (fun b5 => ?_) (fun b6 => ?_))
 .refine rs AA <| rl Z <| AF <| AG ?_
  have hr := Option.some.inj b5; subst hr
  exact er Z Le.rfl
 refine AE <| AC <| AB <| jb (fun q : Bool => ⟨49, [(3, .lpb 0 0), (33, lb q)], [(0, bx (AW b))], 1⟩) b6 (fun q b7 => ?_) (fun q av => ?_)
 .refine rg AA <| rn 2 Z <| bq b7 fun cw ah b8 => sx Z (AM (D6 _ _ _ ah) (.inl Z) Z Z Z <| rn 2 Z <| gs 28 b8 Z Z Z (fun b9 => ?_) (fun ca => ?_))
  .exact rl Z <| AL b9 (wf hA [(0, 1)] Z Z Z)
  refine rn 3 Z <| sx Z (CP AA (fun j : Bool => lb j) (fun j : Bool => [(0, bx (AQ c)), (1, bx (AW b))]) 2 ca Tryz.func84 9 [.tmp 4] [(0, ls 5 Bu b.runs), (1, .fn 88 [.lpb 0 0, .lpb 1 0])] Z Z Z Z Z Z Z Z (fun A hA j cb => ?_) (fun j au => ?_))
  .refine rs AA <| rl Z <| rs AA <| rn 2 Z <| sx Z (CP AA (fun d : Int => li d) (fun d : Int => [(0, bx (AQ c)), (1, bx (AW b))]) 2 cb Tryz.func121 19 [.tmp 4] [(0, ls 5 Bu b.runs), (1, .fn 88 [.lpb 0 0, .lpb 1 0])] Z Z Z Z Z Z Z Z (fun A hA d ai => ?_) (fun d ar => ?_))
   .refine rs AA <| rl Z <| AB <| rs AA <| rn 1 Z <| sx Z (Ac Z Z <| rl Z <| AH ?_)
    apply lp (a := d) (fun l : Int => ⟨19, [(0, ls 5 Bu b.runs), (1, .fn 88 [.lpb 0 0, .lpb 1 0]), (7, li (b.runs.length : Int)), (8, li l)], [(0, bx (AQ c)), (1, bx (AW b))], 2⟩) ai
    . exact wj hA [(0, 0), (1, 1)] Z Z Z Z
    intro l cl t
    unfold Ji at t
    refine rs AA <| rl Z <| AB <| cd Z t (fun aj => ?_) (fun ap => ?_)
    .refine AE <| AC <| AB <| AH <| rs AA <| rl Z <| rs AA <| rn 3 Z <| bq aj fun cp y ak => sx Z (Aa y Z Z Z <| rn 1 Z <| bq ak fun cq z al => sx Z (AM (Ph _ _ _ _ z) (.inl Z) Z Z (Da.eq (.cons (.one (.p _)) (.cons (.box Z (.cons (.p _) (.cons (.p _) (.cons (.p _) (.cons (.p _) (.cons (.p _) (.cons (.p _) (.cons (.p _) (.cons (.p _) (.cons (.p _) .nil)))))))))) (.cons (.box Z (.cons (.p _) (.cons (.p _) (.cons (.p _) .nil)))) .nil)))) <| rl Z <| cd Z al (fun am => ?_) (fun ao => ?_)))
     .refine rs AA <| rl Z <| AF <| AN <| AG <| A1 am fun cc an => AN <| AG ?_
      have hr := Option.some.inj an; subst hr
      exact CS (nt := 19) (sl := [(4, li l)]) (wj hA [(0, 0), (1, 1)] Z Z Z Z) Z
     exact AE <| Ad <| AC <| rg AA <| rl Z <| Ar ao (wj hA [(0, 0), (1, 1)] Z Z Z Z)
    refine AV <| AX <| BI ap fun ce aq => Am <| AC <| rs AA <| rl Z <| AF ?_
    cases aq
    exact CS (nt := 19) (sl := [(4, li (-1))]) (wj hA [(0, 0), (1, 1)] Z Z Z Z) Z
   refine rl Z <| AF ?_
   cases ar
   exact CS (nt := 9) (sl := [(4, lb (decide (0 <= d)))]) (wj hA [(0, 0), (1, 1)] Z Z Z Z) Z
  exact rl Z <| AL au (wf hA [(0, 1)] Z Z Z)
 refine cd Z av (fun aw => ?_) (fun ax => ?_)
 .refine rs AA <| rl Z <| AF <| AG ?_
  cases aw
  exact er Z Le.rfl
 refine AE <| AC <| AB <| rs AA <| rn 2 Z <| sx Z (Ac Z Z <| rl Z <| AH ?_)
 apply lp (a := r) (fun x : Int => ⟨49, [(3, .lpb 0 0), (35, ls 5 Bu b.runs), (36, li (b.runs.length : Int)), (37, li x)], [(0, bx (AW b))], 1⟩) ax
 . exact wf hA [(0, 0)] Z Z Z
 intro x cm u
 unfold Jk at u
 refine rs AA <| rl Z <| AB <| cd Z u (fun ay => ?_) (fun bk => ?_)
 .refine AE <| AC <| AB <| AH <| rs AA <| rn 1 Z <| bq ay fun s aa a2 => sx Z (Aa aa Z Z Z <| rl Z <| rs AA <| rn 3 Z <| bq a2 fun k ab a3 => sx Z (TA ab Z Z Z Z <| rn 1 Z <| sx Z (CP AA (fun g : Bool => lb g) (fun g : Bool => [(0, bx (AW b)), (1, bx (Bu s))]) 2 a3 Tryz.func84 9 [.tmp 4] [(0, ls 5 Bu k), (1, .fn 90 [.lpb 1 0])] Z Z Z Z Z Z Z Z (fun A hA g a4 => ?_) (fun g bg => ?_))))
  .refine rs AA <| rl Z <| rs AA <| rn 2 Z <| sx Z (CP AA (fun e : Int => li e) (fun e : Int => [(0, bx (AW b)), (1, bx (Bu s))]) 2 a4 Tryz.func121 19 [.tmp 4] [(0, ls 5 Bu k), (1, .fn 90 [.lpb 1 0])] Z Z Z Z Z Z Z Z (fun A hA e a5 => ?_) (fun e bf => ?_))
   .refine rs AA <| rl Z <| AB <| rs AA <| rn 1 Z <| sx Z (Ac Z Z <| rl Z <| AH ?_)
    apply lp (a := e) (fun m : Int => ⟨19, [(0, ls 5 Bu k), (1, .fn 90 [.lpb 1 0]), (7, li (k.length : Int)), (8, li m)], [(0, bx (AW b)), (1, bx (Bu s))], 2⟩) a5
    . exact wj hA [(0, 0), (1, 1)] Z Z Z Z
    intro m cn v
    unfold Jj at v
    refine rs AA <| rl Z <| AB <| cd Z v (fun a6 => ?_) (fun bc => ?_)
    .refine AE <| AC <| AB <| AH <| rs AA <| rl Z <| rs AA <| rn 3 Z <| bq a6 fun cr ac a7 => sx Z (Aa ac Z Z Z <| rn 1 Z <| bq a7 fun cs ad a8 => sx Z (AM (Pi _ _ _ ad) (.inl Z) Z Z (Da.eq (.cons (.one (.p _)) (.cons (.box Z (.cons (.p _) (.cons (.p _) (.cons (.p _) (.cons (.p _) (.cons (.p _) .nil)))))) .nil))) <| rl Z <| cd Z a8 (fun a9 => ?_) (fun bb => ?_)))
     .refine rs AA <| rl Z <| AF <| AN <| AG <| A1 a9 fun cf ba => AN <| AG ?_
      have hr := Option.some.inj ba; subst hr
      exact CS (nt := 19) (sl := [(4, li m)]) (wj hA [(0, 0), (1, 1)] Z Z Z Z) Z
     exact AE <| Ad <| AC <| rg AA <| rl Z <| Ar bb (wj hA [(0, 0), (1, 1)] Z Z Z Z)
    refine AV <| AX <| BI bc fun cg be => Am <| AC <| rs AA <| rl Z <| AF ?_
    cases be
    exact CS (nt := 19) (sl := [(4, li (-1))]) (wj hA [(0, 0), (1, 1)] Z Z Z Z) Z
   refine rl Z <| AF ?_
   cases bf
   exact CS (nt := 9) (sl := [(4, lb (decide (0 <= e)))]) (wj hA [(0, 0), (1, 1)] Z Z Z Z) Z
  refine rl Z <| cd Z bg (fun bh => ?_) (fun bj => ?_)
  .refine rs AA <| rl Z <| AF <| AN <| AG <| A1 bh fun ch bi => AN <| AG ?_
   cases bi
   exact er Z Le.rfl
  exact AE <| Ad <| AC <| rg AA <| rl Z <| Ar bj (wf hA [(0, 0)] Z Z Z)
 refine AV <| AX <| BI bk fun ci bl => Am <| AC <| rs AA <| rl Z <| AF ?_
 cases bl
 exact er Z Le.rfl
noncomputable def Fy (c : Az) (d : Ai) (b : Int) : Option (GB × Bool) :=
 ((bif decide (b < 0) then some true else some (decide ((d.runs.length : Int) <= b)) : Option (Bool))).bind fun (f : Bool) => bif f then some ((⟨ByteArray.empty, 0, (⟨0, 0⟩ : AI), 0⟩ : GB), false) else (AZ d.runs b).bind fun a => (CW c a.frm).bind fun e => (((BR c e.1.elem).bind fun h => bif (h == 4) then some 0 else some a.left : Option (Int))).bind fun (g : Int) => some ((⟨a.name, a.stock, e.1, g⟩ : GB), true)
theorem Ps (a : Az) (b : Ai) (c : Int) (r : (GB × Bool)) (h : Fy a b c = some r) : Aw Tryz.prog 11 [.place (Ap a) 0, .agg (AW b), .int .i64 c] (· = .tup [.agg (HT r.1), .bool r.2]) := by
 refine fn AA Tryz.func11 Z Z 49 Z [.cell 6 42, .tmp 7] Z [(0, .p (.place (Ap a) 0)), (1, .p (.agg (AW b))), (2, .p (.int .i64 c))] Z Z fun A hA => ?_
 unfold Fy at h
 refine rs AA <| rl Z <| AB <| jb (fun d : Bool => ⟨49, [(0, lq (Ap a)), (2, li c), (4, .lpb 0 0), (6, .lpb 1 0), (20, lb d)], [(0, bx (AW b)), (1, .box [.p (.str ByteArray.empty), li 0, li 0, li 0, li 0])], 2⟩) h (fun d l => ?_) (fun d o => ?_)
 .refine rg AA <| rn 3 Z <| gs 14 l Z Z Z (fun m => ?_) (fun n => ?_)
  .exact rl Z <| AL m (wf hA [(0, 0), (1, 1)] Z Z Z)
  exact rn 3 Z <| sx Z (Ac Z Z <| rl Z <| AL n (wf hA [(0, 0), (1, 1)] Z Z Z))
 refine cd Z o (fun q => ?_) (fun s => ?_)
 .refine rs AA <| rl Z <| AF <| AG ?_
  cases q
  exact er Z Le.rfl
 refine AE <| AC <| rs AA <| rn 3 Z <| bq s fun f i t => sx Z (Aa i Z Z Z <| rl Z <| rs AA <| rn 3 Z <| bq t fun g j u => sx Z (AM (GX _ _ _ j) (.inl Z) Z Z Z <| rl Z <| rs AA <| rl Z <| jb (fun e : Int => ⟨49, [(6, .lpb 0 0), (11, .lpb 1 0)], [(0, .box [.p (.str ByteArray.empty), li 0, li 0, li 0, li 0]), (1, .box [.p (.str f.name), li f.stock, li g.1.elem, li g.1.fin, li e])], 2⟩) u (fun e v => ?_) (fun e z => ?_)))
 .refine rs AA <| rn 3 Z <| bq v fun aa k w => sx Z (AM (Bo _ _ _ k) (.inl Z) Z Z Z <| rl Z <| cd Z w (fun x => ?_) (fun y => ?_))
  .exact rg AA <| rl Z <| AL x (wf hA [(0, 1), (1, 4)] Z Z Z)
  exact AE <| AL y (wf hA [(0, 1), (1, 4)] Z Z Z)
 refine rs AA <| rl Z <| AF ?_
 cases z
 exact er Z Le.rfl
end Go.E
/- Plain functions, and walks in step with them. Written by a program (gen.py). No condition. -/
set_option maxRecDepth 100000
set_option maxHeartbeats 1000000
namespace Go.E
open Go Go.RowKit Go.Proofs
noncomputable def JH (c : Az) (a : AI) : Option Bool :=
 ((bif decide (0 <= a.fin) then (BR c a.elem).bind fun d => (Ei d).bind fun e => some (decide (a.fin < e)) else some false : Option (Bool))).bind fun (b : Bool) => some b
theorem Pt (b : Az) (c : AI) (r : Bool) (h : JH b c = some r) : Aw Tryz.prog 136 [.place (Ap b) 0, .agg (AT c)] (· = .bool r) := by
 refine fn AA Tryz.func136 Z Z 18 Z [.tmp 4] Z [(0, .p (.place (Ap b) 0)), (1, .p (.agg (AT c)))] Z Z fun A hA => ?_
 unfold JH at h
 refine rs AA <| rl Z <| jb (fun a : Bool => ⟨18, [(4, lb a)], [], 0⟩) h (fun a k => ?_) (fun a j => ?_)
 .refine B0 AA mixed [0, 1, 2, 3, 4, 5, 6, 7, 8, 9, 10, 11, 12, 13] 14 (by kernel_rfl) Z Z Z ?_
  refine Au 4 Z <| D5 8 k Z Z Z (fun l => ?_) (fun i => ?_)
  .exact Au 5 Z <| bq l fun m d f => As Z (A5 (Bo _ _ _ d) (.inl Z) Z Z Z <| bq f fun n e g => As Z (A5 (JI _ _ e) (.inl Z) Z Z Z <| BJ Z <| AL g (wf hA [] Z Z Z)))
  exact BJ Z <| AL i (wf hA [] Z Z Z)
 refine AF ?_
 have hr := Option.some.inj j; subst hr
 exact er Z Le.rfl
noncomputable def Ky (c : Az) (d : Int) (a : GB) : Option (Kz × Int) :=
 (BR c a.at_.elem).bind fun b => (FQ c a.at_.elem).bind fun e => ((bif decide (d < 1) then some true else bif decide (4000 < d) then some true else bif (b != 4) then bif (b != 1) then some true else (JH c a.at_).bind fun j => some (!j) else (JH c a.at_).bind fun k => some (!k) : Option (Bool))).bind fun (i : Bool) => bif i then some ((⟨0, [], 0, 0, 0⟩ : Kz), 1) else (CT c a.at_).bind fun l => bif decide (l < 0) then some ((⟨0, [], 0, 0, 0⟩ : Kz), 7) else ((bif (b == 4) then bif (a.left != 0) then some true else bif (b == 1) then bif decide (a.left < 0) then some true else some (decide (e < a.left)) else some false else bif (b == 1) then bif decide (a.left < 0) then some true else some (decide (e < a.left)) else some false : Option (Bool))).bind fun (f : Bool) => bif f then some ((⟨0, [], 0, 0, 0⟩ : Kz), 1) else ((bif (b == 1) then some (decide (e < AO (a.left + d))) else some false : Option (Bool))).bind fun (g : Bool) => bif g then some ((⟨0, [], 0, 0, 0⟩ : Kz), 9) else ((bif (b == 4) then some 1 else some 2 : Option (Int))).bind fun (h : Int) => some ((⟨h, [a.at_], a.left, 0, 0⟩ : Kz), 0)
theorem Tx (c : Az) (b : Int) (a : GB) (r : (Kz × Int)) (h : Ky c b a = some r) : Aw Tryz.prog 92 [.place (Ap c) 0, .int .i64 b, .agg (HT a)] (· = .tup [.agg (WV r.1), .int .i64 r.2]) := by
 refine fn AA Tryz.func92 Z Z 97 Z [.cell 6 117, .tmp 7] Z [(0, .p (.place (Ap c) 0)), (1, .p (.int .i64 b)), (2, .p (.agg (HT a)))] Z Z fun A hA => ?_
 unfold Ky at h
 refine rs AA <| rl Z <| AB ?_
 refine B0 AA mixed [0, 1, 2, 3, 4, 5, 6, 7, 8, 9, 10, 11] 12 (by kernel_rfl) Z Z Z ?_
 refine Au 4 Z <| bq h fun i n a5 => As Z (A5 (Bo _ _ _ n) (.inl Z) Z Z Z <| Au 4 Z <| bq a5 fun j o a6 => As Z (A5 (K0 _ _ _ o) (.inl Z) Z Z Z <| BJ Z <| AC <| AB <| AH <| jb (fun g : Bool => ⟨97, [(0, lq (Ap c)), (1, li b), (5, .lpb 0 0), (6, .lpb 1 0), (8, li i), (9, li j), (21, lb g)], [(0, bx (HT a)), (1, .box [li 0, .p (.nils), li 0, li 0, li 0])], 2⟩) a6 (fun g a7 => ?_) (fun g x => ?_)))
 .refine rg AA <| rn 3 Z <| gs 24 a7 Z Z Z (fun a8 => ?_) (fun a9 => ?_)
  .exact rl Z <| AL a8 (wf hA [(0, 0), (1, 1)] Z Z Z)
  refine rn 4 Z <| gs 28 a9 Z Z Z (fun ba => ?_) (fun bb => ?_)
  .exact rl Z <| AL ba (wf hA [(0, 0), (1, 1)] Z Z Z)
  refine rn 3 Z <| gs 31 bb Z Z Z (fun q => ?_) (fun v => ?_)
  .refine rn 5 Z <| gs 36 q Z Z Z (fun s => ?_) (fun t => ?_)
   .exact rl Z <| AL s (wf hA [(0, 0), (1, 1)] Z Z Z)
   exact rn 3 Z <| bq t fun bc k u => sx Z (AM (Pt _ _ _ k) (.inl Z) Z Z Z <| rl Z <| AL u (wf hA [(0, 0), (1, 1)] Z Z Z))
  exact rn 8 Z <| bq v fun be l w => sx Z (AM (Pt _ _ _ l) (.inl Z) Z Z Z <| rl Z <| AL w (wf hA [(0, 0), (1, 1)] Z Z Z))
 refine cd Z x (fun y => ?_) (fun z => ?_)
 .refine rs AA <| rl Z <| AF <| AN <| AG ?_
  cases y
  exact er Z (Le.tup' (.cons (Le.agg' (.cons Le.rfl (.cons (Le.nil _) (.cons Le.rfl (.cons Le.rfl (.cons Le.rfl .nil)))))) (.cons Le.rfl .nil)))
 refine rs AA <| rn 3 Z <| bq z fun bf m aa => sx Z (AM (GC _ _ _ m) (.inl Z) Z Z Z <| rl Z <| cd Z aa (fun ab => ?_) (fun ac => ?_))
 .refine rs AA <| rl Z <| AF <| AN <| AG ?_
  cases ab
  exact er Z (Le.tup' (.cons (Le.agg' (.cons Le.rfl (.cons (Le.nil _) (.cons Le.rfl (.cons Le.rfl (.cons Le.rfl .nil)))))) (.cons Le.rfl .nil)))
 refine jb (fun d : Bool => ⟨97, [(1, li b), (5, .lpb 0 0), (6, .lpb 1 0), (8, li i), (9, li j), (51, lb d)], [(0, bx (HT a)), (1, .box [li 0, .p (.nils), li 0, li 0, li 0])], 2⟩) ac (fun d ad => ?_) (fun d aq => ?_)
 .refine rg AA <| rn 3 Z <| gs 54 ad Z Z Z (fun ae => ?_) (fun al => ?_)
  .refine rn 5 Z <| gs 59 ae Z Z Z (fun af => ?_) (fun ag => ?_)
   .exact rl Z <| AL af (wf hA [(0, 0), (1, 1)] Z Z Z)
   refine rn 3 Z <| gs 62 ag Z Z Z (fun ah => ?_) (fun ak => ?_)
   .refine rn 4 Z <| gs 66 ah Z Z Z (fun ai => ?_) (fun aj => ?_)
    .exact rl Z <| AL ai (wf hA [(0, 0), (1, 1)] Z Z Z)
    exact rl Z <| AL aj (wf hA [(0, 0), (1, 1)] Z Z Z)
   exact rl Z <| AL ak (wf hA [(0, 0), (1, 1)] Z Z Z)
  refine rn 8 Z <| gs 62 al Z Z Z (fun am => ?_) (fun ap => ?_)
  .refine rn 4 Z <| gs 66 am Z Z Z (fun an => ?_) (fun ao => ?_)
   .exact rl Z <| AL an (wf hA [(0, 0), (1, 1)] Z Z Z)
   exact rl Z <| AL ao (wf hA [(0, 0), (1, 1)] Z Z Z)
  exact rl Z <| AL ap (wf hA [(0, 0), (1, 1)] Z Z Z)
 refine cd Z aq (fun ar => ?_) (fun au => ?_)
 .refine rs AA <| rl Z <| AF <| AN <| AG ?_
  cases ar
  exact er Z (Le.tup' (.cons (Le.agg' (.cons Le.rfl (.cons (Le.nil _) (.cons Le.rfl (.cons Le.rfl (.cons Le.rfl .nil)))))) (.cons Le.rfl .nil)))
 refine jb (fun e : Bool => ⟨97, [(5, .lpb 0 0), (6, .lpb 1 0), (8, li i), (75, lb e)], [(0, bx (HT a)), (1, .box [li 0, .p (.nils), li 0, li 0, li 0])], 2⟩) au (fun e av => ?_) (fun e ay => ?_)
 .refine rg AA <| rn 3 Z <| gs 78 av Z Z Z (fun aw => ?_) (fun ax => ?_)
  .exact rl Z <| AL aw (wf hA [(0, 0), (1, 1)] Z Z Z)
  exact rl Z <| AL ax (wf hA [(0, 0), (1, 1)] Z Z Z)
 refine cd Z ay (fun az => ?_) (fun a0 => ?_)
 .refine rs AA <| rl Z <| AF <| AN <| AG ?_
  cases az
  exact er Z (Le.tup' (.cons (Le.agg' (.cons Le.rfl (.cons (Le.nil _) (.cons Le.rfl (.cons Le.rfl (.cons Le.rfl .nil)))))) (.cons Le.rfl .nil)))
 refine AE <| Ad <| AC <| rs AA <| rl Z <| jb (fun f : Int => ⟨97, [(6, .lpb 0 0), (10, .lpb 1 0)], [(0, .box [li 0, .p (.nils), li 0, li 0, li 0]), (1, .box [li f, .lsl 2 2 0 [a.at_].length, li a.left, li 0, li 0]), (2, .row 40 2 ([a.at_].map AT))], 3⟩) a0 (fun f a1 => ?_) (fun f a4 => ?_)
 .refine rs AA <| rl Z <| cd Z a1 (fun a2 => ?_) (fun a3 => ?_)
  .exact rg AA <| rl Z <| AL a2 (wf hA [(0, 1), (1, 3), (2, 2)] Z Z Z)
  exact AE <| AL a3 (wf hA [(0, 1), (1, 3), (2, 2)] Z Z Z)
 refine rs AA <| rl Z <| AF ?_
 cases a4
 exact er (Tn Z (.cons (.agg (.cons (.p _) (.cons (.own (enc := AT) ([a.at_] : List AI) Z Z) (.cons (.p _) (.cons (.p _) (.cons (.p _) .nil)))))) (.cons (.one (.p _)) .nil))) Le.rfl
noncomputable def Mb (e : Az) (b : Kz) (a : Int × (List Int)) : Option ((Int × (List Int)) ⊕ (List Int)) :=
 bif decide (a.1 < (b.trail.length : Int)) then (((AZ b.trail a.1).bind fun c => (BR e c.elem).bind fun f => bif (f != 4) then (Br a.2 [c.elem]).bind fun g => some g else some a.2 : Option ((List Int)))).bind fun (d : (List Int)) => some (.inl (AO (a.1 + 1), d)) else ((PX a.2).bind fun h => (TH h).bind fun i => some i).map .inr
noncomputable def L2 (a : Az) (b : Kz) : Option (List Int) :=
 AU (Mb a b) (0, ([] : List Int))
theorem Uz (d : Az) (c : Kz) (r : (List Int)) (h : L2 d c = some r) : Aw Tryz.prog 93 [.place (Ap d) 0, .agg (WV c)] (· = .slice 1 (r.map Ae)) := by
 refine fn AA Tryz.func93 Z Z 30 Z [.tmp 4] Z [(0, .p (.place (Ap d) 0)), (1, .p (.agg (WV c)))] Z Z fun A hA => ?_
 unfold L2 at h
 refine rs AA <| rl Z <| rs AA <| rl Z <| AB <| rs AA <| rn 2 Z <| sx Z (Ac Z Z <| rl Z <| AH ?_)
 apply lp (a := r) (fun b : (Int × (List Int)) => ⟨30, [(0, lq (Ap d)), (5, .lsl 0 1 0 b.2.length), (9, ls 2 AT c.trail), (10, li (c.trail.length : Int)), (11, li b.1)], [(0, .row 3 1 (b.2.map Ae))], 1⟩) h
 . exact A7.trans (Cc 5 3 1 Z) (wf hA [(0, 1)] Z Z Z)
 intro b ai i
 unfold Mb at i
 refine rs AA <| rl Z <| AB <| cd Z i (fun q => ?_) (fun aa => ?_)
 .refine AE <| AC <| jb (fun f : (List Int) => ⟨30, [(0, lq (Ap d)), (5, .lsl 0 1 0 f.length), (9, ls 2 AT c.trail), (10, li (c.trail.length : Int)), (11, li b.1)], [(0, .row 3 1 (f.map Ae))], 1⟩) q (fun f s => ?_) (fun f z => ?_)
  .refine AH <| rs AA <| bq s fun ae j u => sx Z (Aa j Z Z Z <| rl Z <| rs AA <| rn 3 Z <| bq u fun aj k v => sx Z (AM (Bo _ _ _ k) (.inl Z) Z Z Z <| rl Z <| cd Z v (fun w => ?_) (fun y => ?_)))
   .exact rg AA <| rn 4 Z <| bq w fun ak n x => sx Z (BX (enc := Ae) (l := b.2) (m := [ae.elem]) n (fun _ => ⟨Z, Z⟩) Z Z Z Z Z Z <| rl Z <| Ad <| AL x (wf hA [(0, 3)] Z Z Z))
   exact AE <| Ad <| AL y (wf hA [(0, 0)] Z Z Z)
  exact rg AA <| rl Z <| Ar z (wf hA [(0, 0)] Z Z Z)
 refine AV <| AX <| CM aa fun ah ab => Am <| AC <| rs AA <| rn 1 Z <| bq ab fun af g ac => sx Z (AAL (t := 50) (e := 3) (enc := Ae) (l := b.2) AA XW Z Z g Z Z Z Z Z Z <| rl Z <| rs AA <| rn 1 Z <| bq ac fun ag o ad => sx Z (AAM (t := 50) (e := 3) (enc := Ae) (l := af) AA AAN Z Z o Z (by first | rfl | exact XX g) Z Z Z Z <| rl Z <| AF ?_))
 have hr := Option.some.inj ad; subst hr
 exact er (ID Z (.one (.own (enc := Ae) ag Z Z))) Le.rfl
noncomputable def LX (d : (Int × Int × (List (Int × Bool)))) (b : (List Int)) (a : Int × Int × (List (Int × Bool))) : Option ((Int × Int × (List (Int × Bool))) ⊕ ((Int × Int × (List (Int × Bool))) ⊕ Int)) :=
 bif decide (a.2.1 < (b.length : Int)) then (AZ b a.2.1).bind fun c => ((bif ((Ah a.2.2 c).getD false) then some 18 else some a.1 : Option (Int))).bind fun (e : Int) => some (.inl (e, AO (a.2.1 + 1), A2 c true a.2.2)) else some (.inr (.inl (a.1, AO (d.2.1 + 1), a.2.2)))
noncomputable def LY (c : Az) (b : Ai) (a : Int × Int × (List (Int × Bool))) : Option ((Int × Int × (List (Int × Bool))) ⊕ Int) :=
 bif decide (a.2.1 < (b.runs.length : Int)) then (AZ b.runs a.2.1).bind fun e => (Fy c b a.2.1).bind fun f => (AZ b.stock e.stock).bind fun g => (Ky c g.len f.1).bind fun d => bif (d.2 != 0) then some (.inr d.2) else (L2 c d.1).bind fun h => AU (LX a h) (a.1, 0, a.2.2) else some (.inr a.1)
noncomputable def K1 (a : Az) (b : Ai) : Option Int :=
 AU (LY a b) (0, 0, [])
theorem Tz (e : Az) (b : Ai) (r : Int) (h : K1 e b = some r) : Aw Tryz.prog 57 [.place (Ap e) 0, .agg (AW b)] (· = .int .i64 r) := by
 refine fn AA Tryz.func57 Z Z 63 Z [.tmp 4] Z [(0, .p (.place (Ap e) 0)), (1, .p (.agg (AW b)))] Z Z fun A hA => ?_
 unfold K1 at h
 refine rs AA <| rl Z <| rs AA <| rl Z <| AB <| rs AA <| rn 2 Z <| sx Z (Ac Z Z <| rl Z <| AH ?_)
 apply lp (a := r) (fun d : (Int × Int × (List (Int × Bool))) => ⟨63, [(0, lq (Ap e)), (3, .lpb 0 0), (5, li d.1), (6, .lmap 1), (17, ls 5 Bu b.runs), (18, li (b.runs.length : Int)), (19, li d.2.1)], [(0, bx (AW b)), (1, .map (Ak (.int .i64) .bool d.2.2))], 2⟩) h
 . exact wf hA [(0, 0), (1, 1)] Z Z Z
 intro d l j
 unfold LY at j
 refine rs AA <| rl Z <| AB <| cd Z j (fun u => ?_) (fun an => ?_)
 .refine AE <| AC <| AB <| AH <| rs AA <| rn 1 Z <| bq u fun av m v => sx Z (Aa m Z Z Z <| rl Z <| rs AA <| rn 3 Z <| bq v fun aw n w => sx Z (AM (Ps _ _ _ _ n) (.inl Z) Z Z Z <| rl Z <| AB ?_))
  refine B0 AA mixed [0, 1, 2, 3, 4, 5, 6, 7, 8, 9, 10, 11, 12, 13, 14, 15] 16 (by kernel_rfl) Z Z Z ?_
  refine Au 5 Z <| bq w fun ax o x => As Z (Aj Z (Aa o Z Z Z <| Au 3 Z <| bq x fun ay q aa => As Z (A5 (Tx _ _ _ _ q) (.inr Z) Z Z Z <| BJ Z <| AC <| AB <| rs AA <| rl Z <| cd Z aa (fun ab => ?_) (fun ad => ?_))))
  .refine rs AA <| rl Z <| AF <| AG <| AN <| AG <| A1 ab fun ap ac => AN <| AG ?_
   cases ac
   exact er Z Le.rfl
  refine AE <| AC <| rs AA <| rn 2 Z <| bq ad fun f s ae => sx Z (AM (Uz _ _ _ s) (.inr Z) Z Z Z <| sx Z (Ac Z Z <| rl Z <| AH ?_))
  apply lp (a := l) (fun c : (Int × Int × (List (Int × Bool))) => ⟨63, [(0, lq (Ap e)), (3, .lpb 0 0), (5, li c.1), (6, .lmap 1), (17, ls 5 Bu b.runs), (18, li (b.runs.length : Int)), (19, li d.2.1), (49, ls 1 Ae f), (50, li (f.length : Int)), (51, li c.2.1)], [(0, bx (AW b)), (1, .map (Ak (.int .i64) .bool c.2.2))], 2⟩) ae
  . exact wf hA [(0, 0), (1, 1)] Z Z Z
  intro c au k
  unfold LX at k
  refine rs AA <| rl Z <| AB <| cd Z k (fun af => ?_) (fun al => ?_)
  .refine AE <| AC <| AB <| AH <| rs AA <| bq af fun i t ag => sx Z (Aa t Z Z Z <| rl Z <| jb (fun g : Int => ⟨63, [(0, lq (Ap e)), (3, .lpb 0 0), (5, li g), (6, .lmap 1), (14, li i), (17, ls 5 Bu b.runs), (18, li (b.runs.length : Int)), (19, li d.2.1), (49, ls 1 Ae f), (50, li (f.length : Int)), (51, li c.2.1)], [(0, bx (AW b)), (1, .map (Ak (.int .i64) .bool c.2.2))], 2⟩) ag (fun g ah => ?_) (fun g ak => ?_))
   .refine rs AA <| rn 2 Z <| sx Z (KM (et := 4) (ke := (.int .i64)) (ve := .bool) (mp := c.2.2) (y := i) false Fh Z Z Z Z <| rl Z <| cd Z ah (fun ai => ?_) (fun aj => ?_))
    .exact rg AA <| rl Z <| AL ai (wf hA [(0, 0), (1, 1)] Z Z Z)
    exact AE <| AL aj (wf hA [(0, 0), (1, 1)] Z Z Z)
   exact rg AA <| rn 2 Z <| sx Z (F9 (et := 4) (ke := (.int .i64)) (ve := .bool) (mp := c.2.2) (y := i) (z := true) Fh Z Z Z Z Z Z <| rl Z <| Ad <| AC <| rg AA <| rl Z <| Ar ak (wf hA [(0, 0), (1, 1)] Z Z Z))
  exact AV <| AX <| BI al fun aq am => Am <| Ad <| AC <| rg AA <| rl Z <| Ar am (wf hA [(0, 0), (1, 1)] Z Z Z)
 refine AV <| AX <| BI an fun ar ao => Am <| AC <| rs AA <| rl Z <| AF ?_
 cases ao
 exact er Z Le.rfl
noncomputable def Mc (b : DC) (a : Int) : Option (Int ⊕ Int) :=
 bif decide (a < (b.plan.signals.length : Int)) then (AZ b.plan.signals a).bind fun c => (J4 c).bind fun d => bif d then some (.inr a) else some (.inl (AO (a + 1))) else some (.inr (-1))
noncomputable def Md (c : DC) (d : Ai) (g : Az) (b : Int) (e : DR) (a : Int) : Option (Int ⊕ (Int ⊕ Int)) :=
 bif decide (a < (e.legs.length : Int)) then (HR g c.roads d b a).bind fun f => bif ((f.length : Int) == 0) then some (.inr (.inr 10)) else some (.inl (AO (a + 1))) else some (.inr (.inl (AO (b + 1))))
noncomputable def Me (e : DC) (c : Ai) (g : Az) (b : Int) : Option (Int ⊕ Int) :=
 bif decide (b < (c.runs.length : Int)) then (AZ c.runs b).bind fun a => ((bif ((a.legs.length : Int) == 0) then some true else (AZ a.legs (AO ((a.legs.length : Int) - 1))).bind fun f => some (f.fin != 2) : Option (Bool))).bind fun (d : Bool) => bif d then some (.inr 10) else AU (Md e c g b a) 0 else some (.inr 0)
noncomputable def L3 (b : DC) (c : Ai) : Option Int :=
 ((((AU (Mc b) 0 : Option (Int))).bind fun (h : Int) => some (decide (0 <= h)) : Option (Bool))).bind fun (g : Bool) => bif g then some 7 else (IM b.plan c).bind fun d => bif (d != 0) then some d else (Cf b.plan).bind fun a => Is a.1 (bif (a.2 != 0) then some a.2 else none) fun f => bif (a.2 != 0) then some a.2 else (K1 f c).bind fun e => bif (e != 0) then some e else AU (Me b c f) 0
theorem U0 (c : DC) (b : Ai) (r : Int) (h : L3 c b = some r) : Aw Tryz.prog 25 [.agg (D7 c), .agg (AW b)] (· = .int .i64 r) := by
 refine fn AA Tryz.func25 Z Z 78 Z [.tmp 4] Z [(0, .p (.agg (D7 c))), (1, .p (.agg (AW b)))] Z Z fun A hA => ?_
 unfold L3 at h
 refine rs AA <| rl Z <| AB <| rs AA <| rn 3 Z <| sx Z (CP AA (fun g : Bool => lb g) (fun g : Bool => [(0, bx (D7 c)), (1, bx (AW b))]) 2 h Tryz.func53 9 [.tmp 4] [(0, ls 4 BS c.plan.signals), (1, .fn 54 [])] Z Z Z Z Z Z Z Z (fun A hA g ab => ?_) (fun g am => ?_))
 .refine rs AA <| rl Z <| rs AA <| rn 2 Z <| sx Z (CP AA (fun f : Int => li f) (fun f : Int => [(0, bx (D7 c)), (1, bx (AW b))]) 2 ab Tryz.func83 19 [.tmp 4] [(0, ls 4 BS c.plan.signals), (1, .fn 54 [])] Z Z Z Z Z Z Z Z (fun A hA f ac => ?_) (fun f al => ?_))
  .refine rs AA <| rl Z <| AB <| rs AA <| rn 1 Z <| sx Z (Ac Z Z <| rl Z <| AH ?_)
   apply lp (a := f) (fun i : Int => ⟨19, [(0, ls 4 BS c.plan.signals), (1, .fn 54 []), (7, li (c.plan.signals.length : Int)), (8, li i)], [(0, bx (D7 c)), (1, bx (AW b))], 2⟩) ac
   . exact wj hA [(0, 0), (1, 1)] Z Z Z Z
   intro i bv l
   unfold Mc at l
   refine rs AA <| rl Z <| AB <| cd Z l (fun ad => ?_) (fun aj => ?_)
   .refine AE <| AC <| AB <| AH <| rs AA <| rl Z <| rs AA <| rn 3 Z <| bq ad fun b0 t ae => sx Z (Aa t Z Z Z <| rn 1 Z <| bq ae fun b1 u af => sx Z (AM (Sr _ _ u) (.inl Z) Z Z Z <| rl Z <| cd Z af (fun ag => ?_) (fun ai => ?_)))
    .refine rs AA <| rl Z <| AF <| AN <| AG <| A1 ag fun bn ah => AN <| AG ?_
     have hr := Option.some.inj ah; subst hr
     exact CS (nt := 19) (sl := [(4, li i)]) (wj hA [(0, 0), (1, 1)] Z Z Z Z) Z
    exact AE <| Ad <| AC <| rg AA <| rl Z <| Ar ai (wj hA [(0, 0), (1, 1)] Z Z Z Z)
   refine AV <| AX <| BI aj fun bo ak => Am <| AC <| rs AA <| rl Z <| AF ?_
   cases ak
   exact CS (nt := 19) (sl := [(4, li (-1))]) (wj hA [(0, 0), (1, 1)] Z Z Z Z) Z
  refine rl Z <| AF ?_
  cases al
  exact CS (nt := 9) (sl := [(4, lb (decide (0 <= f)))]) (wj hA [(0, 0), (1, 1)] Z Z Z Z) Z
 refine rl Z <| cd Z am (fun an => ?_) (fun ao => ?_)
 .refine rs AA <| rl Z <| AF <| AG ?_
  cases an
  exact er Z Le.rfl
 refine AE <| AC <| AB <| rs AA <| rn 3 Z <| bq ao fun b2 v ap => sx Z (AM (Q9 _ _ _ v) (.inl Z) Z Z Z <| rl Z <| rs AA <| rl Z <| cd Z ap (fun aq => ?_) (fun ar => ?_))
 .refine rs AA <| rl Z <| AF <| AG ?_
  have hr := Option.some.inj aq; subst hr
  exact er Z Le.rfl
 refine AE <| AC <| rs AA <| rn 2 Z <| bq ar fun bm w d => sx Z (AM (Oq _ _ w) (.inr Z) Z Z Z ?_)
 revert d; rcases bz : bm.1 with _ | k <;> intro d
 .replace d := Ti d
  refine rl Z <| AB <| rs AA <| rl Z <| cd Z d (fun au => ?_) (fun av => ?_)
  .refine rs AA <| rl Z <| AF <| AG ?_
   cases au
   exact er Z Le.rfl
  refine AE <| AC <| AB <| rs AA <| rn 2 Z ?_
  cases av
 replace d := Tj d
 refine rl Z <| AB <| rs AA <| rl Z <| cd Z d (fun aw => ?_) (fun ax => ?_)
 .refine rs AA <| rl Z <| AF <| AG ?_
  cases aw
  exact er Z Le.rfl
 refine AE <| AC <| AB <| rs AA <| rn 2 Z <| bq ax fun b3 x ay => sx Z (AM (Tz _ _ _ x) (.inl Z) Z Z Z <| rl Z <| rs AA <| rl Z <| cd Z ay (fun az => ?_) (fun a0 => ?_))
 .refine rs AA <| rl Z <| AF <| AG ?_
  have hr := Option.some.inj az; subst hr
  exact er Z Le.rfl
 refine AE <| AC <| AB <| rs AA <| rn 2 Z <| sx Z (Ac Z Z <| rl Z <| AH ?_)
 apply lp (a := r) (fun e : Int => ⟨78, [(2, .lpb 0 0), (3, .lpb 1 0), (6, lq (Ap k)), (38, ls 5 Bu b.runs), (39, li (b.runs.length : Int)), (40, li e)], [(0, bx (D7 c)), (1, bx (AW b))], 2⟩) a0
 . exact wf hA [(0, 0), (1, 1)] Z Z Z
 intro e s m
 unfold Me at m
 refine rs AA <| rl Z <| AB <| cd Z m (fun a1 => ?_) (fun bk => ?_)
 .refine AE <| AC <| AB <| AH <| rs AA <| rn 1 Z <| bq a1 fun q y a2 => sx Z (Aa y Z Z Z <| rl Z <| AB <| jb (fun j : Bool => ⟨78, [(2, .lpb 0 0), (3, .lpb 1 0), (6, lq (Ap k)), (8, li e), (9, .lpb 2 0), (38, ls 5 Bu b.runs), (39, li (b.runs.length : Int)), (40, li e), (60, lb j)], [(0, bx (D7 c)), (1, bx (AW b)), (2, bx (Bu q))], 3⟩) a2 (fun j a3 => ?_) (fun j a7 => ?_))
  .refine rg AA <| rn 2 Z <| sx Z (Ac Z Z <| rn 2 Z <| gs 49 a3 Z Z Z (fun a4 => ?_) (fun a5 => ?_))
   .exact rl Z <| AL a4 (wf hA (gi 3 []) Z Z Z)
   exact rn 4 Z <| sx Z (Ac Z Z <| rn 1 Z <| bq a5 fun b4 z a6 => sx Z (Aa z Z Z Z <| rl Z <| AL a6 (wf hA (gi 3 []) Z Z Z)))
  refine cd Z a7 (fun a8 => ?_) (fun ba => ?_)
  .refine rs AA <| rl Z <| AF <| AG <| AN <| AG <| A1 a8 fun bp a9 => AN <| AG ?_
   cases a9
   exact er Z Le.rfl
  refine AE <| AC <| rs AA <| rn 2 Z <| sx Z (Ac Z Z <| rl Z <| AH ?_)
  apply lp (a := s) (fun o : Int => ⟨78, [(2, .lpb 0 0), (3, .lpb 1 0), (6, lq (Ap k)), (8, li e), (38, ls 5 Bu b.runs), (39, li (b.runs.length : Int)), (40, li e), (63, li (q.legs.length : Int)), (64, li o)], [(0, bx (D7 c)), (1, bx (AW b))], 2⟩) ba
  . exact wf hA [(0, 0), (1, 1)] Z Z Z
  intro o bw n
  unfold Md at n
  refine rs AA <| rl Z <| AB <| cd Z n (fun bb => ?_) (fun bi => ?_)
  .refine AE <| AC <| AB <| AH <| rs AA <| rl Z <| rs AA <| rn 6 Z <| bq bb fun b5 aa bc => sx Z (AM (Lz _ _ _ _ _ _ aa) (.inr Z) Z Z Z <| sx Z (Ac Z Z <| rl Z <| cd Z bc (fun be => ?_) (fun bh => ?_)))
   .refine rs AA <| rl Z <| AF <| AN <| AG <| A1 be fun br bf => AN <| AN <| AG <| A1 bf fun bs bg => AN <| AG ?_
    cases bg
    exact er Z Le.rfl
   exact AE <| Ad <| AC <| rg AA <| rl Z <| Ar bh (wf hA [(0, 0), (1, 1)] Z Z Z)
  exact AV <| AX <| BI bi fun bt bj => Am <| Ad <| AC <| rg AA <| rl Z <| Ar bj (wf hA [(0, 0), (1, 1)] Z Z Z)
 refine AV <| AX <| BI bk fun bu bl => Am <| AC <| rs AA <| rl Z <| AF ?_
 cases bl
 exact er Z Le.rfl
noncomputable def K2 (b : (List Int)) (c : (List Int)) (a : Int) : Option (Int ⊕ Bool) :=
 bif decide (a < (b.length : Int)) then (AZ b a).bind fun d => (AZ c a).bind fun e => bif (d != e) then some (.inr false) else some (.inl (AO (a + 1))) else some (.inr true)
noncomputable def J8 (a : (List Int)) (b : (List Int)) : Option Bool :=
 bif ((a.length : Int) != (b.length : Int)) then some false else AU (K2 a b) 0
theorem Sw (b : (List Int)) (c : (List Int)) (r : Bool) (h : J8 b c = some r) : Aw Tryz.prog 17 [.slice 1 (b.map Ae), .slice 1 (c.map Ae)] (· = .bool r) := by
 refine fn AA Tryz.func17 Z Z 26 Z [.tmp 4] Z [(0, .p (.slice 1 (b.map Ae))), (1, .p (.slice 1 (c.map Ae)))] Z Z fun A hA => ?_
 unfold J8 at h
 refine rs AA <| rl Z <| AB <| rs AA <| rn 1 Z <| sx Z (Ac Z Z <| rn 1 Z <| sx Z (Ac Z Z <| rl Z <| cd Z h (fun s => ?_) (fun t => ?_)))
 .refine rs AA <| rl Z <| AF <| AG ?_
  cases s
  exact er Z Le.rfl
 refine AE <| AC <| AB <| rs AA <| rl Z <| AH ?_
 apply lp (a := r) (fun e : Int => ⟨26, [(0, ls 1 Ae b), (1, ls 1 Ae c), (5, li e)], [], 0⟩) t
 . exact wf hA [] Z Z Z
 intro e w d
 unfold K2 at d
 refine AB <| rs AA <| rn 2 Z <| sx Z (Ac Z Z <| rl Z <| cd Z d (fun i => ?_) (fun o => ?_))
 .refine AE <| AC <| AB <| AH <| AB ?_
  refine B0 AA mixed [0, 1, 2, 3, 4, 5, 6, 7, 8] 9 (by kernel_rfl) Z Z Z ?_
  refine Au 2 Z <| bq i fun x f j => As Z (Aj Z (Aa f Z Z Z <| Au 3 Z <| bq j fun y g k => As Z (Aj Z (Aa g Z Z Z <| BJ Z <| AC <| cd Z k (fun l => ?_) (fun n => ?_)))))
  .refine rs AA <| rl Z <| AF <| AN <| AG <| A1 l fun u m => AN <| AG ?_
   cases m
   exact er Z Le.rfl
  exact AE <| Ad <| AC <| rg AA <| rl Z <| Ar n (wf hA [] Z Z Z)
 refine AV <| AX <| BI o fun v q => Am <| AC <| rs AA <| rl Z <| AF ?_
 cases q
 exact er Z Le.rfl
noncomputable def JJ : Option Bool :=
 (NT).bind fun d => (Fz d).bind fun a => (H0 d).bind fun l => Is l (((bif (!a.2) then some () else some () : Option (Unit))).bind fun (s : Unit) => some false) fun b => ((bif (!a.2) then some true else some false : Option (Bool))).bind fun (e : Bool) => bif e then some false else (GY).bind fun m => (L0 b a.1.roads m 0 1).bind fun c => (((GY).bind fun n => (L3 a.1 n).bind fun o => bif (o == 0) then (GY).bind fun p => (CV b p 0 2).bind fun q => bif (q == 4) then (GY).bind fun r => (FR b r 0 2).bind fun g => bif (g == 4) then (GY).bind fun h => (HR b a.1.roads h 0 1).bind fun i => bif ((i.length : Int) == 1) then (J8 c.at_ ([1] : (List Int))).bind fun j => bif j then bif ((c.legs.length : Int) == 2) then (AZ c.legs 0).bind fun k => some (k.fin == 4) else some false else some false else some false else some false else some false else some false : Option (Bool))).bind fun (f : Bool) => some f
theorem U1 (r : Bool) (h : JJ = some r) : Aw Tryz.prog 9 [] (· = .bool r) := by
 refine fn AA Tryz.func9 Z Z 70 Z [.tmp 0] Z [] Z Z fun A hA => ?_
 unfold JJ at h
 refine rs AA <| rl Z <| rs AA <| bq h fun bk m au => sx Z (AM (WS _ m) (.inr Z) Z Z Z <| rl Z <| rs AA <| rn 1 Z <| bq au fun e q a3 => sx Z (AM (Pu _ _ q) (.inr Z) Z Z Z <| rl Z <| rs AA <| rn 1 Z <| bq a3 fun bb l a => sx Z (AM (SR _ _ l) (.inr Z) Z Z Z ?_)))
 revert a; rcases be : bb with _ | bc <;> intro a
 .replace a := Ti a
  refine rl Z <| AB <| jb (fun d : Unit => ⟨70, [(2, .lpb 0 0), (4, .p (.nilp)), (19, lb true)], [(0, bx (D7 e.1))], 1⟩) a (fun d ao => ?_) (fun d ar => ?_)
  .refine rg AA <| rn 3 Z <| gs 16 ao Z Z Z (fun ap => ?_) (fun aq => ?_)
   .exact rl Z <| AL ap (wf hA [(0, 1)] Z Z Z)
   exact rl Z <| AL aq (wf hA [(0, 1)] Z Z Z)
  refine Qs Z <| rs AA <| rl Z <| AF <| AG ?_
  cases ar
  exact er Z Le.rfl
 replace a := Tj a
 refine rl Z <| AB <| jb (fun b : Bool => ⟨70, [(2, .lpb 0 0), (4, lq (Ap bc)), (19, lb b)], [(0, bx (D7 e.1))], 1⟩) a (fun b av => ?_) (fun b ay => ?_)
 .refine rg AA <| rn 3 Z <| gs 16 av Z Z Z (fun aw => ?_) (fun ax => ?_)
  .exact rl Z <| AL aw (wf hA [(0, 1)] Z Z Z)
  exact rl Z <| AL ax (wf hA [(0, 1)] Z Z Z)
 refine cd Z ay (fun az => ?_) (fun a0 => ?_)
 .refine rs AA <| rl Z <| AF <| AG ?_
  cases az
  exact er Z Le.rfl
 refine AE <| AC <| AB ?_
 refine B0 AA mixed [0, 1, 2, 3, 4, 5, 6] 7 (by kernel_rfl) Z Z Z ?_
 refine Au 3 Z <| bq a0 fun bl n a1 => As Z (A5 (Jl _ n) (.inr Z) Z Z Z <| bq a1 fun bm o a2 => As Z (A5 (Ux _ _ _ _ _ _ o) (.inr Z) Z Z Z <| BJ Z <| AC <| jb (fun c : Bool => ⟨70, [(0, lb c)], [], 0⟩) a2 (fun c a4 => ?_) (fun c an => ?_)))
 .refine B0 AA mixed [0, 1, 2, 3, 4, 5, 6, 7, 8, 9, 10, 11, 12, 13, 14, 15, 16, 17, 18, 19, 20, 21, 22, 23, 24, 25, 26, 27, 28, 29, 30, 31, 32, 33, 34, 35, 36, 37, 38, 39, 40, 41, 42, 43, 44, 45] 46 (by kernel_rfl) Z Z Z ?_
  refine Au 1 Z <| bq a4 fun bn s a5 => As Z (A5 (Jl _ s) (.inr Z) Z Z Z <| bq a5 fun bo t a6 => As Z (A5 (U0 _ _ _ t) (.inl Z) Z Z Z <| Au 2 Z <| D5 29 a6 Z Z Z (fun a7 => ?_) (fun am => ?_)))
  .refine Au 1 Z <| bq a7 fun bp u a8 => As Z (A5 (Jl _ u) (.inr Z) Z Z Z <| bq a8 fun br v a9 => As Z (A5 (Ex _ _ _ _ _ v) (.inl Z) Z Z Z <| Au 3 Z <| D5 35 a9 Z Z Z (fun ba => ?_) (fun al => ?_)))
   .refine Au 1 Z <| bq ba fun bs w x => As Z (A5 (Jl _ w) (.inr Z) Z Z Z <| bq x fun bf f y => As Z (A5 (NY _ _ _ _ _ f) (.inl Z) Z Z Z <| Au 3 Z <| D5 41 y Z Z Z (fun z => ?_) (fun ak => ?_)))
    .refine Au 3 Z <| bq z fun bg g aa => As Z (A5 (Jl _ g) (.inr Z) Z Z Z <| bq aa fun bh i ab => As Z (A5 (Lz _ _ _ _ _ _ i) (.inr Z) Z Z Z <| As Z (Jb Z Z <| Au 3 Z <| D5 50 ab Z Z Z (fun ac => ?_) (fun aj => ?_))))
     .refine Au 3 Z <| bq ac fun bi j ad => As Z (A5 (Sw _ _ _ j) (.inl Z) Z Z (Da.eq (.cons (.one (.p _)) (.cons (.one (.own (enc := Ae) ([1] : List Int) Z Z)) .nil))) <| Au 2 Z <| D5 56 ad Z Z Z (fun ae => ?_) (fun ai => ?_))
      .refine Au 2 Z <| As Z (Jb Z Z <| Au 3 Z <| D5 62 ae Z Z Z (fun af => ?_) (fun ah => ?_))
       .exact Au 2 Z <| bq af fun bj k ag => As Z (Aj Z (Aa k Z Z Z <| BJ Z <| AL ag (wf hA [] Z Z Z)))
       exact BJ Z <| AL ah (wf hA [] Z Z Z)
      exact BJ Z <| AL ai (wf hA [] Z Z Z)
     exact BJ Z <| AL aj (wf hA [] Z Z Z)
    exact BJ Z <| AL ak (wf hA [] Z Z Z)
   exact BJ Z <| AL al (wf hA [] Z Z Z)
  exact BJ Z <| AL am (wf hA [] Z Z Z)
 refine AF ?_
 have hr := Option.some.inj an; subst hr
 exact er Z Le.rfl
end Go.E
/- Plain functions, and walks in step with them. Written by a program (gen.py). No condition. -/
set_option maxRecDepth 100000
set_option maxHeartbeats 1000000
namespace Go.E
open Go Go.RowKit Go.Proofs
noncomputable def GZ (b : Ai) (a : Int) : Option (Int ⊕ Bool) :=
 bif decide (a < (b.stock.length : Int)) then (AZ b.stock a).bind fun c => bif decide (100 < (c.name.size : Int)) then some (.inr false) else some (.inl (AO (a + 1))) else some (.inr true)
noncomputable def IN (b : Ai) (a : Int) : Option (Int ⊕ Bool) :=
 bif decide (a < (b.runs.length : Int)) then (AZ b.runs a).bind fun c => ((bif decide (20 < (c.legs.length : Int)) then some true else some (decide (100 < (c.name.size : Int))) : Option (Bool))).bind fun (d : Bool) => bif d then some (.inr false) else some (.inl (AO (a + 1))) else (AU (GZ b) 0).map .inr
noncomputable def Jm (a : Ai) : Option Bool :=
 ((bif decide (10 < (a.stock.length : Int)) then some true else some (decide (12 < (a.runs.length : Int))) : Option (Bool))).bind fun (b : Bool) => bif b then some false else AU (IN a) 0
theorem XY (b : Ai) (r : Bool) (h : Jm b = some r) : Aw Tryz.prog 23 [.agg (AW b)] (· = .bool r) := by
 refine fn AA Tryz.func23 Z Z 47 Z [.tmp 2] Z [(0, .p (.agg (AW b)))] Z Z fun A hA => ?_
 unfold Jm at h
 refine rs AA <| rl Z <| AB <| jb (fun d : Bool => ⟨47, [(1, .lpb 0 0), (16, lb d)], [(0, bx (AW b))], 1⟩) h (fun d m => ?_) (fun d q => ?_)
 .refine rg AA <| rn 2 Z <| sx Z (Ac Z Z <| rn 2 Z <| gs 11 m Z Z Z (fun n => ?_) (fun o => ?_))
  .exact rl Z <| AL n (wf hA [(0, 0)] Z Z Z)
  exact rn 2 Z <| sx Z (Ac Z Z <| rl Z <| AL o (wf hA [(0, 0)] Z Z Z))
 refine cd Z q (fun s => ?_) (fun t => ?_)
 .refine rs AA <| rl Z <| AF <| AG ?_
  cases s
  exact er Z Le.rfl
 refine AE <| AC <| AB <| rs AA <| rn 2 Z <| sx Z (Ac Z Z <| rl Z <| AH ?_)
 apply lp (a := r) (fun c : Int => ⟨47, [(1, .lpb 0 0), (18, ls 5 Bu b.runs), (19, li (b.runs.length : Int)), (20, li c)], [(0, bx (AW b))], 1⟩) t
 . exact wf hA [(0, 0)] Z Z Z
 intro c ap f
 unfold IN at f
 refine rs AA <| rl Z <| AB <| cd Z f (fun u => ?_) (fun ad => ?_)
 .refine AE <| AC <| AB <| AH <| rs AA <| bq u fun ar k v => sx Z (Aa k Z Z Z <| rl Z <| jb (fun e : Bool => ⟨47, [(1, .lpb 0 0), (18, ls 5 Bu b.runs), (19, li (b.runs.length : Int)), (20, li c), (33, lb e)], [(0, bx (AW b))], 1⟩) v (fun e w => ?_) (fun e z => ?_))
  .refine rg AA <| rn 2 Z <| sx Z (Ac Z Z <| rn 2 Z <| gs 28 w Z Z Z (fun x => ?_) (fun y => ?_))
   .exact rl Z <| AL x (wf hA [(0, 0)] Z Z Z)
   exact rl Z <| AL y (wf hA [(0, 0)] Z Z Z)
  refine cd Z z (fun aa => ?_) (fun ac => ?_)
  .refine rs AA <| rl Z <| AF <| AN <| AG <| A1 aa fun am ab => AN <| AG ?_
   cases ab
   exact er Z Le.rfl
  exact AE <| Ad <| AC <| rg AA <| rl Z <| Ar ac (wf hA [(0, 0)] Z Z Z)
 refine AV <| AX <| CM ad fun j ae => Am <| AC <| AB <| rs AA <| rn 2 Z <| sx Z (Ac Z Z <| rl Z <| AH ?_)
 apply lp (a := j) (fun i : Int => ⟨47, [(36, ls 5 BM b.stock), (37, li (b.stock.length : Int)), (38, li i)], [], 0⟩) ae
 . exact wf hA [] Z Z Z
 intro i aq g
 unfold GZ at g
 refine rs AA <| rl Z <| AB <| cd Z g (fun af => ?_) (fun ak => ?_)
 .refine AE <| AC <| AB <| AH <| rs AA <| bq af fun au l ag => sx Z (Aa l Z Z Z <| rl Z <| rs AA <| rl Z <| cd Z ag (fun ah => ?_) (fun aj => ?_))
  .refine rs AA <| rl Z <| AF <| AN <| AG <| A1 ah fun an ai => AN <| AG ?_
   cases ai
   exact er Z Le.rfl
  exact AE <| Ad <| AC <| rg AA <| rl Z <| Ar aj (wf hA [] Z Z Z)
 refine AV <| AX <| BI ak fun ao al => Am <| AC <| rs AA <| rl Z <| AF ?_
 cases al
 exact er Z Le.rfl
noncomputable def DM (a : Int) (c : Int) (d : Int) : Option Bool :=
 ((bif decide (c <= a) then some (decide (a <= d)) else some false : Option (Bool))).bind fun (b : Bool) => some b
theorem IQ (b : Int) (c : Int) (d : Int) (r : Bool) (h : DM b c d = some r) : Aw Tryz.prog 62 [.int .i64 b, .int .i64 c, .int .i64 d] (· = .bool r) := by
 refine fn AA Tryz.func62 Z Z 15 Z [.tmp 6] Z [(0, .p (.int .i64 b)), (1, .p (.int .i64 c)), (2, .p (.int .i64 d))] Z Z fun A hA => ?_
 unfold DM at h
 refine rs AA <| rl Z <| jb (fun a : Bool => ⟨15, [(6, lb a)], [], 0⟩) h (fun a e => ?_) (fun a i => ?_)
 .refine rg AA <| rn 4 Z <| gs 10 e Z Z Z (fun f => ?_) (fun g => ?_)
  .exact rl Z <| AL f (wf hA [] Z Z Z)
  exact rl Z <| AL g (wf hA [] Z Z Z)
 refine AF ?_
 have hr := Option.some.inj i; subst hr
 exact er Z Le.rfl
noncomputable def Jn (a : BT) : Option Bool :=
 (((Ce a.name).bind fun c => bif c then (DM a.len 1 4000).bind fun d => bif d then (DM a.top 1 60).bind fun e => bif e then (DM a.acc 1 10).bind fun f => bif f then (DM a.brake 1 10).bind fun g => some g else some false else some false else some false else some false : Option (Bool))).bind fun (b : Bool) => some b
theorem XZ (b : BT) (r : Bool) (h : Jn b = some r) : Aw Tryz.prog 31 [.agg (BM b)] (· = .bool r) := by
 refine fn AA Tryz.func31 Z Z 26 Z [.tmp 2] Z [(0, .p (.agg (BM b)))] Z Z fun A hA => ?_
 unfold Jn at h
 refine rs AA <| rl Z <| jb (fun a : Bool => ⟨26, [(2, lb a)], [], 0⟩) h (fun a i => ?_) (fun a y => ?_)
 .refine rg AA <| rn 2 Z <| bq i fun z c j => sx Z (AM (Jf _ _ c) (.inl Z) Z Z Z <| rn 1 Z <| gs 6 j Z Z Z (fun k => ?_) (fun x => ?_))
  .refine rn 2 Z <| bq k fun aa d l => sx Z (AM (IQ _ _ _ _ d) (.inl Z) Z Z Z <| rn 2 Z <| gs 11 l Z Z Z (fun m => ?_) (fun w => ?_))
   .refine rn 2 Z <| bq m fun ab e n => sx Z (AM (IQ _ _ _ _ e) (.inl Z) Z Z Z <| rn 2 Z <| gs 16 n Z Z Z (fun o => ?_) (fun v => ?_))
    .refine rn 2 Z <| bq o fun ac f q => sx Z (AM (IQ _ _ _ _ f) (.inl Z) Z Z Z <| rn 2 Z <| gs 21 q Z Z Z (fun s => ?_) (fun u => ?_))
     .exact rn 2 Z <| bq s fun ad g t => sx Z (AM (IQ _ _ _ _ g) (.inl Z) Z Z Z <| rl Z <| AL t (wf hA [] Z Z Z))
     exact rl Z <| AL u (wf hA [] Z Z Z)
    exact rl Z <| AL v (wf hA [] Z Z Z)
   exact rl Z <| AL w (wf hA [] Z Z Z)
  exact rl Z <| AL x (wf hA [] Z Z Z)
 refine AF ?_
 have hr := Option.some.inj y; subst hr
 exact er Z Le.rfl
noncomputable def Hk (b : (List BT)) (c : ByteArray) (a : Int) : Option (Int ⊕ Int) :=
 bif decide (a < (b.length : Int)) then (AZ b a).bind fun d => bif (d.name.toList == c.toList) then some (.inr a) else some (.inl (AO (a + 1))) else some (.inr (-1))
noncomputable def IR (a : (List BT)) (b : ByteArray) : Option Int :=
 AU (Hk a b) 0
theorem WW (b : (List BT)) (c : ByteArray) (r : Int) (h : IR b c = some r) : Aw Tryz.prog 143 [.slice 5 (b.map BM), .str c] (· = .int .i64 r) := by
 refine fn AA Tryz.func143 Z Z 20 Z [.tmp 4] Z [(0, .p (.slice 5 (b.map BM))), (1, .p (.str c))] Z Z fun A hA => ?_
 unfold IR at h
 refine rs AA <| rl Z <| AB <| rs AA <| rn 1 Z <| sx Z (Ac Z Z <| rl Z <| AH ?_)
 apply lp (a := r) (fun e : Int => ⟨20, [(1, .p (.str c)), (7, ls 5 BM b), (8, li (b.length : Int)), (9, li e)], [], 0⟩) h
 . exact wf hA [] Z Z Z
 intro e s d
 unfold Hk at d
 refine rs AA <| rl Z <| AB <| cd Z d (fun n => ?_) (fun l => ?_)
 .refine AE <| AC <| AB <| AH <| rs AA <| rn 1 Z <| bq n fun t f g => sx Z (Aa f Z Z Z <| rl Z <| rs AA <| rl Z <| cd Z g (fun i => ?_) (fun k => ?_))
  .refine rs AA <| rl Z <| AF <| AN <| AG <| A1 i fun o j => AN <| AG ?_
   have hr := Option.some.inj j; subst hr
   exact er Z Le.rfl
  exact AE <| Ad <| AC <| rg AA <| rl Z <| Ar k (wf hA [] Z Z Z)
 refine AV <| AX <| BI l fun q m => Am <| AC <| rs AA <| rl Z <| AF ?_
 cases m
 exact er Z Le.rfl
noncomputable def Dt (b : (List BT)) (a : Int) : Option (Int ⊕ Int) :=
 bif decide (a < (b.length : Int)) then (AZ b a).bind fun c => (IR b c.name).bind fun d => bif (d != a) then some (.inr 4) else some (.inl (AO (a + 1))) else some (.inr 0)
noncomputable def Gw (b : (List BT)) (a : Int) : Option (Int ⊕ Int) :=
 bif decide (a < (b.length : Int)) then (AZ b a).bind fun c => (Jn c).bind fun d => bif (!d) then some (.inr 1) else some (.inl (AO (a + 1))) else (AU (Dt b) 0).map .inr
noncomputable def HU (a : (List BT)) : Option Int :=
 bif decide (4 < (a.length : Int)) then some 3 else AU (Gw a) 0
theorem U2 (b : (List BT)) (r : Int) (h : HU b = some r) : Aw Tryz.prog 102 [.slice 5 (b.map BM)] (· = .int .i64 r) := by
 refine fn AA Tryz.func102 Z Z 34 Z [.tmp 2] Z [(0, .p (.slice 5 (b.map BM)))] Z Z fun A hA => ?_
 unfold HU at h
 refine rs AA <| rl Z <| AB <| rs AA <| rn 1 Z <| sx Z (Ac Z Z <| rl Z <| cd Z h (fun x => ?_) (fun af => ?_))
 .refine rs AA <| rl Z <| AF <| AG ?_
  cases x
  exact er Z Le.rfl
 refine AE <| AC <| AB <| rs AA <| rn 1 Z <| sx Z (Ac Z Z <| rl Z <| AH ?_)
 apply lp (a := r) (fun f : Int => ⟨34, [(0, ls 5 BM b), (10, ls 5 BM b), (11, li (b.length : Int)), (12, li f)], [], 0⟩) af
 . exact wf hA [] Z Z Z
 intro f aj c
 unfold Gw at c
 refine rs AA <| rl Z <| AB <| cd Z c (fun m => ?_) (fun u => ?_)
 .refine AE <| AC <| AB <| AH <| rs AA <| bq m fun al i n => sx Z (Aa i Z Z Z <| rl Z <| rs AA <| rn 1 Z <| bq n fun am j o => sx Z (AM (XZ _ _ j) (.inl Z) Z Z Z <| rl Z <| cd Z o (fun q => ?_) (fun t => ?_)))
  .refine rs AA <| rl Z <| AF <| AN <| AG <| A1 q fun ag s => AN <| AG ?_
   cases s
   exact er Z Le.rfl
  exact AE <| Ad <| AC <| rg AA <| rl Z <| Ar t (wf hA [] Z Z Z)
 refine AV <| AX <| CM u fun g v => Am <| AC <| AB <| rs AA <| rn 1 Z <| sx Z (Ac Z Z <| rl Z <| AH ?_)
 apply lp (a := g) (fun e : Int => ⟨34, [(0, ls 5 BM b), (20, ls 5 BM b), (21, li (b.length : Int)), (22, li e)], [], 0⟩) v
 . exact wf hA [] Z Z Z
 intro e ak d
 unfold Dt at d
 refine rs AA <| rl Z <| AB <| cd Z d (fun w => ?_) (fun ad => ?_)
 .refine AE <| AC <| AB <| AH <| rs AA <| rn 1 Z <| bq w fun an k y => sx Z (Aa k Z Z Z <| rl Z <| rs AA <| rn 3 Z <| bq y fun ao l z => sx Z (AM (WW _ _ _ l) (.inl Z) Z Z Z <| rl Z <| cd Z z (fun aa => ?_) (fun ac => ?_)))
  .refine rs AA <| rl Z <| AF <| AN <| AG <| A1 aa fun ah ab => AN <| AG ?_
   cases ab
   exact er Z Le.rfl
  exact AE <| Ad <| AC <| rg AA <| rl Z <| Ar ac (wf hA [] Z Z Z)
 refine AV <| AX <| BI ad fun ai ae => Am <| AC <| rs AA <| rl Z <| AF ?_
 cases ae
 exact er Z Le.rfl
noncomputable def Gx (b : AK) (c : (List BT)) (a : Int) : Option (Int ⊕ Int) :=
 bif decide (a < (c.length : Int)) then (AZ c a).bind fun d => ((bif decide (b.top < d.top) then some true else some (decide (d.brake < b.brake)) : Option (Bool))).bind fun (e : Bool) => bif e then some (.inr 9) else some (.inl (AO (a + 1))) else some (.inr 0)
noncomputable def HV (c : AK) (a : (List BT)) : Option Int :=
 (HU a).bind fun b => bif (b != 0) then some b else AU (Gx c a) 0
theorem U3 (c : AK) (b : (List BT)) (r : Int) (h : HV c b = some r) : Aw Tryz.prog 66 [.agg (AQ c), .slice 5 (b.map BM)] (· = .int .i64 r) := by
 refine fn AA Tryz.func66 Z Z 32 Z [.tmp 4] Z [(0, .p (.agg (AQ c))), (1, .p (.slice 5 (b.map BM)))] Z Z fun A hA => ?_
 unfold HV at h
 refine rs AA <| rl Z <| AB <| rs AA <| rn 1 Z <| bq h fun ad i j => sx Z (AM (U2 _ _ i) (.inl Z) Z Z Z <| rl Z <| rs AA <| rl Z <| cd Z j (fun k => ?_) (fun l => ?_))
 .refine rs AA <| rl Z <| AF <| AG ?_
  have hr := Option.some.inj k; subst hr
  exact er Z Le.rfl
 refine AE <| AC <| AB <| rs AA <| rn 1 Z <| sx Z (Ac Z Z <| rl Z <| AH ?_)
 apply lp (a := r) (fun d : Int => ⟨32, [(2, .lpb 0 0), (13, ls 5 BM b), (14, li (b.length : Int)), (15, li d)], [(0, bx (AQ c))], 1⟩) l
 . exact wf hA [(0, 0)] Z Z Z
 intro d ab f
 unfold Gx at f
 refine rs AA <| rl Z <| AB <| cd Z f (fun m => ?_) (fun x => ?_)
 .refine AE <| AC <| AB <| AH <| rs AA <| bq m fun ac g n => sx Z (Aa g Z Z Z <| rl Z <| jb (fun e : Bool => ⟨32, [(2, .lpb 0 0), (13, ls 5 BM b), (14, li (b.length : Int)), (15, li d), (30, lb e)], [(0, bx (AQ c))], 1⟩) n (fun e o => ?_) (fun e t => ?_))
  .refine rg AA <| rn 6 Z <| gs 24 o Z Z Z (fun q => ?_) (fun s => ?_)
   .exact rl Z <| AL q (wf hA [(0, 0)] Z Z Z)
   exact rl Z <| AL s (wf hA [(0, 0)] Z Z Z)
  refine cd Z t (fun u => ?_) (fun w => ?_)
  .refine rs AA <| rl Z <| AF <| AN <| AG <| A1 u fun z v => AN <| AG ?_
   cases v
   exact er Z Le.rfl
  exact AE <| Ad <| AC <| rg AA <| rl Z <| Ar w (wf hA [(0, 0)] Z Z Z)
 refine AV <| AX <| BI x fun aa y => Am <| AC <| rs AA <| rl Z <| AF ?_
 cases y
 exact er Z Le.rfl
noncomputable def CX (a : Int) (c : Int) (d : Int) : Option Bool :=
 ((bif decide (c <= a) then some (decide (a <= d)) else some false : Option (Bool))).bind fun (b : Bool) => some b
theorem Ey (b : Int) (c : Int) (d : Int) (r : Bool) (h : CX b c d = some r) : Aw Tryz.prog 67 [.int .i64 b, .int .i64 c, .int .i64 d] (· = .bool r) := by
 refine fn AA Tryz.func67 Z Z 15 Z [.tmp 6] Z [(0, .p (.int .i64 b)), (1, .p (.int .i64 c)), (2, .p (.int .i64 d))] Z Z fun A hA => ?_
 unfold CX at h
 refine rs AA <| rl Z <| jb (fun a : Bool => ⟨15, [(6, lb a)], [], 0⟩) h (fun a e => ?_) (fun a i => ?_)
 .refine rg AA <| rn 4 Z <| gs 10 e Z Z Z (fun f => ?_) (fun g => ?_)
  .exact rl Z <| AL f (wf hA [] Z Z Z)
  exact rl Z <| AL g (wf hA [] Z Z Z)
 refine AF ?_
 have hr := Option.some.inj i; subst hr
 exact er Z Le.rfl
noncomputable def FD (a : AK) (b : Int) : Option Int :=
 (Do a b).bind fun c => some c
theorem LZ (a : AK) (b : Int) (r : Int) (h : FD a b = some r) : Aw Tryz.prog 30 [.agg (AQ a), .int .i64 b] (· = .int .i64 r) := by
 refine fn AA Tryz.func30 Z Z 8 Z [.tmp 4] Z [(0, .p (.agg (AQ a))), (1, .p (.int .i64 b))] Z Z fun A hA => ?_
 unfold FD at h
 refine rs AA <| rl Z <| rs AA <| rn 2 Z <| bq h fun e c d => sx Z (AM (H2 _ _ _ c) (.inl Z) Z Z Z <| rl Z <| AF ?_)
 have hr := Option.some.inj d; subst hr
 exact er Z Le.rfl
noncomputable def Fi (c : AK) (d : (List Db)) (b : Int × Int) : Option ((Int × Int) ⊕ Bool) :=
 bif decide (b.2 < (d.length : Int)) then D4 (((AZ d b.2).bind fun a => (CX a.at_ b.1 2000).bind fun f => bif (!f) then some (.inr (.inr false)) else bif (a.fin == 1) then (CX a.to 0 (AO ((c.signals.length : Int) - 1))).bind fun g => bif (!g) then some (.inr (.inr false)) else some (.inl a.at_) else bif (a.fin == 2) then (FD c a.to).bind fun h => bif (h != 4) then some (.inr (.inr false)) else some (.inl a.at_) else bif (a.fin == 3) then (FD c a.to).bind fun i => bif (i != 1) then some (.inr (.inr false)) else some (.inl a.at_) else some (.inr (.inr false)) : Option (Int ⊕ ((Int × Int) ⊕ Bool)))) fun (e : Int) => some (.inl (e, AO (b.2 + 1))) else some (.inr true)
noncomputable def IS (a : AK) (b : (List Db)) : Option Bool :=
 AU (Fi a b) (0, 0)
theorem WX (c : AK) (b : (List Db)) (r : Bool) (h : IS c b = some r) : Aw Tryz.prog 68 [.agg (AQ c), .slice 4 (b.map Dj)] (· = .bool r) := by
 refine fn AA Tryz.func68 Z Z 48 Z [.tmp 4] Z [(0, .p (.agg (AQ c))), (1, .p (.slice 4 (b.map Dj)))] Z Z fun A hA => ?_
 unfold IS at h
 refine rs AA <| rl Z <| rs AA <| rl Z <| AB <| rs AA <| rn 1 Z <| sx Z (Ac Z Z <| rl Z <| AH ?_)
 apply lp (a := r) (fun d : (Int × Int) => ⟨48, [(2, .lpb 0 0), (5, li d.1), (8, ls 4 Dj b), (9, li (b.length : Int)), (10, li d.2)], [(0, bx (AQ c))], 1⟩) h
 . exact wf hA [(0, 0)] Z Z Z
 intro d g e
 unfold Fi at e
 refine rs AA <| rl Z <| AB <| cd Z e (fun n => ?_) (fun ax => ?_)
 .refine AE <| AC ?_
  apply jn (a := g) (fun f : Int => ⟨48, [(2, .lpb 0 0), (5, li f), (8, ls 4 Dj b), (9, li (b.length : Int)), (10, li d.2)], [(0, bx (AQ c))], 1⟩) n
  .intro ba o
   refine AH <| rs AA <| bq o fun bb i q => sx Z (Aa i Z Z Z <| rl Z <| AB <| rs AA <| rn 3 Z <| bq q fun bc j s => sx Z (AM (Ey _ _ _ _ j) (.inl Z) Z Z Z <| rl Z <| cd Z s (fun t => ?_) (fun w => ?_)))
   .refine rs AA <| rl Z <| AF <| AG <| AN <| A1 t fun az u => A1 u fun a0 v => AN <| AG ?_
    cases v
    exact er Z Le.rfl
   refine AE <| AC <| rs AA <| rl Z <| rs AA <| rl Z <| AH <| rs AA <| rl Z <| cd Z w (fun x => ?_) (fun ad => ?_)
   .refine rs AA <| rn 4 Z <| sx Z (Ac Z Z <| rn 1 Z <| bq x fun be k y => sx Z (AM (Ey _ _ _ _ k) (.inl Z) Z Z Z <| rl Z <| cd Z y (fun z => ?_) (fun ac => ?_)))
    .refine rs AA <| rl Z <| AF <| AN <| AN <| A1 z fun a1 aa => A1 aa fun a2 ab => AN <| AG ?_
     cases ab
     exact er Z Le.rfl
    exact AE <| Ad <| Ad <| Ar ac (wf hA [(0, 0)] Z Z Z)
   refine rs AA <| rl Z <| cd Z ad (fun ae => ?_) (fun ak => ?_)
   .refine rs AA <| rn 3 Z <| bq ae fun bf l af => sx Z (AM (LZ _ _ _ l) (.inl Z) Z Z Z <| rl Z <| cd Z af (fun ag => ?_) (fun aj => ?_))
    .refine rs AA <| rl Z <| AF <| AN <| AN <| A1 ag fun a3 ah => A1 ah fun a4 ai => AN <| AG ?_
     cases ai
     exact er Z Le.rfl
    exact AE <| Ad <| Ad <| Ar aj (wf hA [(0, 0)] Z Z Z)
   refine rs AA <| rl Z <| cd Z ak (fun al => ?_) (fun ar => ?_)
   .refine rs AA <| rn 3 Z <| bq al fun bg m am => sx Z (AM (LZ _ _ _ m) (.inl Z) Z Z Z <| rl Z <| cd Z am (fun an => ?_) (fun aq => ?_))
    .refine rs AA <| rl Z <| AF <| AN <| AN <| A1 an fun a5 ao => A1 ao fun a6 ap => AN <| AG ?_
     cases ap
     exact er Z Le.rfl
    exact AE <| Ad <| Ad <| Ar aq (wf hA [(0, 0)] Z Z Z)
   refine rs AA <| rl Z <| AF <| AN <| AN <| A1 ar fun a7 au => A1 au fun a8 av => AN <| AG ?_
   cases av
   exact er Z Le.rfl
  intro f aw
  exact rg AA <| rl Z <| Ar aw (wf hA [(0, 0)] Z Z Z)
 refine AV <| AX <| BI ax fun a9 ay => Am <| AC <| rs AA <| rl Z <| AF ?_
 cases ay
 exact er Z Le.rfl
noncomputable def Gy (c : Int) (d : DR) (b : (List DR)) (a : Int) : Option (Int ⊕ (Int ⊕ Int)) :=
 bif decide (a < (b.length : Int)) then (AZ b a).bind fun e => bif (d.name.toList == e.name.toList) then some (.inr (.inr 4)) else some (.inl (AO (a + 1))) else some (.inr (.inl (AO (c + 1))))
noncomputable def Du (b : Ai) (a : Int) : Option (Int ⊕ Int) :=
 bif decide (a < (b.runs.length : Int)) then (AZ b.runs a).bind fun c => (KE b.runs 0 a).bind fun d => AU (Gy a c d) 0 else some (.inr 0)
noncomputable def Gz (d : AK) (b : Ai) (c : Int) : Option (Int ⊕ Int) :=
 bif decide (c < (b.runs.length : Int)) then (AZ b.runs c).bind fun a => (((Ce a.name).bind fun f => bif (!f) then some true else (CX a.stock 0 (AO ((b.stock.length : Int) - 1))).bind fun g => bif (!g) then some true else (CX a.frm 0 (AO ((d.signals.length : Int) - 1))).bind fun h => bif (!h) then some true else (CX a.left 0 4000).bind fun i => bif (!i) then some true else (IS d a.legs).bind fun j => some (!j) : Option (Bool))).bind fun (e : Bool) => bif e then some (.inr 1) else some (.inl (AO (c + 1))) else (AU (Du b) 0).map .inr
noncomputable def G0 (c : AK) (a : Ai) (b : Int) : Option (Int ⊕ Int) :=
 bif decide (b < (a.runs.length : Int)) then (AZ a.runs b).bind fun e => bif decide (12 < (e.legs.length : Int)) then some (.inr 3) else some (.inl (AO (b + 1))) else ((HV c a.stock).bind fun d => bif (d != 0) then some d else (CX a.begin 0 86399).bind fun f => bif (!f) then some 1 else AU (Gz c a) 0).map .inr
noncomputable def HW (b : AK) (a : Ai) : Option Int :=
 bif decide (8 < (a.runs.length : Int)) then some 3 else AU (G0 b a) 0
theorem U4 (c : AK) (b : Ai) (r : Int) (h : HW c b = some r) : Aw Tryz.prog 36 [.agg (AQ c), .agg (AW b)] (· = .int .i64 r) := by
 refine fn AA Tryz.func36 Z Z 110 Z [.tmp 4] Z [(0, .p (.agg (AQ c))), (1, .p (.agg (AW b)))] Z Z fun A hA => ?_
 unfold HW at h
 refine rs AA <| rl Z <| AB <| rs AA <| rn 2 Z <| sx Z (Ac Z Z <| rl Z <| cd Z h (fun a6 => ?_) (fun a7 => ?_))
 .refine rs AA <| rl Z <| AF <| AG ?_
  cases a6
  exact er Z Le.rfl
 refine AE <| AC <| AB <| rs AA <| rn 2 Z <| sx Z (Ac Z Z <| rl Z <| AH ?_)
 apply lp (a := r) (fun m : Int => ⟨110, [(2, .lpb 0 0), (3, .lpb 1 0), (19, ls 5 Bu b.runs), (20, li (b.runs.length : Int)), (21, li m)], [(0, bx (AQ c)), (1, bx (AW b))], 2⟩) a7
 . exact wf hA [(0, 0), (1, 1)] Z Z Z
 intro m b8 k
 unfold G0 at k
 refine rs AA <| rl Z <| AB <| cd Z k (fun bw => ?_) (fun aj => ?_)
 .refine AE <| AC <| AB <| AH <| rs AA <| bq bw fun b9 t af => sx Z (Aa t Z Z Z <| rl Z <| rs AA <| rn 2 Z <| sx Z (Ac Z Z <| rl Z <| cd Z af (fun ag => ?_) (fun ai => ?_)))
  .refine rs AA <| rl Z <| AF <| AN <| AG <| A1 ag fun b0 ah => AN <| AG ?_
   cases ah
   exact er Z Le.rfl
  exact AE <| Ad <| AC <| rg AA <| rl Z <| Ar ai (wf hA [(0, 0), (1, 1)] Z Z Z)
 refine AV <| AX <| CM aj fun o ak => Am <| AC <| AB <| rs AA <| rn 3 Z <| bq ak fun ca u al => sx Z (AM (U3 _ _ _ u) (.inl Z) Z Z Z <| rl Z <| rs AA <| rl Z <| cd Z al (fun am => ?_) (fun an => ?_))
 .refine rs AA <| rl Z <| AF <| AG ?_
  have hr := Option.some.inj am; subst hr
  exact er Z Le.rfl
 refine AE <| AC <| AB <| rs AA <| rn 2 Z <| bq an fun cb v ao => sx Z (AM (Ey _ _ _ _ v) (.inl Z) Z Z Z <| rl Z <| cd Z ao (fun ap => ?_) (fun ar => ?_))
 .refine rs AA <| rl Z <| AF <| AG ?_
  cases ap
  exact er Z Le.rfl
 refine AE <| AC <| AB <| rs AA <| rn 2 Z <| sx Z (Ac Z Z <| rl Z <| AH ?_)
 apply lp (a := o) (fun e : Int => ⟨110, [(2, .lpb 0 0), (3, .lpb 1 0), (42, ls 5 Bu b.runs), (43, li (b.runs.length : Int)), (44, li e)], [(0, bx (AQ c)), (1, bx (AW b))], 2⟩) ar
 . exact wf hA [(0, 0), (1, 1)] Z Z Z
 intro e b7 j
 unfold Gz at j
 refine rs AA <| rl Z <| AB <| cd Z j (fun a8 => ?_) (fun bu => ?_)
 .refine AE <| AC <| AB <| AH <| rs AA <| bq a8 fun ce z a9 => sx Z (Aa z Z Z Z <| rl Z <| jb (fun f : Bool => ⟨110, [(2, .lpb 0 0), (3, .lpb 1 0), (42, ls 5 Bu b.runs), (43, li (b.runs.length : Int)), (44, li e), (84, lb f)], [(0, bx (AQ c)), (1, bx (AW b))], 2⟩) a9 (fun f ba => ?_) (fun f bp => ?_))
  .refine rg AA <| rn 2 Z <| bq ba fun cf aa bb => sx Z (AM (Jf _ _ aa) (.inl Z) Z Z Z <| rn 2 Z <| gs 52 bb Z Z Z (fun bc => ?_) (fun be => ?_))
   .exact rl Z <| AL bc (wf hA [(0, 0), (1, 1)] Z Z Z)
   refine rn 4 Z <| sx Z (Ac Z Z <| rn 1 Z <| bq be fun cg ab bf => sx Z (AM (Ey _ _ _ _ ab) (.inl Z) Z Z Z <| rn 3 Z <| gs 62 bf Z Z Z (fun bg => ?_) (fun bh => ?_)))
   .exact rl Z <| AL bg (wf hA [(0, 0), (1, 1)] Z Z Z)
   refine rn 4 Z <| sx Z (Ac Z Z <| rn 1 Z <| bq bh fun ch ac bi => sx Z (AM (Ey _ _ _ _ ac) (.inl Z) Z Z Z <| rn 3 Z <| gs 72 bi Z Z Z (fun bj => ?_) (fun bk => ?_)))
   .exact rl Z <| AL bj (wf hA [(0, 0), (1, 1)] Z Z Z)
   refine rn 2 Z <| bq bk fun ci ad bl => sx Z (AM (Ey _ _ _ _ ad) (.inl Z) Z Z Z <| rn 3 Z <| gs 78 bl Z Z Z (fun bm => ?_) (fun bn => ?_))
   .exact rl Z <| AL bm (wf hA [(0, 0), (1, 1)] Z Z Z)
   exact rn 3 Z <| bq bn fun cj ae bo => sx Z (AM (WX _ _ _ ae) (.inl Z) Z Z Z <| rl Z <| AL bo (wf hA [(0, 0), (1, 1)] Z Z Z))
  refine cd Z bp (fun br => ?_) (fun bt => ?_)
  .refine rs AA <| rl Z <| AF <| AN <| AG <| A1 br fun b5 bs => AN <| AG ?_
   cases bs
   exact er Z Le.rfl
  exact AE <| Ad <| AC <| rg AA <| rl Z <| Ar bt (wf hA [(0, 0), (1, 1)] Z Z Z)
 refine AV <| AX <| CM bu fun q bv => Am <| AC <| AB <| rs AA <| rn 2 Z <| sx Z (Ac Z Z <| rl Z <| AH ?_)
 apply lp (a := q) (fun d : Int => ⟨110, [(3, .lpb 0 0), (87, ls 5 Bu b.runs), (88, li (b.runs.length : Int)), (89, li d)], [(0, bx (AW b))], 1⟩) bv
 . exact wf hA [(0, 1)] Z Z Z
 intro d s g
 unfold Du at g
 refine rs AA <| rl Z <| AB <| cd Z g (fun aq => ?_) (fun a4 => ?_)
 .refine AE <| AC <| AB <| AH <| rs AA <| rn 1 Z <| bq aq fun bz w au => sx Z (Aa w Z Z Z <| rl Z <| rs AA <| rn 3 Z <| bq au fun n x av => sx Z (TA x Z Z Z Z <| sx Z (Ac Z Z <| rl Z <| AH ?_)))
  apply lp (a := s) (fun l : Int => ⟨110, [(3, .lpb 0 0), (11, .lpb 1 0), (87, ls 5 Bu b.runs), (88, li (b.runs.length : Int)), (89, li d), (97, ls 5 Bu n), (98, li (n.length : Int)), (99, li l)], [(0, bx (AW b)), (1, bx (Bu bz))], 2⟩) av
  . exact wf hA [(0, 0), (1, 1)] Z Z Z
  intro l b6 i
  unfold Gy at i
  refine rs AA <| rl Z <| AB <| cd Z i (fun aw => ?_) (fun a2 => ?_)
  .refine AE <| AC <| AB <| AH <| rs AA <| bq aw fun cc y ax => sx Z (Aa y Z Z Z <| rl Z <| rs AA <| rl Z <| cd Z ax (fun ay => ?_) (fun a1 => ?_))
   .refine rs AA <| rl Z <| AF <| AN <| AG <| A1 ay fun b1 az => AN <| AN <| AG <| A1 az fun b2 a0 => AN <| AG ?_
    cases a0
    exact er Z Le.rfl
   exact AE <| Ad <| AC <| rg AA <| rl Z <| Ar a1 (wf hA [(0, 0), (1, 1)] Z Z Z)
  exact AV <| AX <| BI a2 fun b3 a3 => Am <| Ad <| AC <| rg AA <| rl Z <| Ar a3 (wf hA [(0, 0)] Z Z Z)
 refine AV <| AX <| BI a4 fun b4 a5 => Am <| AC <| rs AA <| rl Z <| AF ?_
 cases a5
 exact er Z Le.rfl
end Go.E
