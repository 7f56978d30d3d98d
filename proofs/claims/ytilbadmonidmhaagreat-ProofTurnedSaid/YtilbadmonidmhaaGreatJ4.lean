/- Plain functions, and walks in step with them. Written by a program (gen.py). No condition. -/
import Derived.Test.YtilbadmonidmhaaGreatJ3
set_option linter.unusedVariables false
set_option linter.unusedSimpArgs false
set_option maxRecDepth 100000
namespace Go.E
open Go Go.RowKit Go.Proofs
noncomputable def Bx (d : BL) (e : AO) (r : (List AT)) (l : (List AJ)) (am : AN) (a : Bool × (List (AF × Bool)) × (List AJ) × (List Int) × (List Int) × (List AF)) : Option ((Bool × (List (AF × Bool)) × (List AJ) × (List Int) × (List Int) × (List AF)) ⊕ AO) :=
 bif decide (0 < (a.2.2.2.2.2.length : Int)) then (Ak a.2.2.2.2.2 (AR ((a.2.2.2.2.2.length : Int) - 1))).bind fun b => (Kx a.2.2.2.2.2 0 (AR ((a.2.2.2.2.2.length : Int) - 1))).bind fun c => (((FH (⟨e.frm, e.to, e.fin, r, l, a.2.2.1, a.2.2.2.1, a.2.2.2.2.1, a.1⟩ : AO) b.elem).bind fun an => bif an then some true else some ((As a.2.1 b).getD false) : Option (Bool))).bind fun (y : Bool) => bif y then some (.inl (a.1, a.2.1, a.2.2.1, a.2.2.2.1, a.2.2.2.2.1, c)) else (Bv d b).bind fun m => ((bif decide (0 <= m) then some (!am.hard) else some false : Option (Bool))).bind fun (z : Bool) => bif z then (((BV a.2.2.2.2.1 m).bind fun ao => bif (!ao) then (A8 a.2.2.2.2.1 [m]).bind fun ap => some ap else some a.2.2.2.2.1 : Option ((List Int)))).bind fun (aa : (List Int)) => some (.inl (a.1, BE b true a.2.1, a.2.2.1, a.2.2.2.1, aa, c)) else (Bz d b.elem).bind fun s => bif (s == 4) then some (.inl (true, BE b true a.2.1, a.2.2.1, a.2.2.2.1, a.2.2.2.2.1, c)) else bif (s == 2) then bif (b.fin == 0) then (((((BV a.2.2.2.1 b.elem).bind fun aq => bif aq then some (true, a.1, a.2.2.2.1) else bif decide (12 <= (a.2.2.2.1.length : Int)) then some (false, true, a.2.2.2.1) else (A8 a.2.2.2.1 [b.elem]).bind fun ar => some (true, a.1, ar) : Option (Bool × Bool × (List Int)))).bind fun (h : Bool × Bool × (List Int)) => bif h.1 then (((Ba d (⟨b.elem, 2⟩ : AF)).bind fun t => bif t.2 then (A8 c [t.1]).bind fun au => some au else some c : Option ((List AF)))).bind fun (n : (List AF)) => (((Ba d (⟨b.elem, 1⟩ : AF)).bind fun u => bif u.2 then (A8 n [u.1]).bind fun av => some av else some n : Option ((List AF)))).bind fun (ab : (List AF)) => some (h.2.1, h.2.2, ab) else some (h.2.1, h.2.2, c) : Option (Bool × (List Int) × (List AF)))).bind fun (k : Bool × (List Int) × (List AF)) => some (.inl (k.1, BE b true a.2.1, a.2.2.1, k.2.1, a.2.2.2.2.1, k.2.2)) else (((B8 l (⟨b.elem, b.fin⟩ : AJ)).bind fun ac => bif ac then some true else (B8 a.2.2.1 (⟨b.elem, b.fin⟩ : AJ)).bind fun ad => some ad : Option (Bool))).bind fun (v : Bool) => bif v then (((((BV a.2.2.2.1 b.elem).bind fun ae => bif ae then some (true, a.1, a.2.2.2.1) else bif decide (12 <= (a.2.2.2.1.length : Int)) then some (false, true, a.2.2.2.1) else (A8 a.2.2.2.1 [b.elem]).bind fun af => some (true, a.1, af) : Option (Bool × Bool × (List Int)))).bind fun (f : Bool × Bool × (List Int)) => bif f.1 then (((Ba d (⟨b.elem, 0⟩ : AF)).bind fun o => bif o.2 then (A8 c [o.1]).bind fun ag => some ag else some c : Option ((List AF)))).bind fun (w : (List AF)) => some (f.2.1, f.2.2, w) else some (f.2.1, f.2.2, c) : Option (Bool × (List Int) × (List AF)))).bind fun (i : Bool × (List Int) × (List AF)) => some (.inl (i.1, BE b true a.2.1, a.2.2.1, i.2.1, a.2.2.2.2.1, i.2.2)) else (B8 a.2.2.1 (⟨b.elem, AR (3 - b.fin)⟩ : AJ)).bind fun ah => bif (!ah) then (A8 a.2.2.1 [(⟨b.elem, AR (3 - b.fin)⟩ : AJ)]).bind fun ai => some (.inl (a.1, BE b true a.2.1, ai, a.2.2.2.1, a.2.2.2.2.1, c)) else some (.inl (a.1, BE b true a.2.1, a.2.2.1, a.2.2.2.1, a.2.2.2.2.1, c)) else (IF d b.elem b.fin 0).bind fun p => ((bif p.2 then (((BV a.2.2.2.1 b.elem).bind fun aj => bif aj then some (true, a.1, a.2.2.2.1) else bif decide (12 <= (a.2.2.2.1.length : Int)) then some (false, true, a.2.2.2.1) else (A8 a.2.2.2.1 [b.elem]).bind fun ak => some (true, a.1, ak) : Option (Bool × Bool × (List Int)))).bind fun (j : Bool × Bool × (List Int)) => some (j.1, j.2.1, j.2.2) else some (false, a.1, a.2.2.2.1) : Option (Bool × Bool × (List Int)))).bind fun (g : Bool × Bool × (List Int)) => bif g.1 then (((Ba d (⟨b.elem, p.1⟩ : AF)).bind fun q => bif q.2 then (A8 c [q.1]).bind fun al => some al else some c : Option ((List AF)))).bind fun (x : (List AF)) => some (.inl (g.2.1, BE b true a.2.1, a.2.2.1, g.2.2, a.2.2.2.2.1, x)) else some (.inl (g.2.1, BE b true a.2.1, a.2.2.1, g.2.2, a.2.2.2.2.1, c)) else some (.inr (⟨e.frm, e.to, e.fin, r, l, a.2.2.1, a.2.2.2.1, a.2.2.2.2.1, a.1⟩ : AO))
noncomputable def FC (b : BL) (c : AO) (i : (List AT)) (j : (List AJ)) (d : AN) (e : (List AF)) (a : Int × (List AF)) : Option ((Int × (List AF)) ⊕ AO) :=
 bif decide (0 <= a.1) then (Ak e a.1).bind fun f => (Ba b f).bind fun g => (A8 a.2 [g.1]).bind fun h => some (.inl (AR (a.1 - 1), h)) else (AQ (Bx b c i j d) (false, [], ([] : List AJ), ([] : List Int), ([] : List Int), a.2)).map .inr
noncomputable def C8 (b : BL) (a : AO) : Option AO :=
 (Bk a.steps).bind fun d => (B9 a.needs).bind fun e => (Cy b).bind fun f => (Fz b (⟨a.frm, a.to, a.fin, d, e, [], [], [], false⟩ : AO)).bind fun c => AQ (FC b a d e f c) (AR ((c.length : Int) - 1), ([] : List AF))
theorem Q9 (e : BL) (c : AO) (r : AO) (h : C8 e c = some r) : A5 Tryz.prog 14 [.place (A7 e) 0, .agg (AZ c)] (· = .agg (AZ r)) := by
 refine fn AA Tryz.func14 Z Z 187 Z [.cell 4 36] Z [(0, .p (.place (A7 e) 0)), (1, .p (.agg (AZ c)))] Z Z fun A hA => ?_
 unfold C8 at h
 refine rs AA <| rl Z <| sc <| AB ?_
 refine Bb AA Az [0, 1, 2, 3, 4, 5, 6, 7, 8, 9] 10 (by kernel_rfl) Z Z Z ?_
 refine Am 2 Z <| bq h fun g a7 de => Al Z (BA (Ma _ _ a7) (.inr Z) Z Z Z <| Am 2 Z <| bq de fun i a8 df => Al Z (BA (Mb _ _ a8) (.inr Z) Z Z Z <| A1 Z <| AC <| rs AA <| rl Z <| rs AA <| rn 1 Z <| bq df fun o a2 c6 => sx Z (AS (Jw _ _ a2) (.inr Z) Z Z Z <| rl Z <| rs AA <| rl Z <| rs AA <| rl Z <| rs AA <| rn 2 Z <| bq c6 fun e4 a3 c7 => sx Z (AS (A5.le (Ow _ _ _ a3) (.cons Le.rfl (.cons (Le.agg' (.cons Le.rfl (.cons Le.rfl (.cons Le.rfl (.cons Le.rfl (.cons Le.rfl (.cons (Le.nil _) (.cons (Le.nil _) (.cons (Le.nil _) (.cons Le.rfl .nil)))))))))) .nil))) (.inr Z) Z Z Z <| rl Z <| AB <| rs AA <| rn 1 Z <| sx Z (An Z Z <| rl Z <| AH ?_)))))
 apply lp (a := r) (fun v : (Int × (List AF)) => ⟨187, [(2, .lpb 0 0), (3, .lpb 1 0), (4, .lpb 2 0), (5, lb o.hard), (6, .lmap 3), (7, .lpb 4 0), (8, ls 2 AK e4), (9, li v.1)], [(0, .box [lq (A7 e)]), (1, .box [li c.frm, li c.to, li c.fin, ls 3 Ae g, ls 2 AP i, .p (.nils), .p (.nils), .p (.nils), lb false]), (2, .box [li 0, li 0, li 0, .p (.nils), .p (.nils), .p (.nils), .p (.nils), .p (.nils), lb false]), (3, .map (Ax (fun x => .agg (AK x)) .bool [])), (4, .box [.lsl 5 2 0 v.2.length]), (5, .row 96 2 (v.2.map AK))], 6⟩) c7
 . exact A0.trans (CG 14 0 96 2 Z Z Z Z) (wf hA (gi 3 [(3, 13), (4, 14), (5, 15)]) Z Z Z)
 intro v e9 ai
 unfold FC at ai
 refine AB <| rs AA <| rl Z <| cd Z ai (fun c8 => ?_) (fun dc => ?_)
 .refine AD <| AC <| AB <| AH <| AB ?_
  refine Bb AA Az [0, 1, 2, 3, 4, 5, 6, 7, 8, 9, 10, 11] 12 (by kernel_rfl) Z Z Z ?_
  exact Am 3 Z <| bq c8 fun fl a4 c9 => Al Z (AX Z (Aj a4 Z Z Z <| Am 1 Z <| bq c9 fun e5 a5 da => Al Z (BA (CC _ _ _ a5) (.inl Z) Z Z Z <| A1 Z <| AC <| rg AA <| rn 3 Z <| bq da fun fm a6 db => sx Z (Au (enc := AK) (l := v.2) (m := [e5.1]) a6 (fun _ => ⟨Z, Z⟩) Z Z Z Z Z Z <| rl Z <| Af <| AC <| rg AA <| rl Z <| Av db (wf hA (gi 5 [(5, 19)]) Z Z Z)))))
 refine AU <| Aa <| CU dc fun am dd => Ao <| AC <| rs AA <| rl Z <| AB <| Ha <| AC <| AB <| AH ?_
 apply lp (a := am) (fun b : (Bool × (List (AF × Bool)) × (List AJ) × (List Int) × (List Int) × (List AF)) => ⟨187, [(2, .lpb 0 0), (3, .lpb 1 0), (4, .lpb 2 0), (5, lb o.hard), (6, .lmap 3), (7, .lpb 4 0), (12, .fn 50 [.lpb 0 0, .lpb 4 0])], [(0, .box [lq (A7 e)]), (1, .box [li c.frm, li c.to, li c.fin, ls 3 Ae g, ls 2 AP i, .lsl 5 2 0 b.2.2.1.length, .lsl 6 1 0 b.2.2.2.1.length, .lsl 7 1 0 b.2.2.2.2.1.length, lb b.1]), (2, .box [li 0, li 0, li 0, .p (.nils), .p (.nils), .p (.nils), .p (.nils), .p (.nils), lb false]), (3, .map (Ax (fun x => .agg (AK x)) .bool b.2.1)), (4, .box [.lsl 8 2 0 b.2.2.2.2.2.length]), (5, .row 91 2 (b.2.2.1.map AP)), (6, .row 3 1 (b.2.2.2.1.map AW)), (7, .row 3 1 (b.2.2.2.2.1.map AW)), (8, .row 96 2 (b.2.2.2.2.2.map AK))], 9⟩) dd
 . exact A0.trans (CG 1 5 91 2 Z Z Z Z) (A0.trans (CG 1 6 3 1 Z Z Z Z) (A0.trans (CG 1 7 3 1 Z Z Z Z) (wf hA (gi 5 [(5, 6), (6, 7), (7, 8), (8, 5)]) Z Z Z)))
 intro b fa aj
 unfold Bx at aj
 refine AB <| rs AA <| rl Z <| cd Z aj (fun dg => ?_) (fun c4 => ?_)
 .refine AD <| AC <| AH <| rs AA <| rn 4 Z <| bq dg fun d ah dh => sx Z (Bf ah Z Z Z Z <| sx Z (Cl ah Z Z Z <| rl Z <| rs AA <| rn 4 Z <| bq dh fun f ad di => sx Z (Q8 (l := b.2.2.2.2.2) ad Z Z Z Z <| rl Z <| AB <| jb (fun af : Bool => ⟨187, [(2, .lpb 0 0), (3, .lpb 1 0), (4, .lpb 2 0), (5, lb o.hard), (6, .lmap 3), (7, .lpb 4 0), (12, .fn 50 [.lpb 0 0, .lpb 4 0]), (13, .lpb 5 0), (81, lb af)], [(0, .box [lq (A7 e)]), (1, .box [li c.frm, li c.to, li c.fin, ls 3 Ae g, ls 2 AP i, .lsl 6 2 0 b.2.2.1.length, .lsl 7 1 0 b.2.2.2.1.length, .lsl 8 1 0 b.2.2.2.2.1.length, lb b.1]), (2, .box [li 0, li 0, li 0, .p (.nils), .p (.nils), .p (.nils), .p (.nils), .p (.nils), lb false]), (3, .map (Ax (fun x => .agg (AK x)) .bool b.2.1)), (4, .box [.lsl 9 2 0 f.length]), (5, .box [li d.elem, li d.fin]), (6, .row 91 2 (b.2.2.1.map AP)), (7, .row 3 1 (b.2.2.2.1.map AW)), (8, .row 3 1 (b.2.2.2.2.1.map AW)), (9, .row 96 2 (f.map AK))], 10⟩) di (fun af dj => ?_) (fun af dn => ?_))))
  .refine rg AA <| rn 3 Z <| bq dj fun fo a9 dk => sx Z (AS (Nj _ _ _ a9) (.inl Z) Z Z (Co.eq (.cons (.agg (.cons (.p _) (.cons (.p _) (.cons (.p _) (.cons (.p _) (.cons (.p _) (.cons (.own (enc := AP) b.2.2.1 Z Z) (.cons (.own (enc := AW) b.2.2.2.1 Z Z) (.cons (.own (enc := AW) b.2.2.2.2.1 Z Z) (.cons (.p _) .nil)))))))))) (.cons (.one (.p _)) .nil))) <| rn 1 Z <| gs 77 dk Z Z Z (fun dl => ?_) (fun dm => ?_))
   .exact rl Z <| AM dl (A0.trans (Ju 8 ad Z Z) (wf hA (gi 5 [(5, 9), (6, 5), (7, 6), (8, 7), (9, 8)]) Z Z Z))
   exact rn 2 Z <| sx Z (K4 (et := 4) (ke := (fun x => .agg (AK x))) (ve := .bool) (mp := b.2.1) (y := d) false Cc Z Z Z Z <| rl Z <| AM dm (A0.trans (Ju 8 ad Z Z) (wf hA (gi 5 [(5, 9), (6, 5), (7, 6), (8, 7), (9, 8)]) Z Z Z)))
  refine cd Z dn (fun dp => ?_) (fun dq => ?_)
  .exact AU <| Aa <| Ao <| Av dp (wf hA (gi 5 [(5, 6), (6, 7), (7, 8), (8, 9)]) Z Z Z)
  refine AD <| AC <| rs AA <| rn 2 Z <| sx Z (JM (et := 4) (ke := (fun x => .agg (AK x))) (ve := .bool) (mp := b.2.1) (y := d) (z := true) Cc Z Z Z Z Z Z <| rl Z <| AB <| rs AA <| rn 2 Z <| bq dq fun al ba dr => sx Z (AS (D8 _ _ _ ba) (.inl Z) Z Z Z <| rl Z <| jb (fun ag : Bool => ⟨187, [(2, .lpb 0 0), (3, .lpb 1 0), (4, .lpb 2 0), (5, lb o.hard), (6, .lmap 3), (7, .lpb 4 0), (12, .fn 50 [.lpb 0 0, .lpb 4 0]), (13, .lpb 5 0), (14, li al), (92, lb ag)], [(0, .box [lq (A7 e)]), (1, .box [li c.frm, li c.to, li c.fin, ls 3 Ae g, ls 2 AP i, .lsl 6 2 0 b.2.2.1.length, .lsl 7 1 0 b.2.2.2.1.length, .lsl 8 1 0 b.2.2.2.2.1.length, lb b.1]), (2, .box [li 0, li 0, li 0, .p (.nils), .p (.nils), .p (.nils), .p (.nils), .p (.nils), lb false]), (3, .map (Ax (fun x => .agg (AK x)) .bool (BE d true b.2.1))), (4, .box [.lsl 9 2 0 f.length]), (5, .box [li d.elem, li d.fin]), (6, .row 91 2 (b.2.2.1.map AP)), (7, .row 3 1 (b.2.2.2.1.map AW)), (8, .row 3 1 (b.2.2.2.2.1.map AW)), (9, .row 96 2 (f.map AK))], 10⟩) dr (fun ag ds => ?_) (fun ag dv => ?_)))
  .refine rg AA <| rn 3 Z <| gs 89 ds Z Z Z (fun dt => ?_) (fun du => ?_)
   .exact rl Z <| AM dt (wf hA (gi 10 []) Z Z Z)
   exact rl Z <| AM du (wf hA (gi 10 []) Z Z Z)
  refine cd Z dv (fun dw => ?_) (fun d3 => ?_)
  .refine jb (fun ac : (List Int) => ⟨187, [(2, .lpb 0 0), (3, .lpb 1 0), (4, .lpb 2 0), (5, lb o.hard), (6, .lmap 3), (7, .lpb 4 0), (12, .fn 50 [.lpb 0 0, .lpb 4 0])], [(0, .box [lq (A7 e)]), (1, .box [li c.frm, li c.to, li c.fin, ls 3 Ae g, ls 2 AP i, .lsl 5 2 0 b.2.2.1.length, .lsl 6 1 0 b.2.2.2.1.length, .lsl 7 1 0 ac.length, lb b.1]), (2, .box [li 0, li 0, li 0, .p (.nils), .p (.nils), .p (.nils), .p (.nils), .p (.nils), lb false]), (3, .map (Ax (fun x => .agg (AK x)) .bool (BE d true b.2.1))), (4, .box [.lsl 8 2 0 f.length]), (5, .row 91 2 (b.2.2.1.map AP)), (6, .row 3 1 (b.2.2.2.1.map AW)), (7, .row 3 1 (ac.map AW)), (8, .row 96 2 (f.map AK))], 9⟩) dw (fun ac dx => ?_) (fun ac d2 => ?_)
   .refine rs AA <| rn 3 Z <| bq dx fun fp bb dy => sx Z (AS (Cp _ _ _ bb) (.inl Z) Z Z (Co.eq (.cons (.one (.own (enc := AW) b.2.2.2.2.1 Z Z)) (.cons (.one (.p _)) .nil))) <| rl Z <| cd Z dy (fun dz => ?_) (fun d1 => ?_))
    .exact rg AA <| rn 4 Z <| bq dz fun fq bc d0 => sx Z (Au (enc := AW) (l := b.2.2.2.2.1) (m := [al]) bc (fun _ => ⟨Z, Z⟩) Z Z Z Z Z Z <| rl Z <| AM d0 (wf hA (gi 5 [(5, 6), (6, 7), (7, 11), (8, 9)]) Z Z Z))
    exact AD <| AM d1 (wf hA (gi 5 [(5, 6), (6, 7), (7, 8), (8, 9)]) Z Z Z)
   exact AU <| Aa <| Ao <| Av d2 (wf hA (gi 9 []) Z Z Z)
  refine AD <| AC <| rs AA <| rn 3 Z <| bq d3 fun fr be d4 => sx Z (AS (Cx _ _ _ be) (.inl Z) Z Z Z <| rl Z <| AH <| rs AA <| rl Z <| cd Z d4 (fun d5 => ?_) (fun d6 => ?_))
  .exact rg AA <| rl Z <| Af <| Af <| Av d5 (wf hA (gi 5 [(5, 6), (6, 7), (7, 8), (8, 9)]) Z Z Z)
  refine rs AA <| rl Z <| cd Z d6 (fun d7 => ?_) (fun ci => ?_)
  .refine AB <| rs AA <| rl Z <| cd Z d7 (fun d8 => ?_) (fun e1 => ?_)
   .refine jb (fun t : (Bool × (List Int) × (List AF)) => ⟨187, [(2, .lpb 0 0), (3, .lpb 1 0), (4, .lpb 2 0), (5, lb o.hard), (6, .lmap 3), (7, .lpb 4 0), (12, .fn 50 [.lpb 0 0, .lpb 4 0])], [(0, .box [lq (A7 e)]), (1, .box [li c.frm, li c.to, li c.fin, ls 3 Ae g, ls 2 AP i, .lsl 5 2 0 b.2.2.1.length, .lsl 6 1 0 t.2.1.length, .lsl 7 1 0 b.2.2.2.2.1.length, lb t.1]), (2, .box [li 0, li 0, li 0, .p (.nils), .p (.nils), .p (.nils), .p (.nils), .p (.nils), lb false]), (3, .map (Ax (fun x => .agg (AK x)) .bool (BE d true b.2.1))), (4, .box [.lsl 8 2 0 t.2.2.length]), (5, .row 91 2 (b.2.2.1.map AP)), (6, .row 3 1 (t.2.1.map AW)), (7, .row 3 1 (b.2.2.2.2.1.map AW)), (8, .row 96 2 (t.2.2.map AK))], 9⟩) d8 (fun t d9 => ?_) (fun t e0 => ?_)
    .refine rs AA <| rn 2 Z <| sx Z (Cn AA (fun j : (Bool × Bool × (List Int)) => lb j.1) (fun j : (Bool × Bool × (List Int)) => [(0, .box [lq (A7 e)]), (1, .box [li c.frm, li c.to, li c.fin, ls 3 Ae g, ls 2 AP i, .lsl 6 2 0 b.2.2.1.length, .lsl 10 1 0 j.2.2.length, .lsl 8 1 0 b.2.2.2.2.1.length, lb j.2.1]), (2, .box [li 0, li 0, li 0, .p (.nils), .p (.nils), .p (.nils), .p (.nils), .p (.nils), lb false]), (3, .map (Ax (fun x => .agg (AK x)) .bool (BE d true b.2.1))), (4, .box [.lsl 9 2 0 f.length]), (5, .box [li d.elem, li d.fin]), (6, .row 91 2 (b.2.2.1.map AP)), (8, .row 3 1 (b.2.2.2.2.1.map AW)), (9, .row 96 2 (f.map AK)), (10, .row 3 1 (j.2.2.map AW))]) 11 d9 Tryz.func55 30 [.tmp 4] [(0, .lpb 1 0), (1, li d.elem)] Z Z Z Z Z Z Z Z (fun A hA j ea => ?_) (fun j eh => ?_))
     .refine rs AA <| rl Z <| AB <| rs AA <| rn 5 Z <| bq ea fun fs bf eb => sx Z (AS (Cp _ _ _ bf) (.inl Z) Z Z (Co.eq (.cons (.one (.own (enc := AW) b.2.2.2.1 Z Z)) (.cons (.one (.p _)) .nil))) <| rl Z <| cd Z eb (fun ec => ?_) (fun ed => ?_))
      .refine rs AA <| rl Z <| AG <| AI ?_
       cases ec
       exact CS (nt := 30) (sl := [(4, lb true)]) (wj hA (gi 7 [(8, 8), (9, 9), (10, 7), (7, 7)]) Z Z Z Z) Z
      refine AD <| AC <| AB <| rs AA <| rl Z <| cd Z ed (fun ee => ?_) (fun ef => ?_)
      .refine rs AA <| rl Z <| rs AA <| rl Z <| AG <| AI ?_
       cases ee
       exact CS (nt := 30) (sl := [(4, lb false)]) (wj hA (gi 7 [(8, 8), (9, 9), (10, 7), (7, 7)]) Z Z Z Z) Z
      refine AD <| AC <| rs AA <| rn 7 Z <| bq ef fun ft bg eg => sx Z (Au (enc := AW) (l := b.2.2.2.1) (m := [d.elem]) bg (fun _ => ⟨Z, Z⟩) Z Z Z Z Z Z <| rl Z <| rs AA <| rl Z <| AG ?_)
      cases eg
      exact CS (nt := 30) (sl := [(4, lb true)]) (wj hA (gi 7 [(8, 8), (9, 9), (10, 11), (7, 7)]) Z Z Z Z) Z
     refine rl Z <| cd Z eh (fun ei => ?_) (fun ez => ?_)
     .refine rs AA <| rn 3 Z <| sx Z (Cn AA (fun u : (List AF) => .tup []) (fun u : (List AF) => [(0, .box [lq (A7 e)]), (1, .box [li c.frm, li c.to, li c.fin, ls 3 Ae g, ls 2 AP i, .lsl 6 2 0 b.2.2.1.length, .lsl 10 1 0 j.2.2.length, .lsl 8 1 0 b.2.2.2.2.1.length, lb j.2.1]), (2, .box [li 0, li 0, li 0, .p (.nils), .p (.nils), .p (.nils), .p (.nils), .p (.nils), lb false]), (3, .map (Ax (fun x => .agg (AK x)) .bool (BE d true b.2.1))), (4, .box [.lsl 11 2 0 u.length]), (5, .box [li d.elem, li d.fin]), (6, .row 91 2 (b.2.2.1.map AP)), (8, .row 3 1 (b.2.2.2.2.1.map AW)), (10, .row 3 1 (j.2.2.map AW)), (11, .row 96 2 (u.map AK))]) 12 ei Tryz.func50 21 [] [(0, li d.elem), (1, li 2), (2, .lpb 0 0), (3, .lpb 4 0)] Z Z Z Z Z Z Z Z (fun A hA u ej => ?_) (fun u ep => ?_))
      .refine rs AA <| rn 4 Z <| bq ej fun e6 bh ek => sx Z (AS (CC _ _ _ bh) (.inl Z) Z Z Z <| rl Z <| rs AA <| rl Z <| cd Z ek (fun el => ?_) (fun eo => ?_))
       .refine rg AA <| rn 3 Z <| bq el fun fu bi em => sx Z (Au (enc := AK) (l := f) (m := [e6.1]) bi (fun _ => ⟨Z, Z⟩) Z Z Z Z Z Z <| rl Z ?_)
        have hr := Option.some.inj em; subst hr
        exact GN (nt := 21) (sl := []) (wj hA (gi 9 [(10, 10), (11, 13), (9, 9)]) Z Z Z Z) Z
       refine AD ?_
       have hr := Option.some.inj eo; subst hr
       exact GN (nt := 21) (sl := []) (wj hA (gi 9 [(10, 10), (11, 9), (9, 9)]) Z Z Z Z) Z
      refine rl Z <| rg AA <| rn 3 Z <| sx Z (Cn AA (fun ab : (List AF) => .tup []) (fun ab : (List AF) => [(0, .box [lq (A7 e)]), (1, .box [li c.frm, li c.to, li c.fin, ls 3 Ae g, ls 2 AP i, .lsl 6 2 0 b.2.2.1.length, .lsl 10 1 0 j.2.2.length, .lsl 8 1 0 b.2.2.2.2.1.length, lb j.2.1]), (2, .box [li 0, li 0, li 0, .p (.nils), .p (.nils), .p (.nils), .p (.nils), .p (.nils), lb false]), (3, .map (Ax (fun x => .agg (AK x)) .bool (BE d true b.2.1))), (4, .box [.lsl 12 2 0 ab.length]), (5, .box [li d.elem, li d.fin]), (6, .row 91 2 (b.2.2.1.map AP)), (8, .row 3 1 (b.2.2.2.2.1.map AW)), (10, .row 3 1 (j.2.2.map AW)), (12, .row 96 2 (ab.map AK))]) 13 ep Tryz.func50 21 [] [(0, li d.elem), (1, li 1), (2, .lpb 0 0), (3, .lpb 4 0)] Z Z Z Z Z Z Z Z (fun A hA ab es => ?_) (fun ab ey => ?_))
      .refine rs AA <| rn 4 Z <| bq es fun e7 bj eu => sx Z (AS (CC _ _ _ bj) (.inl Z) Z Z Z <| rl Z <| rs AA <| rl Z <| cd Z eu (fun ev => ?_) (fun ex => ?_))
       .refine rg AA <| rn 3 Z <| bq ev fun fv bk ew => sx Z (Au (enc := AK) (l := u) (m := [e7.1]) bk (fun _ => ⟨Z, Z⟩) Z Z Z Z Z Z <| rl Z ?_)
        have hr := Option.some.inj ew; subst hr
        exact GN (nt := 21) (sl := []) (wj hA (gi 11 [(12, 14), (11, 11)]) Z Z Z Z) Z
       refine AD ?_
       have hr := Option.some.inj ex; subst hr
       exact GN (nt := 21) (sl := []) (wj hA (gi 11 [(12, 11), (11, 11)]) Z Z Z Z) Z
      exact rl Z <| AM ey (wf hA (gi 5 [(5, 6), (6, 10), (7, 8), (8, 12)]) Z Z Z)
     exact AD <| AM ez (wf hA (gi 5 [(5, 6), (6, 10), (7, 8), (8, 9)]) Z Z Z)
    exact AU <| Aa <| NO Z <| Ao <| Av e0 (wf hA (gi 9 []) Z Z Z)
   refine AD <| AC <| rs AA <| rl Z <| AB <| jb (fun ae : Bool => ⟨187, [(2, .lpb 0 0), (3, .lpb 1 0), (4, .lpb 2 0), (5, lb o.hard), (6, .lmap 3), (7, .lpb 4 0), (12, .fn 50 [.lpb 0 0, .lpb 4 0]), (13, .lpb 5 0), (161, lb ae)], [(0, .box [lq (A7 e)]), (1, .box [li c.frm, li c.to, li c.fin, ls 3 Ae g, ls 2 AP i, .lsl 6 2 0 b.2.2.1.length, .lsl 7 1 0 b.2.2.2.1.length, .lsl 8 1 0 b.2.2.2.2.1.length, lb b.1]), (2, .box [li 0, li 0, li 0, .p (.nils), .p (.nils), .p (.nils), .p (.nils), .p (.nils), lb false]), (3, .map (Ax (fun x => .agg (AK x)) .bool (BE d true b.2.1))), (4, .box [.lsl 9 2 0 f.length]), (5, .box [li d.elem, li d.fin]), (6, .row 91 2 (b.2.2.1.map AP)), (7, .row 3 1 (b.2.2.2.1.map AW)), (8, .row 3 1 (b.2.2.2.2.1.map AW)), (9, .row 96 2 (f.map AK))], 10⟩) e1 (fun ae bl => ?_) (fun ae br => ?_)
   .refine rg AA <| rn 3 Z <| bq bl fun fb an bm => sx Z (AS (EV _ _ _ an) (.inl Z) Z Z Z <| rn 1 Z <| gs 156 bm Z Z Z (fun bn => ?_) (fun bo => ?_))
    .exact rl Z <| AM bn (wf hA (gi 10 []) Z Z Z)
    exact rn 3 Z <| bq bo fun fc ao bp => sx Z (AS (EV _ _ _ ao) (.inl Z) Z Z (Co.eq (.cons (.one (.own (enc := AP) b.2.2.1 Z Z)) (.cons (.one (.p _)) .nil))) <| rl Z <| AM bp (wf hA (gi 10 []) Z Z Z))
   refine cd Z br (fun bs => ?_) (fun cc => ?_)
   .refine jb (fun q : (Bool × (List Int) × (List AF)) => ⟨187, [(2, .lpb 0 0), (3, .lpb 1 0), (4, .lpb 2 0), (5, lb o.hard), (6, .lmap 3), (7, .lpb 4 0), (12, .fn 50 [.lpb 0 0, .lpb 4 0])], [(0, .box [lq (A7 e)]), (1, .box [li c.frm, li c.to, li c.fin, ls 3 Ae g, ls 2 AP i, .lsl 5 2 0 b.2.2.1.length, .lsl 6 1 0 q.2.1.length, .lsl 7 1 0 b.2.2.2.2.1.length, lb q.1]), (2, .box [li 0, li 0, li 0, .p (.nils), .p (.nils), .p (.nils), .p (.nils), .p (.nils), lb false]), (3, .map (Ax (fun x => .agg (AK x)) .bool (BE d true b.2.1))), (4, .box [.lsl 8 2 0 q.2.2.length]), (5, .row 91 2 (b.2.2.1.map AP)), (6, .row 3 1 (q.2.1.map AW)), (7, .row 3 1 (b.2.2.2.2.1.map AW)), (8, .row 96 2 (q.2.2.map AK))], 9⟩) bs (fun q bt => ?_) (fun q cb => ?_)
    .refine rs AA <| rn 2 Z <| sx Z (Cn AA (fun k : (Bool × Bool × (List Int)) => lb k.1) (fun k : (Bool × Bool × (List Int)) => [(0, .box [lq (A7 e)]), (1, .box [li c.frm, li c.to, li c.fin, ls 3 Ae g, ls 2 AP i, .lsl 6 2 0 b.2.2.1.length, .lsl 10 1 0 k.2.2.length, .lsl 8 1 0 b.2.2.2.2.1.length, lb k.2.1]), (2, .box [li 0, li 0, li 0, .p (.nils), .p (.nils), .p (.nils), .p (.nils), .p (.nils), lb false]), (3, .map (Ax (fun x => .agg (AK x)) .bool (BE d true b.2.1))), (4, .box [.lsl 9 2 0 f.length]), (5, .box [li d.elem, li d.fin]), (6, .row 91 2 (b.2.2.1.map AP)), (8, .row 3 1 (b.2.2.2.2.1.map AW)), (9, .row 96 2 (f.map AK)), (10, .row 3 1 (k.2.2.map AW))]) 11 bt Tryz.func55 30 [.tmp 4] [(0, .lpb 1 0), (1, li d.elem)] Z Z Z Z Z Z Z Z (fun A hA k bu => ?_) (fun k b2 => ?_))
     .refine rs AA <| rl Z <| AB <| rs AA <| rn 5 Z <| bq bu fun fd ap bv => sx Z (AS (Cp _ _ _ ap) (.inl Z) Z Z (Co.eq (.cons (.one (.own (enc := AW) b.2.2.2.1 Z Z)) (.cons (.one (.p _)) .nil))) <| rl Z <| cd Z bv (fun bw => ?_) (fun bx => ?_))
      .refine rs AA <| rl Z <| AG <| AI ?_
       cases bw
       exact CS (nt := 30) (sl := [(4, lb true)]) (wj hA (gi 7 [(8, 8), (9, 9), (10, 7), (7, 7)]) Z Z Z Z) Z
      refine AD <| AC <| AB <| rs AA <| rl Z <| cd Z bx (fun bz => ?_) (fun b0 => ?_)
      .refine rs AA <| rl Z <| rs AA <| rl Z <| AG <| AI ?_
       cases bz
       exact CS (nt := 30) (sl := [(4, lb false)]) (wj hA (gi 7 [(8, 8), (9, 9), (10, 7), (7, 7)]) Z Z Z Z) Z
      refine AD <| AC <| rs AA <| rn 7 Z <| bq b0 fun fe aq b1 => sx Z (Au (enc := AW) (l := b.2.2.2.1) (m := [d.elem]) aq (fun _ => ⟨Z, Z⟩) Z Z Z Z Z Z <| rl Z <| rs AA <| rl Z <| AG ?_)
      cases b1
      exact CS (nt := 30) (sl := [(4, lb true)]) (wj hA (gi 7 [(8, 8), (9, 9), (10, 11), (7, 7)]) Z Z Z Z) Z
     refine rl Z <| cd Z b2 (fun b3 => ?_) (fun ca => ?_)
     .refine rg AA <| rn 3 Z <| sx Z (Cn AA (fun w : (List AF) => .tup []) (fun w : (List AF) => [(0, .box [lq (A7 e)]), (1, .box [li c.frm, li c.to, li c.fin, ls 3 Ae g, ls 2 AP i, .lsl 6 2 0 b.2.2.1.length, .lsl 10 1 0 k.2.2.length, .lsl 8 1 0 b.2.2.2.2.1.length, lb k.2.1]), (2, .box [li 0, li 0, li 0, .p (.nils), .p (.nils), .p (.nils), .p (.nils), .p (.nils), lb false]), (3, .map (Ax (fun x => .agg (AK x)) .bool (BE d true b.2.1))), (4, .box [.lsl 11 2 0 w.length]), (5, .box [li d.elem, li d.fin]), (6, .row 91 2 (b.2.2.1.map AP)), (8, .row 3 1 (b.2.2.2.2.1.map AW)), (10, .row 3 1 (k.2.2.map AW)), (11, .row 96 2 (w.map AK))]) 12 b3 Tryz.func50 21 [] [(0, li d.elem), (1, li 0), (2, .lpb 0 0), (3, .lpb 4 0)] Z Z Z Z Z Z Z Z (fun A hA w b4 => ?_) (fun w b9 => ?_))
      .refine rs AA <| rn 4 Z <| bq b4 fun e2 ar b5 => sx Z (AS (CC _ _ _ ar) (.inl Z) Z Z Z <| rl Z <| rs AA <| rl Z <| cd Z b5 (fun b6 => ?_) (fun b8 => ?_))
       .refine rg AA <| rn 3 Z <| bq b6 fun ff au b7 => sx Z (Au (enc := AK) (l := f) (m := [e2.1]) au (fun _ => ⟨Z, Z⟩) Z Z Z Z Z Z <| rl Z ?_)
        have hr := Option.some.inj b7; subst hr
        exact GN (nt := 21) (sl := []) (wj hA (gi 9 [(10, 10), (11, 13), (9, 9)]) Z Z Z Z) Z
       refine AD ?_
       have hr := Option.some.inj b8; subst hr
       exact GN (nt := 21) (sl := []) (wj hA (gi 9 [(10, 10), (11, 9), (9, 9)]) Z Z Z Z) Z
      exact rl Z <| AM b9 (wf hA (gi 5 [(5, 6), (6, 10), (7, 8), (8, 11)]) Z Z Z)
     exact AD <| AM ca (wf hA (gi 5 [(5, 6), (6, 10), (7, 8), (8, 9)]) Z Z Z)
    exact AU <| Aa <| NO Z <| Ao <| Av cb (wf hA (gi 9 []) Z Z Z)
   refine AD <| AC <| rs AA <| rl Z <| rs AA <| rn 3 Z <| bq cc fun fg av ce => sx Z (AS (EV _ _ _ av) (.inl Z) Z Z (Co.eq (.cons (.one (.own (enc := AP) b.2.2.1 Z Z)) (.cons (.one (.p _)) .nil))) <| rl Z <| cd Z ce (fun cf => ?_) (fun ch => ?_))
   .exact rg AA <| rn 4 Z <| bq cf fun fh aw cg => sx Z (Au (enc := AP) (l := b.2.2.1) (m := [(⟨d.elem, AR (3 - d.fin)⟩ : AJ)]) aw (fun _ => ⟨Z, Z⟩) Z Z Z Z Z Z <| rl Z <| Af <| Af <| Av cg (wf hA (gi 5 [(5, 12), (6, 7), (7, 8), (8, 9)]) Z Z Z))
   exact AD <| Af <| Af <| Av ch (wf hA (gi 5 [(5, 6), (6, 7), (7, 8), (8, 9)]) Z Z Z)
  refine rs AA <| rn 5 Z <| bq ci fun ak ax cj => sx Z (AS (R7 _ _ _ _ _ ax) (.inl Z) Z Z Z <| rl Z <| jb (fun n : (Bool × Bool × (List Int)) => ⟨187, [(2, .lpb 0 0), (3, .lpb 1 0), (4, .lpb 2 0), (5, lb o.hard), (6, .lmap 3), (7, .lpb 4 0), (12, .fn 50 [.lpb 0 0, .lpb 4 0]), (13, .lpb 5 0), (17, li ak.1), (122, lb n.1)], [(0, .box [lq (A7 e)]), (1, .box [li c.frm, li c.to, li c.fin, ls 3 Ae g, ls 2 AP i, .lsl 6 2 0 b.2.2.1.length, .lsl 7 1 0 n.2.2.length, .lsl 8 1 0 b.2.2.2.2.1.length, lb n.2.1]), (2, .box [li 0, li 0, li 0, .p (.nils), .p (.nils), .p (.nils), .p (.nils), .p (.nils), lb false]), (3, .map (Ax (fun x => .agg (AK x)) .bool (BE d true b.2.1))), (4, .box [.lsl 9 2 0 f.length]), (5, .box [li d.elem, li d.fin]), (6, .row 91 2 (b.2.2.1.map AP)), (7, .row 3 1 (n.2.2.map AW)), (8, .row 3 1 (b.2.2.2.2.1.map AW)), (9, .row 96 2 (f.map AK))], 10⟩) cj (fun n ck => ?_) (fun n cv => ?_))
  .refine rg AA <| rn 2 Z <| gs 118 ck Z Z Z (fun cl => ?_) (fun cu => ?_)
   .refine rn 2 Z <| sx Z (Cn AA (fun s : (Bool × Bool × (List Int)) => lb s.1) (fun s : (Bool × Bool × (List Int)) => [(0, .box [lq (A7 e)]), (1, .box [li c.frm, li c.to, li c.fin, ls 3 Ae g, ls 2 AP i, .lsl 6 2 0 b.2.2.1.length, .lsl 10 1 0 s.2.2.length, .lsl 8 1 0 b.2.2.2.2.1.length, lb s.2.1]), (2, .box [li 0, li 0, li 0, .p (.nils), .p (.nils), .p (.nils), .p (.nils), .p (.nils), lb false]), (3, .map (Ax (fun x => .agg (AK x)) .bool (BE d true b.2.1))), (4, .box [.lsl 9 2 0 f.length]), (5, .box [li d.elem, li d.fin]), (6, .row 91 2 (b.2.2.1.map AP)), (8, .row 3 1 (b.2.2.2.2.1.map AW)), (9, .row 96 2 (f.map AK)), (10, .row 3 1 (s.2.2.map AW))]) 11 cl Tryz.func55 30 [.tmp 4] [(0, .lpb 1 0), (1, li d.elem)] Z Z Z Z Z Z Z Z (fun A hA s cm => ?_) (fun s ct => ?_))
    .refine rs AA <| rl Z <| AB <| rs AA <| rn 5 Z <| bq cm fun fi ay cn => sx Z (AS (Cp _ _ _ ay) (.inl Z) Z Z (Co.eq (.cons (.one (.own (enc := AW) b.2.2.2.1 Z Z)) (.cons (.one (.p _)) .nil))) <| rl Z <| cd Z cn (fun co => ?_) (fun cp => ?_))
     .refine rs AA <| rl Z <| AG <| AI ?_
      cases co
      exact CS (nt := 30) (sl := [(4, lb true)]) (wj hA (gi 7 [(8, 8), (9, 9), (10, 7), (7, 7)]) Z Z Z Z) Z
     refine AD <| AC <| AB <| rs AA <| rl Z <| cd Z cp (fun cq => ?_) (fun cr => ?_)
     .refine rs AA <| rl Z <| rs AA <| rl Z <| AG <| AI ?_
      cases cq
      exact CS (nt := 30) (sl := [(4, lb false)]) (wj hA (gi 7 [(8, 8), (9, 9), (10, 7), (7, 7)]) Z Z Z Z) Z
     refine AD <| AC <| rs AA <| rn 7 Z <| bq cr fun fj az cs => sx Z (Au (enc := AW) (l := b.2.2.2.1) (m := [d.elem]) az (fun _ => ⟨Z, Z⟩) Z Z Z Z Z Z <| rl Z <| rs AA <| rl Z <| AG ?_)
     cases cs
     exact CS (nt := 30) (sl := [(4, lb true)]) (wj hA (gi 7 [(8, 8), (9, 9), (10, 11), (7, 7)]) Z Z Z Z) Z
    exact rl Z <| AM ct (wf hA (gi 7 [(7, 10), (8, 8), (9, 9)]) Z Z Z)
   exact rl Z <| AM cu (wf hA (gi 10 []) Z Z Z)
  refine cd Z cv (fun cw => ?_) (fun c3 => ?_)
  .refine rg AA <| rn 4 Z <| sx Z (Cn AA (fun aa : (List AF) => .tup []) (fun aa : (List AF) => [(0, .box [lq (A7 e)]), (1, .box [li c.frm, li c.to, li c.fin, ls 3 Ae g, ls 2 AP i, .lsl 6 2 0 b.2.2.1.length, .lsl 7 1 0 n.2.2.length, .lsl 8 1 0 b.2.2.2.2.1.length, lb n.2.1]), (2, .box [li 0, li 0, li 0, .p (.nils), .p (.nils), .p (.nils), .p (.nils), .p (.nils), lb false]), (3, .map (Ax (fun x => .agg (AK x)) .bool (BE d true b.2.1))), (4, .box [.lsl 10 2 0 aa.length]), (5, .box [li d.elem, li d.fin]), (6, .row 91 2 (b.2.2.1.map AP)), (7, .row 3 1 (n.2.2.map AW)), (8, .row 3 1 (b.2.2.2.2.1.map AW)), (10, .row 96 2 (aa.map AK))]) 11 cw Tryz.func50 21 [] [(0, li d.elem), (1, li ak.1), (2, .lpb 0 0), (3, .lpb 4 0)] Z Z Z Z Z Z Z Z (fun A hA aa cx => ?_) (fun aa c2 => ?_))
   .refine rs AA <| rn 4 Z <| bq cx fun e3 a0 cy => sx Z (AS (CC _ _ _ a0) (.inl Z) Z Z Z <| rl Z <| rs AA <| rl Z <| cd Z cy (fun cz => ?_) (fun c1 => ?_))
    .refine rg AA <| rn 3 Z <| bq cz fun fk a1 c0 => sx Z (Au (enc := AK) (l := f) (m := [e3.1]) a1 (fun _ => ⟨Z, Z⟩) Z Z Z Z Z Z <| rl Z ?_)
     have hr := Option.some.inj c0; subst hr
     exact GN (nt := 21) (sl := []) (wj hA (gi 9 [(10, 12), (9, 9)]) Z Z Z Z) Z
    refine AD ?_
    have hr := Option.some.inj c1; subst hr
    exact GN (nt := 21) (sl := []) (wj hA (gi 9 [(10, 9), (9, 9)]) Z Z Z Z) Z
   exact rl Z <| Af <| Af <| Av c2 (wf hA (gi 5 [(5, 6), (6, 7), (7, 8), (8, 10)]) Z Z Z)
  exact AD <| Af <| Af <| Av c3 (wf hA (gi 5 [(5, 6), (6, 7), (7, 8), (8, 9)]) Z Z Z)
 refine AU <| Aa <| BG c4 fun e8 c5 => Ao <| AC <| rs AA <| rl Z <| AG <| EF ?_
 cases c5
 exact er (GM Z (.agg (.cons (.p _) (.cons (.p _) (.cons (.p _) (.cons (.p _) (.cons (.p _) (.cons (.own (enc := AP) b.2.2.1 Z Z) (.cons (.own (enc := AW) b.2.2.2.1 Z Z) (.cons (.own (enc := AW) b.2.2.2.2.1 Z Z) (.cons (.p _) .nil))))))))))) Le.rfl
end Go.E
/- Plain functions, and walks in step with them. Written by a program (gen.py). No condition. -/
set_option maxRecDepth 100000
namespace Go.E
open Go Go.RowKit Go.Proofs
noncomputable def GJ (b : AN) (a : Int × (List AO)) : Option ((Int × (List AO)) ⊕ ((List AO) × Int)) :=
 bif decide (a.1 < (b.signals.length : Int)) then (Jx b a.1).bind fun d => (A8 a.2 d).bind fun c => bif decide (64 < (c.length : Int)) then some (.inr (([] : List AO), 3)) else some (.inl (AR (a.1 + 1), c)) else some (.inr (a.2, 0))
noncomputable def Kd (a : AN) : Option ((List AO) × Int) :=
 AQ (GJ a) (0, ([] : List AO))
theorem Xe (c : AN) (r : ((List AO) × Int)) (h : Kd c = some r) : Jv Tryz.prog 44 [] 0 [.p (.agg (AY c))] (.tup [.lsl 0 9 0 r.1.length, li r.2]) [(0, .row 36 9 (r.1.map AZ))] 1 := by
 refine Xc AA Tryz.func44 22 [.tmp 2, .tmp 3] [(0, .p (.agg (AY c)))] Z Z Z Z Z Z (fun A hA => ?_)
 unfold Kd at h
 refine rs AA <| rl Z <| rs AA <| rl Z <| AB <| rs AA <| rl Z <| AH ?_
 apply lp (a := r) (fun b : (Int × (List AO)) => ⟨22, [(1, .lpb 0 0), (4, .lsl 1 9 0 b.2.length), (5, li b.1)], [(0, bx (AY c)), (1, .row 36 9 (b.2.map AZ))], 2⟩) h
 . exact A0.trans (Bm 4 36 9 Z) (wj hA [(0, 0), (1, 1)] Z Z Z Z)
 intro b w d
 unfold GJ at d
 refine AB <| rs AA <| rn 3 Z <| sx Z (An Z Z <| rl Z <| cd Z d (fun g => ?_) (fun q => ?_))
 .refine AD <| AC <| AB <| AH <| rs AA <| rn 3 Z <| bq g fun t e i => sx Z (AS (UL _ _ _ e) (.inr Z) Z Z Z <| bq i fun x f j => sx Z (Au (enc := AZ) (l := b.2) (m := t) f (fun _ => ⟨Z, Z⟩) Z Z Z Z Z Z <| rl Z <| rs AA <| rl Z <| cd Z j (fun k => ?_) (fun o => ?_)))
  .refine rs AA <| rl Z <| AG <| AV <| AI <| A4 k fun u n => AV <| AI ?_
   cases n
   exact CS (nt := 22) (sl := [(2, .lsl 0 9 0 ([] : List AO).length), (3, li 3)]) (A0.trans (Bm 2 36 9 Z) (wj hA [(0, 3)] Z Z Z Z)) Z
  exact AD <| Af <| AC <| rg AA <| rl Z <| Av o (wj hA [(0, 0), (1, 2)] Z Z Z Z)
 refine AU <| Aa <| BG q fun v s => Ao <| AC <| rs AA <| rl Z <| AG ?_
 cases s
 exact CS (nt := 22) (sl := [(2, .lsl 0 9 0 b.2.length), (3, li 0)]) (wj hA [(0, 1)] Z Z Z Z) Z
end Go.E
/- Plain functions, and walks in step with them. Written by a program (gen.py). No condition. -/
set_option maxRecDepth 100000
namespace Go.E
open Go Go.RowKit Go.Proofs
noncomputable def CW (a : BL) : Option Int :=
 some (a.p.signals.length : Int)
theorem IK (a : BL) (r : Int) (h : CW a = some r) : A5 Tryz.prog 87 [.place (A7 a) 0] (· = .int .i64 r) := by
 refine fn AA Tryz.func87 Z Z 9 Z [.tmp 2] Z [(0, .p (.place (A7 a) 0))] Z Z fun A hA => ?_
 unfold CW at h
 refine rs AA <| rl Z <| rs AA <| rn 5 Z <| sx Z (An Z Z <| rl Z <| AG ?_)
 cases h
 exact er Z Le.rfl
noncomputable def Fv (b : BL) (a : Int) : Option (AF × Bool) :=
 ((bif decide (a < 0) then some true else some (decide ((b.p.signals.length : Int) <= a)) : Option (Bool))).bind fun (c : Bool) => bif c then some ((⟨0, 0⟩ : AF), false) else (Ak b.p.signals a).bind fun d => some (d.at_, true)
theorem Ov (a : BL) (b : Int) (r : (AF × Bool)) (h : Fv a b = some r) : A5 Tryz.prog 95 [.place (A7 a) 0, .int .i64 b] (· = .tup [.agg (AK r.1), .bool r.2]) := by
 refine fn AA Tryz.func95 Z Z 28 Z [.cell 4 96, .tmp 5] Z [(0, .p (.place (A7 a) 0)), (1, .p (.int .i64 b))] Z Z fun A hA => ?_
 unfold Fv at h
 refine rs AA <| rl Z <| AB <| jb (fun c : Bool => ⟨28, [(0, lq (A7 a)), (1, li b), (4, .lpb 0 0), (17, lb c)], [(0, .box [li 0, li 0])], 1⟩) h (fun c e => ?_) (fun c i => ?_)
 .refine rg AA <| rn 3 Z <| gs 8 e Z Z Z (fun f => ?_) (fun g => ?_)
  .exact rl Z <| AM f (wf hA [(0, 0)] Z Z Z)
  exact rn 6 Z <| sx Z (An Z Z <| rl Z <| AM g (wf hA [(0, 0)] Z Z Z))
 refine cd Z i (fun j => ?_) (fun k => ?_)
 .refine rs AA <| rl Z <| AG <| AI ?_
  cases j
  exact er Z Le.rfl
 refine AD <| AC <| rs AA <| rn 6 Z <| bq k fun m d l => sx Z (Aj d Z Z Z <| rl Z <| AG ?_)
 cases l
 exact er Z Le.rfl
noncomputable def EL (a : AT) (b : Int) : Option Bool :=
 some (a.elem == b)
theorem Pg (a : AT) (b : Int) (r : Bool) (h : EL a b = some r) : A5 Tryz.prog 209 [.agg (Ae a), .place (AW b) 0] (· = .bool r) := by
 refine fn AA Tryz.func209 Z Z 8 Z [.tmp 3] Z [(0, .p (.agg (Ae a))), (1, .p (.place (AW b) 0))] Z Z fun A hA => ?_
 unfold EL at h
 refine rs AA <| rl Z <| rs AA <| rl Z <| AG ?_
 cases h
 exact er Z Le.rfl
noncomputable def Be (b : (List AT)) (x1_0 : Int) (a : Int) : Option (Int ⊕ Int) :=
 bif decide (a < (b.length : Int)) then (Ak b a).bind fun c => (EL c x1_0).bind fun d => bif d then some (.inr a) else some (.inl (AR (a + 1))) else some (.inr (-1))
noncomputable def B3 (b : (List AT)) (x1_0 : Int) : Option Bool :=
 ((AQ (Be b x1_0) 0 : Option (Int))).bind fun (a : Int) => some (decide (0 <= a))
theorem IL (b : (List AT)) (x1_0 : Int) (r : Bool) (h : B3 b x1_0 = some r) : A5 Tryz.prog 96 [.slice 3 (b.map Ae), .fn 209 [.place (AW x1_0) 0]] (· = .bool r) := by
 refine fn AA Tryz.func96 Z Z 9 Z [.tmp 4] Z [(0, .p (.slice 3 (b.map Ae))), (1, .p (.fn 209 [.place (AW x1_0) 0]))] Z Z fun A hA => ?_
 unfold B3 at h
 refine Jp (YY 1 Z) <| rs AA <| rl Z <| rs AA <| rn 2 Z <| sx Z (Cn AA (fun c : Int => li c) (fun c : Int => []) 0 h Tryz.func149 19 [.tmp 4] [(0, ls 3 Ae b), (1, .fn 209 [lq (AW x1_0)])] Z Z Z Z Z Z Z Z (fun A hA c i => ?_) (fun c t => ?_))
 .refine rs AA <| rl Z <| AB <| rs AA <| rn 1 Z <| sx Z (An Z Z <| rl Z <| AH ?_)
  apply lp (a := c) (fun d : Int => ⟨19, [(0, ls 3 Ae b), (1, .fn 209 [lq (AW x1_0)]), (7, li (b.length : Int)), (8, li d)], [], 0⟩) i
  . exact wj hA [] Z Z Z Z
  intro d w e
  unfold Be at e
  refine rs AA <| rl Z <| AB <| cd Z e (fun j => ?_) (fun q => ?_)
  .refine AD <| AC <| AB <| AH <| rs AA <| rl Z <| rs AA <| rn 3 Z <| bq j fun x f k => sx Z (Aj f Z Z Z <| rn 1 Z <| bq k fun y g l => sx Z (AS (Pg _ _ _ g) (.inl Z) Z Z Z <| rl Z <| cd Z l (fun m => ?_) (fun o => ?_)))
   .refine rs AA <| rl Z <| AG <| AV <| AI <| A4 m fun u n => AV <| AI ?_
    have hr := Option.some.inj n; subst hr
    exact CS (nt := 19) (sl := [(4, li d)]) (wj hA [] Z Z Z Z) Z
   exact AD <| Af <| AC <| rg AA <| rl Z <| Av o (wj hA [] Z Z Z Z)
  refine AU <| Aa <| BG q fun v s => Ao <| AC <| rs AA <| rl Z <| AG ?_
  cases s
  exact CS (nt := 19) (sl := [(4, li (-1))]) (wj hA [] Z Z Z Z) Z
 refine rl Z <| AG ?_
 cases t
 exact er Z Le.rfl
end Go.E
/- Plain functions, and walks in step with them. Written by a program (gen.py). No condition. -/
set_option maxRecDepth 100000
namespace Go.E
open Go Go.RowKit Go.Proofs
noncomputable def FF (a : Ng) (b : Int) : Option Bool :=
 ((bif decide ((a.steps.length : Int) < 12) then bif (b != a.berth) then (B3 a.steps b).bind fun d => some (!d) else some false else some false : Option (Bool))).bind fun (c : Bool) => some c
theorem Q7 (b : Ng) (c : Int) (r : Bool) (h : FF b c = some r) : A5 Tryz.prog 189 [.place (Sg b) 0, .int .i64 c] (· = .bool r) := by
 refine fn AA Tryz.func189 Z Z 28 Z [.tmp 4] Z [(0, .p (.place (Sg b) 0)), (1, .p (.int .i64 c))] Z Z fun A hA => ?_
 unfold FF at h
 refine rs AA <| rl Z <| jb (fun a : Bool => ⟨28, [(4, lb a)], [], 0⟩) h (fun a k => ?_) (fun a j => ?_)
 .refine Bb AA Az [0, 1, 2, 3, 4, 5, 6, 7, 8, 9, 10, 11, 12, 13, 14, 15, 16, 17, 18, 19, 20, 21, 22, 23] 24 (by kernel_rfl) Z Z Z ?_
  refine Am 4 Z <| Al Z (Oj Z Z <| Am 2 Z <| DJ 11 k Z Z Z (fun l => ?_) (fun i => ?_))
  .refine Am 8 Z <| DJ 19 l Z Z Z (fun e => ?_) (fun g => ?_)
   .exact Am 5 Z <| bq e fun m d f => Al Z (BA (IL _ _ _ d) (.inl Z) Z Z (Co.eq (.cons (.one (.p _)) (.cons (.fn (.box Z (.cons (.p _) .nil) .nil)) .nil))) <| A1 Z <| AM f (wf hA [] Z Z Z))
   exact A1 Z <| AM g (wf hA [] Z Z Z)
  exact A1 Z <| AM i (wf hA [] Z Z Z)
 refine AG ?_
 have hr := Option.some.inj j; subst hr
 exact er Z Le.rfl
noncomputable def Lg (b : ((List AT) × (List Int) × (List (List BS)))) (d : (List AT)) (a : Int × (List AJ)) : Option ((Int × (List AJ)) ⊕ ((List AT) × (List AJ))) :=
 bif decide (a.1 < (b.1.length : Int)) then (((Ak b.1 a.1).bind fun e => (Ak b.2.1 a.1).bind fun f => bif (f != 0) then (Ak b.2.1 a.1).bind fun g => (A8 a.2 [(⟨e.elem, g⟩ : AJ)]).bind fun h => some h else some a.2 : Option ((List AJ)))).bind fun (c : (List AJ)) => some (.inl (AR (a.1 + 1), c)) else some (.inr (d, a.2))
noncomputable def Lh (a : ((List AO) × (List AT) × (List Int) × (List (List BS)))) (c : BS) (d : AT) (f : (List AT)) (b : Int × (List AJ)) : Option ((Int × (List AJ)) ⊕ ((List AT) × (List AJ))) :=
 bif decide (b.1 < ((A9 a.2.1 (AR ((a.2.1.length : Int) - 1)) (⟨d.elem, d.in_, c.out⟩ : AT)).length : Int)) then (((Ak (A9 a.2.1 (AR ((a.2.1.length : Int) - 1)) (⟨d.elem, d.in_, c.out⟩ : AT)) b.1).bind fun g => (Ak (A9 a.2.2.1 (AR ((a.2.1.length : Int) - 1)) c.pos) b.1).bind fun h => bif (h != 0) then (Ak (A9 a.2.2.1 (AR ((a.2.1.length : Int) - 1)) c.pos) b.1).bind fun i => (A8 b.2 [(⟨g.elem, i⟩ : AJ)]).bind fun j => some j else some b.2 : Option ((List AJ)))).bind fun (e : (List AJ)) => some (.inl (AR (b.1 + 1), e)) else some (.inr (f, b.2))
noncomputable def Li (a : ((List AO) × (List AT) × (List Int) × (List (List BS)))) (c : BS) (d : AT) (f : (List AT)) (b : Int × (List AJ)) : Option ((Int × (List AJ)) ⊕ ((List AT) × (List AJ))) :=
 bif decide (b.1 < ((A9 a.2.1 (AR ((a.2.1.length : Int) - 1)) (⟨d.elem, d.in_, c.out⟩ : AT)).length : Int)) then (((Ak (A9 a.2.1 (AR ((a.2.1.length : Int) - 1)) (⟨d.elem, d.in_, c.out⟩ : AT)) b.1).bind fun g => (Ak (A9 a.2.2.1 (AR ((a.2.1.length : Int) - 1)) c.pos) b.1).bind fun h => bif (h != 0) then (Ak (A9 a.2.2.1 (AR ((a.2.1.length : Int) - 1)) c.pos) b.1).bind fun i => (A8 b.2 [(⟨g.elem, i⟩ : AJ)]).bind fun j => some j else some b.2 : Option ((List AJ)))).bind fun (e : (List AJ)) => some (.inl (AR (b.1 + 1), e)) else some (.inr (f, b.2))
noncomputable def Cf (i : BL) (j : Int) (a : (List AO) × (List AT) × (List Int) × (List (List BS))) : Option (((List AO) × (List AT) × (List Int) × (List (List BS))) ⊕ ((Int × Int × (List AO) × (List AT) × (List Int) × (List (List BS))) ⊕ (List AO))) :=
 bif decide (0 < (a.2.1.length : Int)) then (Ak a.2.2.2 (AR ((a.2.1.length : Int) - 1))).bind fun n => bif ((n.length : Int) == 0) then (((Kx a.2.1 0 (AR ((a.2.1.length : Int) - 1))).bind fun o => (Kx a.2.2.1 0 (AR ((a.2.1.length : Int) - 1))).bind fun p => (Kx a.2.2.2 0 (AR ((a.2.1.length : Int) - 1))).bind fun q => some (o, p, q) : Option ((List AT) × (List Int) × (List (List BS))))).bind fun (d : (List AT) × (List Int) × (List (List BS))) => some (.inl (a.1, d.1, d.2.1, d.2.2)) else (Ak a.2.2.2 (AR ((a.2.1.length : Int) - 1))).bind fun r => (Ak r 0).bind fun c => (Ak a.2.2.2 (AR ((a.2.1.length : Int) - 1))).bind fun k => (I3 k 1 (k.length : Int)).bind fun e => (Ak a.2.2.2 (AR ((a.2.1.length : Int) - 1))).bind fun w => (Ak a.2.1 (AR ((a.2.1.length : Int) - 1))).bind fun b => (Ak a.2.2.1 (AR ((a.2.1.length : Int) - 1))).bind fun x => (Ak (A9 a.2.1 (AR ((a.2.1.length : Int) - 1)) (⟨b.elem, b.in_, c.out⟩ : AT)) (AR ((a.2.1.length : Int) - 1))).bind fun l => (Bv i (⟨l.elem, c.out⟩ : AF)).bind fun m => bif decide (0 <= m) then (((Bk (A9 a.2.1 (AR ((a.2.1.length : Int) - 1)) (⟨b.elem, b.in_, c.out⟩ : AT))).bind fun s => AQ (Lh a c b s) (0, ([] : List AJ)) : Option ((List AT) × (List AJ)))).bind fun (g : (List AT) × (List AJ)) => (A8 a.1 ([(⟨j, m, 1, g.1, g.2, ([] : List AJ), ([] : List Int), ([] : List Int), false⟩ : AO)])).bind fun t => some (.inl (t, A9 a.2.1 (AR ((a.2.1.length : Int) - 1)) (⟨b.elem, b.in_, c.out⟩ : AT), A9 a.2.2.1 (AR ((a.2.1.length : Int) - 1)) c.pos, A9 a.2.2.2 (AR ((a.2.1.length : Int) - 1)) e)) else (Ba i (⟨l.elem, c.out⟩ : AF)).bind fun f => bif (!f.2) then (((Bk (A9 a.2.1 (AR ((a.2.1.length : Int) - 1)) (⟨b.elem, b.in_, c.out⟩ : AT))).bind fun u => AQ (Li a c b u) (0, ([] : List AJ)) : Option ((List AT) × (List AJ)))).bind fun (h : (List AT) × (List AJ)) => (A8 a.1 ([(⟨j, (-1), 3, h.1, h.2, ([] : List AJ), ([] : List Int), ([] : List Int), false⟩ : AO)])).bind fun v => some (.inl (v, A9 a.2.1 (AR ((a.2.1.length : Int) - 1)) (⟨b.elem, b.in_, c.out⟩ : AT), A9 a.2.2.1 (AR ((a.2.1.length : Int) - 1)) c.pos, A9 a.2.2.2 (AR ((a.2.1.length : Int) - 1)) e)) else some (.inr (.inl (f.1.elem, f.1.fin, a.1, A9 a.2.1 (AR ((a.2.1.length : Int) - 1)) (⟨b.elem, b.in_, c.out⟩ : AT), A9 a.2.2.1 (AR ((a.2.1.length : Int) - 1)) c.pos, A9 a.2.2.2 (AR ((a.2.1.length : Int) - 1)) e))) else some (.inr (.inr a.1))
noncomputable def Cr (d : BL) (f : Int) (o : (AF × Bool)) (a : Int × Int × (List AO) × (List AT) × (List Int) × (List (List BS))) : Option ((Int × Int × (List AO) × (List AT) × (List Int) × (List (List BS))) ⊕ (List AO)) :=
 (((FF (⟨o.1.elem, a.2.2.2.1, a.2.2.2.2.1, a.2.2.2.2.2⟩ : Ng) a.1).bind fun g => bif g then (((A8 a.2.2.2.1 [(⟨a.1, a.2.1, (-1)⟩ : AT)]).bind fun h => (A8 a.2.2.2.2.1 [0]).bind fun i => (Cw d a.1 a.2.1).bind fun j => (A8 a.2.2.2.2.2 [j]).bind fun k => some (h, i, k) : Option ((List AT) × (List Int) × (List (List BS))))).bind fun (b : (List AT) × (List Int) × (List (List BS))) => (Bz d a.1).bind fun l => bif (l == 4) then (((Bk b.1).bind fun m => AQ (Lg b m) (0, ([] : List AJ)) : Option ((List AT) × (List AJ)))).bind fun (e : (List AT) × (List AJ)) => (A8 a.2.2.1 ([(⟨f, (-1), 2, e.1, e.2, ([] : List AJ), ([] : List Int), ([] : List Int), false⟩ : AO)])).bind fun n => some (n, b.1, b.2.1, b.2.2) else some (a.2.2.1, b.1, b.2.1, b.2.2) else some (a.2.2.1, a.2.2.2.1, a.2.2.2.2.1, a.2.2.2.2.2) : Option ((List AO) × (List AT) × (List Int) × (List (List BS))))).bind fun (c : (List AO) × (List AT) × (List Int) × (List (List BS))) => AQ (Cf d f) (c.1, c.2.1, c.2.2.1, c.2.2.2)
noncomputable def I5 (a : BL) (d : Int) : Option (List AO) :=
 (Fv a d).bind fun c => bif (!c.2) then some [] else (Ba a c.1).bind fun b => bif (!b.2) then some [] else AQ (Cr a d c) (b.1.elem, b.1.fin, ([] : List AO), ([] : List AT), ([] : List Int), ([] : List (List BS)))
theorem Si (t : BL) (g : Int) (r : (List AO)) (h : I5 t g = some r) : A5 Tryz.prog 138 [.place (A7 t) 0, .int .i64 g] (· = .slice 9 (r.map AZ)) := by
 refine fn AA Tryz.func138 Z Z 157 Z [.tmp 4] Z [(0, .p (.place (A7 t) 0)), (1, .p (.int .i64 g))] Z Z fun A hA => ?_
 unfold I5 at h
 refine rs AA <| rl Z <| sc <| rs AA <| rn 2 Z <| bq h fun j bu ef => sx Z (AS (Ov _ _ _ bu) (.inl Z) Z Z Z <| rl Z <| AB <| rs AA <| rl Z <| cd Z ef (fun eg => ?_) (fun eh => ?_))
 .refine rs AA <| rl Z <| AG <| AI <| EF ?_
  cases eg
  exact er Z (Le.nil _)
 refine AD <| AC <| rs AA <| rn 2 Z <| bq eh fun e2 a8 bv => sx Z (AS (CC _ _ _ a8) (.inl Z) Z Z Z <| rl Z <| AB <| rs AA <| rl Z <| cd Z bv (fun bw => ?_) (fun bx => ?_))
 .refine rs AA <| rl Z <| AG <| AI <| EF ?_
  cases bw
  exact er Z (Le.nil _)
 refine AD <| AC <| rs AA <| rl Z <| rs AA <| rl Z <| AB <| Ha <| AC <| AB <| AH ?_
 apply lp (a := r) (fun d : (Int × Int × (List AO) × (List AT) × (List Int) × (List (List BS))) => ⟨157, [(0, lq (A7 t)), (1, li g), (7, .lpb 0 0), (8, .lsl 1 9 0 d.2.2.1.length), (9, .lpb 2 0)], [(0, .box [li d.1, li d.2.1]), (1, .row 36 9 (d.2.2.1.map AZ)), (2, .box [li j.1.elem, .lsl 3 3 0 d.2.2.2.1.length, .lsl 4 1 0 d.2.2.2.2.1.length, .lsl 5 1 0 d.2.2.2.2.2.length]), (3, .row 65 3 (d.2.2.2.1.map Ae)), (4, .row 3 1 (d.2.2.2.2.1.map AW)), (5, .row 145 1 (d.2.2.2.2.2.map (Ei 2 CP)))], 6⟩) bx
 . exact A0.trans (Bm 8 36 9 Z) (A0.trans (CG 2 1 65 3 Z Z Z Z) (A0.trans (CG 2 2 3 1 Z Z Z Z) (A0.trans (CG 2 3 145 1 Z Z Z Z) (wf hA [(0, 1), (1, 3), (2, 2), (3, 4), (4, 5), (5, 6)] Z Z Z))))
 intro d a7 a2
 unfold Cr at a2
 refine AH <| sc <| jb (fun k : ((List AO) × (List AT) × (List Int) × (List (List BS))) => ⟨157, [(0, lq (A7 t)), (1, li g), (7, .lpb 0 0), (8, .lsl 1 9 0 k.1.length), (9, .lpb 2 0)], [(0, .box [li d.1, li d.2.1]), (1, .row 36 9 (k.1.map AZ)), (2, .box [li j.1.elem, .lsl 3 3 0 k.2.1.length, .lsl 4 1 0 k.2.2.1.length, .lsl 5 1 0 k.2.2.2.length]), (3, .row 65 3 (k.2.1.map Ae)), (4, .row 3 1 (k.2.2.1.map AW)), (5, .row 145 1 (k.2.2.2.map (Ei 2 CP)))], 6⟩) a2 (fun k bz => ?_) (fun k cs => ?_)
 .refine rs AA <| rn 3 Z <| bq bz fun e3 a9 b0 => sx Z (AS (Q7 _ _ _ a9) (.inl Z) Z Z (Co.eq (.cons (.box Z (.cons (.p _) (.cons (.own (enc := Ae) d.2.2.2.1 Z Z) (.cons (.own (enc := AW) d.2.2.2.2.1 Z Z) (.cons (.own (enc := (Ei 2 CP)) d.2.2.2.2.2 Z Z) .nil))))) (.cons (.one (.p _)) .nil))) <| rl Z <| cd Z b0 (fun b1 => ?_) (fun cr => ?_))
  .refine rs AA <| rn 3 Z <| sx Z (Cn AA (fun f : ((List AT) × (List Int) × (List (List BS))) => .tup []) (fun f : ((List AT) × (List Int) × (List (List BS))) => [(0, .box [li d.1, li d.2.1]), (1, .row 36 9 (d.2.2.1.map AZ)), (2, .box [li j.1.elem, .lsl 6 3 0 f.1.length, .lsl 7 1 0 f.2.1.length, .lsl 8 1 0 f.2.2.length]), (6, .row 65 3 (f.1.map Ae)), (7, .row 3 1 (f.2.1.map AW)), (8, .row 145 1 (f.2.2.map (Ei 2 CP)))]) 9 b1 Tryz.func190 44 [] [(0, .lpb 2 0), (1, lq (A7 t)), (2, .p (.agg [.int .i64 d.1, .int .i64 d.2.1]))] Z Z Z Z Z Z Z Z (fun A hA f b2 => ?_) (fun f b7 => ?_))
   .refine rs AA <| rl Z <| AB ?_
    refine Bb AA Az [0, 1, 2, 3, 4, 5, 6, 7, 8, 9, 10, 11, 12, 13, 14] 15 (by kernel_rfl) Z Z Z ?_
    refine Am 11 Z <| bq b2 fun e4 ba b3 => Al Z (BY (Au (enc := Ae) (l := d.2.2.2.1) (m := [(⟨d.1, d.2.1, (-1)⟩ : AT)]) ba (fun _ => ⟨Z, Z⟩) Z Z Z Z Z Z <| A1 Z <| AC <| rs AA <| rn 6 Z <| bq b3 fun e5 bb b4 => sx Z (Au (enc := AW) (l := d.2.2.2.2.1) (m := [0]) bb (fun _ => ⟨Z, Z⟩) Z Z Z Z Z Z <| rl Z ?_)))
    refine Bb AA Az [0, 1, 2, 3, 4, 5, 6, 7, 8, 9, 10, 11, 12, 13, 14, 15] 16 (by kernel_rfl) Z Z Z ?_
    refine Am 10 Z <| bq b4 fun ei bc b5 => Al Z (BA (Fw _ _ _ _ bc) (.inr Z) Z Z Z <| Am 1 Z <| bq b5 fun e6 be b6 => Al Z (BY (Au (enc := (Ei 2 CP)) (l := d.2.2.2.2.2) (m := [ei]) be (fun _ => ⟨Z, Z⟩) Z Z Z Z Z Z <| A1 Z ?_)))
    cases b6
    exact GN (nt := 44) (sl := []) (wj hA (gi 6 [(6, 18), (7, 23), (8, 36)]) Z Z Z Z) Z
   refine rl Z <| rs AA <| rn 3 Z <| bq b7 fun e7 bf b8 => sx Z (AS (Cx _ _ _ bf) (.inl Z) Z Z Z <| rl Z <| cd Z b8 (fun b9 => ?_) (fun cq => ?_))
   .refine rg AA <| rn 3 Z <| sx Z (Cn AA (fun n : ((List AT) × (List AJ)) => .p (.agg [.int .i64 g, .int .i64 (-1), .int .i64 2, .slice 3 (n.1.map Ae), .slice 2 (n.2.map AP), .slice 2 (([] : List AJ).map AP), .slice 1 (([] : List Int).map AW), .slice 1 (([] : List Int).map AW), .bool false])) (fun n : ((List AT) × (List AJ)) => [(0, .box [li d.1, li d.2.1]), (1, .row 36 9 (d.2.2.1.map AZ)), (2, .box [li j.1.elem, .lsl 6 3 0 f.1.length, .lsl 7 1 0 f.2.1.length, .lsl 8 1 0 f.2.2.length]), (6, .row 65 3 (f.1.map Ae)), (7, .row 3 1 (f.2.1.map AW)), (8, .row 145 1 (f.2.2.map (Ei 2 CP))), (9, .box [li g, li (-1), li 2, ls 3 Ae n.1, ls 2 AP n.2, ls 2 AP ([] : List AJ), ls 1 AW ([] : List Int), ls 1 AW ([] : List Int), lb false])]) 10 b9 Tryz.func191 56 [.cell 8 36] [(0, .lpb 2 0), (1, li g), (2, li (-1)), (3, li 2)] Z Z Z Z Z Z Z Z (fun A hA n ca => ?_) (fun n co => ?_))
    .refine rs AA <| rl Z <| rs AA <| rn 7 Z <| bq ca fun ab bg cb => sx Z (QH (Ez _ _ bg) (fun _ => Z) Z Z (Co.eq (.cons (.one (.own (enc := Ae) f.1 Z Z)) .nil)) <| rl Z <| AB <| rs AA <| rl Z <| AH ?_)
     apply lp (a := n) (fun u : (Int × (List AJ)) => ⟨56, [(0, .lpb 2 0), (8, .lpb 9 0), (9, .lpb 10 0), (24, .lsl 6 3 0 f.1.length), (25, li (f.1.length : Int)), (26, li u.1)], [(0, .box [li d.1, li d.2.1]), (1, .row 36 9 (d.2.2.1.map AZ)), (2, .box [li j.1.elem, .lsl 6 3 0 f.1.length, .lsl 7 1 0 f.2.1.length, .lsl 8 1 0 f.2.2.length]), (6, .row 65 3 (f.1.map Ae)), (7, .row 3 1 (f.2.1.map AW)), (8, .row 145 1 (f.2.2.map (Ei 2 CP))), (9, .box [li 0, li 0, li 0, .p (.nils), .p (.nils), .p (.nils), .p (.nils), .p (.nils), lb false]), (10, .box [li g, li (-1), li 2, .lsl 11 3 0 ab.length, .lsl 12 2 0 u.2.length, .p (.nils), .p (.nils), .p (.nils), lb false]), (11, .row 65 3 (ab.map Ae)), (12, .row 91 2 (u.2.map AP))], 13⟩) cb
     . exact A0.trans (CG 11 4 91 2 Z Z Z Z) (wj hA (gi 10 [(10, 11), (11, 10), (12, 12)]) Z Z Z Z)
     intro u ey a3
     unfold Lg at a3
     refine rs AA <| rl Z <| AB <| cd Z a3 (fun cc => ?_) (fun cm => ?_)
     .refine AD <| AC <| jb (fun af : (List AJ) => ⟨56, [(0, .lpb 2 0), (8, .lpb 9 0), (9, .lpb 10 0), (24, .lsl 6 3 0 f.1.length), (25, li (f.1.length : Int)), (26, li u.1)], [(0, .box [li d.1, li d.2.1]), (1, .row 36 9 (d.2.2.1.map AZ)), (2, .box [li j.1.elem, .lsl 6 3 0 f.1.length, .lsl 7 1 0 f.2.1.length, .lsl 8 1 0 f.2.2.length]), (6, .row 65 3 (f.1.map Ae)), (7, .row 3 1 (f.2.1.map AW)), (8, .row 145 1 (f.2.2.map (Ei 2 CP))), (9, .box [li 0, li 0, li 0, .p (.nils), .p (.nils), .p (.nils), .p (.nils), .p (.nils), lb false]), (10, .box [li g, li (-1), li 2, .lsl 11 3 0 ab.length, .lsl 12 2 0 af.length, .p (.nils), .p (.nils), .p (.nils), lb false]), (11, .row 65 3 (ab.map Ae)), (12, .row 91 2 (af.map AP))], 13⟩) cc (fun af ce => ?_) (fun af cl => ?_)
      .refine AH <| rs AA <| rn 1 Z <| bq ce fun ej aj cf => sx Z (Bf aj Z Z Z Z <| sx Z (Cl aj Z Z Z <| rl Z <| rs AA <| rn 5 Z <| bq cf fun e8 ak cg => sx Z (Bf ak Z Z Z Z <| sx Z (Cl ak Z Z Z <| rl Z <| cd Z cg (fun ch => ?_) (fun ck => ?_)))))
       .refine Bb AA Az [0, 1, 2, 3, 4, 5, 6, 7, 8, 9, 10, 11, 12, 13, 14, 15] 16 (by kernel_rfl) Z Z Z ?_
        exact Am 9 Z <| bq ch fun ek al ci => Al Z (AX Z (Bf al Z Z Z Z <| Al Z (FE Z (Cl al Z Z Z <| Am 2 Z <| bq ci fun e9 bh cj => Al Z (BY (Au (enc := AP) (l := u.2) (m := [(⟨ej.elem, ek⟩ : AJ)]) bh (fun _ => ⟨Z, Z⟩) Z Z Z Z Z Z <| A1 Z <| Af <| AM cj (wj hA (gi 12 [(12, 27)]) Z Z Z Z)))))))
       exact AD <| Af <| AM ck (wj hA (gi 13 []) Z Z Z Z)
      exact rg AA <| rl Z <| Av cl (wj hA (gi 13 []) Z Z Z Z)
     refine AU <| Aa <| BG cm fun es cn => Ao <| AC <| rs AA <| rl Z <| AG ?_
     cases cn
     exact CS (nt := 56) (sl := [(8, .lpb 9 0)]) (A0.trans (EH 11 (Gx (enc := Ae) (l := ab) Z) (.cons 8 (.same _) .nil) (.cons 0 Z Z (.same _) (.cons 1 Z Z (.same _) (.cons 2 Z Z (.same _) (.cons 6 Z Z (.same _) (.cons 7 Z Z (.same _) (.cons 8 Z Z (.same _) (.cons 9 Z Z (.box (.cons (.same _) (.cons (.same _) (.cons (.same _) (.cons .hit (.cons (.same _) (.cons (.same _) (.cons (.same _) (.cons (.same _) (.cons (.same _) .nil)))))))))) (.cons 10 Z Z (.box (.cons (.same _) (.cons (.same _) (.cons (.same _) (.cons .hit (.cons (.same _) (.cons (.same _) (.cons (.same _) (.cons (.same _) (.cons (.same _) .nil)))))))))) (.cons 12 Z Z (.same _) .nil)))))))))) (A0.trans (EH 12 (Gx (enc := AP) (l := u.2) Z) (.cons 8 (.same _) .nil) (.cons 0 Z Z (.same _) (.cons 1 Z Z (.same _) (.cons 2 Z Z (.same _) (.cons 6 Z Z (.same _) (.cons 7 Z Z (.same _) (.cons 8 Z Z (.same _) (.cons 9 Z Z (.box (.cons (.same _) (.cons (.same _) (.cons (.same _) (.cons (.same _) (.cons .hit (.cons (.same _) (.cons (.same _) (.cons (.same _) (.cons (.same _) .nil)))))))))) (.cons 10 Z Z (.box (.cons (.same _) (.cons (.same _) (.cons (.same _) (.cons (.same _) (.cons .hit (.cons (.same _) (.cons (.same _) (.cons (.same _) (.cons (.same _) .nil)))))))))) .nil))))))))) (A0.trans (CE (.cons 8 (.same _) .nil) (.cons 0 Z Z (.same _) (.cons 1 Z Z (.same _) (.cons 2 Z Z (.same _) (.cons 6 Z Z (.same _) (.cons 7 Z Z (.same _) (.cons 8 Z Z (.same _) (.cons 9 Z Z (.box (.cons (.same _) (.cons (.same _) (.cons (.same _) (.cons (.same _) (.cons (.same _) (.cons (.nil 2) (.cons (.same _) (.cons (.same _) (.cons (.same _) .nil)))))))))) (.cons 10 Z Z (.same _) .nil))))))))) (A0.trans (CE (.cons 8 (.same _) .nil) (.cons 0 Z Z (.same _) (.cons 1 Z Z (.same _) (.cons 2 Z Z (.same _) (.cons 6 Z Z (.same _) (.cons 7 Z Z (.same _) (.cons 8 Z Z (.same _) (.cons 9 Z Z (.box (.cons (.same _) (.cons (.same _) (.cons (.same _) (.cons (.same _) (.cons (.same _) (.cons (.same _) (.cons (.nil 1) (.cons (.same _) (.cons (.same _) .nil)))))))))) (.cons 10 Z Z (.same _) .nil))))))))) (A0.trans (CE (.cons 8 (.same _) .nil) (.cons 0 Z Z (.same _) (.cons 1 Z Z (.same _) (.cons 2 Z Z (.same _) (.cons 6 Z Z (.same _) (.cons 7 Z Z (.same _) (.cons 8 Z Z (.same _) (.cons 9 Z Z (.box (.cons (.same _) (.cons (.same _) (.cons (.same _) (.cons (.same _) (.cons (.same _) (.cons (.same _) (.cons (.same _) (.cons (.nil 1) (.cons (.same _) .nil)))))))))) (.cons 10 Z Z (.same _) .nil))))))))) (wj hA (gi 10 []) Z Z Z Z)))))) Z
    exact rn 1 Z <| bq co fun fa bi cp => sx Z (Au (enc := AZ) (l := d.2.2.1) (m := [(⟨g, (-1), 2, n.1, n.2, ([] : List AJ), ([] : List Int), ([] : List Int), false⟩ : AO)]) bi (fun _ => ⟨Z, Z⟩) Z Z Z Z Z Z <| rl Z <| AM cp (wf hA [(0, 0), (1, 11), (2, 2), (3, 6), (4, 7), (5, 8)] Z Z Z))
   exact AD <| AM cq (wf hA (gi 3 [(3, 6), (4, 7), (5, 8)]) Z Z Z)
  exact AD <| AM cr (wf hA (gi 6 []) Z Z Z)
 refine AB <| Ha <| AC <| AB <| AH ?_
 apply lp (a := a7) (fun b : ((List AO) × (List AT) × (List Int) × (List (List BS))) => ⟨157, [(0, lq (A7 t)), (1, li g), (7, .lpb 0 0), (8, .lsl 1 9 0 b.1.length), (9, .lpb 2 0)], [(0, .box [li d.1, li d.2.1]), (1, .row 36 9 (b.1.map AZ)), (2, .box [li j.1.elem, .lsl 3 3 0 b.2.1.length, .lsl 4 1 0 b.2.2.1.length, .lsl 5 1 0 b.2.2.2.length]), (3, .row 65 3 (b.2.1.map Ae)), (4, .row 3 1 (b.2.2.1.map AW)), (5, .row 145 1 (b.2.2.2.map (Ei 2 CP)))], 6⟩) cs
 . exact wf hA (gi 6 []) Z Z Z
 intro b ez a4
 unfold Cf at a4
 refine AB <| rs AA <| rl Z <| cd Z a4 (fun ct => ?_) (fun ec => ?_)
 .refine AD <| AC <| AH <| rs AA <| rl Z <| AB <| rs AA <| rn 5 Z <| bq ct fun fb am cu => sx Z (Bf am Z Z Z Z <| sx Z (Cl am Z Z Z <| sx Z (An Z Z <| rl Z <| cd Z cu (fun cv => ?_) (fun c1 => ?_))))
  .refine rs AA <| rn 1 Z <| sx Z (Cn AA (fun s : ((List AT) × (List Int) × (List (List BS))) => .tup []) (fun s : ((List AT) × (List Int) × (List (List BS))) => [(0, .box [li d.1, li d.2.1]), (1, .row 36 9 (b.1.map AZ)), (2, .box [li j.1.elem, .lsl 3 3 0 s.1.length, .lsl 4 1 0 s.2.1.length, .lsl 5 1 0 s.2.2.length]), (3, .row 65 3 (s.1.map Ae)), (4, .row 3 1 (s.2.1.map AW)), (5, .row 145 1 (s.2.2.map (Ei 2 CP)))]) 6 cv Tryz.func192 36 [] [(0, .lpb 2 0)] Z Z Z Z Z Z Z Z (fun A hA s cw => ?_) (fun s c0 => ?_))
   .refine rs AA <| rl Z ?_
    refine Bb AA Az [0, 1, 2, 3, 4, 5, 6, 7, 8, 9, 10, 11, 12, 13, 14, 15, 16, 17, 18, 19, 20, 21, 22, 23, 24, 25, 26, 27, 28, 29] 30 (by kernel_rfl) Z Z Z ?_
    refine Am 8 Z <| bq cw fun fc an cx => Al Z (AX Z (Q8 (l := b.2.1) an Z Z Z Z <| Am 5 Z <| bq cx fun fd ao cy => Al Z (AX Z (Q8 (l := b.2.2.1) ao Z Z Z Z <| Am 5 Z <| bq cy fun fe ap cz => Al Z (AX Z (Q8 (l := b.2.2.2) ap Z Z Z Z <| A1 Z ?_))))))
    cases cz
    exact GN (nt := 36) (sl := []) (A0.trans (Ju 3 an Z Z) (A0.trans (Ju 4 ao Z Z) (A0.trans (Ju 5 ap Z Z) (wj hA (gi 6 []) Z Z Z Z)))) Z
   exact rl Z <| AU <| Aa <| Ao <| Av c0 (wf hA (gi 6 []) Z Z Z)
  refine AD <| AC <| rs AA <| rn 5 Z <| bq c1 fun ff aq c2 => sx Z (Bf aq Z Z Z Z <| sx Z (Cl aq Z Z Z <| bq c2 fun c bj c3 => sx Z (Aj bj Z Z Z <| rl Z <| AB ?_)))
  refine Bb AA Az [0, 1, 2, 3, 4, 5, 6, 7, 8, 9, 10, 11, 12, 13, 14] 15 (by kernel_rfl) Z Z Z ?_
  refine Am 10 Z <| bq c3 fun fg ar c4 => Al Z (AX Z (Bf ar Z Z Z Z <| Al Z (FE Z (Cl ar Z Z Z <| bq c4 fun i bk c5 => Al Z (AX Z (Qq bk Z Z Z Z <| bq c5 fun fh au c6 => Al Z (AX Z (Bf au Z Z Z Z <| Al Z (JK Z (HO (z := i) au Z Z Z Z Z Z Z Z <| A1 Z <| AC <| AB <| bq c6 fun e ai c7 => bq c7 fun fi ae c8 => ?_))))))))))
  refine YZ AA Az (.picks [0, 1, 2, 3, 4, 5, 6, 7, 8, 9, 10, 11, 12, 14, 15] (.alt 13 [16, 17, 18] .done (.alt 16 [13, 17, 18] .done .nil))) 19 ⟨157, [(0, lq (A7 t)), (1, li g), (7, .lpb 0 0), (8, .lsl 1 9 0 b.1.length), (9, .lpb 2 0), (10, li (AR ((b.2.1.length : Int) - 1))), (11, .lpb 3 0)], [(0, .box [li d.1, li d.2.1]), (1, .row 36 9 (b.1.map AZ)), (2, .box [li j.1.elem, .lsl 4 3 0 (A9 b.2.1 (AR ((b.2.1.length : Int) - 1)) (⟨e.elem, e.in_, c.out⟩ : AT)).length, .lsl 5 1 0 (A9 b.2.2.1 (AR ((b.2.1.length : Int) - 1)) c.pos).length, .lsl 6 1 0 (A9 b.2.2.2 (AR ((b.2.1.length : Int) - 1)) i).length]), (3, .box [li c.out, li c.pos]), (4, .row 65 3 ((A9 b.2.1 (AR ((b.2.1.length : Int) - 1)) (⟨e.elem, e.in_, c.out⟩ : AT)).map Ae)), (5, .row 3 1 ((A9 b.2.2.1 (AR ((b.2.1.length : Int) - 1)) c.pos).map AW)), (6, .row 145 1 ((A9 b.2.2.2 (AR ((b.2.1.length : Int) - 1)) i).map (Ei 2 CP)))], 7⟩ (by kernel_rfl) Z ?_ ?_
  .refine Tf <| Am 13 Z <| Al Z (AX Z (Bf ai Z Z Z Z <| A1 Z <| D7 ?_ ?_))
   .exact Am 1 Z <| Al Z (JK Z (HO (z := (⟨e.elem, e.in_, c.out⟩ : AT)) ai Z Z Z Z Z Z Z Z <| Al Z (AX Z (Bf ae Z Z Z Z <| Al Z (JK Z (HO (z := c.pos) ae Z Z Z Z Z Z Z Z <| A1 Z <| HP (wk (gi 3 [(3, 6), (4, 3), (5, 4), (6, 5)]) (Ks hA _) Z Z Z (.cons Z (.cons Z (.cons Z (.cons Z (.cons Z (.cons Z (.cons Z .nil))))))) (.cons Z Z (.cons Z Z (.cons Z (by simp only [BC]; rfl) (.cons Z Z (.cons Z Z (.cons Z Z (.cons Z Z .nil))))))))))))))
   refine D7 ?_ ?_
   .exact Al Z (JK Z (HO (z := (⟨e.elem, e.in_, c.out⟩ : AT)) ai Z Z Z Z Z Z Z Z <| Am 1 Z <| Al Z (AX Z (Bf ae Z Z Z Z <| Al Z (JK Z (HO (z := c.pos) ae Z Z Z Z Z Z Z Z <| A1 Z <| HP (wk (gi 3 [(3, 6), (4, 3), (5, 4), (6, 5)]) (Ks hA _) Z Z Z (.cons Z (.cons Z (.cons Z (.cons Z (.cons Z (.cons Z (.cons Z .nil))))))) (.cons Z Z (.cons Z Z (.cons Z (by simp only [BC]; rfl) (.cons Z Z (.cons Z Z (.cons Z Z (.cons Z Z .nil))))))))))))))
   exact KA
  refine AC <| AB ?_
  refine Bb AA Az [0, 1, 2, 3, 4, 5, 6, 7, 8, 9, 10, 11, 12] 13 (by kernel_rfl) Z Z Z ?_
  refine Am 5 Z <| bq c8 fun x av c9 => Al Z (AX Z (Bf av Z Z Z (by simp only [BC]) <| Am 1 Z <| Al Z (FE Z (Cl av Z Z Z <| A1 Z <| AC <| AB <| rs AA <| rn 2 Z <| bq c9 fun y bl da => sx Z (AS (D8 _ _ _ bl) (.inl Z) Z Z Z <| rl Z <| rs AA <| rl Z <| cd Z da (fun db => ?_) (fun ds => ?_))))))
  .refine rs AA <| rn 4 Z <| sx Z (Cn AA (fun o : ((List AT) × (List AJ)) => .p (.agg [.int .i64 g, .int .i64 y, .int .i64 1, .slice 3 (o.1.map Ae), .slice 2 (o.2.map AP), .slice 2 (([] : List AJ).map AP), .slice 1 (([] : List Int).map AW), .slice 1 (([] : List Int).map AW), .bool false])) (fun o : ((List AT) × (List AJ)) => [(0, .box [li d.1, li d.2.1]), (1, .row 36 9 (b.1.map AZ)), (2, .box [li j.1.elem, .lsl 4 3 0 (A9 b.2.1 (AR ((b.2.1.length : Int) - 1)) (⟨e.elem, e.in_, c.out⟩ : AT)).length, .lsl 5 1 0 (A9 b.2.2.1 (AR ((b.2.1.length : Int) - 1)) c.pos).length, .lsl 6 1 0 (A9 b.2.2.2 (AR ((b.2.1.length : Int) - 1)) i).length]), (3, .box [li c.out, li c.pos]), (4, .row 65 3 ((A9 b.2.1 (AR ((b.2.1.length : Int) - 1)) (⟨e.elem, e.in_, c.out⟩ : AT)).map Ae)), (5, .row 3 1 ((A9 b.2.2.1 (AR ((b.2.1.length : Int) - 1)) c.pos).map AW)), (6, .row 145 1 ((A9 b.2.2.2 (AR ((b.2.1.length : Int) - 1)) i).map (Ei 2 CP))), (18, .box [li x.elem, li c.out]), (20, .box [li g, li y, li 1, ls 3 Ae o.1, ls 2 AP o.2, ls 2 AP ([] : List AJ), ls 1 AW ([] : List Int), ls 1 AW ([] : List Int), lb false])]) 21 db Tryz.func191 56 [.cell 8 36] [(0, .lpb 2 0), (1, li g), (2, li y), (3, li 1)] Z Z Z Z Z Z Z Z (fun A hA o dc => ?_) (fun o dq => ?_))
   .refine rs AA <| rl Z <| rs AA <| rn 7 Z <| bq dc fun ac bm dd => sx Z (QH (Ez _ _ bm) (fun _ => Z) Z Z (Co.eq (.cons (.one (.own (enc := Ae) (A9 b.2.1 (AR ((b.2.1.length : Int) - 1)) (⟨e.elem, e.in_, c.out⟩ : AT)) Z (by simp only [BC]))) .nil)) <| rl Z <| AB <| rs AA <| rl Z <| AH ?_)
    apply lp (a := o) (fun v : (Int × (List AJ)) => ⟨56, [(0, .lpb 2 0), (8, .lpb 20 0), (9, .lpb 21 0), (24, .lsl 4 3 0 (A9 b.2.1 (AR ((b.2.1.length : Int) - 1)) (⟨e.elem, e.in_, c.out⟩ : AT)).length), (25, li ((A9 b.2.1 (AR ((b.2.1.length : Int) - 1)) (⟨e.elem, e.in_, c.out⟩ : AT)).length : Int)), (26, li v.1)], [(0, .box [li d.1, li d.2.1]), (1, .row 36 9 (b.1.map AZ)), (2, .box [li j.1.elem, .lsl 4 3 0 (A9 b.2.1 (AR ((b.2.1.length : Int) - 1)) (⟨e.elem, e.in_, c.out⟩ : AT)).length, .lsl 5 1 0 (A9 b.2.2.1 (AR ((b.2.1.length : Int) - 1)) c.pos).length, .lsl 6 1 0 (A9 b.2.2.2 (AR ((b.2.1.length : Int) - 1)) i).length]), (3, .box [li c.out, li c.pos]), (4, .row 65 3 ((A9 b.2.1 (AR ((b.2.1.length : Int) - 1)) (⟨e.elem, e.in_, c.out⟩ : AT)).map Ae)), (5, .row 3 1 ((A9 b.2.2.1 (AR ((b.2.1.length : Int) - 1)) c.pos).map AW)), (6, .row 145 1 ((A9 b.2.2.2 (AR ((b.2.1.length : Int) - 1)) i).map (Ei 2 CP))), (18, .box [li x.elem, li c.out]), (20, .box [li 0, li 0, li 0, .p (.nils), .p (.nils), .p (.nils), .p (.nils), .p (.nils), lb false]), (21, .box [li g, li y, li 1, .lsl 22 3 0 ac.length, .lsl 23 2 0 v.2.length, .p (.nils), .p (.nils), .p (.nils), lb false]), (22, .row 65 3 (ac.map Ae)), (23, .row 91 2 (v.2.map AP))], 24⟩) dd
    . exact A0.trans (CG 22 4 91 2 Z Z Z Z) (wk (gi 21 [(21, 22), (22, 21), (23, 23)]) (kept hA _ Z) Z Z Z (.cons Z (.cons Z (.cons Z (.cons (by simp only [BC]; rfl) (.cons Z (.cons Z .nil)))))) (.cons Z Z (.cons Z Z (.cons Z (by simp only [BC]; rfl) (.cons Z Z (.cons Z Z (.cons Z Z (.cons Z Z (.cons Z Z (.cons Z Z (.cons Z Z (.cons Z Z (.cons Z Z .nil)))))))))))))
    intro v e0 a5
    unfold Lh at a5
    refine rs AA <| rl Z <| AB <| cd Z a5 (fun de => ?_) (fun dn => ?_)
    .refine AD <| AC <| jb (fun ag : (List AJ) => ⟨56, [(0, .lpb 2 0), (8, .lpb 20 0), (9, .lpb 21 0), (24, .lsl 4 3 0 (A9 b.2.1 (AR ((b.2.1.length : Int) - 1)) (⟨e.elem, e.in_, c.out⟩ : AT)).length), (25, li ((A9 b.2.1 (AR ((b.2.1.length : Int) - 1)) (⟨e.elem, e.in_, c.out⟩ : AT)).length : Int)), (26, li v.1)], [(0, .box [li d.1, li d.2.1]), (1, .row 36 9 (b.1.map AZ)), (2, .box [li j.1.elem, .lsl 4 3 0 (A9 b.2.1 (AR ((b.2.1.length : Int) - 1)) (⟨e.elem, e.in_, c.out⟩ : AT)).length, .lsl 5 1 0 (A9 b.2.2.1 (AR ((b.2.1.length : Int) - 1)) c.pos).length, .lsl 6 1 0 (A9 b.2.2.2 (AR ((b.2.1.length : Int) - 1)) i).length]), (3, .box [li c.out, li c.pos]), (4, .row 65 3 ((A9 b.2.1 (AR ((b.2.1.length : Int) - 1)) (⟨e.elem, e.in_, c.out⟩ : AT)).map Ae)), (5, .row 3 1 ((A9 b.2.2.1 (AR ((b.2.1.length : Int) - 1)) c.pos).map AW)), (6, .row 145 1 ((A9 b.2.2.2 (AR ((b.2.1.length : Int) - 1)) i).map (Ei 2 CP))), (18, .box [li x.elem, li c.out]), (20, .box [li 0, li 0, li 0, .p (.nils), .p (.nils), .p (.nils), .p (.nils), .p (.nils), lb false]), (21, .box [li g, li y, li 1, .lsl 22 3 0 ac.length, .lsl 23 2 0 ag.length, .p (.nils), .p (.nils), .p (.nils), lb false]), (22, .row 65 3 (ac.map Ae)), (23, .row 91 2 (ag.map AP))], 24⟩) de (fun ag df => ?_) (fun ag dm => ?_)
     .refine AH <| rs AA <| rn 1 Z <| bq df fun el aw dg => sx Z (Bf aw Z Z Z (by simp only [BC]) <| sx Z (Cl aw Z Z Z <| rl Z <| rs AA <| rn 5 Z <| bq dg fun fj ax dh => sx Z (Bf ax Z Z Z (by simp only [BC]) <| sx Z (Cl ax Z Z Z <| rl Z <| cd Z dh (fun di => ?_) (fun dl => ?_)))))
      .refine Bb AA Az [0, 1, 2, 3, 4, 5, 6, 7, 8, 9, 10, 11, 12, 13, 14, 15] 16 (by kernel_rfl) Z Z Z ?_
       exact Am 9 Z <| bq di fun em ay dj => Al Z (AX Z (Bf ay Z Z Z (by simp only [BC]) <| Al Z (FE Z (Cl ay Z Z Z <| Am 2 Z <| bq dj fun fk bn dk => Al Z (BY (Au (enc := AP) (l := v.2) (m := [(⟨el.elem, em⟩ : AJ)]) bn (fun _ => ⟨Z, Z⟩) Z Z Z Z Z Z <| A1 Z <| Af <| AM dk (wk (gi 23 [(23, 38)]) (kept hA _ Z) Z Z Z (.cons Z (.cons Z (.cons Z (.cons (by simp only [BC]; rfl) (.cons Z (.cons Z .nil)))))) (.cons Z Z (.cons Z Z (.cons Z (by simp only [BC]; rfl) (.cons Z Z (.cons Z Z (.cons Z Z (.cons Z Z (.cons Z Z (.cons Z Z (.cons Z Z (.cons Z Z (.cons Z Z .nil)))))))))))))))))))
      exact AD <| Af <| AM dl (wk (gi 24 []) (kept hA _ Z) Z Z Z (.cons Z (.cons Z (.cons Z (.cons (by simp only [BC]; rfl) (.cons Z (.cons Z .nil)))))) (.cons Z Z (.cons Z Z (.cons Z (by simp only [BC]; rfl) (.cons Z Z (.cons Z Z (.cons Z Z (.cons Z Z (.cons Z Z (.cons Z Z (.cons Z Z (.cons Z Z (.cons Z Z .nil)))))))))))))
     exact rg AA <| rl Z <| Av dm (wk (gi 24 []) (kept hA _ Z) Z Z Z (.cons Z (.cons Z (.cons Z (.cons (by simp only [BC]; rfl) (.cons Z (.cons Z .nil)))))) (.cons Z Z (.cons Z Z (.cons Z (by simp only [BC]; rfl) (.cons Z Z (.cons Z Z (.cons Z Z (.cons Z Z (.cons Z Z (.cons Z Z (.cons Z Z (.cons Z Z (.cons Z Z .nil)))))))))))))
    refine AU <| Aa <| BG dn fun et dp => Ao <| AC <| rs AA <| rl Z <| AG ?_
    cases dp
    exact CS (nt := 56) (sl := [(8, .lpb 20 0)]) (A0.trans (EH 22 (Gx (enc := Ae) (l := ac) Z) (.cons 8 (.same _) .nil) (.cons 0 Z Z (.same _) (.cons 1 Z Z (.same _) (.cons 2 Z Z (.same _) (.cons 3 Z Z (.same _) (.cons 4 Z Z (.same _) (.cons 5 Z Z (.same _) (.cons 6 Z Z (.same _) (.cons 18 Z Z (.same _) (.cons 20 Z Z (.box (.cons (.same _) (.cons (.same _) (.cons (.same _) (.cons .hit (.cons (.same _) (.cons (.same _) (.cons (.same _) (.cons (.same _) (.cons (.same _) .nil)))))))))) (.cons 21 Z Z (.box (.cons (.same _) (.cons (.same _) (.cons (.same _) (.cons .hit (.cons (.same _) (.cons (.same _) (.cons (.same _) (.cons (.same _) (.cons (.same _) .nil)))))))))) (.cons 23 Z Z (.same _) .nil)))))))))))) (A0.trans (EH 23 (Gx (enc := AP) (l := v.2) Z) (.cons 8 (.same _) .nil) (.cons 0 Z Z (.same _) (.cons 1 Z Z (.same _) (.cons 2 Z Z (.same _) (.cons 3 Z Z (.same _) (.cons 4 Z Z (.same _) (.cons 5 Z Z (.same _) (.cons 6 Z Z (.same _) (.cons 18 Z Z (.same _) (.cons 20 Z Z (.box (.cons (.same _) (.cons (.same _) (.cons (.same _) (.cons (.same _) (.cons .hit (.cons (.same _) (.cons (.same _) (.cons (.same _) (.cons (.same _) .nil)))))))))) (.cons 21 Z Z (.box (.cons (.same _) (.cons (.same _) (.cons (.same _) (.cons (.same _) (.cons .hit (.cons (.same _) (.cons (.same _) (.cons (.same _) (.cons (.same _) .nil)))))))))) .nil))))))))))) (A0.trans (CE (.cons 8 (.same _) .nil) (.cons 0 Z Z (.same _) (.cons 1 Z Z (.same _) (.cons 2 Z Z (.same _) (.cons 3 Z Z (.same _) (.cons 4 Z Z (.same _) (.cons 5 Z Z (.same _) (.cons 6 Z Z (.same _) (.cons 18 Z Z (.same _) (.cons 20 Z Z (.box (.cons (.same _) (.cons (.same _) (.cons (.same _) (.cons (.same _) (.cons (.same _) (.cons (.nil 2) (.cons (.same _) (.cons (.same _) (.cons (.same _) .nil)))))))))) (.cons 21 Z Z (.same _) .nil))))))))))) (A0.trans (CE (.cons 8 (.same _) .nil) (.cons 0 Z Z (.same _) (.cons 1 Z Z (.same _) (.cons 2 Z Z (.same _) (.cons 3 Z Z (.same _) (.cons 4 Z Z (.same _) (.cons 5 Z Z (.same _) (.cons 6 Z Z (.same _) (.cons 18 Z Z (.same _) (.cons 20 Z Z (.box (.cons (.same _) (.cons (.same _) (.cons (.same _) (.cons (.same _) (.cons (.same _) (.cons (.same _) (.cons (.nil 1) (.cons (.same _) (.cons (.same _) .nil)))))))))) (.cons 21 Z Z (.same _) .nil))))))))))) (A0.trans (CE (.cons 8 (.same _) .nil) (.cons 0 Z Z (.same _) (.cons 1 Z Z (.same _) (.cons 2 Z Z (.same _) (.cons 3 Z Z (.same _) (.cons 4 Z Z (.same _) (.cons 5 Z Z (.same _) (.cons 6 Z Z (.same _) (.cons 18 Z Z (.same _) (.cons 20 Z Z (.box (.cons (.same _) (.cons (.same _) (.cons (.same _) (.cons (.same _) (.cons (.same _) (.cons (.same _) (.cons (.same _) (.cons (.nil 1) (.cons (.same _) .nil)))))))))) (.cons 21 Z Z (.same _) .nil))))))))))) (wk (gi 21 []) (kept hA _ Z) Z Z Z (.cons Z .nil) (.cons Z Z (.cons Z Z (.cons Z (by simp only [BC]; rfl) (.cons Z Z (.cons Z Z (.cons Z Z (.cons Z Z (.cons Z Z (.cons Z Z .nil))))))))))))))) Z
   exact rn 1 Z <| bq dq fun fl bo dr => sx Z (Au (enc := AZ) (l := b.1) (m := [(⟨g, y, 1, o.1, o.2, ([] : List AJ), ([] : List Int), ([] : List Int), false⟩ : AO)]) bo (fun _ => ⟨Z, Z⟩) Z Z Z Z Z Z <| rl Z <| AU <| Aa <| Ao <| Av dr (wk [(0, 0), (1, 22), (2, 2), (3, 4), (4, 5), (5, 6)] (Ks hA _) Z Z Z (.cons Z (.cons Z (.cons Z (.cons Z (.cons Z .nil))))) (.cons Z Z (.cons Z Z (.cons Z (by simp only [BC]; rfl) (.cons Z Z (.cons Z Z (.cons Z Z .nil))))))))
  refine AD <| AC <| rs AA <| rn 2 Z <| bq ds fun aa bp dt => sx Z (AS (CC _ _ _ bp) (.inl Z) Z Z Z <| rl Z <| AB <| rs AA <| rl Z <| cd Z dt (fun du => ?_) (fun ea => ?_))
  .refine rs AA <| rn 3 Z <| sx Z (Cn AA (fun q : ((List AT) × (List AJ)) => .p (.agg [.int .i64 g, .int .i64 (-1), .int .i64 3, .slice 3 (q.1.map Ae), .slice 2 (q.2.map AP), .slice 2 (([] : List AJ).map AP), .slice 1 (([] : List Int).map AW), .slice 1 (([] : List Int).map AW), .bool false])) (fun q : ((List AT) × (List AJ)) => [(0, .box [li d.1, li d.2.1]), (1, .row 36 9 (b.1.map AZ)), (2, .box [li j.1.elem, .lsl 4 3 0 (A9 b.2.1 (AR ((b.2.1.length : Int) - 1)) (⟨e.elem, e.in_, c.out⟩ : AT)).length, .lsl 5 1 0 (A9 b.2.2.1 (AR ((b.2.1.length : Int) - 1)) c.pos).length, .lsl 6 1 0 (A9 b.2.2.2 (AR ((b.2.1.length : Int) - 1)) i).length]), (3, .box [li c.out, li c.pos]), (4, .row 65 3 ((A9 b.2.1 (AR ((b.2.1.length : Int) - 1)) (⟨e.elem, e.in_, c.out⟩ : AT)).map Ae)), (5, .row 3 1 ((A9 b.2.2.1 (AR ((b.2.1.length : Int) - 1)) c.pos).map AW)), (6, .row 145 1 ((A9 b.2.2.2 (AR ((b.2.1.length : Int) - 1)) i).map (Ei 2 CP))), (18, .box [li x.elem, li c.out]), (20, .box [li aa.1.elem, li aa.1.fin]), (21, .box [li g, li (-1), li 3, ls 3 Ae q.1, ls 2 AP q.2, ls 2 AP ([] : List AJ), ls 1 AW ([] : List Int), ls 1 AW ([] : List Int), lb false])]) 22 du Tryz.func191 56 [.cell 8 36] [(0, .lpb 2 0), (1, li g), (2, li (-1)), (3, li 3)] Z Z Z Z Z Z Z Z (fun A hA q dv => ?_) (fun q d8 => ?_))
   .refine rs AA <| rl Z <| rs AA <| rn 7 Z <| bq dv fun ad br dw => sx Z (QH (Ez _ _ br) (fun _ => Z) Z Z (Co.eq (.cons (.one (.own (enc := Ae) (A9 b.2.1 (AR ((b.2.1.length : Int) - 1)) (⟨e.elem, e.in_, c.out⟩ : AT)) Z (by simp only [BC]))) .nil)) <| rl Z <| AB <| rs AA <| rl Z <| AH ?_)
    apply lp (a := q) (fun w : (Int × (List AJ)) => ⟨56, [(0, .lpb 2 0), (8, .lpb 21 0), (9, .lpb 22 0), (24, .lsl 4 3 0 (A9 b.2.1 (AR ((b.2.1.length : Int) - 1)) (⟨e.elem, e.in_, c.out⟩ : AT)).length), (25, li ((A9 b.2.1 (AR ((b.2.1.length : Int) - 1)) (⟨e.elem, e.in_, c.out⟩ : AT)).length : Int)), (26, li w.1)], [(0, .box [li d.1, li d.2.1]), (1, .row 36 9 (b.1.map AZ)), (2, .box [li j.1.elem, .lsl 4 3 0 (A9 b.2.1 (AR ((b.2.1.length : Int) - 1)) (⟨e.elem, e.in_, c.out⟩ : AT)).length, .lsl 5 1 0 (A9 b.2.2.1 (AR ((b.2.1.length : Int) - 1)) c.pos).length, .lsl 6 1 0 (A9 b.2.2.2 (AR ((b.2.1.length : Int) - 1)) i).length]), (3, .box [li c.out, li c.pos]), (4, .row 65 3 ((A9 b.2.1 (AR ((b.2.1.length : Int) - 1)) (⟨e.elem, e.in_, c.out⟩ : AT)).map Ae)), (5, .row 3 1 ((A9 b.2.2.1 (AR ((b.2.1.length : Int) - 1)) c.pos).map AW)), (6, .row 145 1 ((A9 b.2.2.2 (AR ((b.2.1.length : Int) - 1)) i).map (Ei 2 CP))), (18, .box [li x.elem, li c.out]), (20, .box [li aa.1.elem, li aa.1.fin]), (21, .box [li 0, li 0, li 0, .p (.nils), .p (.nils), .p (.nils), .p (.nils), .p (.nils), lb false]), (22, .box [li g, li (-1), li 3, .lsl 23 3 0 ad.length, .lsl 24 2 0 w.2.length, .p (.nils), .p (.nils), .p (.nils), lb false]), (23, .row 65 3 (ad.map Ae)), (24, .row 91 2 (w.2.map AP))], 25⟩) dw
    . exact A0.trans (CG 23 4 91 2 Z Z Z Z) (wk (gi 22 [(22, 23), (23, 22), (24, 24)]) (kept hA _ Z) Z Z Z (.cons Z (.cons Z (.cons Z (.cons (by simp only [BC]; rfl) (.cons Z (.cons Z .nil)))))) (.cons Z Z (.cons Z Z (.cons Z (by simp only [BC]; rfl) (.cons Z Z (.cons Z Z (.cons Z Z (.cons Z Z (.cons Z Z (.cons Z Z (.cons Z Z (.cons Z Z (.cons Z Z (.cons Z Z .nil))))))))))))))
    intro w e1 a6
    unfold Li at a6
    refine rs AA <| rl Z <| AB <| cd Z a6 (fun dx => ?_) (fun d6 => ?_)
    .refine AD <| AC <| jb (fun ah : (List AJ) => ⟨56, [(0, .lpb 2 0), (8, .lpb 21 0), (9, .lpb 22 0), (24, .lsl 4 3 0 (A9 b.2.1 (AR ((b.2.1.length : Int) - 1)) (⟨e.elem, e.in_, c.out⟩ : AT)).length), (25, li ((A9 b.2.1 (AR ((b.2.1.length : Int) - 1)) (⟨e.elem, e.in_, c.out⟩ : AT)).length : Int)), (26, li w.1)], [(0, .box [li d.1, li d.2.1]), (1, .row 36 9 (b.1.map AZ)), (2, .box [li j.1.elem, .lsl 4 3 0 (A9 b.2.1 (AR ((b.2.1.length : Int) - 1)) (⟨e.elem, e.in_, c.out⟩ : AT)).length, .lsl 5 1 0 (A9 b.2.2.1 (AR ((b.2.1.length : Int) - 1)) c.pos).length, .lsl 6 1 0 (A9 b.2.2.2 (AR ((b.2.1.length : Int) - 1)) i).length]), (3, .box [li c.out, li c.pos]), (4, .row 65 3 ((A9 b.2.1 (AR ((b.2.1.length : Int) - 1)) (⟨e.elem, e.in_, c.out⟩ : AT)).map Ae)), (5, .row 3 1 ((A9 b.2.2.1 (AR ((b.2.1.length : Int) - 1)) c.pos).map AW)), (6, .row 145 1 ((A9 b.2.2.2 (AR ((b.2.1.length : Int) - 1)) i).map (Ei 2 CP))), (18, .box [li x.elem, li c.out]), (20, .box [li aa.1.elem, li aa.1.fin]), (21, .box [li 0, li 0, li 0, .p (.nils), .p (.nils), .p (.nils), .p (.nils), .p (.nils), lb false]), (22, .box [li g, li (-1), li 3, .lsl 23 3 0 ad.length, .lsl 24 2 0 ah.length, .p (.nils), .p (.nils), .p (.nils), lb false]), (23, .row 65 3 (ad.map Ae)), (24, .row 91 2 (ah.map AP))], 25⟩) dx (fun ah dy => ?_) (fun ah d5 => ?_)
     .refine AH <| rs AA <| rn 1 Z <| bq dy fun eo az dz => sx Z (Bf az Z Z Z (by simp only [BC]) <| sx Z (Cl az Z Z Z <| rl Z <| rs AA <| rn 5 Z <| bq dz fun fm a0 d0 => sx Z (Bf a0 Z Z Z (by simp only [BC]) <| sx Z (Cl a0 Z Z Z <| rl Z <| cd Z d0 (fun d1 => ?_) (fun d4 => ?_)))))
      .refine Bb AA Az [0, 1, 2, 3, 4, 5, 6, 7, 8, 9, 10, 11, 12, 13, 14, 15] 16 (by kernel_rfl) Z Z Z ?_
       exact Am 9 Z <| bq d1 fun ep a1 d2 => Al Z (AX Z (Bf a1 Z Z Z (by simp only [BC]) <| Al Z (FE Z (Cl a1 Z Z Z <| Am 2 Z <| bq d2 fun fo bs d3 => Al Z (BY (Au (enc := AP) (l := w.2) (m := [(⟨eo.elem, ep⟩ : AJ)]) bs (fun _ => ⟨Z, Z⟩) Z Z Z Z Z Z <| A1 Z <| Af <| AM d3 (wk (gi 24 [(24, 39)]) (kept hA _ Z) Z Z Z (.cons Z (.cons Z (.cons Z (.cons (by simp only [BC]; rfl) (.cons Z (.cons Z .nil)))))) (.cons Z Z (.cons Z Z (.cons Z (by simp only [BC]; rfl) (.cons Z Z (.cons Z Z (.cons Z Z (.cons Z Z (.cons Z Z (.cons Z Z (.cons Z Z (.cons Z Z (.cons Z Z (.cons Z Z .nil))))))))))))))))))))
      exact AD <| Af <| AM d4 (wk (gi 25 []) (kept hA _ Z) Z Z Z (.cons Z (.cons Z (.cons Z (.cons (by simp only [BC]; rfl) (.cons Z (.cons Z .nil)))))) (.cons Z Z (.cons Z Z (.cons Z (by simp only [BC]; rfl) (.cons Z Z (.cons Z Z (.cons Z Z (.cons Z Z (.cons Z Z (.cons Z Z (.cons Z Z (.cons Z Z (.cons Z Z (.cons Z Z .nil))))))))))))))
     exact rg AA <| rl Z <| Av d5 (wk (gi 25 []) (kept hA _ Z) Z Z Z (.cons Z (.cons Z (.cons Z (.cons (by simp only [BC]; rfl) (.cons Z (.cons Z .nil)))))) (.cons Z Z (.cons Z Z (.cons Z (by simp only [BC]; rfl) (.cons Z Z (.cons Z Z (.cons Z Z (.cons Z Z (.cons Z Z (.cons Z Z (.cons Z Z (.cons Z Z (.cons Z Z (.cons Z Z .nil))))))))))))))
    refine AU <| Aa <| BG d6 fun eu d7 => Ao <| AC <| rs AA <| rl Z <| AG ?_
    cases d7
    exact CS (nt := 56) (sl := [(8, .lpb 21 0)]) (A0.trans (EH 23 (Gx (enc := Ae) (l := ad) Z) (.cons 8 (.same _) .nil) (.cons 0 Z Z (.same _) (.cons 1 Z Z (.same _) (.cons 2 Z Z (.same _) (.cons 3 Z Z (.same _) (.cons 4 Z Z (.same _) (.cons 5 Z Z (.same _) (.cons 6 Z Z (.same _) (.cons 18 Z Z (.same _) (.cons 20 Z Z (.same _) (.cons 21 Z Z (.box (.cons (.same _) (.cons (.same _) (.cons (.same _) (.cons .hit (.cons (.same _) (.cons (.same _) (.cons (.same _) (.cons (.same _) (.cons (.same _) .nil)))))))))) (.cons 22 Z Z (.box (.cons (.same _) (.cons (.same _) (.cons (.same _) (.cons .hit (.cons (.same _) (.cons (.same _) (.cons (.same _) (.cons (.same _) (.cons (.same _) .nil)))))))))) (.cons 24 Z Z (.same _) .nil))))))))))))) (A0.trans (EH 24 (Gx (enc := AP) (l := w.2) Z) (.cons 8 (.same _) .nil) (.cons 0 Z Z (.same _) (.cons 1 Z Z (.same _) (.cons 2 Z Z (.same _) (.cons 3 Z Z (.same _) (.cons 4 Z Z (.same _) (.cons 5 Z Z (.same _) (.cons 6 Z Z (.same _) (.cons 18 Z Z (.same _) (.cons 20 Z Z (.same _) (.cons 21 Z Z (.box (.cons (.same _) (.cons (.same _) (.cons (.same _) (.cons (.same _) (.cons .hit (.cons (.same _) (.cons (.same _) (.cons (.same _) (.cons (.same _) .nil)))))))))) (.cons 22 Z Z (.box (.cons (.same _) (.cons (.same _) (.cons (.same _) (.cons (.same _) (.cons .hit (.cons (.same _) (.cons (.same _) (.cons (.same _) (.cons (.same _) .nil)))))))))) .nil)))))))))))) (A0.trans (CE (.cons 8 (.same _) .nil) (.cons 0 Z Z (.same _) (.cons 1 Z Z (.same _) (.cons 2 Z Z (.same _) (.cons 3 Z Z (.same _) (.cons 4 Z Z (.same _) (.cons 5 Z Z (.same _) (.cons 6 Z Z (.same _) (.cons 18 Z Z (.same _) (.cons 20 Z Z (.same _) (.cons 21 Z Z (.box (.cons (.same _) (.cons (.same _) (.cons (.same _) (.cons (.same _) (.cons (.same _) (.cons (.nil 2) (.cons (.same _) (.cons (.same _) (.cons (.same _) .nil)))))))))) (.cons 22 Z Z (.same _) .nil)))))))))))) (A0.trans (CE (.cons 8 (.same _) .nil) (.cons 0 Z Z (.same _) (.cons 1 Z Z (.same _) (.cons 2 Z Z (.same _) (.cons 3 Z Z (.same _) (.cons 4 Z Z (.same _) (.cons 5 Z Z (.same _) (.cons 6 Z Z (.same _) (.cons 18 Z Z (.same _) (.cons 20 Z Z (.same _) (.cons 21 Z Z (.box (.cons (.same _) (.cons (.same _) (.cons (.same _) (.cons (.same _) (.cons (.same _) (.cons (.same _) (.cons (.nil 1) (.cons (.same _) (.cons (.same _) .nil)))))))))) (.cons 22 Z Z (.same _) .nil)))))))))))) (A0.trans (CE (.cons 8 (.same _) .nil) (.cons 0 Z Z (.same _) (.cons 1 Z Z (.same _) (.cons 2 Z Z (.same _) (.cons 3 Z Z (.same _) (.cons 4 Z Z (.same _) (.cons 5 Z Z (.same _) (.cons 6 Z Z (.same _) (.cons 18 Z Z (.same _) (.cons 20 Z Z (.same _) (.cons 21 Z Z (.box (.cons (.same _) (.cons (.same _) (.cons (.same _) (.cons (.same _) (.cons (.same _) (.cons (.same _) (.cons (.same _) (.cons (.nil 1) (.cons (.same _) .nil)))))))))) (.cons 22 Z Z (.same _) .nil)))))))))))) (wk (gi 22 []) (kept hA _ Z) Z Z Z (.cons Z .nil) (.cons Z Z (.cons Z Z (.cons Z (by simp only [BC]; rfl) (.cons Z Z (.cons Z Z (.cons Z Z (.cons Z Z (.cons Z Z (.cons Z Z (.cons Z Z .nil)))))))))))))))) Z
   exact rn 1 Z <| bq d8 fun fp bt d9 => sx Z (Au (enc := AZ) (l := b.1) (m := [(⟨g, (-1), 3, q.1, q.2, ([] : List AJ), ([] : List Int), ([] : List Int), false⟩ : AO)]) bt (fun _ => ⟨Z, Z⟩) Z Z Z Z Z Z <| rl Z <| AU <| Aa <| Ao <| Av d9 (wk [(0, 0), (1, 23), (2, 2), (3, 4), (4, 5), (5, 6)] (Ks hA _) Z Z Z (.cons Z (.cons Z (.cons Z (.cons Z (.cons Z .nil))))) (.cons Z Z (.cons Z Z (.cons Z (by simp only [BC]; rfl) (.cons Z Z (.cons Z Z (.cons Z Z .nil))))))))
  exact AD <| AC <| rs AA <| rl Z <| AU <| NO Z <| BG ea fun ev eb => NO Z <| Aa <| Z0 <| Ao <| Av eb (wk (gi 3 [(3, 4), (4, 5), (5, 6)]) (Ks hA _) Z Z Z (.cons Z (.cons Z (.cons Z (.cons Z (.cons Z .nil))))) (.cons Z Z (.cons Z Z (.cons Z (by simp only [BC]; rfl) (.cons Z Z (.cons Z Z (.cons Z Z .nil)))))))
 refine AU <| Aa <| BG ec fun ew ed => Ao <| AC <| AU <| Z0 <| NO Z <| BG ed fun ex ee => Ao <| AC <| rs AA <| rl Z <| AG <| EF ?_
 cases ee
 exact er (GM Z (.one (.own (enc := AZ) b.1 Z Z))) Le.rfl
end Go.E
/- Plain functions, and walks in step with them. Written by a program (gen.py). No condition. -/
set_option maxRecDepth 100000
namespace Go.E
open Go Go.RowKit Go.Proofs
noncomputable def N9 (b : BL) (e : Int) (a : Int × (List AO)) : Option ((Int × (List AO)) ⊕ ((List AO) × Int)) :=
 bif decide (a.1 < e) then (I5 b a.1).bind fun c => (A8 a.2 c).bind fun d => some (.inl (AR (a.1 + 1), d)) else (bif decide (64 < (a.2.length : Int)) then some (([] : List AO), 3) else some (a.2, 0)).map .inr
noncomputable def Nh (a : BL) : Option ((List AO) × Int) :=
 (CW a).bind fun b => AQ (N9 a b) (0, ([] : List AO))
theorem Wk (c : BL) (r : ((List AO) × Int)) (h : Nh c = some r) : Jv Tryz.prog 135 [] 0 [lq (A7 c)] (.tup [.lsl 0 9 0 r.1.length, li r.2]) [(0, .row 36 9 (r.1.map AZ))] 1 := by
 refine Xc AA Tryz.func135 21 [.tmp 2, .tmp 3] [(0, lq (A7 c))] Z Z Z Z Z Z (fun A hA => ?_)
 unfold Nh at h
 refine rs AA <| rl Z <| rs AA <| rl Z <| AB <| rs AA <| rn 1 Z <| bq h fun u g s => sx Z (AS (IK _ _ g) (.inl Z) Z Z Z <| rl Z <| AH ?_)
 apply lp (a := r) (fun b : (Int × (List AO)) => ⟨21, [(0, lq (A7 c)), (4, .lsl 0 9 0 b.2.length), (7, li u), (8, li b.1)], [(0, .row 36 9 (b.2.map AZ))], 1⟩) s
 . exact A0.trans (Bm 4 36 9 Z) (wj hA [(0, 0)] Z Z Z Z)
 intro b w d
 unfold N9 at d
 refine rs AA <| rl Z <| AB <| cd Z d (fun i => ?_) (fun n => ?_)
 .exact AD <| AC <| AB <| AH <| rs AA <| rl Z <| rg AA <| rn 3 Z <| bq i fun t e j => sx Z (AS (Si _ _ _ e) (.inr Z) Z Z Z <| bq j fun x f k => sx Z (Au (enc := AZ) (l := b.2) (m := t) f (fun _ => ⟨Z, Z⟩) Z Z Z Z Z Z <| rl Z <| Af <| AC <| rg AA <| rl Z <| Av k (wj hA [(0, 1)] Z Z Z Z)))
 refine AU <| Aa <| CU n fun v o => Ao <| AC <| AB <| rs AA <| rl Z <| cd Z o (fun p => ?_) (fun q => ?_)
 .refine rs AA <| rl Z <| AG <| AI ?_
  cases p
  exact CS (nt := 21) (sl := [(2, .lsl 0 9 0 ([] : List AO).length), (3, li 3)]) (A0.trans (Bm 2 36 9 Z) (wj hA [(0, 1)] Z Z Z Z)) Z
 refine AD <| AC <| rs AA <| rl Z <| AG ?_
 cases q
 exact CS (nt := 21) (sl := [(2, .lsl 0 9 0 b.2.length), (3, li 0)]) (wj hA [(0, 0)] Z Z Z Z) Z
noncomputable def Lj (b : BL) (f : ((List AO) × Int)) (a : Int × (List AO)) : Option ((Int × (List AO)) ⊕ (B2 × Int)) :=
 bif decide (a.1 < (f.1.length : Int)) then (Ak a.2 a.1).bind fun c => (C8 b c).bind fun d => (Ak a.2 a.1).bind fun g => some (.inl (AR (a.1 + 1), A9 a.2 a.1 d)) else ((Cy b).bind fun e => some ((⟨e, a.2⟩ : B2), 0)).map .inr
noncomputable def Ku (d : AN) : Option (B2 × Int) :=
 (Hm d).bind fun a => T7 a.1 (bif (a.2 != 0) then some ((⟨(⟨[], [], [], [], 0, 0, 0, 0, false⟩ : AN), []⟩ : B2), a.2) else none) fun c => bif (a.2 != 0) then some ((⟨(⟨[], [], [], [], 0, 0, 0, 0, false⟩ : AN), []⟩ : B2), a.2) else (Nh c).bind fun b => bif (b.2 != 0) then some ((⟨(⟨[], [], [], [], 0, 0, 0, 0, false⟩ : AN), []⟩ : B2), b.2) else AQ (Lj c b) (0, b.1)
theorem TH (d : AN) (r : (B2 × Int)) (h : Ku d = some r) : A5 Tryz.prog 75 [.agg (AY d)] (· = .tup [.agg (B4 r.1), .int .i64 r.2]) := by
 refine fn AA Tryz.func75 Z Z 45 Z [.cell 2 68, .tmp 3] Z [(0, .p (.agg (AY d)))] Z Z fun A hA => ?_
 unfold Ku at h
 refine rs AA <| rl Z <| rs AA <| rn 1 Z <| bq h fun af l b => sx Z (AS (Sj _ _ l) (.inr Z) Z Z Z ?_)
 revert b; rcases aj : af.1 with _ | ag <;> intro b
 .replace b := omN b
  refine rl Z <| AB <| rs AA <| rl Z <| cd Z b (fun ac => ?_) (fun m => ?_)
  .refine rs AA <| rl Z <| AG <| AI ?_
   cases ac
   exact er Z (Le.tup' (.cons (Le.agg' (.cons (Le.nil _) (.cons (Le.nil _) (.cons (Le.nil _) (.cons (Le.nil _) (.cons Le.rfl (.cons Le.rfl (.cons Le.rfl (.cons Le.rfl (.cons Le.rfl (.cons (Le.nil _) .nil))))))))))) (.cons Le.rfl .nil)))
  refine AD <| AC <| rs AA <| rn 1 Z ?_
  cases m
 replace b := omS b
 refine rl Z <| AB <| rs AA <| rl Z <| cd Z b (fun v => ?_) (fun x => ?_)
 .refine rs AA <| rl Z <| AG <| AI ?_
  cases v
  exact er Z (Le.tup' (.cons (Le.agg' (.cons (Le.nil _) (.cons (Le.nil _) (.cons (Le.nil _) (.cons (Le.nil _) (.cons Le.rfl (.cons Le.rfl (.cons Le.rfl (.cons Le.rfl (.cons Le.rfl (.cons (Le.nil _) .nil))))))))))) (.cons Le.rfl .nil)))
 refine AD <| AC <| rs AA <| rn 1 Z <| bq x fun ae k y => sx Z (HE (c' := 3) (Wk _ _ k) [] Z trivial Z Z Z Z Z Z Z <| rl Z <| AB <| rs AA <| rl Z <| cd Z y (fun aa => ?_) (fun ab => ?_))
 .refine rs AA <| rl Z <| AG <| AI ?_
  cases aa
  exact er Z (Le.tup' (.cons (Le.agg' (.cons (Le.nil _) (.cons (Le.nil _) (.cons (Le.nil _) (.cons (Le.nil _) (.cons Le.rfl (.cons Le.rfl (.cons Le.rfl (.cons Le.rfl (.cons Le.rfl (.cons (Le.nil _) .nil))))))))))) (.cons Le.rfl .nil)))
 refine AD <| AC <| AB <| rs AA <| rl Z <| AH ?_
 apply lp (a := r) (fun c : (Int × (List AO)) => ⟨45, [(2, .lpb 0 0), (4, lq (A7 ag)), (6, .lsl 1 9 0 c.2.length), (27, li (ae.1.length : Int)), (28, li c.1)], [(0, .box [.p (.nils), .p (.nils), .p (.nils), .p (.nils), li 0, li 0, li 0, li 0, lb false, .p (.nils)]), (1, .row 36 9 (c.2.map AZ))], 2⟩) ab
 . exact wf hA [(0, 1), (1, 2)] Z Z Z
 intro c ai g
 unfold Lj at g
 refine rs AA <| rl Z <| AB <| cd Z g (fun n => ?_) (fun t => ?_)
 .exact AD <| AC <| AB <| AH <| rs AA <| rl Z <| rg AA <| rn 5 Z <| bq n fun ak e o => sx Z (Bf e Z Z Z Z <| sx Z (Cl e Z Z Z <| bq o fun ad i q => sx Z (AS (Q9 _ _ _ i) (.inr Z) Z Z Z <| bq q fun al f s => sx Z (Bf f Z Z Z Z <| sx Z (HO (z := ad) f Z Z Z Z Z Z Z Z <| rl Z <| Af <| AC <| rg AA <| rl Z <| Av s (wk [(0, 0), (1, 1)] (Ks hA _) Z Z Z (.cons Z (.cons Z (.cons (by simp only [BC]; rfl) (.cons Z (.cons Z .nil))))) (.cons Z Z (.cons Z Z .nil))))))))
 refine AU <| Aa <| CU t fun ah u => Ao <| AC <| rs AA <| rn 1 Z <| bq u fun am j w => sx Z (AS (Jw _ _ j) (.inr Z) Z Z Z <| rl Z <| AG ?_)
 cases w
 exact er (SZ Z (.cons (.agg (.cons (.p _) (.cons (.p _) (.cons (.p _) (.cons (.p _) (.cons (.p _) (.cons (.p _) (.cons (.p _) (.cons (.p _) (.cons (.p _) (.cons (.own (enc := AZ) c.2 Z Z) .nil))))))))))) (.cons (.one (.p _)) .nil))) Le.rfl
noncomputable def KB (a : AT) (b : AT) : Option Bool :=
 some (a.elem == b.elem)
theorem VH (a : AT) (b : AT) (r : Bool) (h : KB a b = some r) : A5 Tryz.prog 97 [.agg (Ae a), .place (Ae b) 0] (· = .bool r) := by
 refine fn AA Tryz.func97 Z Z 9 Z [.tmp 3] Z [(0, .p (.agg (Ae a))), (1, .p (.place (Ae b) 0))] Z Z fun A hA => ?_
 unfold KB at h
 refine rs AA <| rl Z <| rs AA <| rl Z <| AG ?_
 cases h
 exact er Z Le.rfl
noncomputable def KC (a : BS) (b : AT) : Option Bool :=
 some (a.out == b.out)
theorem VI (a : BS) (b : AT) (r : Bool) (h : KC a b = some r) : A5 Tryz.prog 100 [.agg (CP a), .place (Ae b) 0] (· = .bool r) := by
 refine fn AA Tryz.func100 Z Z 9 Z [.tmp 3] Z [(0, .p (.agg (CP a))), (1, .p (.place (Ae b) 0))] Z Z fun A hA => ?_
 unfold KC at h
 refine rs AA <| rl Z <| rs AA <| rl Z <| AG ?_
 cases h
 exact er Z Le.rfl
noncomputable def IY (c : BL) (a : AO) (b : AT) : Option Bool :=
 (Bz c b.elem).bind fun h => bif (h == 4) then ((bif (a.fin == 2) then some (a.to == (-1)) else some false : Option (Bool))).bind fun (e : Bool) => some e else (Bv c (⟨b.elem, b.out⟩ : AF)).bind fun d => bif decide (0 <= d) then ((bif (a.fin == 1) then some (a.to == d) else some false : Option (Bool))).bind fun (f : Bool) => some f else (Ba c (⟨b.elem, b.out⟩ : AF)).bind fun i => ((bif (!i.2) then bif (a.fin == 3) then some (a.to == (-1)) else some false else some false : Option (Bool))).bind fun (g : Bool) => some g
theorem VJ (d : BL) (e : AO) (f : AT) (r : Bool) (h : IY d e f = some r) : A5 Tryz.prog 101 [.place (A7 d) 0, .agg (AZ e), .agg (Ae f)] (· = .bool r) := by
 refine fn AA Tryz.func101 Z Z 61 Z [.tmp 6] Z [(0, .p (.place (A7 d) 0)), (1, .p (.agg (AZ e))), (2, .p (.agg (Ae f)))] Z Z fun A hA => ?_
 unfold IY at h
 refine rs AA <| rl Z <| AB <| rs AA <| rn 3 Z <| bq h fun ah g k => sx Z (AS (Cx _ _ _ g) (.inl Z) Z Z Z <| rl Z <| cd Z k (fun l => ?_) (fun s => ?_))
 .refine jb (fun a : Bool => ⟨61, [(6, lb a)], [], 0⟩) l (fun a m => ?_) (fun a q => ?_)
  .refine rg AA <| rn 4 Z <| gs 19 m Z Z Z (fun n => ?_) (fun o => ?_)
   .exact rl Z <| AM n (wf hA [] Z Z Z)
   exact rl Z <| AM o (wf hA [] Z Z Z)
  refine AG <| AI ?_
  have hr := Option.some.inj q; subst hr
  exact er Z Le.rfl
 refine AD <| AC <| rs AA <| rl Z <| AB <| rs AA <| rn 2 Z <| bq s fun ai i t => sx Z (AS (D8 _ _ _ i) (.inl Z) Z Z Z <| rl Z <| rs AA <| rl Z <| cd Z t (fun u => ?_) (fun z => ?_))
 .refine jb (fun b : Bool => ⟨61, [(6, lb b)], [], 0⟩) u (fun b v => ?_) (fun b y => ?_)
  .refine rg AA <| rn 4 Z <| gs 37 v Z Z Z (fun w => ?_) (fun x => ?_)
   .exact rl Z <| AM w (wf hA [] Z Z Z)
   exact rl Z <| AM x (wf hA [] Z Z Z)
  refine AG <| AI ?_
  have hr := Option.some.inj y; subst hr
  exact er Z Le.rfl
 refine AD <| AC <| rs AA <| rn 2 Z <| bq z fun aj j aa => sx Z (AS (CC _ _ _ j) (.inl Z) Z Z Z <| rl Z <| jb (fun c : Bool => ⟨61, [(6, lb c)], [], 0⟩) aa (fun c ab => ?_) (fun c ag => ?_))
 .refine rg AA <| rn 3 Z <| gs 51 ab Z Z Z (fun ac => ?_) (fun af => ?_)
  .refine rn 5 Z <| gs 56 ac Z Z Z (fun ad => ?_) (fun ae => ?_)
   .exact rl Z <| AM ad (wf hA [] Z Z Z)
   exact rl Z <| AM ae (wf hA [] Z Z Z)
  exact rl Z <| AM af (wf hA [] Z Z Z)
 refine AG ?_
 have hr := Option.some.inj ag; subst hr
 exact er Z Le.rfl
noncomputable def ET (b : (List AJ)) (c : (List AJ)) (a : Int) : Option (Int ⊕ Bool) :=
 bif decide (a < (b.length : Int)) then (Ak b a).bind fun d => (Ak c a).bind fun e => bif (!(d == e)) then some (.inr false) else some (.inl (AR (a + 1))) else some (.inr true)
noncomputable def C5 (a : (List AJ)) (b : (List AJ)) : Option Bool :=
 bif ((a.length : Int) != (b.length : Int)) then some false else AQ (ET a b) 0
theorem MT (b : (List AJ)) (c : (List AJ)) (r : Bool) (h : C5 b c = some r) : A5 Tryz.prog 102 [.slice 2 (b.map AP), .slice 2 (c.map AP)] (· = .bool r) := by
 refine fn AA Tryz.func102 Z Z 26 Z [.tmp 4] Z [(0, .p (.slice 2 (b.map AP))), (1, .p (.slice 2 (c.map AP)))] Z Z fun A hA => ?_
 unfold C5 at h
 refine rs AA <| rl Z <| AB <| rs AA <| rn 1 Z <| sx Z (An Z Z <| rn 1 Z <| sx Z (An Z Z <| rl Z <| cd Z h (fun s => ?_) (fun t => ?_)))
 .refine rs AA <| rl Z <| AG <| AI ?_
  cases s
  exact er Z Le.rfl
 refine AD <| AC <| AB <| rs AA <| rn 1 Z <| sx Z (An Z Z <| rl Z <| AH ?_)
 apply lp (a := r) (fun e : Int => ⟨26, [(0, ls 2 AP b), (1, ls 2 AP c), (12, li (b.length : Int)), (13, li e)], [], 0⟩) t
 . exact wf hA [] Z Z Z
 intro e y d
 unfold ET at d
 refine rs AA <| rl Z <| AB <| cd Z d (fun i => ?_) (fun o => ?_)
 .refine AD <| AC <| AB <| AH <| rs AA <| rl Z <| AB ?_
  refine Bb AA Az [0, 1, 2, 3, 4, 5, 6, 7, 8] 9 (by kernel_rfl) Z Z Z ?_
  refine Am 2 Z <| bq i fun u f j => Al Z (AX Z (Aj f Z Z Z <| Am 3 Z <| bq j fun v g k => Al Z (AX Z (Aj g Z Z Z <| Am 1 Z <| Al Z (Qs (Ni u v) Z Z Z Z Z <| A1 Z <| AC <| cd Z k (fun l => ?_) (fun n => ?_))))))
  .refine rs AA <| rl Z <| AG <| AV <| AI <| A4 l fun w m => AV <| AI ?_
   cases m
   exact er Z Le.rfl
  exact AD <| Af <| AC <| rg AA <| rl Z <| Av n (wf hA [] Z Z Z)
 refine AU <| Aa <| BG o fun x q => Ao <| AC <| rs AA <| rl Z <| AG ?_
 cases q
 exact er Z Le.rfl
noncomputable def Fx (c : AT) (b : (List AT)) (a : Int) : Option (Int ⊕ Int) :=
 bif decide (a < (b.length : Int)) then (Ak b a).bind fun d => (KB d c).bind fun e => bif e then some (.inr a) else some (.inl (AR (a + 1))) else some (.inr (-1))
noncomputable def Fy (c : AT) (b : (List BS)) (a : Int) : Option (Int ⊕ Int) :=
 bif decide (a < (b.length : Int)) then (Ak b a).bind fun d => (KC d c).bind fun e => bif e then some (.inr a) else some (.inl (AR (a + 1))) else some (.inr (-1))
noncomputable def CL (c : BL) (d : AO) (n : (AF × Bool)) (b : Bool × Int × Int × Int × (List AJ)) : Option ((Bool × Int × Int × Int × (List AJ)) ⊕ ((List AJ) ⊕ Bool)) :=
 bif decide (b.2.1 < (d.steps.length : Int)) then (Ak d.steps b.2.1).bind fun a => ((bif (!b.1) then some true else bif (a.elem != b.2.2.1) then some true else bif (a.in_ != b.2.2.2.1) then some true else bif (a.elem == n.1.elem) then some true else (I3 d.steps 0 b.2.1).bind fun o => ((((AQ (Fx a o) 0 : Option (Int))).bind fun (j : Int) => some (decide (0 <= j)) : Option (Bool))).bind fun (i : Bool) => some i : Option (Bool))).bind fun (h : Bool) => bif h then some (.inr (.inr false)) else (Bz c a.elem).bind fun p => bif (p == 4) then ((bif (!(b.2.1 == (AR ((d.steps.length : Int) - 1)))) then some true else some (a.out != (-1)) : Option (Bool))).bind fun (k : Bool) => bif k then some (.inr (.inr false)) else some (.inr (.inl b.2.2.2.2)) else (Cw c a.elem a.in_).bind fun q => ((AQ (Fy a q) 0 : Option (Int))).bind fun (f : Int) => bif decide (f < 0) then some (.inr (.inr false)) else (((Cw c a.elem a.in_).bind fun r => (Ak r f).bind fun g => bif (g.pos != 0) then (A8 b.2.2.2.2 [(⟨a.elem, g.pos⟩ : AJ)]).bind fun s => some s else some b.2.2.2.2 : Option ((List AJ)))).bind fun (l : (List AJ)) => ((bif (!(b.2.1 == (AR ((d.steps.length : Int) - 1)))) then (Bv c (⟨a.elem, a.out⟩ : AF)).bind fun t => some (decide (0 <= t)) else some false : Option (Bool))).bind fun (m : Bool) => bif m then some (.inr (.inr false)) else (Ba c (⟨a.elem, a.out⟩ : AF)).bind fun e => some (.inl (e.2, AR (b.2.1 + 1), e.1.elem, e.1.fin, l)) else some (.inr (.inl b.2.2.2.2))
noncomputable def Kb (b : BL) (a : AO) : Option Bool :=
 (Fv b a.frm).bind fun c => ((bif (!c.2) then some true else bif decide ((a.steps.length : Int) < 1) then some true else some (decide (12 < (a.steps.length : Int))) : Option (Bool))).bind fun (e : Bool) => bif e then some false else (Ba b c.1).bind fun d => JJ ((AQ (CL b a c) (d.2, 0, d.1.elem, d.1.fin, ([] : List AJ)) : Option ((List AJ) ⊕ Bool))) fun (f : (List AJ)) => (((Ak a.steps (AR ((a.steps.length : Int) - 1))).bind fun h => (IY b a h).bind fun i => bif i then (C5 a.needs f).bind fun j => some j else some false : Option (Bool))).bind fun (g : Bool) => some g
theorem Xd (e : BL) (c : AO) (r : Bool) (h : Kb e c = some r) : A5 Tryz.prog 36 [.place (A7 e) 0, .agg (AZ c)] (· = .bool r) := by
 refine fn AA Tryz.func36 Z Z 166 Z [.tmp 4] Z [(0, .p (.place (A7 e) 0)), (1, .p (.agg (AZ c)))] Z Z fun A hA => ?_
 unfold Kb at h
 refine rs AA <| rl Z <| sc <| rs AA <| rn 3 Z <| bq h fun d ad a6 => sx Z (AS (Ov _ _ _ ad) (.inl Z) Z Z Z <| rl Z <| AB <| jb (fun t : Bool => ⟨166, [(0, lq (A7 e)), (3, .lpb 0 0), (5, .lpb 1 0), (36, lb t)], [(0, bx (AZ c)), (1, .box [li d.1.elem, li d.1.fin])], 2⟩) a6 (fun t ax => ?_) (fun t a2 => ?_))
 .refine rg AA <| rn 3 Z <| gs 25 ax Z Z Z (fun ay => ?_) (fun az => ?_)
  .exact rl Z <| AM ay (wf hA [(0, 0), (1, 1)] Z Z Z)
  refine rn 2 Z <| sx Z (An Z Z <| rn 3 Z <| gs 31 az Z Z Z (fun a0 => ?_) (fun a1 => ?_))
  .exact rl Z <| AM a0 (wf hA [(0, 0), (1, 1)] Z Z Z)
  exact rn 2 Z <| sx Z (An Z Z <| rl Z <| AM a1 (wf hA [(0, 0), (1, 1)] Z Z Z))
 refine cd Z a2 (fun a3 => ?_) (fun a4 => ?_)
 .refine rs AA <| rl Z <| AG <| AI <| EF ?_
  cases a3
  exact er Z Le.rfl
 refine AD <| AC <| rs AA <| rn 2 Z <| bq a4 fun d7 ae a5 => sx Z (AS (CC _ _ _ ae) (.inl Z) Z Z Z <| rl Z <| rs AA <| rl Z <| AB <| Ha <| AC ?_)
 apply jn (a := r) (fun k : (List AJ) => ⟨166, [(0, lq (A7 e)), (3, .lpb 0 0), (9, .lsl 1 2 0 k.length)], [(0, bx (AZ c)), (1, .row 91 2 (k.map AP))], 2⟩) a5
 .intro ac a7
  refine rs AA <| rn 2 Z <| sx Z (An Z Z <| rl Z <| AH ?_)
  apply lp (a := ac) (fun b : (Bool × Int × Int × Int × (List AJ)) => ⟨166, [(0, lq (A7 e)), (3, .lpb 0 0), (5, .lpb 1 0), (7, .lpb 2 0), (8, lb b.1), (9, .lsl 3 2 0 b.2.2.2.2.length), (44, ls 3 Ae c.steps), (45, li (c.steps.length : Int)), (46, li b.2.1)], [(0, bx (AZ c)), (1, .box [li d.1.elem, li d.1.fin]), (2, .box [li b.2.2.1, li b.2.2.2.1]), (3, .row 91 2 (b.2.2.2.2.map AP))], 4⟩) a7
  . exact A0.trans (Bm 9 91 2 Z) (wf hA (gi 4 []) Z Z Z)
  intro b d4 z
  unfold CL at z
  refine rs AA <| rl Z <| AB <| cd Z z (fun a8 => ?_) (fun de => ?_)
  .refine AD <| AC <| AB <| AH <| rs AA <| rn 1 Z <| bq a8 fun f af a9 => sx Z (Aj af Z Z Z <| rl Z <| AB <| jb (fun u : Bool => ⟨166, [(0, lq (A7 e)), (3, .lpb 0 0), (5, .lpb 1 0), (7, .lpb 2 0), (9, .lsl 3 2 0 b.2.2.2.2.length), (10, li b.2.1), (11, .lpb 4 0), (44, ls 3 Ae c.steps), (45, li (c.steps.length : Int)), (46, li b.2.1), (81, lb u)], [(0, bx (AZ c)), (1, .box [li d.1.elem, li d.1.fin]), (2, .box [li b.2.2.1, li b.2.2.2.1]), (3, .row 91 2 (b.2.2.2.2.map AP)), (4, bx (Ae f))], 5⟩) a9 (fun u ba => ?_) (fun u b0 => ?_))
   .refine rg AA <| rn 3 Z <| gs 53 ba Z Z Z (fun bb => ?_) (fun bc => ?_)
    .exact rl Z <| AM bb (wf hA (gi 5 []) Z Z Z)
    refine rn 7 Z <| gs 60 bc Z Z Z (fun be => ?_) (fun bf => ?_)
    .exact rl Z <| AM be (wf hA (gi 5 []) Z Z Z)
    refine rn 7 Z <| gs 67 bf Z Z Z (fun bg => ?_) (fun bh => ?_)
    .exact rl Z <| AM bg (wf hA (gi 5 []) Z Z Z)
    refine rn 7 Z <| gs 74 bh Z Z Z (fun bi => ?_) (fun bj => ?_)
    .exact rl Z <| AM bi (wf hA (gi 5 []) Z Z Z)
    refine rn 3 Z <| bq bj fun o ag bk => sx Z (Qq ag Z Z Z Z <| rn 1 Z <| sx Z (Cn AA (fun n : Bool => lb n) (fun n : Bool => [(0, bx (AZ c)), (1, .box [li d.1.elem, li d.1.fin]), (2, .box [li b.2.2.1, li b.2.2.2.1]), (3, .row 91 2 (b.2.2.2.2.map AP)), (4, bx (Ae f))]) 5 bk Tryz.func96 9 [.tmp 4] [(0, ls 3 Ae o), (1, .fn 97 [.lpb 4 0])] Z Z Z Z Z Z Z Z (fun A hA n bl => ?_) (fun n bz => ?_)))
    .refine rs AA <| rl Z <| rs AA <| rn 2 Z <| sx Z (Cn AA (fun g : Int => li g) (fun g : Int => [(0, bx (AZ c)), (1, .box [li d.1.elem, li d.1.fin]), (2, .box [li b.2.2.1, li b.2.2.2.1]), (3, .row 91 2 (b.2.2.2.2.map AP)), (4, bx (Ae f))]) 5 bl Tryz.func149 19 [.tmp 4] [(0, ls 3 Ae o), (1, .fn 97 [.lpb 4 0])] Z Z Z Z Z Z Z Z (fun A hA g bm => ?_) (fun g bw => ?_))
     .refine rs AA <| rl Z <| AB <| rs AA <| rn 1 Z <| sx Z (An Z Z <| rl Z <| AH ?_)
      apply lp (a := g) (fun q : Int => ⟨19, [(0, ls 3 Ae o), (1, .fn 97 [.lpb 4 0]), (7, li (o.length : Int)), (8, li q)], [(0, bx (AZ c)), (1, .box [li d.1.elem, li d.1.fin]), (2, .box [li b.2.2.1, li b.2.2.2.1]), (3, .row 91 2 (b.2.2.2.2.map AP)), (4, bx (Ae f))], 5⟩) bm
      . exact wj hA (gi 5 []) Z Z Z Z
      intro q d5 aa
      unfold Fx at aa
      refine rs AA <| rl Z <| AB <| cd Z aa (fun bn => ?_) (fun bu => ?_)
      .refine AD <| AC <| AB <| AH <| rs AA <| rl Z <| rs AA <| rn 3 Z <| bq bn fun d8 ah bo => sx Z (Aj ah Z Z Z <| rn 1 Z <| bq bo fun d9 ai bp => sx Z (AS (VH _ _ _ ai) (.inl Z) Z Z (Co.eq (.cons (.one (.p _)) (.cons (.box Z (.cons (.p _) (.cons (.p _) (.cons (.p _) .nil)))) .nil))) <| rl Z <| cd Z bp (fun br => ?_) (fun bt => ?_)))
       .refine rs AA <| rl Z <| AG <| AV <| AI <| A4 br fun dq bs => AV <| AI ?_
        have hr := Option.some.inj bs; subst hr
        exact CS (nt := 19) (sl := [(4, li q)]) (wj hA (gi 5 []) Z Z Z Z) Z
       exact AD <| Af <| AC <| rg AA <| rl Z <| Av bt (wj hA (gi 5 []) Z Z Z Z)
      refine AU <| Aa <| BG bu fun dr bv => Ao <| AC <| rs AA <| rl Z <| AG ?_
      cases bv
      exact CS (nt := 19) (sl := [(4, li (-1))]) (wj hA (gi 5 []) Z Z Z Z) Z
     refine rl Z <| AG ?_
     cases bw
     exact CS (nt := 9) (sl := [(4, lb (decide (0 <= g)))]) (wj hA (gi 5 []) Z Z Z Z) Z
    exact rl Z <| AM bz (wf hA (gi 5 []) Z Z Z)
   refine cd Z b0 (fun b1 => ?_) (fun b4 => ?_)
   .refine rs AA <| rl Z <| AG <| AI <| AV <| AI <| A4 b1 fun ds b2 => AV <| A4 b2 fun dt b3 => EF ?_
    cases b3
    exact er Z Le.rfl
   refine AD <| AC <| rs AA <| rn 3 Z <| sx Z (An Z Z <| rl Z <| AB <| rs AA <| rn 3 Z <| bq b4 fun ea aj b5 => sx Z (AS (Cx _ _ _ aj) (.inl Z) Z Z Z <| rl Z <| cd Z b5 (fun b6 => ?_) (fun ch => ?_)))
   .refine AB <| jb (fun v : Bool => ⟨166, [(0, lq (A7 e)), (3, .lpb 0 0), (9, .lsl 1 2 0 b.2.2.2.2.length), (99, lb v)], [(0, bx (AZ c)), (1, .row 91 2 (b.2.2.2.2.map AP))], 2⟩) b6 (fun v b7 => ?_) (fun v ca => ?_)
    .refine rg AA <| rn 3 Z <| gs 95 b7 Z Z Z (fun b8 => ?_) (fun b9 => ?_)
     .exact rl Z <| AM b8 (wf hA [(0, 0), (1, 3)] Z Z Z)
     exact rl Z <| AM b9 (wf hA [(0, 0), (1, 3)] Z Z Z)
    refine cd Z ca (fun cb => ?_) (fun cf => ?_)
    .refine rs AA <| rl Z <| AG <| AI <| AI <| AV <| AI <| A4 cb fun du cc => AV <| A4 cc fun dv ce => EF ?_
     cases ce
     exact er Z Le.rfl
    exact AD <| AC <| AU <| Aa <| NO Z <| Aa <| BG cf fun dw cg => Ao <| Av cg (wf hA [(0, 0), (1, 1)] Z Z Z)
   refine AD <| AC <| rs AA <| rn 5 Z <| bq ch fun y ak ci => sx Z (AS (Fw _ _ _ _ ak) (.inr Z) Z Z Z <| rn 1 Z <| sx Z (Cn AA (fun j : Int => li j) (fun j : Int => [(0, bx (AZ c)), (1, .box [li d.1.elem, li d.1.fin]), (2, .box [li b.2.2.1, li b.2.2.2.1]), (3, .row 91 2 (b.2.2.2.2.map AP)), (4, bx (Ae f))]) 5 ci Tryz.func98 19 [.tmp 4] [(0, ls 2 CP y), (1, .fn 100 [.lpb 4 0])] Z Z Z Z Z Z Z Z (fun A hA j cj => ?_) (fun j cs => ?_)))
   .refine rs AA <| rl Z <| AB <| rs AA <| rn 1 Z <| sx Z (An Z Z <| rl Z <| AH ?_)
    apply lp (a := j) (fun s : Int => ⟨19, [(0, ls 2 CP y), (1, .fn 100 [.lpb 4 0]), (7, li (y.length : Int)), (8, li s)], [(0, bx (AZ c)), (1, .box [li d.1.elem, li d.1.fin]), (2, .box [li b.2.2.1, li b.2.2.2.1]), (3, .row 91 2 (b.2.2.2.2.map AP)), (4, bx (Ae f))], 5⟩) cj
    . exact wj hA (gi 5 []) Z Z Z Z
    intro s d6 ab
    unfold Fy at ab
    refine rs AA <| rl Z <| AB <| cd Z ab (fun ck => ?_) (fun cq => ?_)
    .refine AD <| AC <| AB <| AH <| rs AA <| rl Z <| rs AA <| rn 3 Z <| bq ck fun eb al cl => sx Z (Aj al Z Z Z <| rn 1 Z <| bq cl fun ec am cm => sx Z (AS (VI _ _ _ am) (.inl Z) Z Z (Co.eq (.cons (.one (.p _)) (.cons (.box Z (.cons (.p _) (.cons (.p _) (.cons (.p _) .nil)))) .nil))) <| rl Z <| cd Z cm (fun cn => ?_) (fun cp => ?_)))
     .refine rs AA <| rl Z <| AG <| AV <| AI <| A4 cn fun dx co => AV <| AI ?_
      have hr := Option.some.inj co; subst hr
      exact CS (nt := 19) (sl := [(4, li s)]) (wj hA (gi 5 []) Z Z Z Z) Z
     exact AD <| Af <| AC <| rg AA <| rl Z <| Av cp (wj hA (gi 5 []) Z Z Z Z)
    refine AU <| Aa <| BG cq fun dy cr => Ao <| AC <| rs AA <| rl Z <| AG ?_
    cases cr
    exact CS (nt := 19) (sl := [(4, li (-1))]) (wj hA (gi 5 []) Z Z Z Z) Z
   refine rl Z <| AB <| rs AA <| rl Z <| cd Z cs (fun ct => ?_) (fun cw => ?_)
   .refine rs AA <| rl Z <| AG <| AI <| AV <| AI <| A4 ct fun dz cu => AV <| A4 cu fun d0 cv => EF ?_
    cases cv
    exact er Z Le.rfl
   refine AD <| AC <| jb (fun i : (List AJ) => ⟨166, [(0, lq (A7 e)), (3, .lpb 0 0), (5, .lpb 1 0), (7, .lpb 2 0), (9, .lsl 3 2 0 i.length), (11, .lpb 4 0), (12, lb (b.2.1 == (AR ((c.steps.length : Int) - 1)))), (44, ls 3 Ae c.steps), (45, li (c.steps.length : Int)), (46, li b.2.1)], [(0, bx (AZ c)), (1, .box [li d.1.elem, li d.1.fin]), (2, .box [li b.2.2.1, li b.2.2.2.1]), (3, .row 91 2 (i.map AP)), (4, bx (Ae f))], 5⟩) cw (fun i cx => ?_) (fun i c3 => ?_)
   .refine rs AA <| rn 5 Z <| bq cx fun ed an cy => sx Z (AS (Fw _ _ _ _ an) (.inr Z) Z Z Z <| rn 1 Z <| bq cy fun dp ao cz => sx Z (Aj ao Z Z Z <| rl Z <| rs AA <| rl Z <| cd Z cz (fun c0 => ?_) (fun c2 => ?_)))
    .exact rg AA <| rn 6 Z <| bq c0 fun ee ap c1 => sx Z (Au (enc := AP) (l := b.2.2.2.2) (m := [(⟨f.elem, dp.pos⟩ : AJ)]) ap (fun _ => ⟨Z, Z⟩) Z Z Z Z Z Z <| rl Z <| AM c1 (wf hA (gi 3 [(3, 6), (4, 4)]) Z Z Z))
    exact AD <| AM c2 (wf hA (gi 5 []) Z Z Z)
   refine rs AA <| rl Z <| AB <| jb (fun w : Bool => ⟨166, [(0, lq (A7 e)), (3, .lpb 0 0), (5, .lpb 1 0), (7, .lpb 2 0), (9, .lsl 3 2 0 i.length), (15, .lpb 4 0), (44, ls 3 Ae c.steps), (45, li (c.steps.length : Int)), (46, li b.2.1), (141, lb w)], [(0, bx (AZ c)), (1, .box [li d.1.elem, li d.1.fin]), (2, .box [li b.2.2.1, li b.2.2.2.1]), (3, .row 91 2 (i.map AP)), (4, .box [li f.elem, li f.out])], 5⟩) c3 (fun w c4 => ?_) (fun w c8 => ?_)
   .refine rg AA <| rn 3 Z <| gs 136 c4 Z Z Z (fun c5 => ?_) (fun c7 => ?_)
    .exact rn 2 Z <| bq c5 fun ef aq c6 => sx Z (AS (D8 _ _ _ aq) (.inl Z) Z Z Z <| rl Z <| AM c6 (wf hA (gi 4 [(4, 5)]) Z Z Z))
    exact rl Z <| AM c7 (wf hA (gi 4 [(4, 5)]) Z Z Z)
   refine cd Z c8 (fun c9 => ?_) (fun dc => ?_)
   .refine rs AA <| rl Z <| AG <| AI <| AV <| AI <| A4 c9 fun d1 da => AV <| A4 da fun d2 db => EF ?_
    cases db
    exact er Z Le.rfl
   exact AD <| AC <| rg AA <| rn 2 Z <| bq dc fun eg ar dd => sx Z (AS (CC _ _ _ ar) (.inl Z) Z Z Z <| rl Z <| Af <| AC <| rg AA <| rl Z <| Av dd (wf hA (gi 4 []) Z Z Z))
  exact AU <| Aa <| BG de fun d3 df => Ao <| Av df (wf hA [(0, 0), (1, 3)] Z Z Z)
 intro k dg
 refine jb (fun x : Bool => ⟨166, [(4, lb x)], [], 0⟩) dg (fun x dh => ?_) (fun x dn => ?_)
 .refine Bb AA Az [0, 1, 2, 3, 4, 5, 6, 7, 8, 9, 10, 11, 12, 13, 14, 15, 16, 17] 18 (by kernel_rfl) Z Z Z ?_
  refine Am 6 Z <| Al Z (Oj Z Z <| Am 1 Z <| bq dh fun eh au di => Al Z (AX Z (Aj au Z Z Z <| Am 1 Z <| bq di fun ei av dj => Al Z (BA (VJ _ _ _ _ av) (.inl Z) Z Z Z <| Am 1 Z <| DJ 160 dj Z Z Z (fun dk => ?_) (fun dm => ?_)))))
  .exact Am 3 Z <| bq dk fun ej aw dl => Al Z (BA (MT _ _ _ aw) (.inl Z) Z Z (Co.eq (.cons (.one (.p _)) (.cons (.one (.own (enc := AP) k Z Z)) .nil))) <| A1 Z <| AM dl (wf hA [] Z Z Z))
  exact A1 Z <| AM dm (wf hA [] Z Z Z)
 refine AG <| EF ?_
 have hr := Option.some.inj dn; subst hr
 exact er Z Le.rfl
end Go.E
/- Plain functions, and walks in step with them. Written by a program (gen.py). No condition. -/
set_option maxRecDepth 100000
namespace Go.E
open Go Go.RowKit Go.Proofs
noncomputable def EU (b : (List AT)) (c : (List AT)) (a : Int) : Option (Int ⊕ Bool) :=
 bif decide (a < (b.length : Int)) then (Ak b a).bind fun d => (Ak c a).bind fun e => bif (!(d == e)) then some (.inr false) else some (.inl (AR (a + 1))) else some (.inr true)
noncomputable def C6 (a : (List AT)) (b : (List AT)) : Option Bool :=
 bif ((a.length : Int) != (b.length : Int)) then some false else AQ (EU a b) 0
theorem MU (b : (List AT)) (c : (List AT)) (r : Bool) (h : C6 b c = some r) : A5 Tryz.prog 137 [.slice 3 (b.map Ae), .slice 3 (c.map Ae)] (· = .bool r) := by
 refine fn AA Tryz.func137 Z Z 26 Z [.tmp 4] Z [(0, .p (.slice 3 (b.map Ae))), (1, .p (.slice 3 (c.map Ae)))] Z Z fun A hA => ?_
 unfold C6 at h
 refine rs AA <| rl Z <| AB <| rs AA <| rn 1 Z <| sx Z (An Z Z <| rn 1 Z <| sx Z (An Z Z <| rl Z <| cd Z h (fun s => ?_) (fun t => ?_)))
 .refine rs AA <| rl Z <| AG <| AI ?_
  cases s
  exact er Z Le.rfl
 refine AD <| AC <| AB <| rs AA <| rn 1 Z <| sx Z (An Z Z <| rl Z <| AH ?_)
 apply lp (a := r) (fun e : Int => ⟨26, [(0, ls 3 Ae b), (1, ls 3 Ae c), (12, li (b.length : Int)), (13, li e)], [], 0⟩) t
 . exact wf hA [] Z Z Z
 intro e y d
 unfold EU at d
 refine rs AA <| rl Z <| AB <| cd Z d (fun i => ?_) (fun o => ?_)
 .refine AD <| AC <| AB <| AH <| rs AA <| rl Z <| AB ?_
  refine Bb AA Az [0, 1, 2, 3, 4, 5, 6, 7, 8] 9 (by kernel_rfl) Z Z Z ?_
  refine Am 2 Z <| bq i fun u f j => Al Z (AX Z (Aj f Z Z Z <| Am 3 Z <| bq j fun v g k => Al Z (AX Z (Aj g Z Z Z <| Am 1 Z <| Al Z (Qs (UI u v) Z Z Z Z Z <| A1 Z <| AC <| cd Z k (fun l => ?_) (fun n => ?_))))))
  .refine rs AA <| rl Z <| AG <| AV <| AI <| A4 l fun w m => AV <| AI ?_
   cases m
   exact er Z Le.rfl
  exact AD <| Af <| AC <| rg AA <| rl Z <| Av n (wf hA [] Z Z Z)
 refine AU <| Aa <| BG o fun x q => Ao <| AC <| rs AA <| rl Z <| AG ?_
 cases q
 exact er Z Le.rfl
noncomputable def E5 (a : AO) (b : AO) : Option Bool :=
 (C6 a.steps b.steps).bind fun c => some c
theorem OA (a : AO) (b : AO) (r : Bool) (h : E5 a b = some r) : A5 Tryz.prog 79 [.agg (AZ a), .agg (AZ b)] (· = .bool r) := by
 refine fn AA Tryz.func79 Z Z 10 Z [.tmp 4] Z [(0, .p (.agg (AZ a))), (1, .p (.agg (AZ b)))] Z Z fun A hA => ?_
 unfold E5 at h
 refine rs AA <| rl Z <| rs AA <| rn 4 Z <| bq h fun e c d => sx Z (AS (MU _ _ _ c) (.inl Z) Z Z Z <| rl Z <| AG ?_)
 have hr := Option.some.inj d; subst hr
 exact er Z Le.rfl
noncomputable def FG (a : AO) (b : AO) : Option Bool :=
 (E5 a b).bind fun c => some c
theorem L9 (a : AO) (b : AO) (r : Bool) (h : FG a b = some r) : A5 Tryz.prog 78 [.agg (AZ a), .place (AZ b) 0] (· = .bool r) := by
 refine fn AA Tryz.func78 Z Z 7 Z [.tmp 3] Z [(0, .p (.agg (AZ a))), (1, .p (.place (AZ b) 0))] Z Z fun A hA => ?_
 unfold FG at h
 refine rs AA <| rl Z <| rs AA <| rn 2 Z <| bq h fun e c d => sx Z (AS (OA _ _ _ c) (.inl Z) Z Z Z <| rl Z <| AG ?_)
 have hr := Option.some.inj d; subst hr
 exact er Z Le.rfl
noncomputable def HQ (a : AO) (b : AO) : Option Bool :=
 (E5 a b).bind fun c => some c
theorem RA (a : AO) (b : AO) (r : Bool) (h : HQ a b = some r) : A5 Tryz.prog 139 [.agg (AZ a), .place (AZ b) 0] (· = .bool r) := by
 refine fn AA Tryz.func139 Z Z 7 Z [.tmp 3] Z [(0, .p (.agg (AZ a))), (1, .p (.place (AZ b) 0))] Z Z fun A hA => ?_
 unfold HQ at h
 refine rs AA <| rl Z <| rs AA <| rn 2 Z <| bq h fun e c d => sx Z (AS (OA _ _ _ c) (.inl Z) Z Z Z <| rl Z <| AG ?_)
 have hr := Option.some.inj d; subst hr
 exact er Z Le.rfl
noncomputable def Ej (b : (List AO)) (c : AO) (a : Int) : Option (Int ⊕ Int) :=
 bif decide (a < (b.length : Int)) then (Ak b a).bind fun d => (HQ d c).bind fun e => bif e then some (.inr a) else some (.inl (AR (a + 1))) else some (.inr (-1))
noncomputable def Ek (f : (List AO)) (b : Int) (c : (List AO)) (a : Int) : Option (Int ⊕ (Int ⊕ Int)) :=
 bif decide (a < (c.length : Int)) then (Ak c a).bind fun g => ((((AQ (Ej f g) 0 : Option (Int))).bind fun (e : Int) => some (decide (0 <= e)) : Option (Bool))).bind fun (d : Bool) => bif (!d) then some (.inr (.inr b)) else some (.inl (AR (a + 1))) else some (.inr (.inl (AR (b + 1))))
noncomputable def Gi (b : BL) (c : (List AO)) (d : Int) (a : Int) : Option (Int ⊕ Int) :=
 bif decide (a < d) then (I5 b a).bind fun e => AQ (Ek c a e) 0 else some (.inr (-1))
noncomputable def E6 (a : BL) (b : (List AO)) : Option Int :=
 (CW a).bind fun c => AQ (Gi a b c) 0
theorem TJ (d : BL) (b : (List AO)) (r : Int) (h : E6 d b = some r) : A5 Tryz.prog 80 [.place (A7 d) 0, .slice 9 (b.map AZ)] (· = .int .i64 r) := by
 refine fn AA Tryz.func80 Z Z 28 Z [.tmp 4] Z [(0, .p (.place (A7 d) 0)), (1, .p (.slice 9 (b.map AZ)))] Z Z fun A hA => ?_
 unfold E6 at h
 refine rs AA <| rl Z <| sc <| AB <| Ha <| AC <| AB <| rs AA <| rn 1 Z <| bq h fun n s x => sx Z (AS (IK _ _ s) (.inl Z) Z Z Z <| rl Z <| AH ?_)
 apply lp (a := r) (fun e : Int => ⟨28, [(0, lq (A7 d)), (1, ls 9 AZ b), (9, li n), (10, li e)], [], 0⟩) x
 . exact wf hA [] Z Z Z
 intro e q j
 unfold Gi at j
 refine rs AA <| rl Z <| AB <| cd Z j (fun y => ?_) (fun aw => ?_)
 .refine AD <| AC <| AB <| AH <| rs AA <| rl Z <| AB <| rs AA <| rn 2 Z <| bq y fun o t z => sx Z (AS (Si _ _ _ t) (.inr Z) Z Z Z <| sx Z (An Z Z <| rl Z <| AH ?_))
  apply lp (a := q) (fun m : Int => ⟨28, [(0, lq (A7 d)), (1, ls 9 AZ b), (5, li e), (9, li n), (10, li e), (15, ls 9 AZ o), (16, li (o.length : Int)), (17, li m)], [], 0⟩) z
  . exact wf hA [] Z Z Z
  intro m a4 k
  unfold Ek at k
  refine rs AA <| rl Z <| AB <| cd Z k (fun aa => ?_) (fun au => ?_)
  .refine AD <| AC <| AB <| AH <| rs AA <| bq aa fun i u ab => sx Z (Aj u Z Z Z <| rl Z <| rs AA <| rn 2 Z <| sx Z (Cn AA (fun f : Bool => lb f) (fun f : Bool => [(0, bx (AZ i))]) 1 ab Tryz.func77 9 [.tmp 4] [(0, ls 9 AZ b), (1, .fn 139 [.lpb 0 0])] Z Z Z Z Z Z Z Z (fun A hA f ac => ?_) (fun f an => ?_)))
   .refine rs AA <| rl Z <| rs AA <| rn 2 Z <| sx Z (Cn AA (fun c : Int => li c) (fun c : Int => [(0, bx (AZ i))]) 1 ac Tryz.func136 19 [.tmp 4] [(0, ls 9 AZ b), (1, .fn 139 [.lpb 0 0])] Z Z Z Z Z Z Z Z (fun A hA c ad => ?_) (fun c am => ?_))
    .refine rs AA <| rl Z <| AB <| rs AA <| rn 1 Z <| sx Z (An Z Z <| rl Z <| AH ?_)
     apply lp (a := c) (fun g : Int => ⟨19, [(0, ls 9 AZ b), (1, .fn 139 [.lpb 0 0]), (7, li (b.length : Int)), (8, li g)], [(0, bx (AZ i))], 1⟩) ad
     . exact wj hA [(0, 0)] Z Z Z Z
     intro g a5 l
     unfold Ej at l
     refine rs AA <| rl Z <| AB <| cd Z l (fun ae => ?_) (fun ak => ?_)
     .refine AD <| AC <| AB <| AH <| rs AA <| rl Z <| rs AA <| rn 3 Z <| bq ae fun a6 v af => sx Z (Aj v Z Z Z <| rn 1 Z <| bq af fun a7 w ag => sx Z (AS (RA _ _ _ w) (.inl Z) Z Z (Co.eq (.cons (.one (.p _)) (.cons (.box Z (.cons (.p _) (.cons (.p _) (.cons (.p _) (.cons (.p _) (.cons (.p _) (.cons (.p _) (.cons (.p _) (.cons (.p _) (.cons (.p _) .nil)))))))))) .nil))) <| rl Z <| cd Z ag (fun ah => ?_) (fun aj => ?_)))
      .refine rs AA <| rl Z <| AG <| AV <| AI <| A4 ah fun ay ai => AV <| AI ?_
       have hr := Option.some.inj ai; subst hr
       exact CS (nt := 19) (sl := [(4, li g)]) (wj hA [(0, 0)] Z Z Z Z) Z
      exact AD <| Af <| AC <| rg AA <| rl Z <| Av aj (wj hA [(0, 0)] Z Z Z Z)
     refine AU <| Aa <| BG ak fun az al => Ao <| AC <| rs AA <| rl Z <| AG ?_
     cases al
     exact CS (nt := 19) (sl := [(4, li (-1))]) (wj hA [(0, 0)] Z Z Z Z) Z
    refine rl Z <| AG ?_
    cases am
    exact CS (nt := 9) (sl := [(4, lb (decide (0 <= c)))]) (wj hA [(0, 0)] Z Z Z Z) Z
   refine rl Z <| cd Z an (fun ao => ?_) (fun ar => ?_)
   .refine rs AA <| rl Z <| AG <| AV <| AI <| A4 ao fun a0 ap => AV <| AI <| AV <| AI <| A4 ap fun a1 aq => AV <| AI <| EF ?_
    have hr := Option.some.inj aq; subst hr
    exact er Z Le.rfl
   exact AD <| Af <| AC <| rg AA <| rl Z <| Av ar (wf hA [] Z Z Z)
  exact AU <| Aa <| BG au fun a2 av => Ao <| AC <| AU <| Ao <| AC <| rg AA <| rl Z <| Av av (wf hA [] Z Z Z)
 refine AU <| Aa <| BG aw fun a3 ax => Ao <| AC <| rs AA <| rl Z <| AG <| EF ?_
 cases ax
 exact er Z Le.rfl
noncomputable def Dd (f : BL) (g : AO) (c : (List AJ)) (a : Int × (List (Int × Int))) : Option ((Int × (List (Int × Int))) ⊕ ((List (Int × Int)) × Bool)) :=
 bif decide (a.1 < (c.length : Int)) then (Ak c a.1).bind fun b => ((bif decide ((g.needs.length : Int) <= a.1) then (Bz f b.elem).bind fun h => bif (h != 2) then some true else bif (b.pos != 1) then some (b.pos != 2) else some false else some false : Option (Bool))).bind fun (d : Bool) => bif d then some (.inr ([], false)) else ((bif (As a.2 b.elem).isSome then some (((As a.2 b.elem).getD 0) != b.pos) else some false : Option (Bool))).bind fun (e : Bool) => bif e then some (.inr ([], false)) else some (.inl (AR (a.1 + 1), BE b.elem b.pos a.2)) else some (.inr (a.2, true))
noncomputable def Gy (b : BL) (a : AO) : Option ((List (Int × Int)) × Bool) :=
 (B9 a.needs).bind fun c => (A8 c a.guards).bind fun d => AQ (Dd b a d) (0, [])
theorem TK (f : BL) (d : AO) (r : ((List (Int × Int)) × Bool)) (h : Gy f d = some r) : A5 Tryz.prog 85 [.place (A7 f) 0, .agg (AZ d)] (· = .tup [.map (Ax (.int .i64) (.int .i64) r.1), .bool r.2]) := by
 refine fn AA Tryz.func85 Z Z 67 Z [.tmp 4, .tmp 5] Z [(0, .p (.place (A7 f) 0)), (1, .p (.agg (AZ d)))] Z Z fun A hA => ?_
 unfold Gy at h
 refine rs AA <| rl Z <| rs AA <| rl Z <| AB <| AB ?_
 refine Bb ZW Az [0, 1, 3, 4, 2, 7, 5, 6] 8 (by kernel_rfl) Z Z Z ?_
 refine Am 4 Z <| bq h fun av n s => Al Z (YU (Lw _ _ n) Z Z Z Z Z <| Am 1 Z <| bq s fun c o t => Al Z (BY (Au (enc := AP) (l := av) (m := d.guards) o (fun _ => ⟨Z, Z⟩) Z Z Z Z Z Z <| A1 Z <| AC <| AH ?_)))
 apply lp (a := r) (fun b : (Int × (List (Int × Int))) => ⟨67, [(0, lq (A7 f)), (3, .lpb 0 0), (6, .lmap 1), (17, .lsl 2 2 0 c.length), (18, li (c.length : Int)), (19, li b.1)], [(0, bx (AZ d)), (1, .map (Ax (.int .i64) (.int .i64) b.2)), (2, .row 91 2 (c.map AP))], 3⟩) t
 . exact wf hA [(0, 0), (1, 1), (2, 7)] Z Z Z
 intro b az k
 unfold Dd at k
 refine rs AA <| rl Z <| AB <| cd Z k (fun u => ?_) (fun ar => ?_)
 .refine AD <| AC <| AB <| AH <| rs AA <| rn 1 Z <| bq u fun e j v => sx Z (Bf j Z Z Z Z <| sx Z (Cl j Z Z Z <| rl Z <| AB <| jb (fun g : Bool => ⟨67, [(0, lq (A7 f)), (3, .lpb 0 0), (6, .lmap 1), (8, .lpb 2 0), (17, .lsl 3 2 0 c.length), (18, li (c.length : Int)), (19, li b.1), (45, lb g)], [(0, bx (AZ d)), (1, .map (Ax (.int .i64) (.int .i64) b.2)), (2, .box [li e.elem, li e.pos]), (3, .row 91 2 (c.map AP))], 4⟩) v (fun g w => ?_) (fun g ag => ?_)))
  .refine rg AA <| rn 3 Z <| sx Z (An Z Z <| rn 2 Z <| gs 29 w Z Z Z (fun x => ?_) (fun af => ?_))
   .refine rn 3 Z <| bq x fun a0 q aa => sx Z (AS (Cx _ _ _ q) (.inl Z) Z Z Z <| rn 2 Z <| gs 35 aa Z Z Z (fun ab => ?_) (fun ac => ?_))
    .exact rl Z <| AM ab (wf hA [(0, 0), (1, 1), (2, 3), (3, 2)] Z Z Z)
    refine rn 4 Z <| gs 39 ac Z Z Z (fun ad => ?_) (fun ae => ?_)
    .exact rl Z <| AM ad (wf hA [(0, 0), (1, 1), (2, 3), (3, 2)] Z Z Z)
    exact rl Z <| AM ae (wf hA [(0, 0), (1, 1), (2, 3), (3, 2)] Z Z Z)
   exact rl Z <| AM af (wf hA [(0, 0), (1, 1), (2, 3), (3, 2)] Z Z Z)
  refine cd Z ag (fun ah => ?_) (fun aj => ?_)
  .refine rs AA <| rl Z <| AG <| AI <| AV <| AI <| A4 ah fun aw ai => AV <| AI ?_
   cases ai
   exact er Z (Le.tup' (.cons Le.nilm (.cons Le.rfl .nil)))
  refine AD <| AC <| AB <| rs AA <| rn 3 Z <| sx Z (JL (et := 3) (ke := (.int .i64)) (ve := (.int .i64)) (mp := b.2) (y := e.elem) 0 Lk Z Z Z Z <| rl Z <| jb (fun i : Bool => ⟨67, [(0, lq (A7 f)), (3, .lpb 0 0), (6, .lmap 1), (8, .lpb 2 0), (17, .lsl 3 2 0 c.length), (18, li (c.length : Int)), (19, li b.1), (59, lb i)], [(0, bx (AZ d)), (1, .map (Ax (.int .i64) (.int .i64) b.2)), (2, .box [li e.elem, li e.pos]), (3, .row 91 2 (c.map AP))], 4⟩) aj (fun i ak => ?_) (fun i an => ?_))
  .refine rg AA <| rn 2 Z <| gs 54 ak Z Z Z (fun al => ?_) (fun am => ?_)
   .exact rl Z <| AM al (wf hA (gi 4 []) Z Z Z)
   exact rl Z <| AM am (wf hA (gi 4 []) Z Z Z)
  refine cd Z an (fun ao => ?_) (fun aq => ?_)
  .refine rs AA <| rl Z <| AG <| AI <| AV <| AI <| A4 ao fun ax ap => AV <| AI ?_
   cases ap
   exact er Z (Le.tup' (.cons Le.nilm (.cons Le.rfl .nil)))
  exact AD <| AC <| rg AA <| rn 5 Z <| sx Z (JM (et := 3) (ke := (.int .i64)) (ve := (.int .i64)) (mp := b.2) (y := e.elem) (z := e.pos) Lk Z Z Z Z Z Z <| rl Z <| Af <| AC <| rg AA <| rl Z <| Av aq (wf hA [(0, 0), (1, 1), (2, 3)] Z Z Z))
 refine AU <| Aa <| BG ar fun ay au => Ao <| AC <| rs AA <| rl Z <| AG ?_
 cases au
 exact er (SZ Z (.cons (.one (.map Z)) (.cons (.one (.p _)) .nil))) Le.rfl
noncomputable def E7 (a : BL) : Option Int :=
 some (a.p.elems.length : Int)
theorem TL (a : BL) (r : Int) (h : E7 a = some r) : A5 Tryz.prog 86 [.place (A7 a) 0] (· = .int .i64 r) := by
 refine fn AA Tryz.func86 Z Z 9 Z [.tmp 2] Z [(0, .p (.place (A7 a) 0))] Z Z fun A hA => ?_
 unfold E7 at h
 refine rs AA <| rl Z <| rs AA <| rn 5 Z <| sx Z (An Z Z <| rl Z <| AG ?_)
 cases h
 exact er Z Le.rfl
noncomputable def El (c : AF) (d : (List (Int × Int))) (e : (List BS)) (a : Int × (List Int)) : Option ((Int × (List Int)) ⊕ (List Int)) :=
 bif decide (a.1 < (e.length : Int)) then (((Ak e a.1).bind fun b => ((bif (b.pos == 0) then some true else bif (!(As d c.elem).isSome) then some true else some (b.pos == ((As d c.elem).getD 0)) : Option (Bool))).bind fun (g : Bool) => bif g then (A8 a.2 [b.out]).bind fun h => some h else some a.2 : Option ((List Int)))).bind fun (f : (List Int)) => some (.inl (AR (a.1 + 1), f)) else some (.inr a.2)
noncomputable def Gz (b : BL) (a : AF) (c : (List (Int × Int))) : Option (List Int) :=
 (Cw b a.elem a.fin).bind fun d => AQ (El a c d) (0, ([] : List Int))
theorem TM (i : BL) (c : AF) (d : (List (Int × Int))) (r : (List Int)) (h : Gz i c d = some r) : A5 Tryz.prog 88 [.place (A7 i) 0, .agg (AK c), .map (Ax (.int .i64) (.int .i64) d)] (· = .slice 1 (r.map AW)) := by
 refine fn AA Tryz.func88 Z Z 50 Z [.tmp 6] Z [(0, .p (.place (A7 i) 0)), (1, .p (.agg (AK c))), (2, .p (.map (Ax (.int .i64) (.int .i64) d)))] Z Z fun A hA => ?_
 unfold Gz at h
 refine rs AA <| rl Z <| rs AA <| rl Z <| AB <| rs AA <| rn 5 Z <| bq h fun e n s => sx Z (AS (Fw _ _ _ _ n) (.inr Z) Z Z Z <| sx Z (An Z Z <| rl Z <| AH ?_))
 apply lp (a := r) (fun b : (Int × (List Int)) => ⟨50, [(2, .p (.map (Ax (.int .i64) (.int .i64) d))), (4, .lpb 0 0), (7, .lsl 1 1 0 b.2.length), (17, ls 2 CP e), (18, li (e.length : Int)), (19, li b.1)], [(0, .box [li c.elem, li c.fin]), (1, .row 3 1 (b.2.map AW))], 2⟩) s
 . exact A0.trans (Bm 7 3 1 Z) (wf hA [(0, 0), (1, 1)] Z Z Z)
 intro b ak k
 unfold El at k
 refine rs AA <| rl Z <| AB <| cd Z k (fun t => ?_) (fun ah => ?_)
 .refine AD <| AC <| jb (fun f : (List Int) => ⟨50, [(2, .p (.map (Ax (.int .i64) (.int .i64) d))), (4, .lpb 0 0), (7, .lsl 1 1 0 f.length), (17, ls 2 CP e), (18, li (e.length : Int)), (19, li b.1)], [(0, .box [li c.elem, li c.fin]), (1, .row 3 1 (f.map AW))], 2⟩) t (fun f u => ?_) (fun f ag => ?_)
  .refine AH <| rs AA <| bq u fun j o v => sx Z (Aj o Z Z Z <| rl Z <| rs AA <| rn 3 Z <| sx Z (JL (et := 3) (ke := (.int .i64)) (ve := (.int .i64)) (mp := d) (y := c.elem) 0 Lk Z Z Z Z <| rl Z <| jb (fun g : Bool => ⟨50, [(2, .p (.map (Ax (.int .i64) (.int .i64) d))), (4, .lpb 0 0), (7, .lsl 1 1 0 b.2.length), (9, .lpb 2 0), (17, ls 2 CP e), (18, li (e.length : Int)), (19, li b.1), (42, lb g)], [(0, .box [li c.elem, li c.fin]), (1, .row 3 1 (b.2.map AW)), (2, .box [li j.out, li j.pos])], 3⟩) v (fun g w => ?_) (fun g ac => ?_)))
   .refine rg AA <| rn 4 Z <| gs 33 w Z Z Z (fun x => ?_) (fun z => ?_)
    .exact rl Z <| AM x (wf hA (gi 3 []) Z Z Z)
    refine rn 4 Z <| gs 37 z Z Z Z (fun aa => ?_) (fun ab => ?_)
    .exact rl Z <| AM aa (wf hA (gi 3 []) Z Z Z)
    exact rl Z <| AM ab (wf hA (gi 3 []) Z Z Z)
   refine cd Z ac (fun ad => ?_) (fun af => ?_)
   .exact rg AA <| rn 4 Z <| bq ad fun al q ae => sx Z (Au (enc := AW) (l := b.2) (m := [j.out]) q (fun _ => ⟨Z, Z⟩) Z Z Z Z Z Z <| rl Z <| Af <| AM ae (wf hA [(0, 0), (1, 4)] Z Z Z))
   exact AD <| Af <| AM af (wf hA [(0, 0), (1, 1)] Z Z Z)
  exact rg AA <| rl Z <| Av ag (wf hA [(0, 0), (1, 1)] Z Z Z)
 refine AU <| Aa <| BG ah fun aj ai => Ao <| AC <| rs AA <| rl Z <| AG ?_
 cases ai
 exact er (GM Z (.one (.own (enc := AW) b.2 Z Z))) Le.rfl
noncomputable def DE (g : BL) (e : ((List AF) × (List (AF × Bool)))) (b : AF) (c : (List Int)) (a : Int × (List AF)) : Option ((Int × (List AF)) ⊕ (((List AF) × (List (AF × Bool))) ⊕ Bool)) :=
 bif decide (a.1 < (c.length : Int)) then (((Ak c a.1).bind fun h => (Ba g (⟨b.elem, h⟩ : AF)).bind fun d => bif d.2 then (A8 a.2 [d.1]).bind fun i => some i else some a.2 : Option ((List AF)))).bind fun (f : (List AF)) => some (.inl (AR (a.1 + 1), f)) else some (.inr (.inl (a.2, BE b true e.2)))
noncomputable def CM (c : BL) (d : AO) (o : ((List (Int × Int)) × Bool)) (p : AN) (b : (List AF) × (List (AF × Bool))) : Option (((List AF) × (List (AF × Bool))) ⊕ Bool) :=
 bif decide (0 < (b.1.length : Int)) then (Ak b.1 0).bind fun a => (Kx b.1 1 (b.1.length : Int)).bind fun e => ((bif ((As b.2 a).getD false) then some true else (FH d a.elem).bind fun i => bif i then some true else bif (!p.hard) then (Bv c a).bind fun j => bif decide (0 <= j) then (Bv c a).bind fun k => (BV d.holds k).bind fun l => some l else some false else some false : Option (Bool))).bind fun (g : Bool) => bif g then some (.inl (e, b.2)) else (Bz c a.elem).bind fun m => bif (m == 4) then some (.inr false) else (Gz c a o.1).bind fun f => ((bif decide (0 < (f.length : Int)) then (BV d.zone a.elem).bind fun n => some (!n) else some false : Option (Bool))).bind fun (h : Bool) => bif h then some (.inr false) else AQ (DE c b a f) (0, e) else some (.inr true)
noncomputable def Dz (b : BL) (d : AO) (e : ((List (Int × Int)) × Bool)) (f : AN) (c : (List AF)) (a : Int × (List AF)) : Option ((Int × (List AF)) ⊕ Bool) :=
 bif decide (a.1 < (c.length : Int)) then (Ak c a.1).bind fun g => (Ba b g).bind fun h => (A8 a.2 [h.1]).bind fun i => some (.inl (AR (a.1 + 1), i)) else (AQ (CM b d e f) (a.2, [])).map .inr
noncomputable def D0 (a : BL) (b : AO) (f : ((List (Int × Int)) × Bool)) (c : Int) : Option (Int ⊕ Bool) :=
 bif decide (c < (b.holds.length : Int)) then (Ak b.holds c).bind fun d => ((bif decide (d < 0) then some true else (CW a).bind fun g => some (decide (g <= d)) : Option (Bool))).bind fun (e : Bool) => bif e then some (.inr false) else some (.inl (AR (c + 1))) else ((Cy a).bind fun h => (Fz a b).bind fun i => AQ (Dz a b f h i) (0, ([] : List AF))).map .inr
noncomputable def D1 (d : BL) (a : AO) (f : ((List (Int × Int)) × Bool)) (b : Int) : Option (Int ⊕ Bool) :=
 bif decide (b < (a.zone.length : Int)) then (Ak a.zone b).bind fun c => ((bif decide (c < 0) then some true else (E7 d).bind fun g => bif decide (g <= c) then some true else (FH a c).bind fun h => some h : Option (Bool))).bind fun (e : Bool) => bif e then some (.inr false) else some (.inl (AR (b + 1))) else (AQ (D0 d a f) 0).map .inr
noncomputable def FJ (a : BL) (b : AO) : Option Bool :=
 (Gy a b).bind fun c => bif (!c.2) then some false else AQ (D1 a b c) 0
theorem RB (d : BL) (b : AO) (r : Bool) (h : FJ d b = some r) : A5 Tryz.prog 34 [.place (A7 d) 0, .agg (AZ b)] (· = .bool r) := by
 refine fn AA Tryz.func34 Z Z 170 Z [.tmp 4] Z [(0, .p (.place (A7 d) 0)), (1, .p (.agg (AZ b)))] Z Z fun A hA => ?_
 unfold FJ at h
 refine rs AA <| rl Z <| sc <| rs AA <| rn 2 Z <| bq h fun f ay c1 => sx Z (AS (TK _ _ _ ay) (.inr Z) Z Z Z <| rl Z <| AB <| rs AA <| rl Z <| cd Z c1 (fun df => ?_) (fun dl => ?_))
 .refine rs AA <| rl Z <| AG <| AI <| EF ?_
  cases df
  exact er Z Le.rfl
 refine AD <| AC <| AB <| rs AA <| rn 2 Z <| sx Z (An Z Z <| rl Z <| AH ?_)
 apply lp (a := r) (fun q : Int => ⟨170, [(0, lq (A7 d)), (3, .lpb 0 0), (5, .p (.map (Ax (.int .i64) (.int .i64) f.1))), (33, ls 1 AW b.zone), (34, li (b.zone.length : Int)), (35, li q)], [(0, bx (AZ b))], 1⟩) dl
 . exact wf hA [(0, 0)] Z Z Z
 intro q dy ae
 unfold D1 at ae
 refine rs AA <| rl Z <| AB <| cd Z ae (fun cm => ?_) (fun cz => ?_)
 .refine AD <| AC <| AB <| AH <| rs AA <| bq cm fun d9 az cn => sx Z (Aj az Z Z Z <| rl Z <| jb (fun v : Bool => ⟨170, [(0, lq (A7 d)), (3, .lpb 0 0), (5, .p (.map (Ax (.int .i64) (.int .i64) f.1))), (33, ls 1 AW b.zone), (34, li (b.zone.length : Int)), (35, li q), (51, lb v)], [(0, bx (AZ b))], 1⟩) cn (fun v co => ?_) (fun v cv => ?_))
  .refine rg AA <| rn 3 Z <| gs 41 co Z Z Z (fun cp => ?_) (fun cq => ?_)
   .exact rl Z <| AM cp (wf hA [(0, 0)] Z Z Z)
   refine rn 2 Z <| bq cq fun ea a0 cr => sx Z (AS (TL _ _ a0) (.inl Z) Z Z Z <| rn 3 Z <| gs 47 cr Z Z Z (fun cs => ?_) (fun ct => ?_))
   .exact rl Z <| AM cs (wf hA [(0, 0)] Z Z Z)
   exact rn 2 Z <| bq ct fun eb a1 cu => sx Z (AS (Nj _ _ _ a1) (.inl Z) Z Z Z <| rl Z <| AM cu (wf hA [(0, 0)] Z Z Z))
  refine cd Z cv (fun cw => ?_) (fun cy => ?_)
  .refine rs AA <| rl Z <| AG <| AV <| AI <| A4 cw fun dv cx => AV <| AI <| EF ?_
   cases cx
   exact er Z Le.rfl
  exact AD <| Af <| AC <| rg AA <| rl Z <| Av cy (wf hA [(0, 0)] Z Z Z)
 refine AU <| Aa <| CU cz fun ai c0 => Ao <| AC <| AB <| rs AA <| rn 2 Z <| sx Z (An Z Z <| rl Z <| AH ?_)
 apply lp (a := ai) (fun s : Int => ⟨170, [(0, lq (A7 d)), (3, .lpb 0 0), (5, .p (.map (Ax (.int .i64) (.int .i64) f.1))), (54, ls 1 AW b.holds), (55, li (b.holds.length : Int)), (56, li s)], [(0, bx (AZ b))], 1⟩) c0
 . exact wf hA [(0, 0)] Z Z Z
 intro s dz af
 unfold D0 at af
 refine rs AA <| rl Z <| AB <| cd Z af (fun c2 => ?_) (fun dc => ?_)
 .refine AD <| AC <| AB <| AH <| rs AA <| bq c2 fun ec a2 c3 => sx Z (Aj a2 Z Z Z <| rl Z <| jb (fun w : Bool => ⟨170, [(0, lq (A7 d)), (3, .lpb 0 0), (5, .p (.map (Ax (.int .i64) (.int .i64) f.1))), (54, ls 1 AW b.holds), (55, li (b.holds.length : Int)), (56, li s), (67, lb w)], [(0, bx (AZ b))], 1⟩) c3 (fun w c4 => ?_) (fun w c8 => ?_))
  .refine rg AA <| rn 3 Z <| gs 62 c4 Z Z Z (fun c5 => ?_) (fun c6 => ?_)
   .exact rl Z <| AM c5 (wf hA [(0, 0)] Z Z Z)
   exact rn 2 Z <| bq c6 fun ed a3 c7 => sx Z (AS (IK _ _ a3) (.inl Z) Z Z Z <| rl Z <| AM c7 (wf hA [(0, 0)] Z Z Z))
  refine cd Z c8 (fun c9 => ?_) (fun db => ?_)
  .refine rs AA <| rl Z <| AG <| AV <| AI <| A4 c9 fun dw da => AV <| AI <| EF ?_
   cases da
   exact er Z Le.rfl
  exact AD <| Af <| AC <| rg AA <| rl Z <| Av db (wf hA [(0, 0)] Z Z Z)
 refine AU <| Aa <| CU dc fun aj dd => Ao <| AC <| rs AA <| rn 1 Z <| bq dd fun g a4 de => sx Z (AS (Jw _ _ a4) (.inr Z) Z Z Z <| rl Z <| rs AA <| rl Z <| AB <| rs AA <| rn 2 Z <| bq de fun ah a5 dg => sx Z (AS (Ow _ _ _ a5) (.inr Z) Z Z Z <| sx Z (An Z Z <| rl Z <| AH ?_)))
 apply lp (a := aj) (fun k : (Int × (List AF)) => ⟨170, [(0, lq (A7 d)), (3, .lpb 0 0), (5, .p (.map (Ax (.int .i64) (.int .i64) f.1))), (11, lb g.hard), (12, .lsl 1 2 0 k.2.length), (74, ls 2 AK ah), (75, li (ah.length : Int)), (76, li k.1)], [(0, bx (AZ b)), (1, .row 96 2 (k.2.map AK))], 2⟩) dg
 . exact A0.trans (Bm 12 96 2 Z) (wf hA [(0, 0), (1, 1)] Z Z Z)
 intro k d0 ag
 unfold Dz at ag
 refine rs AA <| rl Z <| AB <| cd Z ag (fun dh => ?_) (fun dm => ?_)
 .exact AD <| AC <| AB <| AH <| rs AA <| bq dh fun ee a6 di => sx Z (Aj a6 Z Z Z <| rl Z <| rs AA <| rn 2 Z <| bq di fun dq a7 dj => sx Z (AS (CC _ _ _ a7) (.inl Z) Z Z Z <| rl Z <| rg AA <| rn 3 Z <| bq dj fun ef a8 dk => sx Z (Au (enc := AK) (l := k.2) (m := [dq.1]) a8 (fun _ => ⟨Z, Z⟩) Z Z Z Z Z Z <| rl Z <| Af <| AC <| rg AA <| rl Z <| Av dk (wf hA [(0, 0), (1, 5)] Z Z Z))))
 refine AU <| Aa <| CU dm fun ak dn => Ao <| AC <| rs AA <| rl Z <| AB <| Ha <| AC <| AB <| AH ?_
 apply lp (a := ak) (fun e : ((List AF) × (List (AF × Bool))) => ⟨170, [(0, lq (A7 d)), (3, .lpb 0 0), (5, .p (.map (Ax (.int .i64) (.int .i64) f.1))), (11, lb g.hard), (12, .lsl 1 2 0 e.1.length), (17, .lmap 2)], [(0, bx (AZ b)), (1, .row 96 2 (e.1.map AK)), (2, .map (Ax (fun x => .agg (AK x)) .bool e.2))], 3⟩) dn
 . exact wf hA (gi 3 []) Z Z Z
 intro e al ac
 unfold CM at ac
 refine AB <| rs AA <| rl Z <| cd Z ac (fun a9 => ?_) (fun ck => ?_)
 .refine AD <| AC <| AH <| rs AA <| rn 1 Z <| bq a9 fun c aa ba => sx Z (Bf aa Z Z Z Z <| sx Z (Cl aa Z Z Z <| rl Z <| rs AA <| rn 1 Z <| bq ba fun j ab bb => sx Z (Wl (l := e.1) ab Z Z Z Z Z <| rl Z <| Jp (st' := ⟨170, [(0, lq (A7 d)), (3, .lpb 0 0), (5, .p (.map (Ax (.int .i64) (.int .i64) f.1))), (11, lb g.hard), (12, .lsl 1 2 0 j.length), (17, .lmap 2), (18, .lpb 3 0)], [(0, bx (AZ b)), (1, .row 96 2 (j.map AK)), (2, .map (Ax (fun x => .agg (AK x)) .bool e.2)), (3, .box [li c.elem, li c.fin])], 4⟩) (A0.trans (UJ 1 (enc := AK) (l := e.1) Z (RC ab) (.cons 0 (.same _) (.cons 3 (.same _) (.cons 5 (.same _) (.cons 11 (.same _) (.cons 12 .hit (.cons 17 (.same _) (.cons 18 (.same _) .nil))))))) (.cons 0 Z Z (.same _) (.cons 2 Z Z (.same _) (.cons 3 Z Z (.same _) .nil)))) (wf hA [(0, 0), (1, 4), (2, 2), (3, 3)] Z Z Z)) <| AB <| jb (fun t : Bool => ⟨170, [(0, lq (A7 d)), (3, .lpb 0 0), (5, .p (.map (Ax (.int .i64) (.int .i64) f.1))), (11, lb g.hard), (12, .lsl 1 2 0 j.length), (17, .lmap 2), (18, .lpb 3 0), (126, lb t)], [(0, bx (AZ b)), (1, .row 96 2 (j.map AK)), (2, .map (Ax (fun x => .agg (AK x)) .bool e.2)), (3, .box [li c.elem, li c.fin])], 4⟩) bb (fun t bc => ?_) (fun t br => ?_))))
  .refine Bb AA Az [0, 1, 2, 3, 4, 5, 6, 7, 8, 9, 10, 11, 12, 13, 14, 15, 16, 17, 18, 19, 20, 21, 22, 23, 24, 25, 26] 27 (by kernel_rfl) Z Z Z ?_
   refine Am 2 Z <| Al Z (AX Z (K4 (et := 4) (ke := (fun x => .agg (AK x))) (ve := .bool) (mp := e.2) (y := c) false Cc Z Z Z Z <| Am 1 Z <| DJ 103 bc Z Z Z (fun be => ?_) (fun bf => ?_)))
   .exact A1 Z <| AM be (wf hA (gi 4 []) Z Z Z)
   refine Am 3 Z <| bq bf fun d1 am bg => Al Z (BA (Nj _ _ _ am) (.inl Z) Z Z Z <| Am 2 Z <| DJ 109 bg Z Z Z (fun bh => ?_) (fun bi => ?_))
   .exact A1 Z <| AM bh (wf hA (gi 4 []) Z Z Z)
   refine Am 3 Z <| DJ 112 bi Z Z Z (fun bj => ?_) (fun bp => ?_)
   .refine Am 2 Z <| bq bj fun d2 an bk => Al Z (BA (D8 _ _ _ an) (.inl Z) Z Z Z <| Am 3 Z <| DJ 118 bk Z Z Z (fun bl => ?_) (fun bo => ?_))
    .exact Am 4 Z <| bq bl fun d3 ao bm => Al Z (BA (D8 _ _ _ ao) (.inl Z) Z Z Z <| bq bm fun d4 ap bn => Al Z (BA (Cp _ _ _ ap) (.inl Z) Z Z Z <| A1 Z <| AM bn (wf hA (gi 4 []) Z Z Z)))
    exact A1 Z <| AM bo (wf hA (gi 4 []) Z Z Z)
   exact A1 Z <| AM bp (wf hA (gi 4 []) Z Z Z)
  refine cd Z br (fun bs => ?_) (fun bt => ?_)
  .exact AU <| Aa <| Ao <| Av bs (wf hA (gi 3 []) Z Z Z)
  refine AD <| AC <| rs AA <| rn 2 Z <| sx Z (JM (et := 4) (ke := (fun x => .agg (AK x))) (ve := .bool) (mp := e.2) (y := c) (z := true) Cc Z Z Z Z Z Z <| rl Z <| AB <| rs AA <| rn 3 Z <| bq bt fun d5 aq bu => sx Z (AS (Cx _ _ _ aq) (.inl Z) Z Z Z <| rl Z <| cd Z bu (fun bv => ?_) (fun bz => ?_)))
  .refine rs AA <| rl Z <| AG <| AI <| AV <| A4 bv fun dr bw => AV <| AI <| EF ?_
   cases bw
   exact er Z Le.rfl
  refine AD <| AC <| rs AA <| rn 3 Z <| bq bz fun n ar b0 => sx Z (AS (TM _ _ _ _ ar) (.inr Z) Z Z Z <| rl Z <| AB <| jb (fun u : Bool => ⟨170, [(0, lq (A7 d)), (3, .lpb 0 0), (5, .p (.map (Ax (.int .i64) (.int .i64) f.1))), (11, lb g.hard), (12, .lsl 1 2 0 j.length), (17, .lmap 2), (18, .lpb 3 0), (19, ls 1 AW n), (148, lb u)], [(0, bx (AZ b)), (1, .row 96 2 (j.map AK)), (2, .map (Ax (fun x => .agg (AK x)) .bool (BE c true e.2))), (3, .box [li c.elem, li c.fin])], 4⟩) b0 (fun u b1 => ?_) (fun u b5 => ?_))
  .refine rg AA <| rn 1 Z <| sx Z (An Z Z <| rn 2 Z <| gs 141 b1 Z Z Z (fun b2 => ?_) (fun b4 => ?_))
   .exact rn 4 Z <| bq b2 fun d6 au b3 => sx Z (AS (Cp _ _ _ au) (.inl Z) Z Z Z <| rl Z <| AM b3 (wf hA (gi 4 []) Z Z Z))
   exact rl Z <| AM b4 (wf hA (gi 4 []) Z Z Z)
  refine cd Z b5 (fun b6 => ?_) (fun b8 => ?_)
  .refine rs AA <| rl Z <| AG <| AI <| AV <| A4 b6 fun ds b7 => AV <| AI <| EF ?_
   cases b7
   exact er Z Le.rfl
  refine AD <| AC <| rs AA <| rn 1 Z <| sx Z (An Z Z <| rl Z <| AH ?_)
  apply lp (a := al) (fun i : (Int × (List AF)) => ⟨170, [(0, lq (A7 d)), (3, .lpb 0 0), (5, .p (.map (Ax (.int .i64) (.int .i64) f.1))), (11, lb g.hard), (12, .lsl 1 2 0 i.2.length), (17, .lmap 2), (18, .lpb 3 0), (149, ls 1 AW n), (150, li (n.length : Int)), (151, li i.1)], [(0, bx (AZ b)), (1, .row 96 2 (i.2.map AK)), (2, .map (Ax (fun x => .agg (AK x)) .bool (BE c true e.2))), (3, .box [li c.elem, li c.fin])], 4⟩) b8
  . exact wf hA (gi 4 []) Z Z Z
  intro i dx ad
  unfold DE at ad
  refine rs AA <| rl Z <| AB <| cd Z ad (fun b9 => ?_) (fun ci => ?_)
  .refine AD <| AC <| jb (fun o : (List AF) => ⟨170, [(0, lq (A7 d)), (3, .lpb 0 0), (5, .p (.map (Ax (.int .i64) (.int .i64) f.1))), (11, lb g.hard), (12, .lsl 1 2 0 o.length), (17, .lmap 2), (18, .lpb 3 0), (149, ls 1 AW n), (150, li (n.length : Int)), (151, li i.1)], [(0, bx (AZ b)), (1, .row 96 2 (o.map AK)), (2, .map (Ax (fun x => .agg (AK x)) .bool (BE c true e.2))), (3, .box [li c.elem, li c.fin])], 4⟩) b9 (fun o ca => ?_) (fun o ch => ?_)
   .refine AH <| rs AA <| bq ca fun d7 av cb => sx Z (Aj av Z Z Z <| rl Z <| rs AA <| rn 5 Z <| bq cb fun dp aw cc => sx Z (AS (CC _ _ _ aw) (.inl Z) Z Z Z <| rl Z <| rs AA <| rl Z <| cd Z cc (fun ce => ?_) (fun cg => ?_)))
    .exact rg AA <| rn 3 Z <| bq ce fun d8 ax cf => sx Z (Au (enc := AK) (l := i.2) (m := [dp.1]) ax (fun _ => ⟨Z, Z⟩) Z Z Z Z Z Z <| rl Z <| Af <| AM cf (wf hA [(0, 0), (1, 6), (2, 2), (3, 3)] Z Z Z))
    exact AD <| Af <| AM cg (wf hA (gi 4 []) Z Z Z)
   exact rg AA <| rl Z <| Av ch (wf hA (gi 4 []) Z Z Z)
  exact AU <| Aa <| BG ci fun dt cj => Ao <| Af <| Av cj (wf hA (gi 3 []) Z Z Z)
 refine AU <| Aa <| BG ck fun du cl => Ao <| AC <| rs AA <| rl Z <| AG <| EF ?_
 cases cl
 exact er Z Le.rfl
end Go.E
/- Plain functions, and walks in step with them. Written by a program (gen.py). No condition. -/
set_option maxRecDepth 100000
namespace Go.E
open Go Go.RowKit Go.Proofs
noncomputable def Ll (c : AO) (b : (List AO)) (a : Int) : Option (Int ⊕ Int) :=
 bif decide (a < (b.length : Int)) then (Ak b a).bind fun d => (FG d c).bind fun e => bif e then some (.inr a) else some (.inl (AR (a + 1))) else some (.inr (-1))
noncomputable def Lm (b : B2) (a : Int) : Option (Int ⊕ (Int × Int)) :=
 bif decide (a < (b.roads.length : Int)) then (Ak b.roads a).bind fun e => (I3 b.roads 0 a).bind fun f => ((((AQ (Ll e f) 0 : Option (Int))).bind fun (d : Int) => some (decide (0 <= d)) : Option (Bool))).bind fun (c : Bool) => bif c then some (.inr (4, a)) else some (.inl (AR (a + 1))) else (none).map .inr
noncomputable def Ln (a : B2) (b : Unit) : Option (Unit ⊕ (Int × Int)) :=
 bif decide (0 < (a.roads.length : Int)) then (Ak a.roads 0).bind fun c => none else (AQ (Lm a) 0).map .inr
noncomputable def Em (c : AO) (b : (List AO)) (a : Int) : Option (Int ⊕ Int) :=
 bif decide (a < (b.length : Int)) then (Ak b a).bind fun d => (FG d c).bind fun e => bif e then some (.inr a) else some (.inl (AR (a + 1))) else some (.inr (-1))
noncomputable def De (b : B2) (e : BL) (a : Int) : Option (Int ⊕ (Int × Int)) :=
 bif decide (a < (b.roads.length : Int)) then (Ak b.roads a).bind fun c => (C8 e c).bind fun d => bif (!(c.bare == d.bare)) then some (.inr (7, a)) else some (.inl (AR (a + 1))) else some (.inr (0, (-1)))
noncomputable def Df (b : B2) (d : BL) (a : Int) : Option (Int ⊕ (Int × Int)) :=
 bif decide (a < (b.roads.length : Int)) then (Ak b.roads a).bind fun c => ((bif (!c.bare) then (FJ d c).bind fun f => some (!f) else some false : Option (Bool))).bind fun (e : Bool) => bif e then some (.inr (6, a)) else some (.inl (AR (a + 1))) else (AQ (De b d) 0).map .inr
noncomputable def DD (b : B2) (d : BL) (a : Int) : Option (Int ⊕ (Int × Int)) :=
 bif decide (a < (b.roads.length : Int)) then (Ak b.roads a).bind fun g => (I3 b.roads 0 a).bind fun h => ((((AQ (Em g h) 0 : Option (Int))).bind fun (f : Int) => some (decide (0 <= f)) : Option (Bool))).bind fun (e : Bool) => bif e then some (.inr (4, a)) else some (.inl (AR (a + 1))) else ((E6 d b.roads).bind fun c => bif decide (0 <= c) then some (5, c) else AQ (Df b d) 0).map .inr
noncomputable def En (b : B2) (c : BL) (a : Int) : Option (Int ⊕ (Int × Int)) :=
 bif decide (a < (b.roads.length : Int)) then (Ak b.roads a).bind fun d => (Kb c d).bind fun e => bif (!e) then some (.inr (3, a)) else some (.inl (AR (a + 1))) else (AQ (DD b c) 0).map .inr
noncomputable def EI (a : B2) : Option (Int × Int) :=
 (Hm a.plan).bind fun b => T7 b.1 (bif (b.2 != 0) then some (1, (-1)) else bif decide (64 < (a.roads.length : Int)) then some (2, (-1)) else AQ (Ln a) ()) fun c => bif (b.2 != 0) then some (1, (-1)) else bif decide (64 < (a.roads.length : Int)) then some (2, (-1)) else AQ (En a c) 0
theorem Kv (b : B2) (r : (Int × Int)) (h : EI b = some r) : A5 Tryz.prog 30 [.agg (B4 b)] (· = .tup [.int .i64 r.1, .int .i64 r.2]) := by
 refine fn AA Tryz.func30 Z Z 100 Z [.tmp 2, .tmp 3] Z [(0, .p (.agg (B4 b)))] Z Z fun A hA => ?_
 unfold EI at h
 refine rs AA <| rl Z <| rs AA <| rn 2 Z <| bq h fun dj ap c => sx Z (AS (Sj _ _ ap) (.inr Z) Z Z Z ?_)
 revert c; rcases d4 : dj.1 with _ | f <;> intro c
 .replace c := omN c
  refine rl Z <| AB <| rs AA <| rl Z <| cd Z c (fun dh => ?_) (fun a2 => ?_)
  .refine rs AA <| rl Z <| AG <| AI ?_
   cases dh
   exact er Z Le.rfl
  refine AD <| AC <| AB <| rs AA <| rn 2 Z <| sx Z (An Z Z <| rl Z <| cd Z a2 (fun a3 => ?_) (fun a4 => ?_))
  .refine rs AA <| rl Z <| AG <| AI ?_
   cases a3
   exact er Z Le.rfl
  refine AD <| AC <| AB <| rs AA <| rn 2 Z <| sx Z (An Z Z <| rl Z <| AH ?_)
  apply lp (a := r) (fun di : Unit => ⟨100, [(1, .lpb 0 0), (4, .p (.nilp)), (28, ls 9 AZ b.roads), (29, li (b.roads.length : Int)), (30, li 0)], [(0, bx (B4 b))], 1⟩) a4
  . exact wf hA [(0, 0)] Z Z Z
  intro di d0 x
  unfold Ln at x
  refine rs AA <| rl Z <| AB <| cd Z x (fun b8 => ?_) (fun df => ?_)
  .refine AD <| AC <| AB <| AH <| rs AA <| rn 1 Z <| bq b8 fun eg a1 de => sx Z (Aj a1 Z Z Z <| rl Z <| rs AA <| rn 2 Z ?_)
   cases de
  refine AU <| Aa <| CU df fun ai dg => Ao <| AC <| AB <| rs AA <| rn 2 Z <| sx Z (An Z Z <| rl Z <| AH ?_)
  apply lp (a := ai) (fun ab : Int => ⟨100, [(1, .lpb 0 0), (4, .p (.nilp)), (42, ls 9 AZ b.roads), (43, li (b.roads.length : Int)), (44, li ab)], [(0, bx (B4 b))], 1⟩) dg
  . exact wf hA [(0, 0)] Z Z Z
  intro ab dw t
  unfold Lm at t
  refine rs AA <| rl Z <| AB <| cd Z t (fun a5 => ?_) (fun bo => ?_)
  .refine AD <| AC <| AB <| AH <| rs AA <| rn 1 Z <| bq a5 fun q aj a6 => sx Z (Aj aj Z Z Z <| rl Z <| rs AA <| rn 3 Z <| bq a6 fun k ak a7 => sx Z (Qq ak Z Z Z Z <| rn 1 Z <| sx Z (Cn AA (fun i : Bool => lb i) (fun i : Bool => [(0, bx (B4 b)), (1, bx (AZ q))]) 2 a7 Tryz.func77 9 [.tmp 4] [(0, ls 9 AZ k), (1, .fn 78 [.lpb 1 0])] Z Z Z Z Z Z Z Z (fun A hA i a8 => ?_) (fun i bk => ?_))))
   .refine rs AA <| rl Z <| rs AA <| rn 2 Z <| sx Z (Cn AA (fun d : Int => li d) (fun d : Int => [(0, bx (B4 b)), (1, bx (AZ q))]) 2 a8 Tryz.func136 19 [.tmp 4] [(0, ls 9 AZ k), (1, .fn 78 [.lpb 1 0])] Z Z Z Z Z Z Z Z (fun A hA d a9 => ?_) (fun d bj => ?_))
    .refine rs AA <| rl Z <| AB <| rs AA <| rn 1 Z <| sx Z (An Z Z <| rl Z <| AH ?_)
     apply lp (a := d) (fun m : Int => ⟨19, [(0, ls 9 AZ k), (1, .fn 78 [.lpb 1 0]), (7, li (k.length : Int)), (8, li m)], [(0, bx (B4 b)), (1, bx (AZ q))], 2⟩) a9
     . exact wj hA [(0, 0), (1, 1)] Z Z Z Z
     intro m dx u
     unfold Ll at u
     refine rs AA <| rl Z <| AB <| cd Z u (fun ba => ?_) (fun bh => ?_)
     .refine AD <| AC <| AB <| AH <| rs AA <| rl Z <| rs AA <| rn 3 Z <| bq ba fun d5 al bb => sx Z (Aj al Z Z Z <| rn 1 Z <| bq bb fun d6 am bc => sx Z (AS (L9 _ _ _ am) (.inl Z) Z Z (Co.eq (.cons (.one (.p _)) (.cons (.box Z (.cons (.p _) (.cons (.p _) (.cons (.p _) (.cons (.p _) (.cons (.p _) (.cons (.p _) (.cons (.p _) (.cons (.p _) (.cons (.p _) .nil)))))))))) .nil))) <| rl Z <| cd Z bc (fun be => ?_) (fun bg => ?_)))
      .refine rs AA <| rl Z <| AG <| AV <| AI <| A4 be fun dk bf => AV <| AI ?_
       have hr := Option.some.inj bf; subst hr
       exact CS (nt := 19) (sl := [(4, li m)]) (wj hA [(0, 0), (1, 1)] Z Z Z Z) Z
      exact AD <| Af <| AC <| rg AA <| rl Z <| Av bg (wj hA [(0, 0), (1, 1)] Z Z Z Z)
     refine AU <| Aa <| BG bh fun dl bi => Ao <| AC <| rs AA <| rl Z <| AG ?_
     cases bi
     exact CS (nt := 19) (sl := [(4, li (-1))]) (wj hA [(0, 0), (1, 1)] Z Z Z Z) Z
    refine rl Z <| AG ?_
    cases bj
    exact CS (nt := 9) (sl := [(4, lb (decide (0 <= d)))]) (wj hA [(0, 0), (1, 1)] Z Z Z Z) Z
   refine rl Z <| cd Z bk (fun bl => ?_) (fun bn => ?_)
   .refine rs AA <| rl Z <| AG <| AV <| AI <| A4 bl fun dm bm => AV <| AI ?_
    cases bm
    exact er Z Le.rfl
   exact AD <| Af <| AC <| rg AA <| rl Z <| Av bn (wf hA [(0, 0)] Z Z Z)
  refine AU <| Aa <| CU bo fun dn bp => Ao <| AC <| AB <| rs AA <| rn 3 Z ?_
  cases bp
 replace c := omS c
 refine rl Z <| AB <| rs AA <| rl Z <| cd Z c (fun br => ?_) (fun bs => ?_)
 .refine rs AA <| rl Z <| AG <| AI ?_
  cases br
  exact er Z Le.rfl
 refine AD <| AC <| AB <| rs AA <| rn 2 Z <| sx Z (An Z Z <| rl Z <| cd Z bs (fun bt => ?_) (fun bu => ?_))
 .refine rs AA <| rl Z <| AG <| AI ?_
  cases bt
  exact er Z Le.rfl
 refine AD <| AC <| AB <| rs AA <| rn 2 Z <| sx Z (An Z Z <| rl Z <| AH ?_)
 apply lp (a := r) (fun ac : Int => ⟨100, [(1, .lpb 0 0), (4, lq (A7 f)), (28, ls 9 AZ b.roads), (29, li (b.roads.length : Int)), (30, li ac)], [(0, bx (B4 b))], 1⟩) bu
 . exact wf hA [(0, 0)] Z Z Z
 intro ac dy v
 unfold En at v
 refine rs AA <| rl Z <| AB <| cd Z v (fun bv => ?_) (fun b3 => ?_)
 .refine AD <| AC <| AB <| AH <| rs AA <| rn 1 Z <| bq bv fun d7 an bw => sx Z (Aj an Z Z Z <| rl Z <| rs AA <| rn 2 Z <| bq bw fun d8 ao bz => sx Z (AS (Xd _ _ _ ao) (.inl Z) Z Z Z <| rl Z <| cd Z bz (fun b0 => ?_) (fun b2 => ?_)))
  .refine rs AA <| rl Z <| AG <| AV <| AI <| A4 b0 fun dp b1 => AV <| AI ?_
   cases b1
   exact er Z Le.rfl
  exact AD <| Af <| AC <| rg AA <| rl Z <| Av b2 (wf hA [(0, 0)] Z Z Z)
 refine AU <| Aa <| CU b3 fun af b4 => Ao <| AC <| AB <| rs AA <| rn 2 Z <| sx Z (An Z Z <| rl Z <| AH ?_)
 apply lp (a := af) (fun ad : Int => ⟨100, [(1, .lpb 0 0), (4, lq (A7 f)), (42, ls 9 AZ b.roads), (43, li (b.roads.length : Int)), (44, li ad)], [(0, bx (B4 b))], 1⟩) b4
 . exact wf hA [(0, 0)] Z Z Z
 intro ad dz w
 unfold DD at w
 refine rs AA <| rl Z <| AB <| cd Z w (fun b5 => ?_) (fun cp => ?_)
 .refine AD <| AC <| AB <| AH <| rs AA <| rn 1 Z <| bq b5 fun s aq b6 => sx Z (Aj aq Z Z Z <| rl Z <| rs AA <| rn 3 Z <| bq b6 fun l ar b7 => sx Z (Qq ar Z Z Z Z <| rn 1 Z <| sx Z (Cn AA (fun j : Bool => lb j) (fun j : Bool => [(0, bx (B4 b)), (1, bx (AZ s))]) 2 b7 Tryz.func77 9 [.tmp 4] [(0, ls 9 AZ l), (1, .fn 78 [.lpb 1 0])] Z Z Z Z Z Z Z Z (fun A hA j b9 => ?_) (fun j cl => ?_))))
  .refine rs AA <| rl Z <| rs AA <| rn 2 Z <| sx Z (Cn AA (fun e : Int => li e) (fun e : Int => [(0, bx (B4 b)), (1, bx (AZ s))]) 2 b9 Tryz.func136 19 [.tmp 4] [(0, ls 9 AZ l), (1, .fn 78 [.lpb 1 0])] Z Z Z Z Z Z Z Z (fun A hA e ca => ?_) (fun e ck => ?_))
   .refine rs AA <| rl Z <| AB <| rs AA <| rn 1 Z <| sx Z (An Z Z <| rl Z <| AH ?_)
    apply lp (a := e) (fun n : Int => ⟨19, [(0, ls 9 AZ l), (1, .fn 78 [.lpb 1 0]), (7, li (l.length : Int)), (8, li n)], [(0, bx (B4 b)), (1, bx (AZ s))], 2⟩) ca
    . exact wj hA [(0, 0), (1, 1)] Z Z Z Z
    intro n d1 y
    unfold Em at y
    refine rs AA <| rl Z <| AB <| cd Z y (fun cb => ?_) (fun ci => ?_)
    .refine AD <| AC <| AB <| AH <| rs AA <| rl Z <| rs AA <| rn 3 Z <| bq cb fun d9 au cc => sx Z (Aj au Z Z Z <| rn 1 Z <| bq cc fun ea av ce => sx Z (AS (L9 _ _ _ av) (.inl Z) Z Z (Co.eq (.cons (.one (.p _)) (.cons (.box Z (.cons (.p _) (.cons (.p _) (.cons (.p _) (.cons (.p _) (.cons (.p _) (.cons (.p _) (.cons (.p _) (.cons (.p _) (.cons (.p _) .nil)))))))))) .nil))) <| rl Z <| cd Z ce (fun cf => ?_) (fun ch => ?_)))
     .refine rs AA <| rl Z <| AG <| AV <| AI <| A4 cf fun dq cg => AV <| AI ?_
      have hr := Option.some.inj cg; subst hr
      exact CS (nt := 19) (sl := [(4, li n)]) (wj hA [(0, 0), (1, 1)] Z Z Z Z) Z
     exact AD <| Af <| AC <| rg AA <| rl Z <| Av ch (wj hA [(0, 0), (1, 1)] Z Z Z Z)
    refine AU <| Aa <| BG ci fun dr cj => Ao <| AC <| rs AA <| rl Z <| AG ?_
    cases cj
    exact CS (nt := 19) (sl := [(4, li (-1))]) (wj hA [(0, 0), (1, 1)] Z Z Z Z) Z
   refine rl Z <| AG ?_
   cases ck
   exact CS (nt := 9) (sl := [(4, lb (decide (0 <= e)))]) (wj hA [(0, 0), (1, 1)] Z Z Z Z) Z
  refine rl Z <| cd Z cl (fun cm => ?_) (fun co => ?_)
  .refine rs AA <| rl Z <| AG <| AV <| AI <| A4 cm fun ds cn => AV <| AI ?_
   cases cn
   exact er Z Le.rfl
  exact AD <| Af <| AC <| rg AA <| rl Z <| Av co (wf hA [(0, 0)] Z Z Z)
 refine AU <| Aa <| CU cp fun ag cq => Ao <| AC <| AB <| rs AA <| rn 3 Z <| bq cq fun eb aw cr => sx Z (AS (TJ _ _ _ aw) (.inl Z) Z Z Z <| rl Z <| rs AA <| rl Z <| cd Z cr (fun cs => ?_) (fun ct => ?_))
 .refine rs AA <| rl Z <| AG <| AI ?_
  cases cs
  exact er Z Le.rfl
 refine AD <| AC <| AB <| rs AA <| rn 2 Z <| sx Z (An Z Z <| rl Z <| AH ?_)
 apply lp (a := ag) (fun g : Int => ⟨100, [(1, .lpb 0 0), (4, lq (A7 f)), (65, ls 9 AZ b.roads), (66, li (b.roads.length : Int)), (67, li g)], [(0, bx (B4 b))], 1⟩) ct
 . exact wf hA [(0, 0)] Z Z Z
 intro g d2 z
 unfold Df at z
 refine rs AA <| rl Z <| AB <| cd Z z (fun cu => ?_) (fun c4 => ?_)
 .refine AD <| AC <| AB <| AH <| rs AA <| rn 1 Z <| bq cu fun ec ax cv => sx Z (Aj ax Z Z Z <| rl Z <| jb (fun o : Bool => ⟨100, [(1, .lpb 0 0), (4, lq (A7 f)), (11, li g), (65, ls 9 AZ b.roads), (66, li (b.roads.length : Int)), (67, li g), (80, lb o)], [(0, bx (B4 b))], 1⟩) cv (fun o cw => ?_) (fun o c0 => ?_))
  .refine rg AA <| rn 4 Z <| gs 75 cw Z Z Z (fun cx => ?_) (fun cz => ?_)
   .exact rn 2 Z <| bq cx fun ed ay cy => sx Z (AS (RB _ _ _ ay) (.inl Z) Z Z Z <| rl Z <| AM cy (wf hA [(0, 0)] Z Z Z))
   exact rl Z <| AM cz (wf hA [(0, 0)] Z Z Z)
  refine cd Z c0 (fun c1 => ?_) (fun c3 => ?_)
  .refine rs AA <| rl Z <| AG <| AV <| AI <| A4 c1 fun dt c2 => AV <| AI ?_
   cases c2
   exact er Z Le.rfl
  exact AD <| Af <| AC <| rg AA <| rl Z <| Av c3 (wf hA [(0, 0)] Z Z Z)
 refine AU <| Aa <| CU c4 fun ah c5 => Ao <| AC <| AB <| rs AA <| rn 2 Z <| sx Z (An Z Z <| rl Z <| AH ?_)
 apply lp (a := ah) (fun ae : Int => ⟨100, [(4, lq (A7 f)), (84, ls 9 AZ b.roads), (85, li (b.roads.length : Int)), (86, li ae)], [], 0⟩) c5
 . exact wf hA [] Z Z Z
 intro ae d3 aa
 unfold De at aa
 refine rs AA <| rl Z <| AB <| cd Z aa (fun c6 => ?_) (fun dc => ?_)
 .refine AD <| AC <| AB <| AH <| rs AA <| rn 1 Z <| bq c6 fun ee az c7 => sx Z (Aj az Z Z Z <| rl Z <| AB ?_)
  refine Bb AA Az [0, 1, 2, 3, 4, 5, 6] 7 (by kernel_rfl) Z Z Z ?_
  refine Am 4 Z <| bq c7 fun ef a0 c8 => Al Z (BA (Q9 _ _ _ a0) (.inr Z) Z Z Z <| A1 Z <| AC <| cd Z c8 (fun c9 => ?_) (fun db => ?_))
  .refine rs AA <| rl Z <| AG <| AV <| AI <| A4 c9 fun du da => AV <| AI ?_
   cases da
   exact er Z Le.rfl
  exact AD <| Af <| AC <| rg AA <| rl Z <| Av db (wf hA [] Z Z Z)
 refine AU <| Aa <| BG dc fun dv dd => Ao <| AC <| rs AA <| rl Z <| AG ?_
 cases dd
 exact er Z Le.rfl
noncomputable def KD : Option Bool :=
 (Nd).bind fun g => (Ku g).bind fun a => ((bif (a.2 != 0) then some true else some ((a.1.roads.length : Int) != 6) : Option (Bool))).bind fun (d : Bool) => bif d then some false else (EI a.1).bind fun b => (I3 a.1.roads 0 5).bind fun f => (EI (⟨a.1.plan, f⟩ : B2)).bind fun c => ((bif (b.1 == 0) then bif (b.2 == (-1)) then bif (c.1 == 5) then some (c.2 == 4) else some false else some false else some false : Option (Bool))).bind fun (e : Bool) => some e
theorem VK (r : Bool) (h : KD = some r) : A5 Tryz.prog 28 [] (· = .bool r) := by
 refine fn AA Tryz.func28 Z Z 48 Z [.tmp 0] Z [] Z Z fun A hA => ?_
 unfold KD at h
 refine rs AA <| rl Z <| rs AA <| bq h fun ag f aa => sx Z (AS (Wi _ f) (.inr Z) Z Z Z <| bq aa fun ac g ab => sx Z (AS (TH _ _ g) (.inr Z) Z Z Z <| rl Z <| AB <| jb (fun a : Bool => ⟨48, [(1, .lpb 0 0), (19, lb a)], [(0, bx (B4 ac.1))], 1⟩) ab (fun a i => ?_) (fun a l => ?_)))
 .refine rg AA <| rn 3 Z <| gs 14 i Z Z Z (fun j => ?_) (fun k => ?_)
  .exact rl Z <| AM j (wf hA [(0, 0)] Z Z Z)
  exact rn 2 Z <| sx Z (An Z Z <| rl Z <| AM k (wf hA [(0, 0)] Z Z Z))
 refine cd Z l (fun m => ?_) (fun n => ?_)
 .refine rs AA <| rl Z <| AG <| AI ?_
  cases m
  exact er Z Le.rfl
 refine AD <| AC <| rs AA <| rn 1 Z <| bq n fun ad c o => sx Z (AS (Kv _ _ c) (.inl Z) Z Z Z <| rl Z <| rs AA <| rn 2 Z <| bq o fun ae d p => sx Z (Qq d Z Z Z Z <| rl Z <| rs AA <| rn 1 Z <| bq p fun af e q => sx Z (AS (Kv _ _ e) (.inl Z) Z Z Z <| rl Z <| jb (fun b : Bool => ⟨48, [(0, lb b)], [], 0⟩) q (fun b s => ?_) (fun b z => ?_))))
 .refine rg AA <| rn 3 Z <| gs 36 s Z Z Z (fun t => ?_) (fun y => ?_)
  .refine rn 4 Z <| gs 40 t Z Z Z (fun u => ?_) (fun x => ?_)
   .refine rn 4 Z <| gs 44 u Z Z Z (fun v => ?_) (fun w => ?_)
    .exact rl Z <| AM v (wf hA [] Z Z Z)
    exact rl Z <| AM w (wf hA [] Z Z Z)
   exact rl Z <| AM x (wf hA [] Z Z Z)
  exact rl Z <| AM y (wf hA [] Z Z Z)
 refine AG ?_
 have hr := Option.some.inj z; subst hr
 exact er Z Le.rfl
noncomputable def Ca (d : AN) (b : (List AT)) (a : Int × (List Int) × Int × Int) : Option ((Int × (List Int) × Int × Int) ⊕ Bool) :=
 bif decide (a.1 < (b.length : Int)) then (CF d (⟨a.2.2.1, a.2.2.2⟩ : AF)).bind fun c => ((bif (!c.2) then some true else (Ak b a.1).bind fun f => bif (c.1.elem != f.elem) then some true else (Ak b a.1).bind fun g => bif (c.1.fin != g.in_) then some true else (Ak b a.1).bind fun h => (C4 a.2.1 h.elem).bind fun i => bif i then some true else bif decide (0 < a.1) then (DK d (⟨a.2.2.1, a.2.2.2⟩ : AF)).bind fun j => some (decide (0 <= j)) else some false : Option (Bool))).bind fun (e : Bool) => bif e then some (.inr false) else (Ak b a.1).bind fun k => (A8 a.2.1 [k.elem]).bind fun l => (Ak b a.1).bind fun m => (Ak b a.1).bind fun n => some (.inl (AR (a.1 + 1), l, m.elem, n.out)) else some (.inr true)
noncomputable def JS (b : AN) (a : AF) (c : (List AT)) : Option Bool :=
 AQ (Ca b c) (0, [a.elem], a.elem, a.fin)
theorem UK (c : AN) (f : AF) (d : (List AT)) (r : Bool) (h : JS c f d = some r) : A5 Tryz.prog 193 [.agg (AY c), .agg (AK f), .slice 3 (d.map Ae)] (· = .bool r) := by
 refine fn AA Tryz.func193 Z Z 88 Z [.tmp 6] Z [(0, .p (.agg (AY c))), (1, .p (.agg (AK f))), (2, .p (.slice 3 (d.map Ae)))] Z Z fun A hA => ?_
 unfold JS at h
 refine rs AA <| rl Z <| rs AA <| rl Z <| rs AA <| rl Z <| AB <| rs AA <| rl Z <| AH ?_
 apply lp (a := r) (fun b : (Int × (List Int) × Int × Int) => ⟨88, [(2, ls 3 Ae d), (3, .lpb 0 0), (7, .lsl 1 1 0 b.2.1.length), (8, .lpb 2 0), (9, li b.1)], [(0, bx (AY c)), (1, .row 3 1 (b.2.1.map AW)), (2, .box [li b.2.2.1, li b.2.2.2])], 3⟩) h
 . exact wf hA [(0, 0), (1, 2), (2, 3)] Z Z Z
 intro b a3 g
 unfold Ca at g
 refine AB <| rs AA <| rn 2 Z <| sx Z (An Z Z <| rl Z <| cd Z g (fun w => ?_) (fun ay => ?_))
 .refine AD <| AC <| AB <| AH <| rs AA <| rn 2 Z <| bq w fun a4 i x => sx Z (AS (Cj _ _ _ i) (.inl Z) Z Z Z <| rl Z <| AB <| jb (fun e : Bool => ⟨88, [(2, ls 3 Ae d), (3, .lpb 0 0), (7, .lsl 1 1 0 b.2.1.length), (8, .lpb 2 0), (9, li b.1), (68, lb e)], [(0, bx (AY c)), (1, .row 3 1 (b.2.1.map AW)), (2, .box [li b.2.2.1, li b.2.2.2])], 3⟩) x (fun e y => ?_) (fun e ao => ?_))
  .refine Bb AA Az [0, 1, 2, 3, 4, 5, 6, 7, 8, 9, 10, 11, 12, 13, 14, 15, 16, 17, 18, 19, 20, 21, 22, 23, 24, 25, 26, 27, 28, 29, 30, 31, 32, 33, 34, 35, 36, 37, 38, 39, 40] 41 (by kernel_rfl) Z Z Z ?_
   refine Am 3 Z <| DJ 30 y Z Z Z (fun z => ?_) (fun aa => ?_)
   .exact A1 Z <| AM z (wf hA (gi 3 []) Z Z Z)
   refine Am 4 Z <| bq aa fun a5 j ab => Al Z (AX Z (Aj j Z Z Z <| Am 5 Z <| DJ 40 ab Z Z Z (fun ac => ?_) (fun ad => ?_)))
   .exact A1 Z <| AM ac (wf hA (gi 3 []) Z Z Z)
   refine Am 4 Z <| bq ad fun a6 k ae => Al Z (AX Z (Aj k Z Z Z <| Am 5 Z <| DJ 50 ae Z Z Z (fun af => ?_) (fun ag => ?_)))
   .exact A1 Z <| AM af (wf hA (gi 3 []) Z Z Z)
   refine Am 3 Z <| bq ag fun a7 n ah => Al Z (AX Z (Aj n Z Z Z <| Am 2 Z <| bq ah fun a8 o ai => Al Z (BA (HF _ _ _ o) (.inl Z) Z Z (Co.eq (.cons (.one (.own (enc := AW) b.2.1 Z Z)) (.cons (.one (.p _)) .nil))) <| Am 2 Z <| DJ 59 ai Z Z Z (fun aj => ?_) (fun ak => ?_))))
   .exact A1 Z <| AM aj (wf hA (gi 3 []) Z Z Z)
   refine Am 3 Z <| DJ 62 ak Z Z Z (fun al => ?_) (fun an => ?_)
   .exact Am 2 Z <| bq al fun a9 q am => Al Z (BA (Gj _ _ _ q) (.inl Z) Z Z Z <| A1 Z <| AM am (wf hA (gi 3 []) Z Z Z))
   exact A1 Z <| AM an (wf hA (gi 3 []) Z Z Z)
  refine cd Z ao (fun ap => ?_) (fun ar => ?_)
  .refine rs AA <| rl Z <| AG <| AI <| AV <| AI <| A4 ap fun a1 aq => AV <| AI ?_
   cases aq
   exact er Z Le.rfl
  refine AD <| AC <| rs AA <| rn 3 Z <| bq ar fun a0 s au => sx Z (Aj s Z Z Z <| rn 3 Z <| bq au fun ba t av => sx Z (Au (enc := AW) (l := b.2.1) (m := [a0.elem]) t (fun _ => ⟨Z, Z⟩) Z Z Z Z Z Z <| rl Z ?_))
  refine Bb AA Az [0, 1, 2, 3, 4, 5, 6, 7, 8, 9, 10, 11] 12 (by kernel_rfl) Z Z Z ?_
  exact Am 2 Z <| bq av fun bb u aw => Al Z (AX Z (Aj u Z Z Z <| Am 4 Z <| bq aw fun bc v ax => Al Z (AX Z (Aj v Z Z Z <| A1 Z <| Af <| AC <| rg AA <| rl Z <| Av ax (wf hA [(0, 0), (1, 4), (2, 2)] Z Z Z)))))
 refine AU <| Aa <| BG ay fun a2 az => Ao <| AC <| rs AA <| rl Z <| AG ?_
 cases az
 exact er Z Le.rfl
end Go.E
/- Plain functions, and walks in step with them. Written by a program (gen.py). No condition. -/
set_option maxRecDepth 100000
namespace Go.E
open Go Go.RowKit Go.Proofs
noncomputable def Dg (g : AN) (c : (List AT)) (b : (Int × (List AJ))) (d : (List BS)) (a : Bool × Int × (List AJ)) : Option ((Bool × Int × (List AJ)) ⊕ ((Int × (List AJ)) ⊕ ((List AJ) × Bool))) :=
 bif decide (a.2.1 < (d.length : Int)) then (((Ak d a.2.1).bind fun h => (Ak c b.1).bind fun i => bif (h.out != i.out) then some (a.1, a.2.2) else (Ak d a.2.1).bind fun j => bif (j.pos != 0) then (Ak c b.1).bind fun k => (Ak d a.2.1).bind fun l => (A8 a.2.2 [(⟨k.elem, l.pos⟩ : AJ)]).bind fun m => some (true, m) else some (true, a.2.2) : Option (Bool × (List AJ)))).bind fun (e : Bool × (List AJ)) => some (.inl (e.1, AR (a.2.1 + 1), e.2)) else (((bif (!a.1) then (Ak c b.1).bind fun n => (D2 g n.elem).bind fun o => bif (o != 4) then some true else (Ak c b.1).bind fun p => bif (p.in_ != 0) then some true else (Ak c b.1).bind fun q => bif (q.out != (-1)) then some true else some (b.1 != (AR ((c.length : Int) - 1))) else some false : Option (Bool))).bind fun (f : Bool) => bif f then some (.inr ([], false)) else some (.inl (AR (b.1 + 1), a.2.2))).map .inr
noncomputable def Ec (c : AN) (b : (List AT)) (a : Int × (List AJ)) : Option ((Int × (List AJ)) ⊕ ((List AJ) × Bool)) :=
 bif decide (a.1 < (b.length : Int)) then (Ak b a.1).bind fun d => (Ak b a.1).bind fun e => (Hn c d.elem e.in_).bind fun f => AQ (Dg c b a f) (false, 0, a.2) else some (.inr (a.2, true))
noncomputable def KE (a : AN) (b : (List AT)) : Option ((List AJ) × Bool) :=
 AQ (Ec a b) (0, ([] : List AJ))
theorem VL (d : AN) (e : (List AT)) (r : ((List AJ) × Bool)) (h : KE d e = some r) : A5 Tryz.prog 194 [.agg (AY d), .slice 3 (e.map Ae)] (· = .tup [.slice 2 (r.1.map AP), .bool r.2]) := by
 refine fn AA Tryz.func194 Z Z 102 Z [.tmp 4, .tmp 5] Z [(0, .p (.agg (AY d))), (1, .p (.slice 3 (e.map Ae)))] Z Z fun A hA => ?_
 unfold KE at h
 refine rs AA <| rl Z <| rs AA <| rl Z <| AB <| rs AA <| rl Z <| AH ?_
 apply lp (a := r) (fun c : (Int × (List AJ)) => ⟨102, [(1, ls 3 Ae e), (2, .lpb 0 0), (6, .lsl 1 2 0 c.2.length), (7, li c.1)], [(0, bx (AY d)), (1, .row 91 2 (c.2.map AP))], 2⟩) h
 . exact A0.trans (Bm 6 91 2 Z) (wf hA [(0, 0), (1, 1)] Z Z Z)
 intro c n i
 unfold Ec at i
 refine AB <| rs AA <| rn 2 Z <| sx Z (An Z Z <| rl Z <| cd Z i (fun ad => ?_) (fun bg => ?_))
 .refine AD <| AC <| AB <| AH <| AB ?_
  refine Bb AA Az [0, 1, 2, 3, 4, 5, 6, 7, 8, 9, 10, 11, 12] 13 (by kernel_rfl) Z Z Z ?_
  refine Am 3 Z <| bq ad fun bo o ae => Al Z (AX Z (Aj o Z Z Z <| Am 4 Z <| bq ae fun bp q af => Al Z (AX Z (Aj q Z Z Z <| Am 2 Z <| bq af fun k s ag => Al Z (BA (Ox _ _ _ _ s) (.inr Z) Z Z Z <| A1 Z <| AC <| rs AA <| rl Z <| AB <| rs AA <| rl Z <| AH ?_)))))
  apply lp (a := n) (fun b : (Bool × Int × (List AJ)) => ⟨102, [(1, ls 3 Ae e), (2, .lpb 0 0), (6, .lsl 1 2 0 b.2.2.length), (7, li c.1), (8, ls 2 CP k), (9, lb b.1), (10, li b.2.1)], [(0, bx (AY d)), (1, .row 91 2 (b.2.2.map AP))], 2⟩) ag
  . exact wf hA [(0, 0), (1, 1)] Z Z Z
  intro b bn j
  unfold Dg at j
  refine AB <| rs AA <| rn 2 Z <| sx Z (An Z Z <| rl Z <| cd Z j (fun ah => ?_) (fun aw => ?_))
  .refine AD <| AC <| jb (fun f : (Bool × (List AJ)) => ⟨102, [(1, ls 3 Ae e), (2, .lpb 0 0), (6, .lsl 1 2 0 f.2.length), (7, li c.1), (8, ls 2 CP k), (9, lb f.1), (10, li b.2.1)], [(0, bx (AY d)), (1, .row 91 2 (f.2.map AP))], 2⟩) ah (fun f ai => ?_) (fun f av => ?_)
   .refine AH <| AB <| AB ?_
    refine Bb AA Az [0, 1, 2, 3, 4, 5, 6, 7, 8, 9, 10] 11 (by kernel_rfl) Z Z Z ?_
    refine Am 2 Z <| bq ai fun br t aj => Al Z (AX Z (Aj t Z Z Z <| Am 4 Z <| bq aj fun bs u ak => Al Z (AX Z (Aj u Z Z Z <| A1 Z <| AC <| cd Z ak (fun al => ?_) (fun am => ?_)))))
    .exact AU <| Aa <| Ao <| AM al (wf hA [(0, 0), (1, 1)] Z Z Z)
    refine AD <| AC <| rs AA <| rl Z <| rs AA <| rn 2 Z <| bq am fun bt v an => sx Z (Aj v Z Z Z <| rl Z <| cd Z an (fun ao => ?_) (fun au => ?_))
    .refine Bb AA Az [0, 1, 2, 3, 4, 5, 6, 7, 8, 9, 10, 11, 12, 13, 14] 15 (by kernel_rfl) Z Z Z ?_
     exact Am 3 Z <| bq ao fun bi w ap => Al Z (AX Z (Aj w Z Z Z <| Am 4 Z <| bq ap fun bj x aq => Al Z (AX Z (Aj x Z Z Z <| Am 4 Z <| bq aq fun bu y ar => Al Z (BY (Au (enc := AP) (l := b.2.2) (m := [(⟨bi.elem, bj.pos⟩ : AJ)]) y (fun _ => ⟨Z, Z⟩) Z Z Z Z Z Z <| A1 Z <| Af <| AM ar (wf hA [(0, 0), (1, 26)] Z Z Z)))))))
    exact AD <| Af <| AM au (wf hA [(0, 0), (1, 1)] Z Z Z)
   exact rg AA <| rl Z <| Av av (wf hA [(0, 0), (1, 1)] Z Z Z)
  refine AU <| Aa <| CU aw fun bk ax => Ao <| AC <| jb (fun g : Bool => ⟨102, [(1, ls 3 Ae e), (2, .lpb 0 0), (6, .lsl 1 2 0 b.2.2.length), (7, li c.1), (100, lb g)], [(0, bx (AY d)), (1, .row 91 2 (b.2.2.map AP))], 2⟩) ax (fun g ay => ?_) (fun g bb => ?_)
  .refine Bb AA Az [0, 1, 2, 3, 4, 5, 6, 7, 8, 9, 10, 11, 12, 13, 14, 15, 16, 17, 18, 19, 20, 21, 22, 23, 24, 25, 26, 27, 28, 29, 30, 31, 32, 33, 34] 35 (by kernel_rfl) Z Z Z ?_
   refine Am 3 Z <| DJ 68 ay Z Z Z (fun az => ?_) (fun ba => ?_)
   .refine Am 3 Z <| bq az fun bv z a0 => Al Z (AX Z (Aj z Z Z Z <| Am 2 Z <| bq a0 fun bw aa a1 => Al Z (BA (Ho _ _ _ aa) (.inl Z) Z Z Z <| Am 2 Z <| DJ 77 a1 Z Z Z (fun a2 => ?_) (fun a3 => ?_))))
    .exact A1 Z <| AM a2 (wf hA [(0, 0), (1, 1)] Z Z Z)
    refine Am 2 Z <| bq a3 fun bz ab a4 => Al Z (AX Z (Aj ab Z Z Z <| Am 5 Z <| DJ 85 a4 Z Z Z (fun a5 => ?_) (fun a6 => ?_)))
    .exact A1 Z <| AM a5 (wf hA [(0, 0), (1, 1)] Z Z Z)
    refine Am 2 Z <| bq a6 fun b0 ac a7 => Al Z (AX Z (Aj ac Z Z Z <| Am 5 Z <| DJ 93 a7 Z Z Z (fun a8 => ?_) (fun a9 => ?_)))
    .exact A1 Z <| AM a8 (wf hA [(0, 0), (1, 1)] Z Z Z)
    exact Am 2 Z <| Al Z (Oj Z Z <| A1 Z <| AM a9 (wf hA [(0, 0), (1, 1)] Z Z Z))
   exact A1 Z <| AM ba (wf hA [(0, 0), (1, 1)] Z Z Z)
  refine cd Z bb (fun bc => ?_) (fun bf => ?_)
  .refine rs AA <| rl Z <| AG <| AV <| AI <| A4 bc fun bl be => AV <| AI ?_
   cases be
   exact er Z (Le.tup' (.cons (Le.nil _) (.cons Le.rfl .nil)))
  exact AD <| Af <| AC <| rg AA <| rl Z <| Av bf (wf hA [(0, 0), (1, 1)] Z Z Z)
 refine AU <| Aa <| BG bg fun bm bh => Ao <| AC <| rs AA <| rl Z <| AG ?_
 cases bh
 exact er (SZ Z (.cons (.one (.own (enc := AP) c.2 Z Z)) (.cons (.one (.p _)) .nil))) Le.rfl
noncomputable def Hp (b : (List AJ)) (c : (List AJ)) (a : Int) : Option (Int ⊕ Bool) :=
 bif decide (a < (b.length : Int)) then (Ak b a).bind fun d => (Ak c a).bind fun e => bif (!(d == e)) then some (.inr false) else some (.inl (AR (a + 1))) else some (.inr true)
noncomputable def FK (a : (List AJ)) (b : (List AJ)) : Option Bool :=
 bif ((a.length : Int) != (b.length : Int)) then some false else AQ (Hp a b) 0
theorem RD (b : (List AJ)) (c : (List AJ)) (r : Bool) (h : FK b c = some r) : A5 Tryz.prog 195 [.slice 2 (b.map AP), .slice 2 (c.map AP)] (· = .bool r) := by
 refine fn AA Tryz.func195 Z Z 26 Z [.tmp 4] Z [(0, .p (.slice 2 (b.map AP))), (1, .p (.slice 2 (c.map AP)))] Z Z fun A hA => ?_
 unfold FK at h
 refine rs AA <| rl Z <| AB <| rs AA <| rn 1 Z <| sx Z (An Z Z <| rn 1 Z <| sx Z (An Z Z <| rl Z <| cd Z h (fun s => ?_) (fun t => ?_)))
 .refine rs AA <| rl Z <| AG <| AI ?_
  cases s
  exact er Z Le.rfl
 refine AD <| AC <| AB <| rs AA <| rl Z <| AH ?_
 apply lp (a := r) (fun e : Int => ⟨26, [(0, ls 2 AP b), (1, ls 2 AP c), (5, li e)], [], 0⟩) t
 . exact wf hA [] Z Z Z
 intro e y d
 unfold Hp at d
 refine AB <| rs AA <| rn 2 Z <| sx Z (An Z Z <| rl Z <| cd Z d (fun i => ?_) (fun o => ?_))
 .refine AD <| AC <| AB <| AH <| AB ?_
  refine Bb AA Az [0, 1, 2, 3, 4, 5, 6, 7, 8] 9 (by kernel_rfl) Z Z Z ?_
  refine Am 2 Z <| bq i fun u f j => Al Z (AX Z (Aj f Z Z Z <| Am 3 Z <| bq j fun v g k => Al Z (AX Z (Aj g Z Z Z <| Am 1 Z <| Al Z (Qs (Ni u v) Z Z Z Z Z <| A1 Z <| AC <| cd Z k (fun l => ?_) (fun n => ?_))))))
  .refine rs AA <| rl Z <| AG <| AV <| AI <| A4 l fun w m => AV <| AI ?_
   cases m
   exact er Z Le.rfl
  exact AD <| Af <| AC <| rg AA <| rl Z <| Av n (wf hA [] Z Z Z)
 refine AU <| Aa <| BG o fun x q => Ao <| AC <| rs AA <| rl Z <| AG ?_
 cases q
 exact er Z Le.rfl
noncomputable def Lo (b : AN) (a : AO) : Option Bool :=
 (I6 b a.frm).bind fun e => ((bif (!e.2) then some true else bif decide ((a.steps.length : Int) < 1) then some true else bif decide (12 < (a.steps.length : Int)) then some true else (JS b e.1 a.steps).bind fun m => some (!m) : Option (Bool))).bind fun (i : Bool) => bif i then some false else (KE b a.steps).bind fun f => ((bif (!f.2) then some true else (FK f.1 a.needs).bind fun n => some (!n) : Option (Bool))).bind fun (j : Bool) => bif j then some false else (Ak a.steps (AR ((a.steps.length : Int) - 1))).bind fun c => bif decide (c.out < 0) then ((bif (a.fin == 2) then some (a.to == (-1)) else some false : Option (Bool))).bind fun (k : Bool) => some k else (DK b (⟨c.elem, c.out⟩ : AF)).bind fun d => bif decide (0 <= d) then ((bif (a.fin == 1) then some (a.to == d) else some false : Option (Bool))).bind fun (g : Bool) => some g else (CF b (⟨c.elem, c.out⟩ : AF)).bind fun l => ((bif (!l.2) then bif (a.fin == 3) then some (a.to == (-1)) else some false else some false : Option (Bool))).bind fun (h : Bool) => some h
theorem Ya (a : AN) (b : AO) (r : Bool) (h : Lo a b = some r) : A5 Tryz.prog 140 [.agg (AY a), .agg (AZ b)] (· = .bool r) := by
 refine fn AA Tryz.func140 Z Z 115 Z [.tmp 4] Z [(0, .p (.agg (AY a))), (1, .p (.agg (AZ b)))] Z Z fun A hA => ?_
 unfold Lo at h
 refine rs AA <| rl Z <| rs AA <| rn 3 Z <| bq h fun ba k ak => sx Z (AS (R3 _ _ _ k) (.inl Z) Z Z Z <| rl Z <| AB <| jb (fun e : Bool => ⟨115, [(2, .lpb 0 0), (3, .lpb 1 0), (42, lb e)], [(0, bx (AY a)), (1, bx (AZ b))], 2⟩) ak (fun e af => ?_) (fun e ao => ?_))
 .refine rg AA <| rn 3 Z <| gs 23 af Z Z Z (fun ag => ?_) (fun ah => ?_)
  .exact rl Z <| AM ag (wf hA [(0, 0), (1, 1)] Z Z Z)
  refine rn 2 Z <| sx Z (An Z Z <| rn 3 Z <| gs 29 ah Z Z Z (fun ai => ?_) (fun aj => ?_))
  .exact rl Z <| AM ai (wf hA [(0, 0), (1, 1)] Z Z Z)
  refine rn 2 Z <| sx Z (An Z Z <| rn 3 Z <| gs 35 aj Z Z Z (fun al => ?_) (fun am => ?_))
  .exact rl Z <| AM al (wf hA [(0, 0), (1, 1)] Z Z Z)
  exact rn 4 Z <| bq am fun bb l an => sx Z (AS (UK _ _ _ _ l) (.inl Z) Z Z Z <| rl Z <| AM an (wf hA [(0, 0), (1, 1)] Z Z Z))
 refine cd Z ao (fun ap => ?_) (fun aq => ?_)
 .refine rs AA <| rl Z <| AG <| AI ?_
  cases ap
  exact er Z Le.rfl
 refine AD <| AC <| rs AA <| rn 3 Z <| bq aq fun bc m ar => sx Z (AS (VL _ _ _ m) (.inr Z) Z Z Z <| rl Z <| AB <| jb (fun f : Bool => ⟨115, [(2, .lpb 0 0), (3, .lpb 1 0), (58, lb f)], [(0, bx (AY a)), (1, bx (AZ b))], 2⟩) ar (fun f au => ?_) (fun f ay => ?_))
 .refine rg AA <| rn 3 Z <| gs 52 au Z Z Z (fun av => ?_) (fun aw => ?_)
  .exact rl Z <| AM av (wf hA [(0, 0), (1, 1)] Z Z Z)
  exact rn 3 Z <| bq aw fun be n ax => sx Z (AS (RD _ _ _ n) (.inl Z) Z Z Z <| rl Z <| AM ax (wf hA [(0, 0), (1, 1)] Z Z Z))
 refine cd Z ay (fun az => ?_) (fun a0 => ?_)
 .refine rs AA <| rl Z <| AG <| AI ?_
  cases az
  exact er Z Le.rfl
 refine AD <| AC <| rs AA <| rn 4 Z <| sx Z (An Z Z <| rn 1 Z <| bq a0 fun bf o a1 => sx Z (Aj o Z Z Z <| rl Z <| rs AA <| rl Z <| AB <| rs AA <| rl Z <| cd Z a1 (fun a2 => ?_) (fun a7 => ?_)))
 .refine jb (fun g : Bool => ⟨115, [(4, lb g)], [], 0⟩) a2 (fun g a3 => ?_) (fun g a6 => ?_)
  .refine rg AA <| rn 4 Z <| gs 78 a3 Z Z Z (fun a4 => ?_) (fun a5 => ?_)
   .exact rl Z <| AM a4 (wf hA [] Z Z Z)
   exact rl Z <| AM a5 (wf hA [] Z Z Z)
  refine AG <| AI ?_
  have hr := Option.some.inj a6; subst hr
  exact er Z Le.rfl
 refine AD <| AC <| AB <| rs AA <| rn 2 Z <| bq a7 fun a8 i q => sx Z (AS (Gj _ _ _ i) (.inl Z) Z Z Z <| rl Z <| rs AA <| rl Z <| cd Z q (fun s => ?_) (fun x => ?_))
 .refine jb (fun c : Bool => ⟨115, [(4, lb c)], [], 0⟩) s (fun c t => ?_) (fun c w => ?_)
  .refine rg AA <| rn 4 Z <| gs 91 t Z Z Z (fun u => ?_) (fun v => ?_)
   .exact rl Z <| AM u (wf hA [] Z Z Z)
   exact rl Z <| AM v (wf hA [] Z Z Z)
  refine AG <| AI ?_
  have hr := Option.some.inj w; subst hr
  exact er Z Le.rfl
 refine AD <| AC <| rs AA <| rn 2 Z <| bq x fun a9 j y => sx Z (AS (Cj _ _ _ j) (.inl Z) Z Z Z <| rl Z <| jb (fun d : Bool => ⟨115, [(4, lb d)], [], 0⟩) y (fun d z => ?_) (fun d ae => ?_))
 .refine rg AA <| rn 3 Z <| gs 105 z Z Z Z (fun aa => ?_) (fun ad => ?_)
  .refine rn 5 Z <| gs 110 aa Z Z Z (fun ab => ?_) (fun ac => ?_)
   .exact rl Z <| AM ab (wf hA [] Z Z Z)
   exact rl Z <| AM ac (wf hA [] Z Z Z)
  exact rl Z <| AM ad (wf hA [] Z Z Z)
 refine AG ?_
 have hr := Option.some.inj ae; subst hr
 exact er Z Le.rfl
noncomputable def Hq (b : (List AT)) (c : (List AT)) (a : Int) : Option (Int ⊕ Bool) :=
 bif decide (a < (b.length : Int)) then (Ak b a).bind fun d => (Ak c a).bind fun e => bif (!(d == e)) then some (.inr false) else some (.inl (AR (a + 1))) else some (.inr true)
noncomputable def D9 (a : (List AT)) (b : (List AT)) : Option Bool :=
 bif ((a.length : Int) != (b.length : Int)) then some false else AQ (Hq a b) 0
theorem MA (b : (List AT)) (c : (List AT)) (r : Bool) (h : D9 b c = some r) : A5 Tryz.prog 141 [.slice 3 (b.map Ae), .slice 3 (c.map Ae)] (· = .bool r) := by
 refine fn AA Tryz.func141 Z Z 26 Z [.tmp 4] Z [(0, .p (.slice 3 (b.map Ae))), (1, .p (.slice 3 (c.map Ae)))] Z Z fun A hA => ?_
 unfold D9 at h
 refine rs AA <| rl Z <| AB <| rs AA <| rn 1 Z <| sx Z (An Z Z <| rn 1 Z <| sx Z (An Z Z <| rl Z <| cd Z h (fun s => ?_) (fun t => ?_)))
 .refine rs AA <| rl Z <| AG <| AI ?_
  cases s
  exact er Z Le.rfl
 refine AD <| AC <| AB <| rs AA <| rl Z <| AH ?_
 apply lp (a := r) (fun e : Int => ⟨26, [(0, ls 3 Ae b), (1, ls 3 Ae c), (5, li e)], [], 0⟩) t
 . exact wf hA [] Z Z Z
 intro e y d
 unfold Hq at d
 refine AB <| rs AA <| rn 2 Z <| sx Z (An Z Z <| rl Z <| cd Z d (fun i => ?_) (fun o => ?_))
 .refine AD <| AC <| AB <| AH <| AB ?_
  refine Bb AA Az [0, 1, 2, 3, 4, 5, 6, 7, 8] 9 (by kernel_rfl) Z Z Z ?_
  refine Am 2 Z <| bq i fun u f j => Al Z (AX Z (Aj f Z Z Z <| Am 3 Z <| bq j fun v g k => Al Z (AX Z (Aj g Z Z Z <| Am 1 Z <| Al Z (Qs (UI u v) Z Z Z Z Z <| A1 Z <| AC <| cd Z k (fun l => ?_) (fun n => ?_))))))
  .refine rs AA <| rl Z <| AG <| AV <| AI <| A4 l fun w m => AV <| AI ?_
   cases m
   exact er Z Le.rfl
  exact AD <| Af <| AC <| rg AA <| rl Z <| Av n (wf hA [] Z Z Z)
 refine AU <| Aa <| BG o fun x q => Ao <| AC <| rs AA <| rl Z <| AG ?_
 cases q
 exact er Z Le.rfl
noncomputable def D3 (c : B2) (a : Int) (b : Int) : Option (Int ⊕ (Int ⊕ (Int × Int))) :=
 bif decide (b < a) then (((Ak c.roads a).bind fun e => (Ak c.roads b).bind fun f => bif (e.frm == f.frm) then (Ak c.roads a).bind fun g => (Ak c.roads b).bind fun h => (D9 g.steps h.steps).bind fun i => some i else some false : Option (Bool))).bind fun (d : Bool) => bif d then some (.inr (.inr (4, a))) else some (.inl (AR (b + 1))) else some (.inr (.inl (AR (a + 1))))
noncomputable def DF (b : B2) (a : Int) : Option (Int ⊕ (Int × Int)) :=
 bif decide (a < (b.roads.length : Int)) then AQ (D3 b a) 0 else some (.inr (0, (-1)))
noncomputable def D4 (b : B2) (a : Int) : Option (Int ⊕ (Int × Int)) :=
 bif decide (a < (b.roads.length : Int)) then (Ak b.roads a).bind fun c => (Lo b.plan c).bind fun d => bif (!d) then some (.inr (3, a)) else some (.inl (AR (a + 1))) else (AQ (DF b) 0).map .inr
noncomputable def HR (a : B2) : Option (Int × Int) :=
 AQ (D4 a) 0
theorem RE (b : B2) (r : (Int × Int)) (h : HR b = some r) : A5 Tryz.prog 81 [.agg (B4 b)] (· = .tup [.int .i64 r.1, .int .i64 r.2]) := by
 refine fn AA Tryz.func81 Z Z 65 Z [.tmp 2, .tmp 3] Z [(0, .p (.agg (B4 b)))] Z Z fun A hA => ?_
 unfold HR at h
 refine rs AA <| rl Z <| AB <| rs AA <| rl Z <| AH ?_
 apply lp (a := r) (fun j : Int => ⟨65, [(1, .lpb 0 0), (4, li j)], [(0, bx (B4 b))], 1⟩) h
 . exact wf hA [(0, 0)] Z Z Z
 intro j a3 f
 unfold D4 at f
 refine AB <| rs AA <| rn 3 Z <| sx Z (An Z Z <| rl Z <| cd Z f (fun v => ?_) (fun ab => ?_))
 .refine AD <| AC <| AB <| AH <| AB ?_
  refine Bb AA Az [0, 1, 2, 3, 4, 5, 6, 7, 8] 9 (by kernel_rfl) Z Z Z ?_
  refine Am 5 Z <| bq v fun a5 m w => Al Z (AX Z (Aj m Z Z Z <| Am 1 Z <| bq w fun a6 n x => Al Z (BA (Ya _ _ _ n) (.inl Z) Z Z Z <| A1 Z <| AC <| cd Z x (fun y => ?_) (fun aa => ?_))))
  .refine rs AA <| rl Z <| AG <| AV <| AI <| A4 y fun ay z => AV <| AI ?_
   cases z
   exact er Z Le.rfl
  exact AD <| Af <| AC <| rg AA <| rl Z <| Av aa (wf hA [(0, 0)] Z Z Z)
 refine AU <| Aa <| CU ab fun k ac => Ao <| AC <| AB <| rs AA <| rl Z <| AH ?_
 apply lp (a := k) (fun c : Int => ⟨65, [(1, .lpb 0 0), (5, li c)], [(0, bx (B4 b))], 1⟩) ac
 . exact wf hA [(0, 0)] Z Z Z
 intro c l g
 unfold DF at g
 refine AB <| rs AA <| rn 3 Z <| sx Z (An Z Z <| rl Z <| cd Z g (fun ad => ?_) (fun aw => ?_))
 .refine AD <| AC <| AB <| AH <| rs AA <| rl Z <| AH ?_
  apply lp (a := l) (fun d : Int => ⟨65, [(1, .lpb 0 0), (5, li c), (6, li d)], [(0, bx (B4 b))], 1⟩) ad
  . exact wf hA [(0, 0)] Z Z Z
  intro d a4 i
  unfold D3 at i
  refine AB <| rs AA <| rl Z <| cd Z i (fun ae => ?_) (fun au => ?_)
  .refine AD <| AC <| AB <| AH <| jb (fun e : Bool => ⟨65, [(1, .lpb 0 0), (5, li c), (6, li d), (63, lb e)], [(0, bx (B4 b))], 1⟩) ae (fun e af => ?_) (fun e an => ?_)
   .refine Bb AA Az [0, 1, 2, 3, 4, 5, 6, 7, 8, 9, 10, 11, 12, 13, 14, 15, 16, 17, 18, 19, 20, 21, 22, 23, 24, 25, 26, 27] 28 (by kernel_rfl) Z Z Z ?_
    refine Am 3 Z <| bq af fun a7 o ag => Al Z (AX Z (Aj o Z Z Z <| Am 5 Z <| bq ag fun a8 q ah => Al Z (AX Z (Aj q Z Z Z <| Am 4 Z <| DJ 49 ah Z Z Z (fun ai => ?_) (fun am => ?_)))))
    .exact Am 3 Z <| bq ai fun a9 s aj => Al Z (AX Z (Aj s Z Z Z <| Am 5 Z <| bq aj fun ba t ak => Al Z (AX Z (Aj t Z Z Z <| Am 2 Z <| bq ak fun bb u al => Al Z (BA (MA _ _ _ u) (.inl Z) Z Z Z <| A1 Z <| AM al (wf hA [(0, 0)] Z Z Z))))))
    exact A1 Z <| AM am (wf hA [(0, 0)] Z Z Z)
   refine cd Z an (fun ao => ?_) (fun ar => ?_)
   .refine rs AA <| rl Z <| AG <| AV <| AI <| A4 ao fun az ap => AV <| AV <| AI <| A4 ap fun a0 aq => AV <| AI ?_
    cases aq
    exact er Z Le.rfl
   exact AD <| Af <| AC <| rg AA <| rl Z <| Av ar (wf hA [(0, 0)] Z Z Z)
  exact AU <| Aa <| BG au fun a1 av => Ao <| Af <| AC <| rg AA <| rl Z <| Av av (wf hA [(0, 0)] Z Z Z)
 refine AU <| Aa <| BG aw fun a2 ax => Ao <| AC <| rs AA <| rl Z <| AG ?_
 cases ax
 exact er Z Le.rfl
noncomputable def Ed (b : B2) (d : Int) (f : (List AO)) (c : Int) (a : Bool × Int) : Option ((Bool × Int) ⊕ (Int ⊕ (Int ⊕ Int))) :=
 bif decide (a.2 < (b.roads.length : Int)) then ((bif a.1 then some true else (Ak b.roads a.2).bind fun g => bif (g.frm == d) then (Ak f c).bind fun h => (Ak b.roads a.2).bind fun i => (D9 h.steps i.steps).bind fun j => some j else some false : Option (Bool))).bind fun (e : Bool) => some (.inl (e, AR (a.2 + 1))) else (bif (!a.1) then some (.inr (.inr d)) else some (.inl (AR (c + 1)))).map .inr
noncomputable def F0 (d : B2) (b : Int) (c : (List AO)) (a : Int) : Option (Int ⊕ (Int ⊕ Int)) :=
 bif decide (a < (c.length : Int)) then AQ (Ed d b c a) (false, 0) else some (.inr (.inl (AR (b + 1))))
noncomputable def IA (b : B2) (a : Int) : Option (Int ⊕ Int) :=
 bif decide (a < (b.plan.signals.length : Int)) then (Jx b.plan a).bind fun c => AQ (F0 b a c) 0 else some (.inr (-1))
noncomputable def IZ (a : B2) : Option Int :=
 AQ (IA a) 0
theorem VM (b : B2) (r : Int) (h : IZ b = some r) : A5 Tryz.prog 82 [.agg (B4 b)] (· = .int .i64 r) := by
 refine fn AA Tryz.func82 Z Z 61 Z [.tmp 2] Z [(0, .p (.agg (B4 b)))] Z Z fun A hA => ?_
 unfold IZ at h
 refine rs AA <| rl Z <| AB <| rs AA <| rl Z <| AH ?_
 apply lp (a := r) (fun c : Int => ⟨61, [(1, .lpb 0 0), (3, li c)], [(0, bx (B4 b))], 1⟩) h
 . exact wf hA [(0, 0)] Z Z Z
 intro c l i
 unfold IA at i
 refine AB <| rs AA <| rn 4 Z <| sx Z (An Z Z <| rl Z <| cd Z i (fun u => ?_) (fun aq => ?_))
 .refine AD <| AC <| AB <| AH <| rs AA <| rn 3 Z <| bq u fun g n v => sx Z (AS (UL _ _ _ n) (.inr Z) Z Z Z <| rl Z <| rs AA <| rl Z <| AH ?_)
  apply lp (a := l) (fun d : Int => ⟨61, [(1, .lpb 0 0), (3, li c), (4, ls 9 AZ g), (5, li d)], [(0, bx (B4 b))], 1⟩) v
  . exact wf hA [(0, 0)] Z Z Z
  intro d m j
  unfold F0 at j
  refine AB <| rs AA <| rn 2 Z <| sx Z (An Z Z <| rl Z <| cd Z j (fun w => ?_) (fun ao => ?_))
  .refine AD <| AC <| AB <| AH <| rs AA <| rl Z <| AB <| rs AA <| rl Z <| AH ?_
   apply lp (a := m) (fun e : (Bool × Int) => ⟨61, [(1, .lpb 0 0), (3, li c), (4, ls 9 AZ g), (5, li d), (6, lb e.1), (7, li e.2)], [(0, bx (B4 b))], 1⟩) w
   . exact wf hA [(0, 0)] Z Z Z
   intro e az k
   unfold Ed at k
   refine AB <| rs AA <| rn 3 Z <| sx Z (An Z Z <| rl Z <| cd Z k (fun x => ?_) (fun ai => ?_))
   .refine AD <| AC <| jb (fun f : Bool => ⟨61, [(1, .lpb 0 0), (3, li c), (4, ls 9 AZ g), (5, li d), (6, lb f), (7, li e.2)], [(0, bx (B4 b))], 1⟩) x (fun f y => ?_) (fun f ah => ?_)
    .refine AH ?_
     refine Bb AA Az [0, 1, 2, 3, 4, 5, 6, 7, 8, 9, 10, 11, 12, 13, 14, 15, 16, 17, 18, 19, 20, 21, 22, 23, 24, 25] 26 (by kernel_rfl) Z Z Z ?_
     refine Am 2 Z <| DJ 34 y Z Z Z (fun z => ?_) (fun aa => ?_)
     .exact A1 Z <| Af <| AM z (wf hA [(0, 0)] Z Z Z)
     refine Am 3 Z <| bq aa fun a0 o ab => Al Z (AX Z (Aj o Z Z Z <| Am 5 Z <| DJ 43 ab Z Z Z (fun ac => ?_) (fun ag => ?_)))
     .exact Am 2 Z <| bq ac fun a1 q ad => Al Z (AX Z (Aj q Z Z Z <| Am 5 Z <| bq ad fun a2 s ae => Al Z (AX Z (Aj s Z Z Z <| Am 2 Z <| bq ae fun a3 t af => Al Z (BA (MA _ _ _ t) (.inl Z) Z Z Z <| A1 Z <| Af <| AM af (wf hA [(0, 0)] Z Z Z))))))
     exact A1 Z <| Af <| AM ag (wf hA [(0, 0)] Z Z Z)
    exact rg AA <| rl Z <| Av ah (wf hA [(0, 0)] Z Z Z)
   refine AU <| Aa <| CU ai fun au aj => Ao <| AC <| rs AA <| rl Z <| cd Z aj (fun ak => ?_) (fun an => ?_)
   .refine rs AA <| rl Z <| AG <| AV <| AI <| A4 ak fun av al => AV <| AV <| AI <| A4 al fun aw am => AV <| AI ?_
    have hr := Option.some.inj am; subst hr
    exact er Z Le.rfl
   exact AD <| Af <| AC <| rg AA <| rl Z <| Av an (wf hA [(0, 0)] Z Z Z)
  exact AU <| Aa <| BG ao fun ax ap => Ao <| Af <| AC <| rg AA <| rl Z <| Av ap (wf hA [(0, 0)] Z Z Z)
 refine AU <| Aa <| BG aq fun ay ar => Ao <| AC <| rs AA <| rl Z <| AG ?_
 cases ar
 exact er Z Le.rfl
end Go.E
/- Plain functions, and walks in step with them. Written by a program (gen.py). No condition. -/
set_option maxRecDepth 100000
namespace Go.E
open Go Go.RowKit Go.Proofs
noncomputable def Kc (a : AO) : Option (List AJ) :=
 (A8 ([] : List AJ) a.needs).bind fun b => (A8 b a.guards).bind fun c => some c
theorem Wm (a : AO) (r : (List AJ)) (h : Kc a = some r) : GV Tryz.prog 89 [.agg (AZ a)] 91 2 (r.map AP) := by
 refine XW (enc := AP) (fun _ => ⟨Z, Z⟩) Tryz.func89 Z Z 10 Z 2 Z [(0, .p (.agg (AZ a)))] Z Z fun A hA => ?_
 unfold Kc at h
 refine rs AA <| rl Z <| AB ?_
 refine Zx (Rz 1 []) Az [1, 2, 4, 5, 0, 3, 6, 7] 8 Z (by kernel_rfl) Z Z Z ?_
 refine Am 5 Z <| bq h fun f b d => Al Z (BY (Au (enc := AP) (l := ([] : List AJ)) (m := a.needs) b (fun _ => ⟨Z, Z⟩) Z Z Z Z Z Z <| bq d fun g c e => Al Z (BY (Au (enc := AP) (l := f) (m := a.guards) c (fun _ => ⟨Z, Z⟩) Z Z Z Z Z Z <| A1 Z <| AC <| AG ?_))))
 have hr := Option.some.inj e; subst hr
 exact XX Z Z Z
noncomputable def Eo (d : (List AJ)) (c : (List AJ)) (b : Int) (a : Int) : Option (Int ⊕ (Int ⊕ Bool)) :=
 bif decide (a < (c.length : Int)) then (((Ak d b).bind fun f => (Ak c a).bind fun g => bif (f.elem == g.elem) then (Ak d b).bind fun h => (Ak c a).bind fun i => some (h.pos != i.pos) else some false : Option (Bool))).bind fun (e : Bool) => bif e then some (.inr (.inr true)) else some (.inl (AR (a + 1))) else some (.inr (.inl (AR (b + 1))))
noncomputable def Ep (b : (List AJ)) (c : (List AJ)) (a : Int) : Option (Int ⊕ Bool) :=
 bif decide (a < (b.length : Int)) then AQ (Eo b c a) 0 else some (.inr false)
noncomputable def G0 (a : (List AJ)) (b : (List AJ)) : Option Bool :=
 AQ (Ep a b) 0
theorem TN (b : (List AJ)) (c : (List AJ)) (r : Bool) (h : G0 b c = some r) : A5 Tryz.prog 90 [.slice 2 (b.map AP), .slice 2 (c.map AP)] (· = .bool r) := by
 refine fn AA Tryz.func90 Z Z 43 Z [.tmp 4] Z [(0, .p (.slice 2 (b.map AP))), (1, .p (.slice 2 (c.map AP)))] Z Z fun A hA => ?_
 unfold G0 at h
 refine rs AA <| rl Z <| AB <| rs AA <| rl Z <| AH ?_
 apply lp (a := r) (fun d : Int => ⟨43, [(0, ls 2 AP b), (1, ls 2 AP c), (5, li d)], [], 0⟩) h
 . exact wf hA [] Z Z Z
 intro d j g
 unfold Ep at g
 refine AB <| rs AA <| rn 2 Z <| sx Z (An Z Z <| rl Z <| cd Z g (fun o => ?_) (fun ag => ?_))
 .refine AD <| AC <| AB <| AH <| rs AA <| rl Z <| AH ?_
  apply lp (a := j) (fun e : Int => ⟨43, [(0, ls 2 AP b), (1, ls 2 AP c), (5, li d), (6, li e)], [], 0⟩) o
  . exact wf hA [] Z Z Z
  intro e am i
  unfold Eo at i
  refine AB <| rs AA <| rn 2 Z <| sx Z (An Z Z <| rl Z <| cd Z i (fun q => ?_) (fun ae => ?_))
  .refine AD <| AC <| AB <| AH <| jb (fun f : Bool => ⟨43, [(0, ls 2 AP b), (1, ls 2 AP c), (5, li d), (6, li e), (42, lb f)], [], 0⟩) q (fun f s => ?_) (fun f z => ?_)
   .refine Bb AA Az [0, 1, 2, 3, 4, 5, 6, 7, 8, 9, 10, 11, 12, 13, 14, 15, 16, 17, 18, 19, 20, 21, 22, 23] 24 (by kernel_rfl) Z Z Z ?_
    refine Am 2 Z <| bq s fun an k t => Al Z (AX Z (Aj k Z Z Z <| Am 4 Z <| bq t fun ao l u => Al Z (AX Z (Aj l Z Z Z <| Am 4 Z <| DJ 30 u Z Z Z (fun v => ?_) (fun y => ?_)))))
    .exact Am 2 Z <| bq v fun ap m w => Al Z (AX Z (Aj m Z Z Z <| Am 4 Z <| bq w fun aq n x => Al Z (AX Z (Aj n Z Z Z <| A1 Z <| AM x (wf hA [] Z Z Z)))))
    exact A1 Z <| AM y (wf hA [] Z Z Z)
   refine cd Z z (fun aa => ?_) (fun ad => ?_)
   .refine rs AA <| rl Z <| AG <| AV <| AI <| A4 aa fun ai ab => AV <| AV <| AI <| A4 ab fun aj ac => AV <| AI ?_
    cases ac
    exact er Z Le.rfl
   exact AD <| Af <| AC <| rg AA <| rl Z <| Av ad (wf hA [] Z Z Z)
  exact AU <| Aa <| BG ae fun ak af => Ao <| Af <| AC <| rg AA <| rl Z <| Av af (wf hA [] Z Z Z)
 refine AU <| Aa <| BG ag fun al ah => Ao <| AC <| rs AA <| rl Z <| AG ?_
 cases ah
 exact er Z Le.rfl
noncomputable def Mz (b : AO) (a : Int × (List Int)) : Option ((Int × (List Int)) ⊕ (List Int)) :=
 bif decide (a.1 < (b.steps.length : Int)) then (Ak b.steps a.1).bind fun c => (A8 a.2 [c.elem]).bind fun d => some (.inl (AR (a.1 + 1), d)) else some (.inr a.2)
noncomputable def KF (a : AO) : Option (List Int) :=
 AQ (Mz a) (0, ([] : List Int))
theorem UM (c : AO) (r : (List Int)) (h : KF c = some r) : GV Tryz.prog 129 [.agg (AZ c)] 3 1 (r.map AW) := by
 refine XW (enc := AW) (fun _ => ⟨Z, Z⟩) Tryz.func129 Z Z 22 Z 2 Z [(0, .p (.agg (AZ c)))] Z Z fun A hA => ?_
 unfold KF at h
 refine rs AA <| rl Z <| rs AA <| rl Z <| AB <| rs AA <| rl Z <| AH ?_
 apply lp (a := r) (fun b : (Int × (List Int)) => ⟨22, [(1, .lpb 0 0), (3, .lsl 1 1 0 b.2.length), (4, li b.1)], [(0, bx (AZ c)), (1, .row 3 1 (b.2.map AW))], 2⟩) h
 . exact A0.trans (Bm 3 3 1 Z) (wf hA [(0, 0), (1, 1)] Z Z Z)
 intro b s d
 unfold Mz at d
 refine AB <| rs AA <| rn 3 Z <| sx Z (An Z Z <| rl Z <| cd Z d (fun n => ?_) (fun j => ?_))
 .exact AD <| AC <| AB <| AH <| rg AA <| rn 4 Z <| bq n fun o e g => sx Z (Aj e Z Z Z <| rn 3 Z <| bq g fun t f i => sx Z (Au (enc := AW) (l := b.2) (m := [o.elem]) f (fun _ => ⟨Z, Z⟩) Z Z Z Z Z Z <| rl Z <| Af <| AC <| rg AA <| rl Z <| Av i (wf hA [(0, 0), (1, 3)] Z Z Z)))
 refine AU <| Aa <| BG j fun q k => Ao <| AC <| rs AA <| rl Z <| AG ?_
 cases k
 exact XX Z Z Z
noncomputable def GP (a : AO) (b : Int) : Option Bool :=
 (KF a).bind fun c => (C4 c b).bind fun d => some d
theorem Oy (a : AO) (b : Int) (r : Bool) (h : GP a b = some r) : A5 Tryz.prog 92 [.agg (AZ a), .int .i64 b] (· = .bool r) := by
 refine fn AA Tryz.func92 Z Z 9 Z [.tmp 4] Z [(0, .p (.agg (AZ a))), (1, .p (.int .i64 b))] Z Z fun A hA => ?_
 unfold GP at h
 refine rs AA <| rl Z <| rs AA <| rn 1 Z <| bq h fun g c e => sx Z (Rx (UM _ _ c) Z Z Z Z <| rn 1 Z <| bq e fun i d f => sx Z (AS (HF _ _ _ d) (.inl Z) Z Z (Co.eq (.cons (.one (.own (enc := AW) g Z Z)) (.cons (.one (.p _)) .nil))) <| rl Z <| AG ?_))
 have hr := Option.some.inj f; subst hr
 exact er Z Le.rfl
noncomputable def F1 (e : AN) (c : (Int × (List AF))) (b : (List AF)) (a : Int × (List AF)) : Option ((Int × (List AF)) ⊕ ((Int × (List AF)) ⊕ (List AF))) :=
 bif decide (a.1 < (b.length : Int)) then (((Ak b a.1).bind fun f => (CF e f).bind fun g => bif g.2 then (Ak b a.1).bind fun h => (A8 a.2 [h]).bind fun i => some i else some a.2 : Option ((List AF)))).bind fun (d : (List AF)) => some (.inl (AR (a.1 + 1), d)) else some (.inr (.inl (AR (c.1 + 1), a.2)))
noncomputable def IB (d : AN) (e : AO) (b : Int × (List AF)) : Option ((Int × (List AF)) ⊕ (List AF)) :=
 bif decide (b.1 < (e.steps.length : Int)) then (Ak e.steps b.1).bind fun a => (((D2 d a.elem).bind fun f => bif (f == 2) then (A8 ([] : List AF) [(⟨a.elem, AR (3 - (if a.out > a.in_ then a.out else a.in_))⟩ : AF)]).bind fun h => some h else bif (f == 3) then ((bif decide (2 <= a.in_) then some 0 else some 2 : Option (Int))).bind fun (c : Int) => (A8 ([] : List AF) [(⟨a.elem, c⟩ : AF), (⟨a.elem, AR (c + 1)⟩ : AF)]).bind fun i => some i else some ([] : List AF) : Option ((List AF)))).bind fun (g : (List AF)) => AQ (F1 d b g) (0, b.2) else some (.inr b.2)
noncomputable def HG (a : AN) (b : AO) : Option (List AF) :=
 AQ (IB a b) (0, ([] : List AF))
theorem Pq (d : AN) (f : AO) (r : (List AF)) (h : HG d f = some r) : A5 Tryz.prog 142 [.agg (AY d), .agg (AZ f)] (· = .slice 2 (r.map AK)) := by
 refine fn AA Tryz.func142 Z Z 84 Z [.tmp 4] Z [(0, .p (.agg (AY d))), (1, .p (.agg (AZ f)))] Z Z fun A hA => ?_
 unfold HG at h
 refine rs AA <| rl Z <| rs AA <| rl Z <| AB <| rs AA <| rl Z <| AH ?_
 apply lp (a := r) (fun b : (Int × (List AF)) => ⟨84, [(2, .lpb 0 0), (3, .lpb 1 0), (5, .lsl 2 2 0 b.2.length), (6, li b.1)], [(0, bx (AY d)), (1, bx (AZ f)), (2, .row 96 2 (b.2.map AK))], 3⟩) h
 . exact A0.trans (Bm 5 96 2 Z) (wf hA (gi 3 []) Z Z Z)
 intro b t q
 unfold IB at q
 refine AB <| rs AA <| rn 3 Z <| sx Z (An Z Z <| rl Z <| cd Z q (fun aa => ?_) (fun a2 => ?_))
 .refine AD <| AC <| AB <| AH <| rs AA <| rn 3 Z <| bq aa fun g u ab => sx Z (Aj u Z Z Z <| rl Z <| rs AA <| rl Z <| jb (fun c : (List AF) => ⟨84, [(2, .lpb 0 0), (3, .lpb 1 0), (5, .lsl 2 2 0 b.2.length), (6, li b.1), (8, .lsl 3 2 0 c.length)], [(0, bx (AY d)), (1, bx (AZ f)), (2, .row 96 2 (b.2.map AK)), (3, .row 96 2 (c.map AK))], 4⟩) ab (fun c ac => ?_) (fun c ao => ?_))
  .refine rs AA <| rn 3 Z <| bq ac fun a8 v ad => sx Z (AS (Ho _ _ _ v) (.inl Z) Z Z Z <| rl Z <| AH <| rs AA <| rl Z <| cd Z ad (fun ae => ?_) (fun ag => ?_))
   .exact rg AA <| rn 11 Z <| bq ae fun a9 w af => sx Z (XV (e := 96) (sz := 2) (enc := AK) (m := [(⟨g.elem, AR (3 - (if g.out > g.in_ then g.out else g.in_))⟩ : AF)]) w (fun _ => ⟨Z, Z⟩) Z Z Z <| rl Z <| Af <| AM af (wf hA (gi 3 [(3, 5)]) Z Z Z))
   refine rs AA <| rl Z <| cd Z ag (fun ah => ?_) (fun an => ?_)
   .refine rs AA <| rl Z <| jb (fun j : Int => ⟨84, [(2, .lpb 0 0), (3, .lpb 1 0), (5, .lsl 2 2 0 b.2.length), (6, li b.1), (7, .lpb 3 0), (8, .p (.nils)), (9, li j)], [(0, bx (AY d)), (1, bx (AZ f)), (2, .row 96 2 (b.2.map AK)), (3, bx (Ae g))], 4⟩) ah (fun j ai => ?_) (fun j al => ?_)
    .refine rs AA <| rl Z <| cd Z ai (fun aj => ?_) (fun ak => ?_)
     .exact rg AA <| rl Z <| AM aj (wf hA (gi 4 []) Z Z Z)
     exact AD <| AM ak (wf hA (gi 4 []) Z Z Z)
    exact rg AA <| rn 11 Z <| bq al fun ba x am => sx Z (XV (e := 96) (sz := 2) (enc := AK) (m := [(⟨g.elem, j⟩ : AF), (⟨g.elem, AR (j + 1)⟩ : AF)]) x (fun _ => ⟨Z, Z⟩) Z Z Z <| rl Z <| Af <| AM am (wf hA (gi 3 [(3, 5)]) Z Z Z))
   exact AD <| Af <| AM an (A0.trans (Bm 8 96 2 Z) (wf hA (gi 3 [(3, 4)]) Z Z Z))
  refine rs AA <| rl Z <| AH ?_
  apply lp (a := t) (fun i : (Int × (List AF)) => ⟨84, [(2, .lpb 0 0), (3, .lpb 1 0), (5, .lsl 2 2 0 i.2.length), (6, li b.1), (8, .lsl 3 2 0 c.length), (10, li i.1)], [(0, bx (AY d)), (1, bx (AZ f)), (2, .row 96 2 (i.2.map AK)), (3, .row 96 2 (c.map AK))], 4⟩) ao
  . exact wf hA (gi 4 []) Z Z Z
  intro i a7 s
  unfold F1 at s
  refine AB <| rs AA <| rl Z <| cd Z s (fun ap => ?_) (fun a0 => ?_)
  .refine AD <| AC <| jb (fun k : (List AF) => ⟨84, [(2, .lpb 0 0), (3, .lpb 1 0), (5, .lsl 2 2 0 k.length), (6, li b.1), (8, .lsl 3 2 0 c.length), (10, li i.1)], [(0, bx (AY d)), (1, bx (AZ f)), (2, .row 96 2 (k.map AK)), (3, .row 96 2 (c.map AK))], 4⟩) ap (fun k aq => ?_) (fun k az => ?_)
   .refine AH <| AB ?_
    refine Bb AA Az [0, 1, 2, 3, 4, 5, 6, 7, 8, 9, 10, 11] 12 (by kernel_rfl) Z Z Z ?_
    refine Am 3 Z <| bq aq fun bb n ar => Al Z (AX Z (Bf n Z Z Z Z <| Al Z (FE Z (Cl n Z Z Z <| bq ar fun bc y au => Al Z (BA (Cj _ _ _ y) (.inl Z) Z Z Z <| A1 Z <| AC <| rs AA <| rl Z <| cd Z au (fun av => ?_) (fun ay => ?_))))))
    .exact rg AA <| rn 3 Z <| bq av fun a4 o aw => sx Z (Bf o Z Z Z Z <| sx Z (Cl o Z Z Z <| rn 1 Z <| bq aw fun be z ax => sx Z (Au (enc := AK) (l := i.2) (m := [a4]) z (fun _ => ⟨Z, Z⟩) Z Z Z Z Z Z <| rl Z <| Af <| AM ax (wf hA [(0, 0), (1, 1), (2, 17), (3, 3)] Z Z Z))))
    exact AD <| Af <| AM ay (wf hA (gi 4 []) Z Z Z)
   exact rg AA <| rl Z <| Av az (wf hA (gi 4 []) Z Z Z)
  exact AU <| Aa <| BG a0 fun a5 a1 => Ao <| Af <| AC <| rg AA <| rl Z <| Av a1 (wf hA (gi 3 []) Z Z Z)
 refine AU <| Aa <| BG a2 fun a6 a3 => Ao <| AC <| rs AA <| rl Z <| AG ?_
 cases a3
 exact er (GM Z (.one (.own (enc := AK) b.2 Z Z))) Le.rfl
noncomputable def Dh (b : (List AF)) (c : AF) (a : Int) : Option (Int ⊕ Bool) :=
 bif decide (a < (b.length : Int)) then (Ak b a).bind fun d => bif (d == c) then some (.inr true) else some (.inl (AR (a + 1))) else some (.inr false)
noncomputable def E8 (a : (List AF)) (b : AF) : Option Bool :=
 AQ (Dh a b) 0
theorem OB (c : (List AF)) (b : AF) (r : Bool) (h : E8 c b = some r) : A5 Tryz.prog 145 [.slice 2 (c.map AK), .agg (AK b)] (· = .bool r) := by
 refine fn AA Tryz.func145 Z Z 18 Z [.tmp 4] Z [(0, .p (.slice 2 (c.map AK))), (1, .p (.agg (AK b)))] Z Z fun A hA => ?_
 unfold E8 at h
 refine rs AA <| rl Z <| AB <| rs AA <| rl Z <| AH ?_
 apply lp (a := r) (fun e : Int => ⟨18, [(0, ls 2 AK c), (3, .lpb 0 0), (5, li e)], [(0, .box [li b.elem, li b.fin])], 1⟩) h
 . exact wf hA [(0, 0)] Z Z Z
 intro e t d
 unfold Dh at d
 refine AB <| rs AA <| rn 2 Z <| sx Z (An Z Z <| rl Z <| cd Z d (fun n => ?_) (fun l => ?_))
 .refine AD <| AC <| AB <| AH <| AB ?_
  refine Bb AA Az [0, 1, 2, 3, 4, 5] 6 (by kernel_rfl) Z Z Z ?_
  refine Am 2 Z <| bq n fun o f g => Al Z (AX Z (Aj f Z Z Z <| Am 2 Z <| Al Z (La (Iy o b) Z Z Z Z Z <| A1 Z <| AC <| cd Z g (fun i => ?_) (fun k => ?_))))
  .refine rs AA <| rl Z <| AG <| AV <| AI <| A4 i fun q j => AV <| AI ?_
   cases j
   exact er Z Le.rfl
  exact AD <| Af <| AC <| rg AA <| rl Z <| Av k (wf hA [(0, 0)] Z Z Z)
 refine AU <| Aa <| BG l fun s m => Ao <| AC <| rs AA <| rl Z <| AG ?_
 cases m
 exact er Z Le.rfl
noncomputable def Di (b : (List AJ)) (c : AJ) (a : Int) : Option (Int ⊕ Bool) :=
 bif decide (a < (b.length : Int)) then (Ak b a).bind fun d => bif (d == c) then some (.inr true) else some (.inl (AR (a + 1))) else some (.inr false)
noncomputable def C9 (a : (List AJ)) (b : AJ) : Option Bool :=
 AQ (Di a b) 0
theorem G1 (c : (List AJ)) (b : AJ) (r : Bool) (h : C9 c b = some r) : A5 Tryz.prog 147 [.slice 2 (c.map AP), .agg (AP b)] (· = .bool r) := by
 refine fn AA Tryz.func147 Z Z 18 Z [.tmp 4] Z [(0, .p (.slice 2 (c.map AP))), (1, .p (.agg (AP b)))] Z Z fun A hA => ?_
 unfold C9 at h
 refine rs AA <| rl Z <| AB <| rs AA <| rl Z <| AH ?_
 apply lp (a := r) (fun e : Int => ⟨18, [(0, ls 2 AP c), (3, .lpb 0 0), (5, li e)], [(0, .box [li b.elem, li b.pos])], 1⟩) h
 . exact wf hA [(0, 0)] Z Z Z
 intro e t d
 unfold Di at d
 refine AB <| rs AA <| rn 2 Z <| sx Z (An Z Z <| rl Z <| cd Z d (fun n => ?_) (fun l => ?_))
 .refine AD <| AC <| AB <| AH <| AB ?_
  refine Bb AA Az [0, 1, 2, 3, 4, 5] 6 (by kernel_rfl) Z Z Z ?_
  refine Am 2 Z <| bq n fun o f g => Al Z (AX Z (Aj f Z Z Z <| Am 2 Z <| Al Z (La (Ni o b) Z Z Z Z Z <| A1 Z <| AC <| cd Z g (fun i => ?_) (fun k => ?_))))
  .refine rs AA <| rl Z <| AG <| AV <| AI <| A4 i fun q j => AV <| AI ?_
   cases j
   exact er Z Le.rfl
  exact AD <| Af <| AC <| rg AA <| rl Z <| Av k (wf hA [(0, 0)] Z Z Z)
 refine AU <| Aa <| BG l fun s m => Ao <| AC <| rs AA <| rl Z <| AG ?_
 cases m
 exact er Z Le.rfl
noncomputable def HS (d : Int) (b : (List BS)) (a : Int) : Option (Int ⊕ (Int × Bool)) :=
 bif decide (a < (b.length : Int)) then (((Ak b a).bind fun e => bif (e.pos == 0) then some true else (Ak b a).bind fun f => some (f.pos == d) : Option (Bool))).bind fun (c : Bool) => bif c then (Ak b a).bind fun g => some (.inr (g.out, true)) else some (.inl (AR (a + 1))) else some (.inr (0, false))
noncomputable def Hr (a : AN) (b : Int) (c : Int) (d : Int) : Option (Int × Bool) :=
 (Hn a b c).bind fun e => AQ (HS d e) 0
theorem UN (e : AN) (f : Int) (g : Int) (b : Int) (r : (Int × Bool)) (h : Hr e f g b = some r) : A5 Tryz.prog 197 [.agg (AY e), .int .i64 f, .int .i64 g, .int .i64 b] (· = .tup [.int .i64 r.1, .bool r.2]) := by
 refine fn AA Tryz.func197 Z Z 42 Z [.tmp 8, .tmp 9] Z [(0, .p (.agg (AY e))), (1, .p (.int .i64 f)), (2, .p (.int .i64 g)), (3, .p (.int .i64 b))] Z Z fun A hA => ?_
 unfold Hr at h
 refine rs AA <| rl Z <| rs AA <| rn 3 Z <| bq h fun j n ad => sx Z (AS (Ox _ _ _ _ n) (.inr Z) Z Z Z <| rl Z <| AB <| rs AA <| rl Z <| AH ?_)
 apply lp (a := r) (fun c : Int => ⟨42, [(3, li b), (10, ls 2 CP j), (11, li c)], [], 0⟩) ad
 . exact wf hA [] Z Z Z
 intro c ag i
 unfold HS at i
 refine AB <| rs AA <| rn 2 Z <| sx Z (An Z Z <| rl Z <| cd Z i (fun o => ?_) (fun ab => ?_))
 .refine AD <| AC <| AB <| AH <| jb (fun d : Bool => ⟨42, [(3, li b), (10, ls 2 CP j), (11, li c), (36, lb d)], [], 0⟩) o (fun d q => ?_) (fun d w => ?_)
  .refine rg AA <| rn 2 Z <| bq q fun ah k s => sx Z (Aj k Z Z Z <| rn 4 Z <| gs 28 s Z Z Z (fun t => ?_) (fun u => ?_))
   .exact rl Z <| AM t (wf hA [] Z Z Z)
   exact rn 2 Z <| bq u fun ai l v => sx Z (Aj l Z Z Z <| rl Z <| AM v (wf hA [] Z Z Z))
  refine cd Z w (fun x => ?_) (fun aa => ?_)
  .refine rs AA <| rn 2 Z <| bq x fun aj m y => sx Z (Aj m Z Z Z <| rl Z <| AG <| AV <| AI <| A4 y fun ae z => AV <| AI ?_)
   cases z
   exact er Z Le.rfl
  exact AD <| Af <| AC <| rg AA <| rl Z <| Av aa (wf hA [] Z Z Z)
 refine AU <| Aa <| BG ab fun af ac => Ao <| AC <| rs AA <| rl Z <| AG ?_
 cases ac
 exact er Z Le.rfl
noncomputable def JT (b : AN) (c : Int) (f : Int) (g : Int) (a : Int) : Option (Int ⊕ (Int × Bool)) :=
 (DX b c).bind fun h => (Hi h).bind fun i => bif decide (a < i) then (Hr b c a g).bind fun d => ((bif d.2 then some (d.1 == f) else some false : Option (Bool))).bind fun (e : Bool) => bif e then some (.inr (a, true)) else some (.inl (AR (a + 1))) else some (.inr (0, false))
noncomputable def I7 (a : AN) (b : Int) (c : Int) (d : Int) : Option (Int × Bool) :=
 AQ (JT a b c d) 0
theorem Sk (b : AN) (c : Int) (d : Int) (e : Int) (r : (Int × Bool)) (h : I7 b c d e = some r) : A5 Tryz.prog 148 [.agg (AY b), .int .i64 c, .int .i64 d, .int .i64 e] (· = .tup [.int .i64 r.1, .bool r.2]) := by
 refine fn AA Tryz.func148 Z Z 36 Z [.tmp 8, .tmp 9] Z [(0, .p (.agg (AY b))), (1, .p (.int .i64 c)), (2, .p (.int .i64 d)), (3, .p (.int .i64 e))] Z Z fun A hA => ?_
 unfold I7 at h
 refine rs AA <| rl Z <| AB <| rs AA <| rl Z <| AH ?_
 apply lp (a := r) (fun f : Int => ⟨36, [(1, li c), (2, li d), (3, li e), (4, .lpb 0 0), (10, li f)], [(0, bx (AY b))], 1⟩) h
 . exact wf hA [(0, 0)] Z Z Z
 intro f ad i
 unfold JT at i
 refine AB <| rs AA <| rn 3 Z <| bq i fun ae j m => sx Z (AS (GQ _ _ _ j) (.inl Z) Z Z Z <| bq m fun af k n => sx Z (AS (Ou _ _ k) (.inl Z) Z Z Z <| rl Z <| cd Z n (fun o => ?_) (fun z => ?_)))
 .refine AD <| AC <| AB <| AH <| rs AA <| rn 4 Z <| bq o fun ag l q => sx Z (AS (UN _ _ _ _ _ l) (.inl Z) Z Z Z <| rl Z <| jb (fun g : Bool => ⟨36, [(1, li c), (2, li d), (3, li e), (4, .lpb 0 0), (10, li f), (34, lb g)], [(0, bx (AY b))], 1⟩) q (fun g s => ?_) (fun g v => ?_))
  .refine rg AA <| rn 2 Z <| gs 30 s Z Z Z (fun t => ?_) (fun u => ?_)
   .exact rl Z <| AM t (wf hA [(0, 0)] Z Z Z)
   exact rl Z <| AM u (wf hA [(0, 0)] Z Z Z)
  refine cd Z v (fun w => ?_) (fun y => ?_)
  .refine rs AA <| rl Z <| AG <| AV <| AI <| A4 w fun ab x => AV <| AI ?_
   cases x
   exact er Z Le.rfl
  exact AD <| Af <| AC <| rg AA <| rl Z <| Av y (wf hA [(0, 0)] Z Z Z)
 refine AU <| Aa <| BG z fun ac aa => Ao <| AC <| rs AA <| rl Z <| AG ?_
 cases aa
 exact er Z Le.rfl
noncomputable def DA (c : (List AJ)) (d : AF) (a : Int × (List Int)) : Option ((Int × (List Int)) ⊕ (List Int)) :=
 bif decide (a.1 <= 2) then (((C9 c (⟨d.elem, AR (3 - a.1)⟩ : AJ)).bind fun e => bif (!e) then (A8 a.2 [a.1]).bind fun f => some f else some a.2 : Option ((List Int)))).bind fun (b : (List Int)) => some (.inl (AR (a.1 + 1), b)) else some (.inr a.2)
noncomputable def E9 (e : AN) (f : AF) (g : (List AF)) (b : (List Int)) (a : Int × (List AF)) : Option ((Int × (List AF)) ⊕ (((List AF) × (List AF)) ⊕ Bool)) :=
 bif decide (a.1 < (b.length : Int)) then (((Ak b a.1).bind fun h => (CF e (⟨f.elem, h⟩ : AF)).bind fun c => bif c.2 then (A8 a.2 [c.1]).bind fun i => some i else some a.2 : Option ((List AF)))).bind fun (d : (List AF)) => some (.inl (AR (a.1 + 1), d)) else some (.inr (.inl (g, a.2)))
noncomputable def DB (c : AN) (f : AO) (h : (List AJ)) (b : (List AF) × (List AF)) : Option (((List AF) × (List AF)) ⊕ Bool) :=
 bif decide (0 < (b.2.length : Int)) then (Ak b.2 0).bind fun a => (Kx b.2 1 (b.2.length : Int)).bind fun d => (((E8 b.1 a).bind fun p => bif p then some true else (GP f a.elem).bind fun q => some q : Option (Bool))).bind fun (j : Bool) => bif j then some (.inl (b.1, d)) else (A8 b.1 [a]).bind fun g => (DK c a).bind fun i => ((bif decide (0 <= i) then bif (!c.hard) then (C4 f.holds i).bind fun r => some r else some false else some false : Option (Bool))).bind fun (k : Bool) => bif k then some (.inl (g, d)) else (D2 c a.elem).bind fun e => ((bif (e == 2) then bif decide (0 < a.fin) then (C9 h (⟨a.elem, AR (3 - a.fin)⟩ : AJ)).bind fun s => some s else some false else some false : Option (Bool))).bind fun (l : Bool) => bif l then some (.inl (g, d)) else ((bif (e == 4) then some true else (C4 f.zone a.elem).bind fun t => some (!t) : Option (Bool))).bind fun (m : Bool) => bif m then some (.inr false) else ((((bif (e == 2) then some (a.fin == 0) else some false : Option (Bool))).bind fun (o : Bool) => bif o then AQ (DA h a) (1, ([] : List Int)) else bif (e != 2) then (I7 c a.elem a.fin 0).bind fun u => (Ak ([0] : List Int) 0).bind fun v => some (A9 [0] 0 u.1) else some [0] : Option ((List Int)))).bind fun (n : (List Int)) => AQ (E9 c a g n) (0, d) else some (.inr true)
noncomputable def Ip (b : AN) (d : AO) (e : (List AJ)) (c : (List AF)) (a : Int × (List AF)) : Option ((Int × (List AF)) ⊕ Bool) :=
 bif decide (a.1 < (c.length : Int)) then (Ak c a.1).bind fun f => (CF b f).bind fun g => (A8 a.2 [g.1]).bind fun h => some (.inl (AR (a.1 + 1), h)) else (AQ (DB b d e) (([] : List AF), a.2)).map .inr
noncomputable def Gk (a : AN) (b : AO) (c : (List AJ)) : Option Bool :=
 (HG a b).bind fun d => AQ (Ip a b c d) (0, ([] : List AF))
theorem Wn (e : AN) (f : AO) (g : (List AJ)) (r : Bool) (h : Gk e f g = some r) : A5 Tryz.prog 94 [.agg (AY e), .agg (AZ f), .slice 2 (g.map AP)] (· = .bool r) := by
 refine fn AA Tryz.func94 Z Z 176 Z [.tmp 6] Z [(0, .p (.agg (AY e))), (1, .p (.agg (AZ f))), (2, .p (.slice 2 (g.map AP)))] Z Z fun A hA => ?_
 unfold Gk at h
 refine rs AA <| rl Z <| rs AA <| rl Z <| rs AA <| rn 2 Z <| bq h fun dh an c3 => sx Z (AS (Pq _ _ _ an) (.inr Z) Z Z Z <| rl Z <| AB <| rs AA <| rl Z <| AH ?_)
 apply lp (a := r) (fun o : (Int × (List AF)) => ⟨176, [(2, ls 2 AP g), (3, .lpb 0 0), (4, .lpb 1 0), (7, .p (.nils)), (8, .lsl 2 2 0 o.2.length), (9, ls 2 AK dh), (10, li o.1)], [(0, bx (AY e)), (1, bx (AZ f)), (2, .row 96 2 (o.2.map AK))], 3⟩) c3
 . exact A0.trans (Bm 8 96 2 Z) (wf hA (gi 3 []) Z Z Z)
 intro o dp ae
 unfold Ip at ae
 refine AB <| rs AA <| rn 2 Z <| sx Z (An Z Z <| rl Z <| cd Z ae (fun a3 => ?_) (fun a7 => ?_))
 .refine AD <| AC <| AB <| AH <| AB ?_
  refine Bb AA Az [0, 1, 2, 3, 4, 5, 6, 7, 8, 9, 10, 11] 12 (by kernel_rfl) Z Z Z ?_
  exact Am 3 Z <| bq a3 fun ds ak a4 => Al Z (AX Z (Aj ak Z Z Z <| Am 1 Z <| bq a4 fun dg al a5 => Al Z (BA (Cj _ _ _ al) (.inl Z) Z Z Z <| A1 Z <| AC <| rg AA <| rn 3 Z <| bq a5 fun dt am a6 => sx Z (Au (enc := AK) (l := o.2) (m := [dg.1]) am (fun _ => ⟨Z, Z⟩) Z Z Z Z Z Z <| rl Z <| Af <| AC <| rg AA <| rl Z <| Av a6 (wf hA [(0, 0), (1, 1), (2, 16)] Z Z Z)))))
 refine AU <| Aa <| CU a7 fun ai a8 => Ao <| AC <| AB <| AH ?_
 apply lp (a := ai) (fun i : ((List AF) × (List AF)) => ⟨176, [(2, ls 2 AP g), (3, .lpb 0 0), (4, .lpb 1 0), (7, .lsl 2 2 0 i.1.length), (8, .lsl 3 2 0 i.2.length)], [(0, bx (AY e)), (1, bx (AZ f)), (2, .row 96 2 (i.1.map AK)), (3, .row 96 2 (i.2.map AK))], 4⟩) a8
 . exact A0.trans (Bm 7 96 2 Z) (wf hA [(0, 0), (1, 1), (2, 3), (3, 2)] Z Z Z)
 intro i aj af
 unfold DB at af
 refine AB <| rs AA <| rl Z <| cd Z af (fun a9 => ?_) (fun de => ?_)
 .refine AD <| AC <| AH <| rs AA <| rn 1 Z <| bq a9 fun b aa ba => sx Z (Bf aa Z Z Z Z <| sx Z (Cl aa Z Z Z <| rl Z <| rs AA <| rn 1 Z <| bq ba fun c ab bb => sx Z (Wl (l := i.2) ab Z Z Z Z Z <| rl Z <| Jp (st' := ⟨176, [(2, ls 2 AP g), (3, .lpb 0 0), (4, .lpb 1 0), (7, .lsl 2 2 0 i.1.length), (8, .lsl 3 2 0 c.length), (13, .lpb 4 0)], [(0, bx (AY e)), (1, bx (AZ f)), (2, .row 96 2 (i.1.map AK)), (3, .row 96 2 (c.map AK)), (4, .box [li b.elem, li b.fin])], 5⟩) (A0.trans (UJ 3 (enc := AK) (l := i.2) Z (RC ab) (.cons 2 (.same _) (.cons 3 (.same _) (.cons 4 (.same _) (.cons 7 (.same _) (.cons 8 .hit (.cons 13 (.same _) .nil)))))) (.cons 0 Z Z (.same _) (.cons 1 Z Z (.same _) (.cons 2 Z Z (.same _) (.cons 4 Z Z (.same _) .nil))))) (wf hA (gi 3 [(3, 5), (4, 4)]) Z Z Z)) <| AB <| jb (fun t : Bool => ⟨176, [(2, ls 2 AP g), (3, .lpb 0 0), (4, .lpb 1 0), (7, .lsl 2 2 0 i.1.length), (8, .lsl 3 2 0 c.length), (13, .lpb 4 0), (61, lb t)], [(0, bx (AY e)), (1, bx (AZ f)), (2, .row 96 2 (i.1.map AK)), (3, .row 96 2 (c.map AK)), (4, .box [li b.elem, li b.fin])], 5⟩) bb (fun t bc => ?_) (fun t bi => ?_))))
  .refine rg AA <| rn 2 Z <| bq bc fun du ao be => sx Z (AS (OB _ _ _ ao) (.inl Z) Z Z (Co.eq (.cons (.one (.own (enc := AK) i.1 Z Z)) (.cons (.one (.p _)) .nil))) <| rn 1 Z <| gs 56 be Z Z Z (fun bf => ?_) (fun bg => ?_))
   .exact rl Z <| AM bf (wf hA (gi 5 []) Z Z Z)
   exact rn 3 Z <| bq bg fun dv ap bh => sx Z (AS (Oy _ _ _ ap) (.inl Z) Z Z Z <| rl Z <| AM bh (wf hA (gi 5 []) Z Z Z))
  refine cd Z bi (fun bj => ?_) (fun bk => ?_)
  .exact AU <| Aa <| Ao <| Av bj (wf hA (gi 4 []) Z Z Z)
  refine AD <| AC <| rs AA <| rn 3 Z <| bq bk fun d aq bl => sx Z (Au (enc := AK) (l := i.1) (m := [b]) aq (fun _ => ⟨Z, Z⟩) Z Z Z Z Z Z <| rl Z <| rs AA <| rn 2 Z <| bq bl fun dw ar bm => sx Z (AS (Gj _ _ _ ar) (.inl Z) Z Z Z <| rl Z <| AB <| jb (fun u : Bool => ⟨176, [(2, ls 2 AP g), (3, .lpb 0 0), (4, .lpb 1 0), (7, .lsl 2 2 0 d.length), (8, .lsl 3 2 0 c.length), (13, .lpb 4 0), (81, lb u)], [(0, bx (AY e)), (1, bx (AZ f)), (2, .row 96 2 (d.map AK)), (3, .row 96 2 (c.map AK)), (4, .box [li b.elem, li b.fin])], 5⟩) bm (fun u bn => ?_) (fun u bu => ?_)))
  .refine rg AA <| rn 3 Z <| gs 71 bn Z Z Z (fun bo => ?_) (fun bt => ?_)
   .refine rn 5 Z <| gs 76 bo Z Z Z (fun bp => ?_) (fun bs => ?_)
    .exact rn 3 Z <| bq bp fun dx au br => sx Z (AS (HF _ _ _ au) (.inl Z) Z Z Z <| rl Z <| AM br (wf hA [(0, 0), (1, 1), (2, 6), (3, 3), (4, 4)] Z Z Z))
    exact rl Z <| AM bs (wf hA [(0, 0), (1, 1), (2, 6), (3, 3), (4, 4)] Z Z Z)
   exact rl Z <| AM bt (wf hA [(0, 0), (1, 1), (2, 6), (3, 3), (4, 4)] Z Z Z)
  refine cd Z bu (fun bv => ?_) (fun bw => ?_)
  .exact AU <| Aa <| Ao <| Av bv (wf hA (gi 4 []) Z Z Z)
  refine AD <| AC <| rs AA <| rn 3 Z <| bq bw fun y av bz => sx Z (AS (Ho _ _ _ av) (.inl Z) Z Z Z <| rl Z <| AB <| jb (fun v : Bool => ⟨176, [(2, ls 2 AP g), (3, .lpb 0 0), (4, .lpb 1 0), (7, .lsl 2 2 0 d.length), (8, .lsl 3 2 0 c.length), (13, .lpb 4 0), (15, li y), (102, lb v)], [(0, bx (AY e)), (1, bx (AZ f)), (2, .row 96 2 (d.map AK)), (3, .row 96 2 (c.map AK)), (4, .box [li b.elem, li b.fin])], 5⟩) bz (fun v b0 => ?_) (fun v b6 => ?_))
  .refine rg AA <| rn 3 Z <| gs 88 b0 Z Z Z (fun b1 => ?_) (fun b5 => ?_)
   .refine rn 5 Z <| gs 93 b1 Z Z Z (fun b2 => ?_) (fun b4 => ?_)
    .exact rn 7 Z <| bq b2 fun dy aw b3 => sx Z (AS (G1 _ _ _ aw) (.inl Z) Z Z Z <| rl Z <| AM b3 (wf hA (gi 5 []) Z Z Z))
    exact rl Z <| AM b4 (wf hA (gi 5 []) Z Z Z)
   exact rl Z <| AM b5 (wf hA (gi 5 []) Z Z Z)
  refine cd Z b6 (fun b7 => ?_) (fun b8 => ?_)
  .exact AU <| Aa <| Ao <| Av b7 (wf hA (gi 4 []) Z Z Z)
  refine AD <| AC <| AB <| jb (fun w : Bool => ⟨176, [(2, ls 2 AP g), (3, .lpb 0 0), (4, .lpb 1 0), (7, .lsl 2 2 0 d.length), (8, .lsl 3 2 0 c.length), (13, .lpb 4 0), (15, li y), (112, lb w)], [(0, bx (AY e)), (1, bx (AZ f)), (2, .row 96 2 (d.map AK)), (3, .row 96 2 (c.map AK)), (4, .box [li b.elem, li b.fin])], 5⟩) b8 (fun w b9 => ?_) (fun w ce => ?_)
  .refine rg AA <| rn 3 Z <| gs 105 b9 Z Z Z (fun ca => ?_) (fun cb => ?_)
   .exact rl Z <| AM ca (wf hA (gi 5 []) Z Z Z)
   exact rn 4 Z <| bq cb fun dz ax cc => sx Z (AS (HF _ _ _ ax) (.inl Z) Z Z Z <| rl Z <| AM cc (wf hA (gi 5 []) Z Z Z))
  refine cd Z ce (fun cf => ?_) (fun ch => ?_)
  .refine rs AA <| rl Z <| AG <| AI <| AV <| A4 cf fun dk cg => AV <| AI ?_
   cases cg
   exact er Z Le.rfl
  refine AD <| AC <| rs AA <| rl Z <| jb (fun j : (List Int) => ⟨176, [(2, ls 2 AP g), (3, .lpb 0 0), (4, .lpb 1 0), (7, .lsl 2 2 0 d.length), (8, .lsl 3 2 0 c.length), (13, .lpb 4 0), (16, .lsl 5 1 0 j.length)], [(0, bx (AY e)), (1, bx (AZ f)), (2, .row 96 2 (d.map AK)), (3, .row 96 2 (c.map AK)), (4, .box [li b.elem, li b.fin]), (5, .row 3 1 (j.map AW))], 6⟩) ch (fun j ci => ?_) (fun j c2 => ?_)
  .refine AH <| jb (fun x : Bool => ⟨176, [(2, ls 2 AP g), (3, .lpb 0 0), (4, .lpb 1 0), (7, .lsl 2 2 0 d.length), (8, .lsl 3 2 0 c.length), (13, .lpb 4 0), (15, li y), (16, .lsl 5 1 0 [0].length), (114, lb x)], [(0, bx (AY e)), (1, bx (AZ f)), (2, .row 96 2 (d.map AK)), (3, .row 96 2 (c.map AK)), (4, .box [li b.elem, li b.fin]), (5, .row 3 1 ([0].map AW))], 6⟩) ci (fun x cj => ?_) (fun x cm => ?_)
   .refine rg AA <| rn 3 Z <| gs 117 cj Z Z Z (fun ck => ?_) (fun cl => ?_)
    .exact rl Z <| AM ck (wf hA (gi 6 []) Z Z Z)
    exact rl Z <| AM cl (wf hA (gi 6 []) Z Z Z)
   refine cd Z cm (fun cn => ?_) (fun cx => ?_)
   .refine rs AA <| rl Z <| rs AA <| rl Z <| AH ?_
    apply lp (a := j) (fun k : (Int × (List Int)) => ⟨176, [(2, ls 2 AP g), (3, .lpb 0 0), (4, .lpb 1 0), (7, .lsl 2 2 0 d.length), (8, .lsl 3 2 0 c.length), (13, .lpb 4 0), (16, .lsl 5 1 0 k.2.length), (17, li k.1)], [(0, bx (AY e)), (1, bx (AZ f)), (2, .row 96 2 (d.map AK)), (3, .row 96 2 (c.map AK)), (4, .box [li b.elem, li b.fin]), (5, .row 3 1 (k.2.map AW))], 6⟩) cn
    . exact A0.trans (Bm 16 3 1 Z) (wf hA (gi 5 [(5, 6)]) Z Z Z)
    intro k dq ag
    unfold DA at ag
    refine AB <| rs AA <| rl Z <| cd Z ag (fun co => ?_) (fun cv => ?_)
    .refine AD <| AC <| jb (fun q : (List Int) => ⟨176, [(2, ls 2 AP g), (3, .lpb 0 0), (4, .lpb 1 0), (7, .lsl 2 2 0 d.length), (8, .lsl 3 2 0 c.length), (13, .lpb 4 0), (16, .lsl 5 1 0 q.length), (17, li k.1)], [(0, bx (AY e)), (1, bx (AZ f)), (2, .row 96 2 (d.map AK)), (3, .row 96 2 (c.map AK)), (4, .box [li b.elem, li b.fin]), (5, .row 3 1 (q.map AW))], 6⟩) co (fun q cp => ?_) (fun q cu => ?_)
     .refine AH <| rs AA <| rn 6 Z <| bq cp fun d0 ay cq => sx Z (AS (G1 _ _ _ ay) (.inl Z) Z Z Z <| rl Z <| cd Z cq (fun cr => ?_) (fun ct => ?_))
      .exact rg AA <| rn 3 Z <| bq cr fun d1 az cs => sx Z (Au (enc := AW) (l := k.2) (m := [k.1]) az (fun _ => ⟨Z, Z⟩) Z Z Z Z Z Z <| rl Z <| Af <| AM cs (wf hA (gi 5 [(5, 7)]) Z Z Z))
      exact AD <| Af <| AM ct (wf hA (gi 6 []) Z Z Z)
     exact rg AA <| rl Z <| Av cu (wf hA (gi 6 []) Z Z Z)
    exact AU <| Aa <| BG cv fun dl cw => Ao <| Af <| AM cw (wf hA (gi 6 []) Z Z Z)
   refine rs AA <| rl Z <| cd Z cx (fun cy => ?_) (fun c1 => ?_)
   .exact rs AA <| rn 5 Z <| bq cy fun di a0 cz => sx Z (AS (Sk _ _ _ _ _ a0) (.inl Z) Z Z Z <| rl Z <| rg AA <| rn 2 Z <| bq cz fun d2 ac c0 => sx Z (Bf ac Z Z Z Z <| sx Z (HO (z := di.1) ac Z Z Z Z Z Z Z Z <| rl Z <| Af <| AM c0 (wk (gi 6 []) (Ks hA _) Z Z Z (.cons Z (.cons Z (.cons Z (.cons Z (.cons Z (.cons Z (.cons (by simp only [BC]; rfl) .nil))))))) (.cons Z Z (.cons Z Z (.cons Z Z (.cons Z Z (.cons Z Z (.cons Z Z .nil))))))))))
   exact AD <| Af <| AM c1 (wf hA (gi 6 []) Z Z Z)
  refine rs AA <| rl Z <| AH ?_
  apply lp (a := aj) (fun n : (Int × (List AF)) => ⟨176, [(2, ls 2 AP g), (3, .lpb 0 0), (4, .lpb 1 0), (7, .lsl 2 2 0 d.length), (8, .lsl 3 2 0 n.2.length), (13, .lpb 4 0), (16, .lsl 5 1 0 j.length), (20, li n.1)], [(0, bx (AY e)), (1, bx (AZ f)), (2, .row 96 2 (d.map AK)), (3, .row 96 2 (n.2.map AK)), (4, .box [li b.elem, li b.fin]), (5, .row 3 1 (j.map AW))], 6⟩) c2
  . exact wf hA (gi 6 []) Z Z Z
  intro n dr ah
  unfold E9 at ah
  refine AB <| rs AA <| rl Z <| cd Z ah (fun c4 => ?_) (fun dc => ?_)
  .refine AD <| AC <| jb (fun s : (List AF) => ⟨176, [(2, ls 2 AP g), (3, .lpb 0 0), (4, .lpb 1 0), (7, .lsl 2 2 0 d.length), (8, .lsl 3 2 0 s.length), (13, .lpb 4 0), (16, .lsl 5 1 0 j.length), (20, li n.1)], [(0, bx (AY e)), (1, bx (AZ f)), (2, .row 96 2 (d.map AK)), (3, .row 96 2 (s.map AK)), (4, .box [li b.elem, li b.fin]), (5, .row 3 1 (j.map AW))], 6⟩) c4 (fun s c5 => ?_) (fun s db => ?_)
   .refine AH <| AB ?_
    refine Bb AA Az [0, 1, 2, 3, 4, 5, 6, 7, 8, 9, 10, 11, 12, 13, 14] 15 (by kernel_rfl) Z Z Z ?_
    refine Am 5 Z <| bq c5 fun d3 ad c6 => Al Z (AX Z (Bf ad Z Z Z Z <| Al Z (FE Z (Cl ad Z Z Z <| Am 1 Z <| bq c6 fun dj a1 c7 => Al Z (BA (Cj _ _ _ a1) (.inl Z) Z Z Z <| A1 Z <| AC <| rs AA <| rl Z <| cd Z c7 (fun c8 => ?_) (fun da => ?_))))))
    .exact rg AA <| rn 3 Z <| bq c8 fun d4 a2 c9 => sx Z (Au (enc := AK) (l := n.2) (m := [dj.1]) a2 (fun _ => ⟨Z, Z⟩) Z Z Z Z Z Z <| rl Z <| Af <| AM c9 (wf hA (gi 3 [(3, 22), (4, 4), (5, 5)]) Z Z Z))
    exact AD <| Af <| AM da (wf hA (gi 6 []) Z Z Z)
   exact rg AA <| rl Z <| Av db (wf hA (gi 6 []) Z Z Z)
  exact AU <| Aa <| BG dc fun dm dd => Ao <| Af <| Av dd (wf hA (gi 4 []) Z Z Z)
 refine AU <| Aa <| BG de fun dn df => Ao <| AC <| rs AA <| rl Z <| AG ?_
 cases df
 exact er Z Le.rfl
end Go.E
/- Plain functions, and walks in step with them. Written by a program (gen.py). No condition. -/
set_option maxRecDepth 100000
namespace Go.E
open Go Go.RowKit Go.Proofs
noncomputable def Dj (c : AN) (b : AO) (d : (List AJ)) (a : Int) : Option (Int ⊕ Bool) :=
 bif decide (a < (b.holds.length : Int)) then (Ak b.holds a).bind fun e => (I6 c e).bind fun f => bif (!f.2) then some (.inr false) else some (.inl (AR (a + 1))) else ((Gk c b d).bind fun g => some g).map .inr
noncomputable def Dk (c : AN) (a : AO) (e : (List AJ)) (b : Int) : Option (Int ⊕ Bool) :=
 bif decide (b < (a.zone.length : Int)) then (((Ak a.zone b).bind fun f => (D2 c f).bind fun g => bif (g == 0) then some true else (Ak a.zone b).bind fun h => (GP a h).bind fun i => some i : Option (Bool))).bind fun (d : Bool) => bif d then some (.inr false) else some (.inl (AR (b + 1))) else (AQ (Dj c a e) 0).map .inr
noncomputable def Er (c : AN) (b : AO) (e : (List AJ)) (a : Int) : Option (Int ⊕ Bool) :=
 bif decide (a < (b.guards.length : Int)) then (((Ak b.guards a).bind fun f => (D2 c f.elem).bind fun g => bif (g != 2) then some true else (Ak b.guards a).bind fun h => bif (h.pos != 1) then (Ak b.guards a).bind fun i => some (i.pos != 2) else some false : Option (Bool))).bind fun (d : Bool) => bif d then some (.inr false) else some (.inl (AR (a + 1))) else (AQ (Dk c b e) 0).map .inr
noncomputable def G2 (c : AN) (b : AO) : Option Bool :=
 (Kc b).bind fun a => (G0 a a).bind fun d => bif d then some false else AQ (Er c b a) 0
theorem TO (c : AN) (d : AO) (r : Bool) (h : G2 c d = some r) : A5 Tryz.prog 35 [.agg (AY c), .agg (AZ d)] (· = .bool r) := by
 refine fn AA Tryz.func35 Z Z 97 Z [.tmp 4] Z [(0, .p (.agg (AY c))), (1, .p (.agg (AZ d)))] Z Z fun A hA => ?_
 unfold G2 at h
 refine rs AA <| rl Z <| rs AA <| rn 1 Z <| bq h fun b s ax => sx Z (Rx (Wm _ _ s) Z Z Z Z <| rl Z <| AB <| rs AA <| rn 2 Z <| bq ax fun bw q ae => sx Z (AS (TN _ _ _ q) (.inl Z) Z Z (Co.eq (.cons (.one (.own (enc := AP) b Z Z)) (.cons (.one (.own (enc := AP) b Z Z)) .nil))) <| rl Z <| cd Z ae (fun af => ?_) (fun ag => ?_)))
 .refine rs AA <| rl Z <| AG <| AI ?_
  cases af
  exact er Z Le.rfl
 refine AD <| AC <| AB <| rs AA <| rl Z <| AH ?_
 apply lp (a := r) (fun e : Int => ⟨97, [(2, .lpb 0 0), (3, .lpb 1 0), (5, .lsl 2 2 0 b.length), (6, li e)], [(0, bx (AY c)), (1, bx (AZ d)), (2, .row 91 2 (b.map AP))], 3⟩) ag
 . exact wf hA (gi 3 []) Z Z Z
 intro e bt j
 unfold Er at j
 refine AB <| rs AA <| rn 3 Z <| sx Z (An Z Z <| rl Z <| cd Z j (fun ah => ?_) (fun ay => ?_))
 .refine AD <| AC <| AB <| AH <| jb (fun g : Bool => ⟨97, [(2, .lpb 0 0), (3, .lpb 1 0), (5, .lsl 2 2 0 b.length), (6, li e), (49, lb g)], [(0, bx (AY c)), (1, bx (AZ d)), (2, .row 91 2 (b.map AP))], 3⟩) ah (fun g ai => ?_) (fun g ar => ?_)
  .refine Bb AA Az [0, 1, 2, 3, 4, 5, 6, 7, 8, 9, 10, 11, 12, 13, 14, 15, 16, 17, 18, 19, 20, 21, 22, 23, 24, 25, 26] 27 (by kernel_rfl) Z Z Z ?_
   refine Am 4 Z <| bq ai fun bz t aj => Al Z (AX Z (Aj t Z Z Z <| Am 2 Z <| bq aj fun b0 u ak => Al Z (BA (Ho _ _ _ u) (.inl Z) Z Z Z <| Am 2 Z <| DJ 32 ak Z Z Z (fun al => ?_) (fun am => ?_))))
   .exact A1 Z <| AM al (wf hA (gi 3 []) Z Z Z)
   refine Am 3 Z <| bq am fun b1 v an => Al Z (AX Z (Aj v Z Z Z <| Am 4 Z <| DJ 40 an Z Z Z (fun ao => ?_) (fun aq => ?_)))
   .exact Am 3 Z <| bq ao fun b2 w ap => Al Z (AX Z (Aj w Z Z Z <| A1 Z <| AM ap (wf hA (gi 3 []) Z Z Z)))
   exact A1 Z <| AM aq (wf hA (gi 3 []) Z Z Z)
  refine cd Z ar (fun au => ?_) (fun aw => ?_)
  .refine rs AA <| rl Z <| AG <| AV <| AI <| A4 au fun bo av => AV <| AI ?_
   cases av
   exact er Z Le.rfl
  exact AD <| Af <| AC <| rg AA <| rl Z <| Av aw (wf hA (gi 3 []) Z Z Z)
 refine AU <| Aa <| CU ay fun n az => Ao <| AC <| AB <| rs AA <| rl Z <| AH ?_
 apply lp (a := n) (fun f : Int => ⟨97, [(2, .lpb 0 0), (3, .lpb 1 0), (5, .lsl 2 2 0 b.length), (7, li f)], [(0, bx (AY c)), (1, bx (AZ d)), (2, .row 91 2 (b.map AP))], 3⟩) az
 . exact wf hA (gi 3 []) Z Z Z
 intro f bu k
 unfold Dk at k
 refine AB <| rs AA <| rn 3 Z <| sx Z (An Z Z <| rl Z <| cd Z k (fun a0 => ?_) (fun bc => ?_))
 .refine AD <| AC <| AB <| AH <| jb (fun i : Bool => ⟨97, [(2, .lpb 0 0), (3, .lpb 1 0), (5, .lsl 2 2 0 b.length), (7, li f), (73, lb i)], [(0, bx (AY c)), (1, bx (AZ d)), (2, .row 91 2 (b.map AP))], 3⟩) a0 (fun i a1 => ?_) (fun i a8 => ?_)
  .refine Bb AA Az [0, 1, 2, 3, 4, 5, 6, 7, 8, 9, 10, 11, 12, 13, 14, 15, 16] 17 (by kernel_rfl) Z Z Z ?_
   refine Am 4 Z <| bq a1 fun b3 x a2 => Al Z (AX Z (Aj x Z Z Z <| Am 1 Z <| bq a2 fun b4 y a3 => Al Z (BA (Ho _ _ _ y) (.inl Z) Z Z Z <| Am 2 Z <| DJ 65 a3 Z Z Z (fun a4 => ?_) (fun a5 => ?_))))
   .exact A1 Z <| AM a4 (wf hA (gi 3 []) Z Z Z)
   exact Am 4 Z <| bq a5 fun b5 z a6 => Al Z (AX Z (Aj z Z Z Z <| Am 1 Z <| bq a6 fun b6 aa a7 => Al Z (BA (Oy _ _ _ aa) (.inl Z) Z Z Z <| A1 Z <| AM a7 (wf hA (gi 3 []) Z Z Z))))
  refine cd Z a8 (fun a9 => ?_) (fun bb => ?_)
  .refine rs AA <| rl Z <| AG <| AV <| AI <| A4 a9 fun bp ba => AV <| AI ?_
   cases ba
   exact er Z Le.rfl
  exact AD <| Af <| AC <| rg AA <| rl Z <| Av bb (wf hA (gi 3 []) Z Z Z)
 refine AU <| Aa <| CU bc fun o be => Ao <| AC <| AB <| rs AA <| rl Z <| AH ?_
 apply lp (a := o) (fun m : Int => ⟨97, [(2, .lpb 0 0), (3, .lpb 1 0), (5, .lsl 2 2 0 b.length), (8, li m)], [(0, bx (AY c)), (1, bx (AZ d)), (2, .row 91 2 (b.map AP))], 3⟩) be
 . exact wf hA (gi 3 []) Z Z Z
 intro m bv l
 unfold Dj at l
 refine AB <| rs AA <| rn 3 Z <| sx Z (An Z Z <| rl Z <| cd Z l (fun bf => ?_) (fun bl => ?_))
 .refine AD <| AC <| AB <| AH <| AB ?_
  refine Bb AA Az [0, 1, 2, 3, 4, 5, 6, 7, 8, 9, 10, 11, 12] 13 (by kernel_rfl) Z Z Z ?_
  refine Am 4 Z <| bq bf fun b7 ab bg => Al Z (AX Z (Aj ab Z Z Z <| Am 1 Z <| bq bg fun b8 ac bh => Al Z (BA (R3 _ _ _ ac) (.inl Z) Z Z Z <| A1 Z <| AC <| rs AA <| rl Z <| cd Z bh (fun bi => ?_) (fun bk => ?_))))
  .refine rs AA <| rl Z <| AG <| AV <| AI <| A4 bi fun br bj => AV <| AI ?_
   cases bj
   exact er Z Le.rfl
  exact AD <| Af <| AC <| rg AA <| rl Z <| Av bk (wf hA (gi 3 []) Z Z Z)
 refine AU <| Aa <| CU bl fun bs bm => Ao <| AC <| rs AA <| rn 3 Z <| bq bm fun b9 ad bn => sx Z (AS (Wn _ _ _ _ ad) (.inl Z) Z Z (Co.eq (.cons (.one (.p _)) (.cons (.one (.p _)) (.cons (.one (.own (enc := AP) b Z Z)) .nil)))) <| rl Z <| AG ?_)
 have hr := Option.some.inj bn; subst hr
 exact er Z Le.rfl
noncomputable def CV (rc : (Ap × AF) -> Option Ap) (a : Ap) (c : AF) : Option Ap :=
 (((GP (⟨a.r.frm, a.r.to, a.r.fin, a.r.steps, a.r.needs, a.r.guards, a.r.zone, a.r.holds, a.r.bare⟩ : AO) c.elem).bind fun ao => bif ao then some true else (E8 a.met c).bind fun ap => some ap : Option (Bool))).bind fun (aa : Bool) => bif aa then some (⟨a.p, (⟨a.r.frm, a.r.to, a.r.fin, a.r.steps, a.r.needs, a.r.guards, a.r.zone, a.r.holds, a.r.bare⟩ : AO), a.met⟩ : Ap) else (A8 a.met [c]).bind fun m => (DK a.p c).bind fun s => ((bif decide (0 <= s) then some (!a.p.hard) else some false : Option (Bool))).bind fun (ab : Bool) => bif ab then (((C4 a.r.holds s).bind fun aq => bif (!aq) then (A8 a.r.holds [s]).bind fun ar => some ar else some a.r.holds : Option ((List Int)))).bind fun (ac : (List Int)) => some (⟨a.p, (⟨a.r.frm, a.r.to, a.r.fin, a.r.steps, a.r.needs, a.r.guards, a.r.zone, ac, a.r.bare⟩ : AO), m⟩ : Ap) else (D2 a.p c.elem).bind fun t => bif (t == 4) then some (⟨a.p, (⟨a.r.frm, a.r.to, a.r.fin, a.r.steps, a.r.needs, a.r.guards, a.r.zone, a.r.holds, true⟩ : AO), m⟩ : Ap) else bif (t == 2) then ((bif (c.fin == 0) then (((((C4 a.r.zone c.elem).bind fun ad => bif ad then some (true, a.r.bare, a.r.zone) else bif decide (12 <= (a.r.zone.length : Int)) then some (false, true, a.r.zone) else (A8 a.r.zone [c.elem]).bind fun ae => some (true, a.r.bare, ae) : Option (Bool × Bool × (List Int)))).bind fun (n : Bool × Bool × (List Int)) => bif n.1 then (((CF a.p (⟨c.elem, 1⟩ : AF)).bind fun u => bif u.2 then (rc ((⟨a.p, (⟨a.r.frm, a.r.to, a.r.fin, a.r.steps, a.r.needs, a.r.guards, n.2.2, a.r.holds, n.2.1⟩ : AO), m⟩ : Ap), u.1)).bind fun i => some (i.p.elems, i.p.joins, i.p.signals, i.p.lines, i.p.top, i.p.brake, i.p.margin, i.p.throw, i.p.hard, i.r.frm, i.r.to, i.r.fin, i.r.steps, i.r.needs, i.r.bare, i.r.guards, i.r.zone, i.r.holds, i.met) else some (a.p.elems, a.p.joins, a.p.signals, a.p.lines, a.p.top, a.p.brake, a.p.margin, a.p.throw, a.p.hard, a.r.frm, a.r.to, a.r.fin, a.r.steps, a.r.needs, n.2.1, a.r.guards, n.2.2, a.r.holds, m) : Option ((List Bp) × (List Br) × (List BB) × (List B5) × Int × Int × Int × Int × Bool × Int × Int × Int × (List AT) × (List AJ) × Bool × (List AJ) × (List Int) × (List Int) × (List AF)))).bind fun (b : (List Bp) × (List Br) × (List BB) × (List B5) × Int × Int × Int × Int × Bool × Int × Int × Int × (List AT) × (List AJ) × Bool × (List AJ) × (List Int) × (List Int) × (List AF)) => (((CF (⟨b.1, b.2.1, b.2.2.1, b.2.2.2.1, b.2.2.2.2.1, b.2.2.2.2.2.1, b.2.2.2.2.2.2.1, b.2.2.2.2.2.2.2.1, b.2.2.2.2.2.2.2.2.1⟩ : AN) (⟨c.elem, 2⟩ : AF)).bind fun v => bif v.2 then (rc ((⟨(⟨b.1, b.2.1, b.2.2.1, b.2.2.2.1, b.2.2.2.2.1, b.2.2.2.2.2.1, b.2.2.2.2.2.2.1, b.2.2.2.2.2.2.2.1, b.2.2.2.2.2.2.2.2.1⟩ : AN), (⟨b.2.2.2.2.2.2.2.2.2.1, b.2.2.2.2.2.2.2.2.2.2.1, b.2.2.2.2.2.2.2.2.2.2.2.1, b.2.2.2.2.2.2.2.2.2.2.2.2.1, b.2.2.2.2.2.2.2.2.2.2.2.2.2.1, b.2.2.2.2.2.2.2.2.2.2.2.2.2.2.2.1, b.2.2.2.2.2.2.2.2.2.2.2.2.2.2.2.2.1, b.2.2.2.2.2.2.2.2.2.2.2.2.2.2.2.2.2.1, b.2.2.2.2.2.2.2.2.2.2.2.2.2.2.1⟩ : AO), b.2.2.2.2.2.2.2.2.2.2.2.2.2.2.2.2.2.2⟩ : Ap), v.1)).bind fun j => some (j.p.elems, j.p.joins, j.p.signals, j.p.lines, j.p.top, j.p.brake, j.p.margin, j.p.throw, j.p.hard, j.r.frm, j.r.to, j.r.fin, j.r.steps, j.r.needs, j.r.bare, j.r.guards, j.r.zone, j.r.holds, j.met) else some (b.1, b.2.1, b.2.2.1, b.2.2.2.1, b.2.2.2.2.1, b.2.2.2.2.2.1, b.2.2.2.2.2.2.1, b.2.2.2.2.2.2.2.1, b.2.2.2.2.2.2.2.2.1, b.2.2.2.2.2.2.2.2.2.1, b.2.2.2.2.2.2.2.2.2.2.1, b.2.2.2.2.2.2.2.2.2.2.2.1, b.2.2.2.2.2.2.2.2.2.2.2.2.1, b.2.2.2.2.2.2.2.2.2.2.2.2.2.1, b.2.2.2.2.2.2.2.2.2.2.2.2.2.2.1, b.2.2.2.2.2.2.2.2.2.2.2.2.2.2.2.1, b.2.2.2.2.2.2.2.2.2.2.2.2.2.2.2.2.1, b.2.2.2.2.2.2.2.2.2.2.2.2.2.2.2.2.2.1, b.2.2.2.2.2.2.2.2.2.2.2.2.2.2.2.2.2.2) : Option ((List Bp) × (List Br) × (List BB) × (List B5) × Int × Int × Int × Int × Bool × Int × Int × Int × (List AT) × (List AJ) × Bool × (List AJ) × (List Int) × (List Int) × (List AF)))).bind fun (e : (List Bp) × (List Br) × (List BB) × (List B5) × Int × Int × Int × Int × Bool × Int × Int × Int × (List AT) × (List AJ) × Bool × (List AJ) × (List Int) × (List Int) × (List AF)) => some (e.1, e.2.1, e.2.2.1, e.2.2.2.1, e.2.2.2.2.1, e.2.2.2.2.2.1, e.2.2.2.2.2.2.1, e.2.2.2.2.2.2.2.1, e.2.2.2.2.2.2.2.2.1, e.2.2.2.2.2.2.2.2.2.1, e.2.2.2.2.2.2.2.2.2.2.1, e.2.2.2.2.2.2.2.2.2.2.2.1, e.2.2.2.2.2.2.2.2.2.2.2.2.1, e.2.2.2.2.2.2.2.2.2.2.2.2.2.1, e.2.2.2.2.2.2.2.2.2.2.2.2.2.2.1, e.2.2.2.2.2.2.2.2.2.2.2.2.2.2.2.1, e.2.2.2.2.2.2.2.2.2.2.2.2.2.2.2.2.1, e.2.2.2.2.2.2.2.2.2.2.2.2.2.2.2.2.2.1, e.2.2.2.2.2.2.2.2.2.2.2.2.2.2.2.2.2.2) else some (a.p.elems, a.p.joins, a.p.signals, a.p.lines, a.p.top, a.p.brake, a.p.margin, a.p.throw, a.p.hard, a.r.frm, a.r.to, a.r.fin, a.r.steps, a.r.needs, n.2.1, a.r.guards, n.2.2, a.r.holds, m) : Option ((List Bp) × (List Br) × (List BB) × (List B5) × Int × Int × Int × Int × Bool × Int × Int × Int × (List AT) × (List AJ) × Bool × (List AJ) × (List Int) × (List Int) × (List AF)))).bind fun (d : (List Bp) × (List Br) × (List BB) × (List B5) × Int × Int × Int × Int × Bool × Int × Int × Int × (List AT) × (List AJ) × Bool × (List AJ) × (List Int) × (List Int) × (List AF)) => some (d.1, d.2.1, d.2.2.1, d.2.2.2.1, d.2.2.2.2.1, d.2.2.2.2.2.1, d.2.2.2.2.2.2.1, d.2.2.2.2.2.2.2.1, d.2.2.2.2.2.2.2.2.1, d.2.2.2.2.2.2.2.2.2.1, d.2.2.2.2.2.2.2.2.2.2.1, d.2.2.2.2.2.2.2.2.2.2.2.1, d.2.2.2.2.2.2.2.2.2.2.2.2.1, d.2.2.2.2.2.2.2.2.2.2.2.2.2.1, d.2.2.2.2.2.2.2.2.2.2.2.2.2.2.1, d.2.2.2.2.2.2.2.2.2.2.2.2.2.2.2.1, d.2.2.2.2.2.2.2.2.2.2.2.2.2.2.2.2.1, d.2.2.2.2.2.2.2.2.2.2.2.2.2.2.2.2.2.1, d.2.2.2.2.2.2.2.2.2.2.2.2.2.2.2.2.2.2) else (((C9 a.r.needs (⟨c.elem, c.fin⟩ : AJ)).bind fun af => bif (!af) then (C9 a.r.guards (⟨c.elem, c.fin⟩ : AJ)).bind fun ag => some (!ag) else some false : Option (Bool))).bind fun (y : Bool) => bif y then (((C9 a.r.guards (⟨c.elem, AR (3 - c.fin)⟩ : AJ)).bind fun ah => bif (!ah) then (A8 a.r.guards [(⟨c.elem, AR (3 - c.fin)⟩ : AJ)]).bind fun ai => some ai else some a.r.guards : Option ((List AJ)))).bind fun (z : (List AJ)) => some (a.p.elems, a.p.joins, a.p.signals, a.p.lines, a.p.top, a.p.brake, a.p.margin, a.p.throw, a.p.hard, a.r.frm, a.r.to, a.r.fin, a.r.steps, a.r.needs, a.r.bare, z, a.r.zone, a.r.holds, m) else (((C4 a.r.zone c.elem).bind fun aj => bif aj then some (true, a.r.bare, a.r.zone) else bif decide (12 <= (a.r.zone.length : Int)) then some (false, true, a.r.zone) else (A8 a.r.zone [c.elem]).bind fun ak => some (true, a.r.bare, ak) : Option (Bool × Bool × (List Int)))).bind fun (o : Bool × Bool × (List Int)) => bif o.1 then (((CF a.p (⟨c.elem, 0⟩ : AF)).bind fun w => bif w.2 then (rc ((⟨a.p, (⟨a.r.frm, a.r.to, a.r.fin, a.r.steps, a.r.needs, a.r.guards, o.2.2, a.r.holds, o.2.1⟩ : AO), m⟩ : Ap), w.1)).bind fun k => some (k.p.elems, k.p.joins, k.p.signals, k.p.lines, k.p.top, k.p.brake, k.p.margin, k.p.throw, k.p.hard, k.r.frm, k.r.to, k.r.fin, k.r.steps, k.r.needs, k.r.bare, k.r.guards, k.r.zone, k.r.holds, k.met) else some (a.p.elems, a.p.joins, a.p.signals, a.p.lines, a.p.top, a.p.brake, a.p.margin, a.p.throw, a.p.hard, a.r.frm, a.r.to, a.r.fin, a.r.steps, a.r.needs, o.2.1, a.r.guards, o.2.2, a.r.holds, m) : Option ((List Bp) × (List Br) × (List BB) × (List B5) × Int × Int × Int × Int × Bool × Int × Int × Int × (List AT) × (List AJ) × Bool × (List AJ) × (List Int) × (List Int) × (List AF)))).bind fun (f : (List Bp) × (List Br) × (List BB) × (List B5) × Int × Int × Int × Int × Bool × Int × Int × Int × (List AT) × (List AJ) × Bool × (List AJ) × (List Int) × (List Int) × (List AF)) => some (f.1, f.2.1, f.2.2.1, f.2.2.2.1, f.2.2.2.2.1, f.2.2.2.2.2.1, f.2.2.2.2.2.2.1, f.2.2.2.2.2.2.2.1, f.2.2.2.2.2.2.2.2.1, f.2.2.2.2.2.2.2.2.2.1, f.2.2.2.2.2.2.2.2.2.2.1, f.2.2.2.2.2.2.2.2.2.2.2.1, f.2.2.2.2.2.2.2.2.2.2.2.2.1, f.2.2.2.2.2.2.2.2.2.2.2.2.2.1, f.2.2.2.2.2.2.2.2.2.2.2.2.2.2.1, f.2.2.2.2.2.2.2.2.2.2.2.2.2.2.2.1, f.2.2.2.2.2.2.2.2.2.2.2.2.2.2.2.2.1, f.2.2.2.2.2.2.2.2.2.2.2.2.2.2.2.2.2.1, f.2.2.2.2.2.2.2.2.2.2.2.2.2.2.2.2.2.2) else some (a.p.elems, a.p.joins, a.p.signals, a.p.lines, a.p.top, a.p.brake, a.p.margin, a.p.throw, a.p.hard, a.r.frm, a.r.to, a.r.fin, a.r.steps, a.r.needs, o.2.1, a.r.guards, o.2.2, a.r.holds, m) : Option ((List Bp) × (List Br) × (List BB) × (List B5) × Int × Int × Int × Int × Bool × Int × Int × Int × (List AT) × (List AJ) × Bool × (List AJ) × (List Int) × (List Int) × (List AF)))).bind fun (h : (List Bp) × (List Br) × (List BB) × (List B5) × Int × Int × Int × Int × Bool × Int × Int × Int × (List AT) × (List AJ) × Bool × (List AJ) × (List Int) × (List Int) × (List AF)) => some (⟨(⟨h.1, h.2.1, h.2.2.1, h.2.2.2.1, h.2.2.2.2.1, h.2.2.2.2.2.1, h.2.2.2.2.2.2.1, h.2.2.2.2.2.2.2.1, h.2.2.2.2.2.2.2.2.1⟩ : AN), (⟨h.2.2.2.2.2.2.2.2.2.1, h.2.2.2.2.2.2.2.2.2.2.1, h.2.2.2.2.2.2.2.2.2.2.2.1, h.2.2.2.2.2.2.2.2.2.2.2.2.1, h.2.2.2.2.2.2.2.2.2.2.2.2.2.1, h.2.2.2.2.2.2.2.2.2.2.2.2.2.2.2.1, h.2.2.2.2.2.2.2.2.2.2.2.2.2.2.2.2.1, h.2.2.2.2.2.2.2.2.2.2.2.2.2.2.2.2.2.1, h.2.2.2.2.2.2.2.2.2.2.2.2.2.2.1⟩ : AO), h.2.2.2.2.2.2.2.2.2.2.2.2.2.2.2.2.2.2⟩ : Ap) else (I7 a.p c.elem c.fin 0).bind fun al => (((C4 a.r.zone c.elem).bind fun am => bif am then some (true, a.r.bare, a.r.zone) else bif decide (12 <= (a.r.zone.length : Int)) then some (false, true, a.r.zone) else (A8 a.r.zone [c.elem]).bind fun an => some (true, a.r.bare, an) : Option (Bool × Bool × (List Int)))).bind fun (q : Bool × Bool × (List Int)) => bif q.1 then (((CF a.p (⟨c.elem, al.1⟩ : AF)).bind fun x => bif x.2 then (rc ((⟨a.p, (⟨a.r.frm, a.r.to, a.r.fin, a.r.steps, a.r.needs, a.r.guards, q.2.2, a.r.holds, q.2.1⟩ : AO), m⟩ : Ap), x.1)).bind fun l => some (l.p.elems, l.p.joins, l.p.signals, l.p.lines, l.p.top, l.p.brake, l.p.margin, l.p.throw, l.p.hard, l.r.frm, l.r.to, l.r.fin, l.r.steps, l.r.needs, l.r.bare, l.r.guards, l.r.zone, l.r.holds, l.met) else some (a.p.elems, a.p.joins, a.p.signals, a.p.lines, a.p.top, a.p.brake, a.p.margin, a.p.throw, a.p.hard, a.r.frm, a.r.to, a.r.fin, a.r.steps, a.r.needs, q.2.1, a.r.guards, q.2.2, a.r.holds, m) : Option ((List Bp) × (List Br) × (List BB) × (List B5) × Int × Int × Int × Int × Bool × Int × Int × Int × (List AT) × (List AJ) × Bool × (List AJ) × (List Int) × (List Int) × (List AF)))).bind fun (g : (List Bp) × (List Br) × (List BB) × (List B5) × Int × Int × Int × Int × Bool × Int × Int × Int × (List AT) × (List AJ) × Bool × (List AJ) × (List Int) × (List Int) × (List AF)) => some (⟨(⟨g.1, g.2.1, g.2.2.1, g.2.2.2.1, g.2.2.2.2.1, g.2.2.2.2.2.1, g.2.2.2.2.2.2.1, g.2.2.2.2.2.2.2.1, g.2.2.2.2.2.2.2.2.1⟩ : AN), (⟨g.2.2.2.2.2.2.2.2.2.1, g.2.2.2.2.2.2.2.2.2.2.1, g.2.2.2.2.2.2.2.2.2.2.2.1, g.2.2.2.2.2.2.2.2.2.2.2.2.1, g.2.2.2.2.2.2.2.2.2.2.2.2.2.1, g.2.2.2.2.2.2.2.2.2.2.2.2.2.2.2.1, g.2.2.2.2.2.2.2.2.2.2.2.2.2.2.2.2.1, g.2.2.2.2.2.2.2.2.2.2.2.2.2.2.2.2.2.1, g.2.2.2.2.2.2.2.2.2.2.2.2.2.2.1⟩ : AO), g.2.2.2.2.2.2.2.2.2.2.2.2.2.2.2.2.2.2⟩ : Ap) else some (⟨a.p, (⟨a.r.frm, a.r.to, a.r.fin, a.r.steps, a.r.needs, a.r.guards, q.2.2, a.r.holds, q.2.1⟩ : AO), m⟩ : Ap)
noncomputable def IM (b : Ap) (c : AF) : Option Ap :=
 Oz (fun (rc : (Ap × AF) -> Option Ap) (a : (Ap × AF)) => CV rc a.1 a.2) 1000 (b, c)
theorem OH (rc : (Ap × AF) -> Option Ap) (hrec : ∀ (a : Ap) (b : AF) (r : Ap), rc (a, b) = some r -> Jv Tryz.prog 196 [(0, .box [ls 3 BI a.p.elems, ls 4 BT a.p.joins, ls 4 A3 a.p.signals, ls 2 BN a.p.lines, li a.p.top, li a.p.brake, li a.p.margin, li a.p.throw, lb a.p.hard, li a.r.frm, li a.r.to, li a.r.fin, ls 3 Ae a.r.steps, ls 2 AP a.r.needs, .lsl 1 2 0 a.r.guards.length, .lsl 2 1 0 a.r.zone.length, .lsl 3 1 0 a.r.holds.length, lb a.r.bare, .lsl 4 2 0 a.met.length]), (1, .row 91 2 (a.r.guards.map AP)), (2, .row 3 1 (a.r.zone.map AW)), (3, .row 3 1 (a.r.holds.map AW)), (4, .row 96 2 (a.met.map AK))] 5 [.lpb 0 0, .p (.agg (AK b))] (.tup []) [(0, .box [ls 3 BI r.p.elems, ls 4 BT r.p.joins, ls 4 A3 r.p.signals, ls 2 BN r.p.lines, li r.p.top, li r.p.brake, li r.p.margin, li r.p.throw, lb r.p.hard, li r.r.frm, li r.r.to, li r.r.fin, ls 3 Ae r.r.steps, ls 2 AP r.r.needs, .lsl 5 2 0 r.r.guards.length, .lsl 6 1 0 r.r.zone.length, .lsl 7 1 0 r.r.holds.length, lb r.r.bare, .lsl 8 2 0 r.met.length]), (5, .row 91 2 (r.r.guards.map AP)), (6, .row 3 1 (r.r.zone.map AW)), (7, .row 3 1 (r.r.holds.map AW)), (8, .row 96 2 (r.met.map AK))] 9) (a : Ap) (b : AF) (r : Ap) (h : CV rc a b = some r) : Jv Tryz.prog 196 [(0, .box [ls 3 BI a.p.elems, ls 4 BT a.p.joins, ls 4 A3 a.p.signals, ls 2 BN a.p.lines, li a.p.top, li a.p.brake, li a.p.margin, li a.p.throw, lb a.p.hard, li a.r.frm, li a.r.to, li a.r.fin, ls 3 Ae a.r.steps, ls 2 AP a.r.needs, .lsl 1 2 0 a.r.guards.length, .lsl 2 1 0 a.r.zone.length, .lsl 3 1 0 a.r.holds.length, lb a.r.bare, .lsl 4 2 0 a.met.length]), (1, .row 91 2 (a.r.guards.map AP)), (2, .row 3 1 (a.r.zone.map AW)), (3, .row 3 1 (a.r.holds.map AW)), (4, .row 96 2 (a.met.map AK))] 5 [.lpb 0 0, .p (.agg (AK b))] (.tup []) [(0, .box [ls 3 BI r.p.elems, ls 4 BT r.p.joins, ls 4 A3 r.p.signals, ls 2 BN r.p.lines, li r.p.top, li r.p.brake, li r.p.margin, li r.p.throw, lb r.p.hard, li r.r.frm, li r.r.to, li r.r.fin, ls 3 Ae r.r.steps, ls 2 AP r.r.needs, .lsl 5 2 0 r.r.guards.length, .lsl 6 1 0 r.r.zone.length, .lsl 7 1 0 r.r.holds.length, lb r.r.bare, .lsl 8 2 0 r.met.length]), (5, .row 91 2 (r.r.guards.map AP)), (6, .row 3 1 (r.r.zone.map AW)), (7, .row 3 1 (r.r.holds.map AW)), (8, .row 96 2 (r.met.map AK))] 9 := by
 refine Xc AA Tryz.func196 107 [] [(0, .lpb 0 0), (1, .p (.agg (AK b)))] Z Z Z Z Z Z (fun A hA => ?_)
 unfold CV at h
 refine rs AA <| rl Z <| AB <| jb (fun u : Bool => ⟨107, [(0, .lpb 0 0), (3, .lpb 5 0), (21, lb u)], [(0, .box [ls 3 BI a.p.elems, ls 4 BT a.p.joins, ls 4 A3 a.p.signals, ls 2 BN a.p.lines, li a.p.top, li a.p.brake, li a.p.margin, li a.p.throw, lb a.p.hard, li a.r.frm, li a.r.to, li a.r.fin, ls 3 Ae a.r.steps, ls 2 AP a.r.needs, .lsl 1 2 0 a.r.guards.length, .lsl 2 1 0 a.r.zone.length, .lsl 3 1 0 a.r.holds.length, lb a.r.bare, .lsl 4 2 0 a.met.length]), (1, .row 91 2 (a.r.guards.map AP)), (2, .row 3 1 (a.r.zone.map AW)), (3, .row 3 1 (a.r.holds.map AW)), (4, .row 96 2 (a.met.map AK)), (5, .box [li b.elem, li b.fin])], 6⟩) h (fun u dd => ?_) (fun u di => ?_)
 .refine Bb AA Az [0, 1, 2, 3, 4, 5, 6, 7, 8, 9, 10, 11, 12, 13, 14] 15 (by kernel_rfl) Z Z Z ?_
  refine Am 6 Z <| bq dd fun ei ar de => Al Z (BA (Oy _ _ _ ar) (.inl Z) Z Z (Co.eq (.cons (.agg (.cons (.p _) (.cons (.p _) (.cons (.p _) (.cons (.p _) (.cons (.p _) (.cons (.own (enc := AP) a.r.guards Z Z) (.cons (.own (enc := AW) a.r.zone Z Z) (.cons (.own (enc := AW) a.r.holds Z Z) (.cons (.p _) .nil)))))))))) (.cons (.one (.p _)) .nil))) <| Am 1 Z <| DJ 14 de Z Z Z (fun df => ?_) (fun dg => ?_))
  .exact A1 Z <| AM df (wj hA (gi 6 []) Z Z Z Z)
  exact Am 5 Z <| bq dg fun ej au dh => Al Z (BA (OB _ _ _ au) (.inl Z) Z Z (Co.eq (.cons (.one (.own (enc := AK) a.met Z Z)) (.cons (.one (.p _)) .nil))) <| A1 Z <| AM dh (wj hA (gi 6 []) Z Z Z Z))
 refine cd Z di (fun dj => ?_) (fun dk => ?_)
 .refine AG <| AI ?_
  cases dj
  exact CS (nt := 107) (sl := [(0, .lpb 0 0)]) (wj hA [(0, 0), (5, 1), (6, 2), (7, 3), (8, 4), (1, 1), (2, 2), (3, 3), (4, 4)] Z Z Z Z) Z
 refine AD <| AC <| AB ?_
 refine Bb AA Az [0, 1, 2, 3, 4, 5, 6, 7, 8, 9, 10] 11 (by kernel_rfl) Z Z Z ?_
 refine Am 7 Z <| bq dk fun j av dl => Al Z (BY (Au (enc := AK) (l := a.met) (m := [b]) av (fun _ => ⟨Z, Z⟩) Z Z Z Z Z Z <| A1 Z <| AC <| AB <| AB ?_))
 refine Bb AA Az [0, 1, 2, 3, 4, 5, 6] 7 (by kernel_rfl) Z Z Z ?_
 refine Am 5 Z <| bq dl fun w aw dm => Al Z (BA (Gj _ _ _ aw) (.inl Z) Z Z Z <| A1 Z <| AC <| jb (fun v : Bool => ⟨107, [(0, .lpb 0 0), (3, .lpb 5 0), (4, li w), (47, lb v)], [(0, .box [ls 3 BI a.p.elems, ls 4 BT a.p.joins, ls 4 A3 a.p.signals, ls 2 BN a.p.lines, li a.p.top, li a.p.brake, li a.p.margin, li a.p.throw, lb a.p.hard, li a.r.frm, li a.r.to, li a.r.fin, ls 3 Ae a.r.steps, ls 2 AP a.r.needs, .lsl 1 2 0 a.r.guards.length, .lsl 2 1 0 a.r.zone.length, .lsl 3 1 0 a.r.holds.length, lb a.r.bare, .lsl 6 2 0 j.length]), (1, .row 91 2 (a.r.guards.map AP)), (2, .row 3 1 (a.r.zone.map AW)), (3, .row 3 1 (a.r.holds.map AW)), (5, .box [li b.elem, li b.fin]), (6, .row 96 2 (j.map AK))], 7⟩) dm (fun v dn => ?_) (fun v dr => ?_))
 .refine rg AA <| rn 3 Z <| gs 40 dn Z Z Z (fun dp => ?_) (fun dq => ?_)
  .exact rl Z <| AM dp (wj hA (gi 6 [(6, 13)]) Z Z Z Z)
  exact rl Z <| AM dq (wj hA (gi 6 [(6, 13)]) Z Z Z Z)
 refine cd Z dr (fun ds => ?_) (fun a1 => ?_)
 .refine jb (fun s : (List Int) => ⟨107, [(0, .lpb 0 0)], [(0, .box [ls 3 BI a.p.elems, ls 4 BT a.p.joins, ls 4 A3 a.p.signals, ls 2 BN a.p.lines, li a.p.top, li a.p.brake, li a.p.margin, li a.p.throw, lb a.p.hard, li a.r.frm, li a.r.to, li a.r.fin, ls 3 Ae a.r.steps, ls 2 AP a.r.needs, .lsl 1 2 0 a.r.guards.length, .lsl 2 1 0 a.r.zone.length, .lsl 5 1 0 s.length, lb a.r.bare, .lsl 6 2 0 j.length]), (1, .row 91 2 (a.r.guards.map AP)), (2, .row 3 1 (a.r.zone.map AW)), (5, .row 3 1 (s.map AW)), (6, .row 96 2 (j.map AK))], 7⟩) ds (fun s du => ?_) (fun s a0 => ?_)
  .refine rs AA <| rn 6 Z <| bq du fun ek ax dv => sx Z (AS (HF _ _ _ ax) (.inl Z) Z Z (Co.eq (.cons (.one (.own (enc := AW) a.r.holds Z Z)) (.cons (.one (.p _)) .nil))) <| rl Z <| cd Z dv (fun dw => ?_) (fun az => ?_))
   .exact rg AA <| rn 8 Z <| bq dw fun el ay dx => sx Z (Au (enc := AW) (l := a.r.holds) (m := [w]) ay (fun _ => ⟨Z, Z⟩) Z Z Z Z Z Z <| rl Z <| AM dx (wj hA (gi 3 [(4, 4), (5, 8), (6, 6), (3, 3)]) Z Z Z Z))
   exact AD <| AM az (wj hA (gi 3 [(4, 4), (5, 3), (6, 6), (3, 3)]) Z Z Z Z)
  refine AG <| AI ?_
  cases a0
  exact CS (nt := 107) (sl := [(0, .lpb 0 0)]) (wj hA [(0, 0), (5, 1), (6, 2), (7, 5), (8, 6), (1, 1), (2, 2), (3, 3), (4, 4)] Z Z Z Z) Z
 refine AD <| AC <| AB ?_
 refine Bb AA Az [0, 1, 2, 3, 4, 5, 6] 7 (by kernel_rfl) Z Z Z ?_
 refine Am 6 Z <| bq a1 fun dz x a2 => Al Z (BA (Ho _ _ _ x) (.inl Z) Z Z Z <| A1 Z <| AC <| AH <| rs AA <| rl Z <| cd Z a2 (fun a3 => ?_) (fun a4 => ?_))
 .refine rg AA <| rl Z <| Af ?_
  cases a3
  exact GN (nt := 107) (sl := [(0, .lpb 0 0)]) (wj hA [(0, 0), (5, 1), (6, 2), (7, 3), (8, 6), (1, 1), (2, 2), (3, 3), (4, 4)] Z Z Z Z) Z
 refine rs AA <| rl Z <| cd Z a4 (fun a5 => ?_) (fun cv => ?_)
 .refine rg AA <| rn 2 Z <| sx Z (Cn AA (fun g : ((List Bp) × (List Br) × (List BB) × (List B5) × Int × Int × Int × Int × Bool × Int × Int × Int × (List AT) × (List AJ) × Bool × (List AJ) × (List Int) × (List Int) × (List AF)) => .tup []) (fun g : ((List Bp) × (List Br) × (List BB) × (List B5) × Int × Int × Int × Int × Bool × Int × Int × Int × (List AT) × (List AJ) × Bool × (List AJ) × (List Int) × (List Int) × (List AF)) => [(0, .box [ls 3 BI g.1, ls 4 BT g.2.1, ls 4 A3 g.2.2.1, ls 2 BN g.2.2.2.1, li g.2.2.2.2.1, li g.2.2.2.2.2.1, li g.2.2.2.2.2.2.1, li g.2.2.2.2.2.2.2.1, lb g.2.2.2.2.2.2.2.2.1, li g.2.2.2.2.2.2.2.2.2.1, li g.2.2.2.2.2.2.2.2.2.2.1, li g.2.2.2.2.2.2.2.2.2.2.2.1, ls 3 Ae g.2.2.2.2.2.2.2.2.2.2.2.2.1, ls 2 AP g.2.2.2.2.2.2.2.2.2.2.2.2.2.1, .lsl 14 2 0 g.2.2.2.2.2.2.2.2.2.2.2.2.2.2.2.1.length, .lsl 15 1 0 g.2.2.2.2.2.2.2.2.2.2.2.2.2.2.2.2.1.length, .lsl 16 1 0 g.2.2.2.2.2.2.2.2.2.2.2.2.2.2.2.2.2.1.length, lb g.2.2.2.2.2.2.2.2.2.2.2.2.2.2.1, .lsl 17 2 0 g.2.2.2.2.2.2.2.2.2.2.2.2.2.2.2.2.2.2.length]), (5, .box [li b.elem, li b.fin]), (14, .row 91 2 (g.2.2.2.2.2.2.2.2.2.2.2.2.2.2.2.1.map AP)), (15, .row 3 1 (g.2.2.2.2.2.2.2.2.2.2.2.2.2.2.2.2.1.map AW)), (16, .row 3 1 (g.2.2.2.2.2.2.2.2.2.2.2.2.2.2.2.2.2.1.map AW)), (17, .row 96 2 (g.2.2.2.2.2.2.2.2.2.2.2.2.2.2.2.2.2.2.map AK))]) 18 a5 Tryz.func210 78 [] [(0, .lpb 0 0), (1, .p (.agg (AK b)))] Z Z Z Z Z Z Z Z (fun A hA g dt => ?_) (fun g cu => ?_))
  .refine rs AA <| rl Z <| AB <| rs AA <| rl Z <| cd Z dt (fun a6 => ?_) (fun bx => ?_)
   .refine jb (fun i : ((List Bp) × (List Br) × (List BB) × (List B5) × Int × Int × Int × Int × Bool × Int × Int × Int × (List AT) × (List AJ) × Bool × (List AJ) × (List Int) × (List Int) × (List AF)) => ⟨78, [], [(0, .box [ls 3 BI i.1, ls 4 BT i.2.1, ls 4 A3 i.2.2.1, ls 2 BN i.2.2.2.1, li i.2.2.2.2.1, li i.2.2.2.2.2.1, li i.2.2.2.2.2.2.1, li i.2.2.2.2.2.2.2.1, lb i.2.2.2.2.2.2.2.2.1, li i.2.2.2.2.2.2.2.2.2.1, li i.2.2.2.2.2.2.2.2.2.2.1, li i.2.2.2.2.2.2.2.2.2.2.2.1, ls 3 Ae i.2.2.2.2.2.2.2.2.2.2.2.2.1, ls 2 AP i.2.2.2.2.2.2.2.2.2.2.2.2.2.1, .lsl 14 2 0 i.2.2.2.2.2.2.2.2.2.2.2.2.2.2.2.1.length, .lsl 15 1 0 i.2.2.2.2.2.2.2.2.2.2.2.2.2.2.2.2.1.length, .lsl 16 1 0 i.2.2.2.2.2.2.2.2.2.2.2.2.2.2.2.2.2.1.length, lb i.2.2.2.2.2.2.2.2.2.2.2.2.2.2.1, .lsl 17 2 0 i.2.2.2.2.2.2.2.2.2.2.2.2.2.2.2.2.2.2.length]), (5, .box [li b.elem, li b.fin]), (14, .row 91 2 (i.2.2.2.2.2.2.2.2.2.2.2.2.2.2.2.1.map AP)), (15, .row 3 1 (i.2.2.2.2.2.2.2.2.2.2.2.2.2.2.2.2.1.map AW)), (16, .row 3 1 (i.2.2.2.2.2.2.2.2.2.2.2.2.2.2.2.2.2.1.map AW)), (17, .row 96 2 (i.2.2.2.2.2.2.2.2.2.2.2.2.2.2.2.2.2.2.map AK))], 18⟩) a6 (fun i a7 => ?_) (fun i bw => ?_)
    .refine rs AA <| rn 3 Z <| sx Z (Cn AA (fun k : (Bool × Bool × (List Int)) => lb k.1) (fun k : (Bool × Bool × (List Int)) => [(0, .box [ls 3 BI a.p.elems, ls 4 BT a.p.joins, ls 4 A3 a.p.signals, ls 2 BN a.p.lines, li a.p.top, li a.p.brake, li a.p.margin, li a.p.throw, lb a.p.hard, li a.r.frm, li a.r.to, li a.r.fin, ls 3 Ae a.r.steps, ls 2 AP a.r.needs, .lsl 1 2 0 a.r.guards.length, .lsl 15 1 0 k.2.2.length, .lsl 3 1 0 a.r.holds.length, lb k.2.1, .lsl 6 2 0 j.length]), (1, .row 91 2 (a.r.guards.map AP)), (3, .row 3 1 (a.r.holds.map AW)), (5, .box [li b.elem, li b.fin]), (6, .row 96 2 (j.map AK)), (14, .box [li b.elem, li b.fin]), (15, .row 3 1 (k.2.2.map AW))]) 16 a7 Tryz.func211 35 [.tmp 4] [(0, .lpb 0 0), (1, li b.elem)] Z Z Z Z Z Z Z Z (fun A hA k a8 => ?_) (fun k bg => ?_))
     .refine rs AA <| rl Z <| AB <| rs AA <| rn 6 Z <| bq a8 fun d0 y a9 => sx Z (AS (HF _ _ _ y) (.inl Z) Z Z (Co.eq (.cons (.one (.own (enc := AW) a.r.zone Z Z)) (.cons (.one (.p _)) .nil))) <| rl Z <| cd Z a9 (fun ba => ?_) (fun bb => ?_))
      .refine rs AA <| rl Z <| AG <| AI ?_
       cases ba
       exact CS (nt := 35) (sl := [(4, lb true)]) (wj hA [(0, 0), (1, 1), (3, 3), (4, 4), (5, 5), (6, 6), (7, 7), (8, 8), (9, 9), (10, 10), (11, 11), (12, 12), (13, 13), (14, 14), (15, 2), (2, 2)] Z Z Z Z) Z
      refine AD <| AC <| AB <| rs AA <| rl Z <| cd Z bb (fun bc => ?_) (fun be => ?_)
      .refine rs AA <| rl Z <| rs AA <| rl Z <| AG <| AI ?_
       cases bc
       exact CS (nt := 35) (sl := [(4, lb false)]) (wj hA [(0, 0), (1, 1), (3, 3), (4, 4), (5, 5), (6, 6), (7, 7), (8, 8), (9, 9), (10, 10), (11, 11), (12, 12), (13, 13), (14, 14), (15, 2), (2, 2)] Z Z Z Z) Z
      refine AD <| AC <| rs AA <| rn 8 Z <| bq be fun d1 z bf => sx Z (Au (enc := AW) (l := a.r.zone) (m := [b.elem]) z (fun _ => ⟨Z, Z⟩) Z Z Z Z Z Z <| rl Z <| rs AA <| rl Z <| AG ?_)
      cases bf
      exact CS (nt := 35) (sl := [(4, lb true)]) (wj hA [(0, 0), (1, 1), (3, 3), (4, 4), (5, 5), (6, 6), (7, 7), (8, 8), (9, 9), (10, 10), (11, 11), (12, 12), (13, 13), (14, 14), (15, 16), (2, 2)] Z Z Z Z) Z
     refine rl Z <| cd Z bg (fun bh => ?_) (fun bv => ?_)
     .refine rs AA <| rn 3 Z <| sx Z (Cn AA (fun c : ((List Bp) × (List Br) × (List BB) × (List B5) × Int × Int × Int × Int × Bool × Int × Int × Int × (List AT) × (List AJ) × Bool × (List AJ) × (List Int) × (List Int) × (List AF)) => .tup []) (fun c : ((List Bp) × (List Br) × (List BB) × (List B5) × Int × Int × Int × Int × Bool × Int × Int × Int × (List AT) × (List AJ) × Bool × (List AJ) × (List Int) × (List Int) × (List AF)) => [(0, .box [ls 3 BI c.1, ls 4 BT c.2.1, ls 4 A3 c.2.2.1, ls 2 BN c.2.2.2.1, li c.2.2.2.2.1, li c.2.2.2.2.2.1, li c.2.2.2.2.2.2.1, li c.2.2.2.2.2.2.2.1, lb c.2.2.2.2.2.2.2.2.1, li c.2.2.2.2.2.2.2.2.2.1, li c.2.2.2.2.2.2.2.2.2.2.1, li c.2.2.2.2.2.2.2.2.2.2.2.1, ls 3 Ae c.2.2.2.2.2.2.2.2.2.2.2.2.1, ls 2 AP c.2.2.2.2.2.2.2.2.2.2.2.2.2.1, .lsl 16 2 0 c.2.2.2.2.2.2.2.2.2.2.2.2.2.2.2.1.length, .lsl 17 1 0 c.2.2.2.2.2.2.2.2.2.2.2.2.2.2.2.2.1.length, .lsl 18 1 0 c.2.2.2.2.2.2.2.2.2.2.2.2.2.2.2.2.2.1.length, lb c.2.2.2.2.2.2.2.2.2.2.2.2.2.2.1, .lsl 19 2 0 c.2.2.2.2.2.2.2.2.2.2.2.2.2.2.2.2.2.2.length]), (5, .box [li b.elem, li b.fin]), (14, .box [li b.elem, li b.fin]), (16, .row 91 2 (c.2.2.2.2.2.2.2.2.2.2.2.2.2.2.2.1.map AP)), (17, .row 3 1 (c.2.2.2.2.2.2.2.2.2.2.2.2.2.2.2.2.1.map AW)), (18, .row 3 1 (c.2.2.2.2.2.2.2.2.2.2.2.2.2.2.2.2.2.1.map AW)), (19, .row 96 2 (c.2.2.2.2.2.2.2.2.2.2.2.2.2.2.2.2.2.2.map AK))]) 20 bh Tryz.func143 23 [] [(0, .lpb 0 0), (1, li b.elem), (2, li 1)] Z Z Z Z Z Z Z Z (fun A hA c bi => ?_) (fun c bn => ?_))
      .refine rs AA <| rn 7 Z <| bq bi fun d2 aa bj => sx Z (AS (Cj _ _ _ aa) (.inl Z) Z Z Z <| rl Z <| rs AA <| rl Z <| cd Z bj (fun bk => ?_) (fun bm => ?_))
       .refine rg AA <| rn 2 Z <| bq bk fun d3 ab bl => sx Z (HE (c' := 21) (hrec _ _ _ ab) [(0, 0), (1, 1), (2, 15), (3, 3), (4, 6)] Z ⟨Z, Z, Z, Z, Z, trivial⟩ Z Z Z Z Z Z Z <| rl Z ?_)
        cases bl
        exact GN (nt := 23) (sl := []) (wj hA [(0, 0), (2, 2), (4, 4), (5, 5), (7, 7), (8, 8), (9, 9), (10, 10), (11, 11), (12, 12), (13, 13), (14, 14), (16, 17), (17, 18), (18, 19), (19, 20), (1, 1), (3, 3), (6, 6), (15, 15)] Z Z Z Z) Z
       refine AD ?_
       cases bm
       exact GN (nt := 23) (sl := []) (wj hA [(0, 0), (2, 2), (4, 4), (5, 5), (7, 7), (8, 8), (9, 9), (10, 10), (11, 11), (12, 12), (13, 13), (14, 14), (16, 1), (17, 15), (18, 3), (19, 6), (1, 1), (3, 3), (6, 6), (15, 15)] Z Z Z Z) Z
      refine rl Z <| rg AA <| rn 3 Z <| sx Z (Cn AA (fun d : ((List Bp) × (List Br) × (List BB) × (List B5) × Int × Int × Int × Int × Bool × Int × Int × Int × (List AT) × (List AJ) × Bool × (List AJ) × (List Int) × (List Int) × (List AF)) => .tup []) (fun d : ((List Bp) × (List Br) × (List BB) × (List B5) × Int × Int × Int × Int × Bool × Int × Int × Int × (List AT) × (List AJ) × Bool × (List AJ) × (List Int) × (List Int) × (List AF)) => [(0, .box [ls 3 BI d.1, ls 4 BT d.2.1, ls 4 A3 d.2.2.1, ls 2 BN d.2.2.2.1, li d.2.2.2.2.1, li d.2.2.2.2.2.1, li d.2.2.2.2.2.2.1, li d.2.2.2.2.2.2.2.1, lb d.2.2.2.2.2.2.2.2.1, li d.2.2.2.2.2.2.2.2.2.1, li d.2.2.2.2.2.2.2.2.2.2.1, li d.2.2.2.2.2.2.2.2.2.2.2.1, ls 3 Ae d.2.2.2.2.2.2.2.2.2.2.2.2.1, ls 2 AP d.2.2.2.2.2.2.2.2.2.2.2.2.2.1, .lsl 20 2 0 d.2.2.2.2.2.2.2.2.2.2.2.2.2.2.2.1.length, .lsl 21 1 0 d.2.2.2.2.2.2.2.2.2.2.2.2.2.2.2.2.1.length, .lsl 22 1 0 d.2.2.2.2.2.2.2.2.2.2.2.2.2.2.2.2.2.1.length, lb d.2.2.2.2.2.2.2.2.2.2.2.2.2.2.1, .lsl 23 2 0 d.2.2.2.2.2.2.2.2.2.2.2.2.2.2.2.2.2.2.length]), (5, .box [li b.elem, li b.fin]), (14, .box [li b.elem, li b.fin]), (20, .row 91 2 (d.2.2.2.2.2.2.2.2.2.2.2.2.2.2.2.1.map AP)), (21, .row 3 1 (d.2.2.2.2.2.2.2.2.2.2.2.2.2.2.2.2.1.map AW)), (22, .row 3 1 (d.2.2.2.2.2.2.2.2.2.2.2.2.2.2.2.2.2.1.map AW)), (23, .row 96 2 (d.2.2.2.2.2.2.2.2.2.2.2.2.2.2.2.2.2.2.map AK))]) 24 bn Tryz.func143 23 [] [(0, .lpb 0 0), (1, li b.elem), (2, li 2)] Z Z Z Z Z Z Z Z (fun A hA d bo => ?_) (fun d bu => ?_))
      .refine rs AA <| rn 7 Z <| bq bo fun d4 ac bp => sx Z (AS (Cj _ _ _ ac) (.inl Z) Z Z Z <| rl Z <| rs AA <| rl Z <| cd Z bp (fun br => ?_) (fun bt => ?_))
       .refine rg AA <| rn 2 Z <| bq br fun d5 ad bs => sx Z (HE (c' := 25) (hrec _ _ _ ad) [(0, 0), (1, 16), (2, 17), (3, 18), (4, 19)] Z ⟨Z, Z, Z, Z, Z, trivial⟩ Z Z Z Z Z Z Z <| rl Z ?_)
        cases bs
        exact GN (nt := 23) (sl := []) (wj hA (gi 16 [(20, 21), (21, 22), (22, 23), (23, 24), (16, 16), (17, 17), (18, 18), (19, 19)]) Z Z Z Z) Z
       refine AD ?_
       cases bt
       exact GN (nt := 23) (sl := []) (wj hA (gi 16 [(20, 16), (21, 17), (22, 18), (23, 19), (16, 16), (17, 17), (18, 18), (19, 19)]) Z Z Z Z) Z
      exact rl Z <| AM bu (wj hA [(0, 0), (2, 2), (4, 4), (5, 5), (7, 7), (8, 8), (9, 9), (10, 10), (11, 11), (12, 12), (13, 13), (14, 20), (15, 21), (16, 22), (17, 23), (1, 1), (3, 3), (6, 6)] Z Z Z Z)
     exact AD <| AM bv (wj hA [(0, 0), (2, 2), (4, 4), (5, 5), (7, 7), (8, 8), (9, 9), (10, 10), (11, 11), (12, 12), (13, 13), (14, 1), (15, 15), (16, 3), (17, 6), (1, 1), (3, 3), (6, 6)] Z Z Z Z)
    refine AG <| AI ?_
    cases bw
    exact CS (nt := 78) (sl := []) (wj hA [(0, 0), (4, 4), (5, 5), (7, 7), (8, 8), (9, 9), (10, 10), (11, 11), (12, 12), (13, 13), (14, 14), (15, 15), (16, 16), (17, 17), (1, 1), (2, 2), (3, 3), (6, 6)] Z Z Z Z) Z
   refine AD <| AC <| AB ?_
   refine Zx (Rz 15 []) Az [0, 1, 2, 3, 4, 5, 6, 7, 8, 9, 10, 11, 12, 13, 14] 15 Z (by kernel_rfl) Z Z Z ?_
   refine A1 Z <| AC <| AB <| jb (fun t : Bool => ⟨78, [(0, .lpb 0 0), (3, .lpb 14 0), (5, .lpb 15 0), (49, lb t)], [(0, .box [ls 3 BI a.p.elems, ls 4 BT a.p.joins, ls 4 A3 a.p.signals, ls 2 BN a.p.lines, li a.p.top, li a.p.brake, li a.p.margin, li a.p.throw, lb a.p.hard, li a.r.frm, li a.r.to, li a.r.fin, ls 3 Ae a.r.steps, ls 2 AP a.r.needs, .lsl 1 2 0 a.r.guards.length, .lsl 2 1 0 a.r.zone.length, .lsl 3 1 0 a.r.holds.length, lb a.r.bare, .lsl 6 2 0 j.length]), (1, .row 91 2 (a.r.guards.map AP)), (2, .row 3 1 (a.r.zone.map AW)), (3, .row 3 1 (a.r.holds.map AW)), (5, .box [li b.elem, li b.fin]), (6, .row 96 2 (j.map AK)), (14, .box [li b.elem, li b.fin]), (15, .box [li b.elem, li (AR (3 - b.fin))])], 16⟩) bx (fun t bz => ?_) (fun t b4 => ?_)
   .refine Bb AA Az [0, 1, 2, 3, 4, 5, 6, 7, 8, 9, 10, 11, 12, 13, 14, 15, 16, 17] 18 (by kernel_rfl) Z Z Z ?_
    refine Am 6 Z <| bq bz fun d6 ae b0 => Al Z (BA (G1 _ _ _ ae) (.inl Z) Z Z Z <| Am 2 Z <| DJ 40 b0 Z Z Z (fun b1 => ?_) (fun b3 => ?_))
    .exact Am 6 Z <| bq b1 fun d7 af b2 => Al Z (BA (G1 _ _ _ af) (.inl Z) Z Z (Co.eq (.cons (.one (.own (enc := AP) a.r.guards Z Z)) (.cons (.one (.p _)) .nil))) <| A1 Z <| AM b2 (wj hA (gi 15 [(15, 27)]) Z Z Z Z))
    exact A1 Z <| AM b3 (wj hA (gi 15 [(15, 27)]) Z Z Z Z)
   refine cd Z b4 (fun b5 => ?_) (fun cc => ?_)
   .refine jb (fun q : (List AJ) => ⟨78, [], [(0, .box [ls 3 BI a.p.elems, ls 4 BT a.p.joins, ls 4 A3 a.p.signals, ls 2 BN a.p.lines, li a.p.top, li a.p.brake, li a.p.margin, li a.p.throw, lb a.p.hard, li a.r.frm, li a.r.to, li a.r.fin, ls 3 Ae a.r.steps, ls 2 AP a.r.needs, .lsl 14 2 0 q.length, .lsl 2 1 0 a.r.zone.length, .lsl 3 1 0 a.r.holds.length, lb a.r.bare, .lsl 6 2 0 j.length]), (2, .row 3 1 (a.r.zone.map AW)), (3, .row 3 1 (a.r.holds.map AW)), (5, .box [li b.elem, li b.fin]), (6, .row 96 2 (j.map AK)), (14, .row 91 2 (q.map AP))], 15⟩) b5 (fun q b6 => ?_) (fun q cb => ?_)
    .refine AB ?_
     refine Bb AA Az [0, 1, 2, 3, 4, 5, 6, 7] 8 (by kernel_rfl) Z Z Z ?_
     refine Am 6 Z <| bq b6 fun d8 ag b7 => Al Z (BA (G1 _ _ _ ag) (.inl Z) Z Z (Co.eq (.cons (.one (.own (enc := AP) a.r.guards Z Z)) (.cons (.one (.p _)) .nil))) <| A1 Z <| AC <| cd Z b7 (fun b8 => ?_) (fun ca => ?_))
     .refine Bb AA Az [0, 1, 2, 3, 4, 5, 6, 7, 8, 9, 10, 11, 12] 13 (by kernel_rfl) Z Z Z ?_
      exact Am 8 Z <| bq b8 fun d9 ah b9 => Al Z (BY (Au (enc := AP) (l := a.r.guards) (m := [(⟨b.elem, AR (3 - b.fin)⟩ : AJ)]) ah (fun _ => ⟨Z, Z⟩) Z Z Z Z Z Z <| A1 Z <| AM b9 (wj hA [(0, 0), (2, 2), (3, 3), (4, 4), (5, 5), (6, 6), (7, 7), (8, 8), (9, 9), (10, 10), (11, 11), (12, 12), (13, 13), (14, 32), (1, 1)] Z Z Z Z)))
     exact AD <| AM ca (wj hA [(0, 0), (2, 2), (3, 3), (4, 4), (5, 5), (6, 6), (7, 7), (8, 8), (9, 9), (10, 10), (11, 11), (12, 12), (13, 13), (14, 1), (1, 1)] Z Z Z Z)
    refine AG <| AI ?_
    cases cb
    exact CS (nt := 78) (sl := []) (wj hA [(0, 0), (4, 4), (5, 5), (7, 7), (8, 8), (9, 9), (10, 10), (11, 11), (12, 12), (13, 13), (14, 14), (15, 2), (16, 3), (17, 6), (1, 1), (2, 2), (3, 3), (6, 6)] Z Z Z Z) Z
   refine AD <| AC <| rs AA <| rn 3 Z <| sx Z (Cn AA (fun n : (Bool × Bool × (List Int)) => lb n.1) (fun n : (Bool × Bool × (List Int)) => [(0, .box [ls 3 BI a.p.elems, ls 4 BT a.p.joins, ls 4 A3 a.p.signals, ls 2 BN a.p.lines, li a.p.top, li a.p.brake, li a.p.margin, li a.p.throw, lb a.p.hard, li a.r.frm, li a.r.to, li a.r.fin, ls 3 Ae a.r.steps, ls 2 AP a.r.needs, .lsl 1 2 0 a.r.guards.length, .lsl 16 1 0 n.2.2.length, .lsl 3 1 0 a.r.holds.length, lb n.2.1, .lsl 6 2 0 j.length]), (1, .row 91 2 (a.r.guards.map AP)), (3, .row 3 1 (a.r.holds.map AW)), (5, .box [li b.elem, li b.fin]), (6, .row 96 2 (j.map AK)), (14, .box [li b.elem, li b.fin]), (15, .box [li b.elem, li (AR (3 - b.fin))]), (16, .row 3 1 (n.2.2.map AW))]) 17 cc Tryz.func211 35 [.tmp 4] [(0, .lpb 0 0), (1, li b.elem)] Z Z Z Z Z Z Z Z (fun A hA n ce => ?_) (fun n cl => ?_))
   .refine rs AA <| rl Z <| AB <| rs AA <| rn 6 Z <| bq ce fun ea ai cf => sx Z (AS (HF _ _ _ ai) (.inl Z) Z Z (Co.eq (.cons (.one (.own (enc := AW) a.r.zone Z Z)) (.cons (.one (.p _)) .nil))) <| rl Z <| cd Z cf (fun cg => ?_) (fun ch => ?_))
    .refine rs AA <| rl Z <| AG <| AI ?_
     cases cg
     exact CS (nt := 35) (sl := [(4, lb true)]) (wj hA [(0, 0), (1, 1), (3, 3), (4, 4), (5, 5), (6, 6), (7, 7), (8, 8), (9, 9), (10, 10), (11, 11), (12, 12), (13, 13), (14, 14), (15, 15), (16, 2), (2, 2)] Z Z Z Z) Z
    refine AD <| AC <| AB <| rs AA <| rl Z <| cd Z ch (fun ci => ?_) (fun cj => ?_)
    .refine rs AA <| rl Z <| rs AA <| rl Z <| AG <| AI ?_
     cases ci
     exact CS (nt := 35) (sl := [(4, lb false)]) (wj hA [(0, 0), (1, 1), (3, 3), (4, 4), (5, 5), (6, 6), (7, 7), (8, 8), (9, 9), (10, 10), (11, 11), (12, 12), (13, 13), (14, 14), (15, 15), (16, 2), (2, 2)] Z Z Z Z) Z
    refine AD <| AC <| rs AA <| rn 8 Z <| bq cj fun eb aj ck => sx Z (Au (enc := AW) (l := a.r.zone) (m := [b.elem]) aj (fun _ => ⟨Z, Z⟩) Z Z Z Z Z Z <| rl Z <| rs AA <| rl Z <| AG ?_)
    cases ck
    exact CS (nt := 35) (sl := [(4, lb true)]) (wj hA [(0, 0), (1, 1), (3, 3), (4, 4), (5, 5), (6, 6), (7, 7), (8, 8), (9, 9), (10, 10), (11, 11), (12, 12), (13, 13), (14, 14), (15, 15), (16, 17), (2, 2)] Z Z Z Z) Z
   refine rl Z <| cd Z cl (fun cm => ?_) (fun ct => ?_)
   .refine rg AA <| rn 3 Z <| sx Z (Cn AA (fun e : ((List Bp) × (List Br) × (List BB) × (List B5) × Int × Int × Int × Int × Bool × Int × Int × Int × (List AT) × (List AJ) × Bool × (List AJ) × (List Int) × (List Int) × (List AF)) => .tup []) (fun e : ((List Bp) × (List Br) × (List BB) × (List B5) × Int × Int × Int × Int × Bool × Int × Int × Int × (List AT) × (List AJ) × Bool × (List AJ) × (List Int) × (List Int) × (List AF)) => [(0, .box [ls 3 BI e.1, ls 4 BT e.2.1, ls 4 A3 e.2.2.1, ls 2 BN e.2.2.2.1, li e.2.2.2.2.1, li e.2.2.2.2.2.1, li e.2.2.2.2.2.2.1, li e.2.2.2.2.2.2.2.1, lb e.2.2.2.2.2.2.2.2.1, li e.2.2.2.2.2.2.2.2.2.1, li e.2.2.2.2.2.2.2.2.2.2.1, li e.2.2.2.2.2.2.2.2.2.2.2.1, ls 3 Ae e.2.2.2.2.2.2.2.2.2.2.2.2.1, ls 2 AP e.2.2.2.2.2.2.2.2.2.2.2.2.2.1, .lsl 17 2 0 e.2.2.2.2.2.2.2.2.2.2.2.2.2.2.2.1.length, .lsl 18 1 0 e.2.2.2.2.2.2.2.2.2.2.2.2.2.2.2.2.1.length, .lsl 19 1 0 e.2.2.2.2.2.2.2.2.2.2.2.2.2.2.2.2.2.1.length, lb e.2.2.2.2.2.2.2.2.2.2.2.2.2.2.1, .lsl 20 2 0 e.2.2.2.2.2.2.2.2.2.2.2.2.2.2.2.2.2.2.length]), (5, .box [li b.elem, li b.fin]), (14, .box [li b.elem, li b.fin]), (15, .box [li b.elem, li (AR (3 - b.fin))]), (17, .row 91 2 (e.2.2.2.2.2.2.2.2.2.2.2.2.2.2.2.1.map AP)), (18, .row 3 1 (e.2.2.2.2.2.2.2.2.2.2.2.2.2.2.2.2.1.map AW)), (19, .row 3 1 (e.2.2.2.2.2.2.2.2.2.2.2.2.2.2.2.2.2.1.map AW)), (20, .row 96 2 (e.2.2.2.2.2.2.2.2.2.2.2.2.2.2.2.2.2.2.map AK))]) 21 cm Tryz.func143 23 [] [(0, .lpb 0 0), (1, li b.elem), (2, li 0)] Z Z Z Z Z Z Z Z (fun A hA e cn => ?_) (fun e cs => ?_))
    .refine rs AA <| rn 7 Z <| bq cn fun ec ak co => sx Z (AS (Cj _ _ _ ak) (.inl Z) Z Z Z <| rl Z <| rs AA <| rl Z <| cd Z co (fun cp => ?_) (fun cr => ?_))
     .refine rg AA <| rn 2 Z <| bq cp fun ed al cq => sx Z (HE (c' := 22) (hrec _ _ _ al) [(0, 0), (1, 1), (2, 16), (3, 3), (4, 6)] Z ⟨Z, Z, Z, Z, Z, trivial⟩ Z Z Z Z Z Z Z <| rl Z ?_)
      cases cq
      exact GN (nt := 23) (sl := []) (wj hA [(0, 0), (2, 2), (4, 4), (5, 5), (7, 7), (8, 8), (9, 9), (10, 10), (11, 11), (12, 12), (13, 13), (14, 14), (15, 15), (17, 18), (18, 19), (19, 20), (20, 21), (1, 1), (3, 3), (6, 6), (16, 16)] Z Z Z Z) Z
     refine AD ?_
     cases cr
     exact GN (nt := 23) (sl := []) (wj hA [(0, 0), (2, 2), (4, 4), (5, 5), (7, 7), (8, 8), (9, 9), (10, 10), (11, 11), (12, 12), (13, 13), (14, 14), (15, 15), (17, 1), (18, 16), (19, 3), (20, 6), (1, 1), (3, 3), (6, 6), (16, 16)] Z Z Z Z) Z
    refine rl Z ?_
    cases cs
    exact GN (nt := 78) (sl := []) (wj hA [(0, 0), (4, 4), (5, 5), (7, 7), (8, 8), (9, 9), (10, 10), (11, 11), (12, 12), (13, 13), (14, 17), (15, 18), (16, 19), (17, 20), (1, 1), (2, 2), (3, 3), (6, 6)] Z Z Z Z) Z
   refine AD ?_
   cases ct
   exact GN (nt := 78) (sl := []) (wj hA [(0, 0), (4, 4), (5, 5), (7, 7), (8, 8), (9, 9), (10, 10), (11, 11), (12, 12), (13, 13), (14, 1), (15, 16), (16, 3), (17, 6), (1, 1), (2, 2), (3, 3), (6, 6)] Z Z Z Z) Z
  refine rl Z <| Af ?_
  cases cu
  exact GN (nt := 107) (sl := [(0, .lpb 0 0)]) (wj hA [(0, 0), (5, 14), (6, 15), (7, 16), (8, 17), (1, 1), (2, 2), (3, 3), (4, 4)] Z Z Z Z) Z
 refine AB ?_
 refine Bb AA Az [0, 1, 2, 3, 4, 5, 6, 7, 8, 9, 10, 11, 12, 13] 14 (by kernel_rfl) Z Z Z ?_
 refine Am 8 Z <| bq cv fun dy am cw => Al Z (BA (Sk _ _ _ _ _ am) (.inl Z) Z Z Z <| A1 Z <| AC <| rs AA <| rn 3 Z <| sx Z (Cn AA (fun o : (Bool × Bool × (List Int)) => lb o.1) (fun o : (Bool × Bool × (List Int)) => [(0, .box [ls 3 BI a.p.elems, ls 4 BT a.p.joins, ls 4 A3 a.p.signals, ls 2 BN a.p.lines, li a.p.top, li a.p.brake, li a.p.margin, li a.p.throw, lb a.p.hard, li a.r.frm, li a.r.to, li a.r.fin, ls 3 Ae a.r.steps, ls 2 AP a.r.needs, .lsl 1 2 0 a.r.guards.length, .lsl 28 1 0 o.2.2.length, .lsl 3 1 0 a.r.holds.length, lb o.2.1, .lsl 6 2 0 j.length]), (1, .row 91 2 (a.r.guards.map AP)), (3, .row 3 1 (a.r.holds.map AW)), (5, .box [li b.elem, li b.fin]), (6, .row 96 2 (j.map AK)), (28, .row 3 1 (o.2.2.map AW))]) 29 cw Tryz.func211 35 [.tmp 4] [(0, .lpb 0 0), (1, li b.elem)] Z Z Z Z Z Z Z Z (fun A hA o cx => ?_) (fun o c4 => ?_)))
 .refine rs AA <| rl Z <| AB <| rs AA <| rn 6 Z <| bq cx fun ee an cy => sx Z (AS (HF _ _ _ an) (.inl Z) Z Z (Co.eq (.cons (.one (.own (enc := AW) a.r.zone Z Z)) (.cons (.one (.p _)) .nil))) <| rl Z <| cd Z cy (fun cz => ?_) (fun c0 => ?_))
  .refine rs AA <| rl Z <| AG <| AI ?_
   cases cz
   exact CS (nt := 35) (sl := [(4, lb true)]) (wj hA [(0, 0), (1, 1), (3, 3), (4, 4), (5, 5), (6, 6), (7, 7), (8, 8), (9, 9), (10, 10), (11, 11), (12, 12), (13, 13), (14, 14), (15, 15), (16, 16), (17, 17), (18, 18), (19, 19), (20, 20), (21, 21), (22, 22), (23, 23), (24, 24), (25, 25), (26, 26), (27, 27), (28, 2), (2, 2)] Z Z Z Z) Z
  refine AD <| AC <| AB <| rs AA <| rl Z <| cd Z c0 (fun c1 => ?_) (fun c2 => ?_)
  .refine rs AA <| rl Z <| rs AA <| rl Z <| AG <| AI ?_
   cases c1
   exact CS (nt := 35) (sl := [(4, lb false)]) (wj hA [(0, 0), (1, 1), (3, 3), (4, 4), (5, 5), (6, 6), (7, 7), (8, 8), (9, 9), (10, 10), (11, 11), (12, 12), (13, 13), (14, 14), (15, 15), (16, 16), (17, 17), (18, 18), (19, 19), (20, 20), (21, 21), (22, 22), (23, 23), (24, 24), (25, 25), (26, 26), (27, 27), (28, 2), (2, 2)] Z Z Z Z) Z
  refine AD <| AC <| rs AA <| rn 8 Z <| bq c2 fun ef ao c3 => sx Z (Au (enc := AW) (l := a.r.zone) (m := [b.elem]) ao (fun _ => ⟨Z, Z⟩) Z Z Z Z Z Z <| rl Z <| rs AA <| rl Z <| AG ?_)
  cases c3
  exact CS (nt := 35) (sl := [(4, lb true)]) (wj hA [(0, 0), (1, 1), (3, 3), (4, 4), (5, 5), (6, 6), (7, 7), (8, 8), (9, 9), (10, 10), (11, 11), (12, 12), (13, 13), (14, 14), (15, 15), (16, 16), (17, 17), (18, 18), (19, 19), (20, 20), (21, 21), (22, 22), (23, 23), (24, 24), (25, 25), (26, 26), (27, 27), (28, 29), (2, 2)] Z Z Z Z) Z
 refine rl Z <| cd Z c4 (fun c5 => ?_) (fun dc => ?_)
 .refine rg AA <| rn 4 Z <| sx Z (Cn AA (fun f : ((List Bp) × (List Br) × (List BB) × (List B5) × Int × Int × Int × Int × Bool × Int × Int × Int × (List AT) × (List AJ) × Bool × (List AJ) × (List Int) × (List Int) × (List AF)) => .tup []) (fun f : ((List Bp) × (List Br) × (List BB) × (List B5) × Int × Int × Int × Int × Bool × Int × Int × Int × (List AT) × (List AJ) × Bool × (List AJ) × (List Int) × (List Int) × (List AF)) => [(0, .box [ls 3 BI f.1, ls 4 BT f.2.1, ls 4 A3 f.2.2.1, ls 2 BN f.2.2.2.1, li f.2.2.2.2.1, li f.2.2.2.2.2.1, li f.2.2.2.2.2.2.1, li f.2.2.2.2.2.2.2.1, lb f.2.2.2.2.2.2.2.2.1, li f.2.2.2.2.2.2.2.2.2.1, li f.2.2.2.2.2.2.2.2.2.2.1, li f.2.2.2.2.2.2.2.2.2.2.2.1, ls 3 Ae f.2.2.2.2.2.2.2.2.2.2.2.2.1, ls 2 AP f.2.2.2.2.2.2.2.2.2.2.2.2.2.1, .lsl 29 2 0 f.2.2.2.2.2.2.2.2.2.2.2.2.2.2.2.1.length, .lsl 30 1 0 f.2.2.2.2.2.2.2.2.2.2.2.2.2.2.2.2.1.length, .lsl 31 1 0 f.2.2.2.2.2.2.2.2.2.2.2.2.2.2.2.2.2.1.length, lb f.2.2.2.2.2.2.2.2.2.2.2.2.2.2.1, .lsl 32 2 0 f.2.2.2.2.2.2.2.2.2.2.2.2.2.2.2.2.2.2.length]), (5, .box [li b.elem, li b.fin]), (29, .row 91 2 (f.2.2.2.2.2.2.2.2.2.2.2.2.2.2.2.1.map AP)), (30, .row 3 1 (f.2.2.2.2.2.2.2.2.2.2.2.2.2.2.2.2.1.map AW)), (31, .row 3 1 (f.2.2.2.2.2.2.2.2.2.2.2.2.2.2.2.2.2.1.map AW)), (32, .row 96 2 (f.2.2.2.2.2.2.2.2.2.2.2.2.2.2.2.2.2.2.map AK))]) 33 c5 Tryz.func143 23 [] [(0, .lpb 0 0), (1, li b.elem), (2, li dy.1)] Z Z Z Z Z Z Z Z (fun A hA f c6 => ?_) (fun f db => ?_))
  .refine rs AA <| rn 7 Z <| bq c6 fun eg ap c7 => sx Z (AS (Cj _ _ _ ap) (.inl Z) Z Z Z <| rl Z <| rs AA <| rl Z <| cd Z c7 (fun c8 => ?_) (fun da => ?_))
   .refine rg AA <| rn 2 Z <| bq c8 fun eh aq c9 => sx Z (HE (c' := 34) (hrec _ _ _ aq) [(0, 0), (1, 1), (2, 28), (3, 3), (4, 6)] Z ⟨Z, Z, Z, Z, Z, trivial⟩ Z Z Z Z Z Z Z <| rl Z ?_)
    cases c9
    exact GN (nt := 23) (sl := []) (wj hA [(0, 0), (2, 2), (4, 4), (5, 5), (7, 7), (8, 8), (9, 9), (10, 10), (11, 11), (12, 12), (13, 13), (14, 14), (15, 15), (16, 16), (17, 17), (18, 18), (19, 19), (20, 20), (21, 21), (22, 22), (23, 23), (24, 24), (25, 25), (26, 26), (27, 27), (29, 30), (30, 31), (31, 32), (32, 33), (1, 1), (3, 3), (6, 6), (28, 28)] Z Z Z Z) Z
   refine AD ?_
   cases da
   exact GN (nt := 23) (sl := []) (wj hA [(0, 0), (2, 2), (4, 4), (5, 5), (7, 7), (8, 8), (9, 9), (10, 10), (11, 11), (12, 12), (13, 13), (14, 14), (15, 15), (16, 16), (17, 17), (18, 18), (19, 19), (20, 20), (21, 21), (22, 22), (23, 23), (24, 24), (25, 25), (26, 26), (27, 27), (29, 1), (30, 28), (31, 3), (32, 6), (1, 1), (3, 3), (6, 6), (28, 28)] Z Z Z Z) Z
  refine rl Z <| Af ?_
  cases db
  exact GN (nt := 107) (sl := [(0, .lpb 0 0)]) (wj hA [(0, 0), (5, 29), (6, 30), (7, 31), (8, 32), (1, 1), (2, 2), (3, 3), (4, 4)] Z Z Z Z) Z
 refine AD <| Af ?_
 cases dc
 exact GN (nt := 107) (sl := [(0, .lpb 0 0)]) (wj hA [(0, 0), (5, 1), (6, 28), (7, 3), (8, 6), (1, 1), (2, 2), (3, 3), (4, 4)] Z Z Z Z) Z
theorem Ph (b : Ap) (c : AF) (r : Ap) (h : IM b c = some r) : Jv Tryz.prog 196 [(0, .box [ls 3 BI b.p.elems, ls 4 BT b.p.joins, ls 4 A3 b.p.signals, ls 2 BN b.p.lines, li b.p.top, li b.p.brake, li b.p.margin, li b.p.throw, lb b.p.hard, li b.r.frm, li b.r.to, li b.r.fin, ls 3 Ae b.r.steps, ls 2 AP b.r.needs, .lsl 1 2 0 b.r.guards.length, .lsl 2 1 0 b.r.zone.length, .lsl 3 1 0 b.r.holds.length, lb b.r.bare, .lsl 4 2 0 b.met.length]), (1, .row 91 2 (b.r.guards.map AP)), (2, .row 3 1 (b.r.zone.map AW)), (3, .row 3 1 (b.r.holds.map AW)), (4, .row 96 2 (b.met.map AK))] 5 [.lpb 0 0, .p (.agg (AK c))] (.tup []) [(0, .box [ls 3 BI r.p.elems, ls 4 BT r.p.joins, ls 4 A3 r.p.signals, ls 2 BN r.p.lines, li r.p.top, li r.p.brake, li r.p.margin, li r.p.throw, lb r.p.hard, li r.r.frm, li r.r.to, li r.r.fin, ls 3 Ae r.r.steps, ls 2 AP r.r.needs, .lsl 5 2 0 r.r.guards.length, .lsl 6 1 0 r.r.zone.length, .lsl 7 1 0 r.r.holds.length, lb r.r.bare, .lsl 8 2 0 r.met.length]), (5, .row 91 2 (r.r.guards.map AP)), (6, .row 3 1 (r.r.zone.map AW)), (7, .row 3 1 (r.r.holds.map AW)), (8, .row 96 2 (r.met.map AK))] 9 :=
 recF_holds (F := fun (rc : (Ap × AF) -> Option Ap) (a : (Ap × AF)) => CV rc a.1 a.2) (C := fun (a : (Ap × AF)) (r : Ap) => Jv Tryz.prog 196 [(0, .box [ls 3 BI a.1.p.elems, ls 4 BT a.1.p.joins, ls 4 A3 a.1.p.signals, ls 2 BN a.1.p.lines, li a.1.p.top, li a.1.p.brake, li a.1.p.margin, li a.1.p.throw, lb a.1.p.hard, li a.1.r.frm, li a.1.r.to, li a.1.r.fin, ls 3 Ae a.1.r.steps, ls 2 AP a.1.r.needs, .lsl 1 2 0 a.1.r.guards.length, .lsl 2 1 0 a.1.r.zone.length, .lsl 3 1 0 a.1.r.holds.length, lb a.1.r.bare, .lsl 4 2 0 a.1.met.length]), (1, .row 91 2 (a.1.r.guards.map AP)), (2, .row 3 1 (a.1.r.zone.map AW)), (3, .row 3 1 (a.1.r.holds.map AW)), (4, .row 96 2 (a.1.met.map AK))] 5 [.lpb 0 0, .p (.agg (AK a.2))] (.tup []) [(0, .box [ls 3 BI r.p.elems, ls 4 BT r.p.joins, ls 4 A3 r.p.signals, ls 2 BN r.p.lines, li r.p.top, li r.p.brake, li r.p.margin, li r.p.throw, lb r.p.hard, li r.r.frm, li r.r.to, li r.r.fin, ls 3 Ae r.r.steps, ls 2 AP r.r.needs, .lsl 5 2 0 r.r.guards.length, .lsl 6 1 0 r.r.zone.length, .lsl 7 1 0 r.r.holds.length, lb r.r.bare, .lsl 8 2 0 r.met.length]), (5, .row 91 2 (r.r.guards.map AP)), (6, .row 3 1 (r.r.zone.map AW)), (7, .row 3 1 (r.r.holds.map AW)), (8, .row 96 2 (r.met.map AK))] 9) (fun rc hrec a r h => OH rc (fun d e r h => hrec (d, e) r h) a.1 a.2 r h) 1000 (b, c) r h
end Go.E
