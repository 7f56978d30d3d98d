/- Plain functions, and walks in step with them. Written by a program (gen.py). No condition. -/
import Derived.Test.YtilbadmonidmhaaGreatJ3
set_option linter.unusedVariables false
set_option linter.unusedSimpArgs false
set_option maxRecDepth 100000
namespace Go.E
open Go Go.RowKit Go.Proofs
noncomputable def B2 (d : BI) (e : AW) (r : (List AV)) (l : (List AJ)) (am : AM) (a : Bool × (List (AF × Bool)) × (List AJ) × (List Int) × (List Int) × (List AF)) : Option ((Bool × (List (AF × Bool)) × (List AJ) × (List Int) × (List Int) × (List AF)) ⊕ AW) :=
 bif decide (0 < (a.2.2.2.2.2.length : Int)) then (Ak a.2.2.2.2.2 (AQ ((a.2.2.2.2.2.length : Int) - 1))).bind fun b => (MH a.2.2.2.2.2 0 (AQ ((a.2.2.2.2.2.length : Int) - 1))).bind fun c => (((Fu (⟨e.frm, e.to, e.fin, r, l, a.2.2.1, a.2.2.2.1, a.2.2.2.2.1, a.1⟩ : AW) b.elem).bind fun an => bif an then some true else some ((Ap a.2.1 b).getD false) : Option (Bool))).bind fun (y : Bool) => bif y then some (.inl (a.1, a.2.1, a.2.2.1, a.2.2.2.1, a.2.2.2.2.1, c)) else (Bw d b).bind fun m => ((bif decide (0 <= m) then some (!am.hard) else some false : Option (Bool))).bind fun (z : Bool) => bif z then (((BU a.2.2.2.2.1 m).bind fun ao => bif (!ao) then (BE a.2.2.2.2.1 [m]).bind fun ap => some ap else some a.2.2.2.2.1 : Option ((List Int)))).bind fun (aa : (List Int)) => some (.inl (a.1, BC b true a.2.1, a.2.2.1, a.2.2.2.1, aa, c)) else (B1 d b.elem).bind fun s => bif (s == 4) then some (.inl (true, BC b true a.2.1, a.2.2.1, a.2.2.2.1, a.2.2.2.2.1, c)) else bif (s == 2) then bif (b.fin == 0) then (((((BU a.2.2.2.1 b.elem).bind fun aq => bif aq then some (true, a.1, a.2.2.2.1) else bif decide (12 <= (a.2.2.2.1.length : Int)) then some (false, true, a.2.2.2.1) else (BE a.2.2.2.1 [b.elem]).bind fun ar => some (true, a.1, ar) : Option (Bool × Bool × (List Int)))).bind fun (h : Bool × Bool × (List Int)) => bif h.1 then (((Bc d (⟨b.elem, 2⟩ : AF)).bind fun t => bif t.2 then (BE c [t.1]).bind fun au => some au else some c : Option ((List AF)))).bind fun (n : (List AF)) => (((Bc d (⟨b.elem, 1⟩ : AF)).bind fun u => bif u.2 then (BE n [u.1]).bind fun av => some av else some n : Option ((List AF)))).bind fun (ab : (List AF)) => some (h.2.1, h.2.2, ab) else some (h.2.1, h.2.2, c) : Option (Bool × (List Int) × (List AF)))).bind fun (k : Bool × (List Int) × (List AF)) => some (.inl (k.1, BC b true a.2.1, a.2.2.1, k.2.1, a.2.2.2.2.1, k.2.2)) else (((B7 l (⟨b.elem, b.fin⟩ : AJ)).bind fun ac => bif ac then some true else (B7 a.2.2.1 (⟨b.elem, b.fin⟩ : AJ)).bind fun ad => some ad : Option (Bool))).bind fun (v : Bool) => bif v then (((((BU a.2.2.2.1 b.elem).bind fun ae => bif ae then some (true, a.1, a.2.2.2.1) else bif decide (12 <= (a.2.2.2.1.length : Int)) then some (false, true, a.2.2.2.1) else (BE a.2.2.2.1 [b.elem]).bind fun af => some (true, a.1, af) : Option (Bool × Bool × (List Int)))).bind fun (f : Bool × Bool × (List Int)) => bif f.1 then (((Bc d (⟨b.elem, 0⟩ : AF)).bind fun o => bif o.2 then (BE c [o.1]).bind fun ag => some ag else some c : Option ((List AF)))).bind fun (w : (List AF)) => some (f.2.1, f.2.2, w) else some (f.2.1, f.2.2, c) : Option (Bool × (List Int) × (List AF)))).bind fun (i : Bool × (List Int) × (List AF)) => some (.inl (i.1, BC b true a.2.1, a.2.2.1, i.2.1, a.2.2.2.2.1, i.2.2)) else (B7 a.2.2.1 (⟨b.elem, AQ (3 - b.fin)⟩ : AJ)).bind fun ah => bif (!ah) then (BE a.2.2.1 [(⟨b.elem, AQ (3 - b.fin)⟩ : AJ)]).bind fun ai => some (.inl (a.1, BC b true a.2.1, ai, a.2.2.2.1, a.2.2.2.2.1, c)) else some (.inl (a.1, BC b true a.2.1, a.2.2.1, a.2.2.2.1, a.2.2.2.2.1, c)) else (IS d b.elem b.fin 0).bind fun p => ((bif p.2 then (((BU a.2.2.2.1 b.elem).bind fun aj => bif aj then some (true, a.1, a.2.2.2.1) else bif decide (12 <= (a.2.2.2.1.length : Int)) then some (false, true, a.2.2.2.1) else (BE a.2.2.2.1 [b.elem]).bind fun ak => some (true, a.1, ak) : Option (Bool × Bool × (List Int)))).bind fun (j : Bool × Bool × (List Int)) => some (j.1, j.2.1, j.2.2) else some (false, a.1, a.2.2.2.1) : Option (Bool × Bool × (List Int)))).bind fun (g : Bool × Bool × (List Int)) => bif g.1 then (((Bc d (⟨b.elem, p.1⟩ : AF)).bind fun q => bif q.2 then (BE c [q.1]).bind fun al => some al else some c : Option ((List AF)))).bind fun (x : (List AF)) => some (.inl (g.2.1, BC b true a.2.1, a.2.2.1, g.2.2, a.2.2.2.2.1, x)) else some (.inl (g.2.1, BC b true a.2.1, a.2.2.1, g.2.2, a.2.2.2.2.1, c)) else some (.inr (⟨e.frm, e.to, e.fin, r, l, a.2.2.1, a.2.2.2.1, a.2.2.2.2.1, a.1⟩ : AW))
noncomputable def Fm (b : BI) (c : AW) (i : (List AV)) (j : (List AJ)) (d : AM) (e : (List AF)) (a : Int × (List AF)) : Option ((Int × (List AF)) ⊕ AW) :=
 bif decide (0 <= a.1) then (Ak e a.1).bind fun f => (Bc b f).bind fun g => (BE a.2 [g.1]).bind fun h => some (.inl (AQ (a.1 - 1), h)) else (AO (B2 b c i j d) (false, [], ([] : List AJ), ([] : List Int), ([] : List Int), a.2)).map .inr
noncomputable def Ey (b : BI) (a : AW) : Option AW :=
 (Bl a.steps).bind fun d => (B9 a.needs).bind fun e => (DD b).bind fun f => (GV b (⟨a.frm, a.to, a.fin, d, e, [], [], [], false⟩ : AW)).bind fun c => AO (Fm b a d e f c) (AQ ((c.length : Int) - 1), ([] : List AF))
theorem Q7 (e : BI) (c : AW) (r : AW) (h : Ey e c = some r) : A4 Tryz.prog 14 [.place (A6 e) 0, .agg (Ad c)] (· = .agg (Ad r)) := by
 refine fn AA Tryz.func14 Z Z 187 Z [.cell 4 36] Z [(0, .p (.place (A6 e) 0)), (1, .p (.agg (Ad c)))] Z Z fun A hA => ?_
 unfold Ey at h
 refine rs AA <| rl Z <| sc <| AB ?_
 refine Bi AA Az [0, 1, 2, 3, 4, 5, 6, 7, 8, 9] 10 (by kernel_rfl) Z Z Z ?_
 refine Am 2 Z <| bq h fun g a7 de => An Z (BA (Mg _ _ a7) (.inr Z) Z Z Z <| Am 2 Z <| bq de fun i a8 df => An Z (BA (Mh _ _ a8) (.inr Z) Z Z Z <| A0 Z <| AC <| rs AA <| rl Z <| rs AA <| rn 1 Z <| bq df fun o a2 c6 => sx Z (AS (J8 _ _ a2) (.inr Z) Z Z Z <| rl Z <| rs AA <| rl Z <| rs AA <| rl Z <| rs AA <| rn 2 Z <| bq c6 fun e4 a3 c7 => sx Z (AS (A4.le (Ou _ _ _ a3) (.cons Le.rfl (.cons (Le.agg' (.cons Le.rfl (.cons Le.rfl (.cons Le.rfl (.cons Le.rfl (.cons Le.rfl (.cons (Le.nil _) (.cons (Le.nil _) (.cons (Le.nil _) (.cons Le.rfl .nil)))))))))) .nil))) (.inr Z) Z Z Z <| rl Z <| AB <| rs AA <| rn 1 Z <| sx Z (Al Z Z <| rl Z <| AH ?_)))))
 apply lp (a := r) (fun v : (Int × (List AF)) => ⟨187, [(2, .lpb 0 0), (3, .lpb 1 0), (4, .lpb 2 0), (5, lb o.hard), (6, .lmap 3), (7, .lpb 4 0), (8, ls 2 AK e4), (9, li v.1)], [(0, .box [lq (A6 e)]), (1, .box [li c.frm, li c.to, li c.fin, ls 3 Af g, ls 2 AR i, .p (.nils), .p (.nils), .p (.nils), lb false]), (2, .box [li 0, li 0, li 0, .p (.nils), .p (.nils), .p (.nils), .p (.nils), .p (.nils), lb false]), (3, .map (Aw (fun x => .agg (AK x)) .bool [])), (4, .box [.lsl 5 2 0 v.2.length]), (5, .row 96 2 (v.2.map AK))], 6⟩) c7
 . exact A9.trans (Cg 14 0 96 2 Z Z Z Z) (wf hA (gi 3 [(3, 13), (4, 14), (5, 15)]) Z Z Z)
 intro v e9 ai
 unfold Fm at ai
 refine AB <| rs AA <| rl Z <| cd Z ai (fun c8 => ?_) (fun dc => ?_)
 .refine AD <| AC <| AB <| AH <| AB ?_
  refine Bi AA Az [0, 1, 2, 3, 4, 5, 6, 7, 8, 9, 10, 11] 12 (by kernel_rfl) Z Z Z ?_
  exact Am 3 Z <| bq c8 fun fl a4 c9 => An Z (AZ Z (Aj a4 Z Z Z <| Am 1 Z <| bq c9 fun e5 a5 da => An Z (BA (CB _ _ _ a5) (.inl Z) Z Z Z <| A0 Z <| AC <| rg AA <| rn 3 Z <| bq da fun fm a6 db => sx Z (Ax (enc := AK) (l := v.2) (m := [e5.1]) a6 (fun _ => ⟨Z, Z⟩) Z Z Z Z Z Z <| rl Z <| Ai <| AC <| rg AA <| rl Z <| Av db (wf hA (gi 5 [(5, 19)]) Z Z Z)))))
 refine AU <| Ab <| CW dc fun am dd => Ao <| AC <| rs AA <| rl Z <| AB <| Hv <| AC <| AB <| AH ?_
 apply lp (a := am) (fun b : (Bool × (List (AF × Bool)) × (List AJ) × (List Int) × (List Int) × (List AF)) => ⟨187, [(2, .lpb 0 0), (3, .lpb 1 0), (4, .lpb 2 0), (5, lb o.hard), (6, .lmap 3), (7, .lpb 4 0), (12, .fn 50 [.lpb 0 0, .lpb 4 0])], [(0, .box [lq (A6 e)]), (1, .box [li c.frm, li c.to, li c.fin, ls 3 Af g, ls 2 AR i, .lsl 5 2 0 b.2.2.1.length, .lsl 6 1 0 b.2.2.2.1.length, .lsl 7 1 0 b.2.2.2.2.1.length, lb b.1]), (2, .box [li 0, li 0, li 0, .p (.nils), .p (.nils), .p (.nils), .p (.nils), .p (.nils), lb false]), (3, .map (Aw (fun x => .agg (AK x)) .bool b.2.1)), (4, .box [.lsl 8 2 0 b.2.2.2.2.2.length]), (5, .row 91 2 (b.2.2.1.map AR)), (6, .row 3 1 (b.2.2.2.1.map AY)), (7, .row 3 1 (b.2.2.2.2.1.map AY)), (8, .row 96 2 (b.2.2.2.2.2.map AK))], 9⟩) dd
 . exact A9.trans (Cg 1 5 91 2 Z Z Z Z) (A9.trans (Cg 1 6 3 1 Z Z Z Z) (A9.trans (Cg 1 7 3 1 Z Z Z Z) (wf hA (gi 5 [(5, 6), (6, 7), (7, 8), (8, 5)]) Z Z Z)))
 intro b fa aj
 unfold B2 at aj
 refine AB <| rs AA <| rl Z <| cd Z aj (fun dg => ?_) (fun c4 => ?_)
 .refine AD <| AC <| AH <| rs AA <| rn 4 Z <| bq dg fun d ah dh => sx Z (B4 ah Z Z Z Z <| sx Z (DM ah Z Z Z <| rl Z <| rs AA <| rn 4 Z <| bq dh fun f ad di => sx Z (Tc (l := b.2.2.2.2.2) ad Z Z Z Z <| rl Z <| AB <| jb (fun af : Bool => ⟨187, [(2, .lpb 0 0), (3, .lpb 1 0), (4, .lpb 2 0), (5, lb o.hard), (6, .lmap 3), (7, .lpb 4 0), (12, .fn 50 [.lpb 0 0, .lpb 4 0]), (13, .lpb 5 0), (81, lb af)], [(0, .box [lq (A6 e)]), (1, .box [li c.frm, li c.to, li c.fin, ls 3 Af g, ls 2 AR i, .lsl 6 2 0 b.2.2.1.length, .lsl 7 1 0 b.2.2.2.1.length, .lsl 8 1 0 b.2.2.2.2.1.length, lb b.1]), (2, .box [li 0, li 0, li 0, .p (.nils), .p (.nils), .p (.nils), .p (.nils), .p (.nils), lb false]), (3, .map (Aw (fun x => .agg (AK x)) .bool b.2.1)), (4, .box [.lsl 9 2 0 f.length]), (5, .box [li d.elem, li d.fin]), (6, .row 91 2 (b.2.2.1.map AR)), (7, .row 3 1 (b.2.2.2.1.map AY)), (8, .row 3 1 (b.2.2.2.2.1.map AY)), (9, .row 96 2 (f.map AK))], 10⟩) di (fun af dj => ?_) (fun af dn => ?_))))
  .refine rg AA <| rn 3 Z <| bq dj fun fo a9 dk => sx Z (AS (Nl _ _ _ a9) (.inl Z) Z Z (C9.eq (.cons (.agg (.cons (.p _) (.cons (.p _) (.cons (.p _) (.cons (.p _) (.cons (.p _) (.cons (.own (enc := AR) b.2.2.1 Z Z) (.cons (.own (enc := AY) b.2.2.2.1 Z Z) (.cons (.own (enc := AY) b.2.2.2.2.1 Z Z) (.cons (.p _) .nil)))))))))) (.cons (.one (.p _)) .nil))) <| rn 1 Z <| gs 77 dk Z Z Z (fun dl => ?_) (fun dm => ?_))
   .exact rl Z <| AN dl (A9.trans (Ln 8 ad Z Z) (wf hA (gi 5 [(5, 9), (6, 5), (7, 6), (8, 7), (9, 8)]) Z Z Z))
   exact rn 2 Z <| sx Z (K6 (et := 4) (ke := (fun x => .agg (AK x))) (ve := .bool) (mp := b.2.1) (y := d) false Ck Z Z Z Z <| rl Z <| AN dm (A9.trans (Ln 8 ad Z Z) (wf hA (gi 5 [(5, 9), (6, 5), (7, 6), (8, 7), (9, 8)]) Z Z Z)))
  refine cd Z dn (fun dp => ?_) (fun dq => ?_)
  .exact AU <| Ab <| Ao <| Av dp (wf hA (gi 5 [(5, 6), (6, 7), (7, 8), (8, 9)]) Z Z Z)
  refine AD <| AC <| rs AA <| rn 2 Z <| sx Z (JW (et := 4) (ke := (fun x => .agg (AK x))) (ve := .bool) (mp := b.2.1) (y := d) (z := true) Ck Z Z Z Z Z Z <| rl Z <| AB <| rs AA <| rn 2 Z <| bq dq fun al ba dr => sx Z (AS (Ei _ _ _ ba) (.inl Z) Z Z Z <| rl Z <| jb (fun ag : Bool => ⟨187, [(2, .lpb 0 0), (3, .lpb 1 0), (4, .lpb 2 0), (5, lb o.hard), (6, .lmap 3), (7, .lpb 4 0), (12, .fn 50 [.lpb 0 0, .lpb 4 0]), (13, .lpb 5 0), (14, li al), (92, lb ag)], [(0, .box [lq (A6 e)]), (1, .box [li c.frm, li c.to, li c.fin, ls 3 Af g, ls 2 AR i, .lsl 6 2 0 b.2.2.1.length, .lsl 7 1 0 b.2.2.2.1.length, .lsl 8 1 0 b.2.2.2.2.1.length, lb b.1]), (2, .box [li 0, li 0, li 0, .p (.nils), .p (.nils), .p (.nils), .p (.nils), .p (.nils), lb false]), (3, .map (Aw (fun x => .agg (AK x)) .bool (BC d true b.2.1))), (4, .box [.lsl 9 2 0 f.length]), (5, .box [li d.elem, li d.fin]), (6, .row 91 2 (b.2.2.1.map AR)), (7, .row 3 1 (b.2.2.2.1.map AY)), (8, .row 3 1 (b.2.2.2.2.1.map AY)), (9, .row 96 2 (f.map AK))], 10⟩) dr (fun ag ds => ?_) (fun ag dv => ?_)))
  .refine rg AA <| rn 3 Z <| gs 89 ds Z Z Z (fun dt => ?_) (fun du => ?_)
   .exact rl Z <| AN dt (wf hA (gi 10 []) Z Z Z)
   exact rl Z <| AN du (wf hA (gi 10 []) Z Z Z)
  refine cd Z dv (fun dw => ?_) (fun d3 => ?_)
  .refine jb (fun ac : (List Int) => ⟨187, [(2, .lpb 0 0), (3, .lpb 1 0), (4, .lpb 2 0), (5, lb o.hard), (6, .lmap 3), (7, .lpb 4 0), (12, .fn 50 [.lpb 0 0, .lpb 4 0])], [(0, .box [lq (A6 e)]), (1, .box [li c.frm, li c.to, li c.fin, ls 3 Af g, ls 2 AR i, .lsl 5 2 0 b.2.2.1.length, .lsl 6 1 0 b.2.2.2.1.length, .lsl 7 1 0 ac.length, lb b.1]), (2, .box [li 0, li 0, li 0, .p (.nils), .p (.nils), .p (.nils), .p (.nils), .p (.nils), lb false]), (3, .map (Aw (fun x => .agg (AK x)) .bool (BC d true b.2.1))), (4, .box [.lsl 8 2 0 f.length]), (5, .row 91 2 (b.2.2.1.map AR)), (6, .row 3 1 (b.2.2.2.1.map AY)), (7, .row 3 1 (ac.map AY)), (8, .row 96 2 (f.map AK))], 9⟩) dw (fun ac dx => ?_) (fun ac d2 => ?_)
   .refine rs AA <| rn 3 Z <| bq dx fun fp bb dy => sx Z (AS (Cz _ _ _ bb) (.inl Z) Z Z (C9.eq (.cons (.one (.own (enc := AY) b.2.2.2.2.1 Z Z)) (.cons (.one (.p _)) .nil))) <| rl Z <| cd Z dy (fun dz => ?_) (fun d1 => ?_))
    .exact rg AA <| rn 4 Z <| bq dz fun fq bc d0 => sx Z (Ax (enc := AY) (l := b.2.2.2.2.1) (m := [al]) bc (fun _ => ⟨Z, Z⟩) Z Z Z Z Z Z <| rl Z <| AN d0 (wf hA (gi 5 [(5, 6), (6, 7), (7, 11), (8, 9)]) Z Z Z))
    exact AD <| AN d1 (wf hA (gi 5 [(5, 6), (6, 7), (7, 8), (8, 9)]) Z Z Z)
   exact AU <| Ab <| Ao <| Av d2 (wf hA (gi 9 []) Z Z Z)
  refine AD <| AC <| rs AA <| rn 3 Z <| bq d3 fun fr be d4 => sx Z (AS (DC _ _ _ be) (.inl Z) Z Z Z <| rl Z <| AH <| rs AA <| rl Z <| cd Z d4 (fun d5 => ?_) (fun d6 => ?_))
  .exact rg AA <| rl Z <| Ai <| Ai <| Av d5 (wf hA (gi 5 [(5, 6), (6, 7), (7, 8), (8, 9)]) Z Z Z)
  refine rs AA <| rl Z <| cd Z d6 (fun d7 => ?_) (fun ci => ?_)
  .refine AB <| rs AA <| rl Z <| cd Z d7 (fun d8 => ?_) (fun e1 => ?_)
   .refine jb (fun t : (Bool × (List Int) × (List AF)) => ⟨187, [(2, .lpb 0 0), (3, .lpb 1 0), (4, .lpb 2 0), (5, lb o.hard), (6, .lmap 3), (7, .lpb 4 0), (12, .fn 50 [.lpb 0 0, .lpb 4 0])], [(0, .box [lq (A6 e)]), (1, .box [li c.frm, li c.to, li c.fin, ls 3 Af g, ls 2 AR i, .lsl 5 2 0 b.2.2.1.length, .lsl 6 1 0 t.2.1.length, .lsl 7 1 0 b.2.2.2.2.1.length, lb t.1]), (2, .box [li 0, li 0, li 0, .p (.nils), .p (.nils), .p (.nils), .p (.nils), .p (.nils), lb false]), (3, .map (Aw (fun x => .agg (AK x)) .bool (BC d true b.2.1))), (4, .box [.lsl 8 2 0 t.2.2.length]), (5, .row 91 2 (b.2.2.1.map AR)), (6, .row 3 1 (t.2.1.map AY)), (7, .row 3 1 (b.2.2.2.2.1.map AY)), (8, .row 96 2 (t.2.2.map AK))], 9⟩) d8 (fun t d9 => ?_) (fun t e0 => ?_)
    .refine rs AA <| rn 2 Z <| sx Z (Cy AA (fun j : (Bool × Bool × (List Int)) => lb j.1) (fun j : (Bool × Bool × (List Int)) => [(0, .box [lq (A6 e)]), (1, .box [li c.frm, li c.to, li c.fin, ls 3 Af g, ls 2 AR i, .lsl 6 2 0 b.2.2.1.length, .lsl 10 1 0 j.2.2.length, .lsl 8 1 0 b.2.2.2.2.1.length, lb j.2.1]), (2, .box [li 0, li 0, li 0, .p (.nils), .p (.nils), .p (.nils), .p (.nils), .p (.nils), lb false]), (3, .map (Aw (fun x => .agg (AK x)) .bool (BC d true b.2.1))), (4, .box [.lsl 9 2 0 f.length]), (5, .box [li d.elem, li d.fin]), (6, .row 91 2 (b.2.2.1.map AR)), (8, .row 3 1 (b.2.2.2.2.1.map AY)), (9, .row 96 2 (f.map AK)), (10, .row 3 1 (j.2.2.map AY))]) 11 d9 Tryz.func55 30 [.tmp 4] [(0, .lpb 1 0), (1, li d.elem)] Z Z Z Z Z Z Z Z (fun A hA j ea => ?_) (fun j eh => ?_))
     .refine rs AA <| rl Z <| AB <| rs AA <| rn 5 Z <| bq ea fun fs bf eb => sx Z (AS (Cz _ _ _ bf) (.inl Z) Z Z (C9.eq (.cons (.one (.own (enc := AY) b.2.2.2.1 Z Z)) (.cons (.one (.p _)) .nil))) <| rl Z <| cd Z eb (fun ec => ?_) (fun ed => ?_))
      .refine rs AA <| rl Z <| AG <| AI ?_
       cases ec
       exact Co (nt := 30) (sl := [(4, lb true)]) (wj hA (gi 7 [(8, 8), (9, 9), (10, 7), (7, 7)]) Z Z Z Z) Z
      refine AD <| AC <| AB <| rs AA <| rl Z <| cd Z ed (fun ee => ?_) (fun ef => ?_)
      .refine rs AA <| rl Z <| rs AA <| rl Z <| AG <| AI ?_
       cases ee
       exact Co (nt := 30) (sl := [(4, lb false)]) (wj hA (gi 7 [(8, 8), (9, 9), (10, 7), (7, 7)]) Z Z Z Z) Z
      refine AD <| AC <| rs AA <| rn 7 Z <| bq ef fun ft bg eg => sx Z (Ax (enc := AY) (l := b.2.2.2.1) (m := [d.elem]) bg (fun _ => ⟨Z, Z⟩) Z Z Z Z Z Z <| rl Z <| rs AA <| rl Z <| AG ?_)
      cases eg
      exact Co (nt := 30) (sl := [(4, lb true)]) (wj hA (gi 7 [(8, 8), (9, 9), (10, 11), (7, 7)]) Z Z Z Z) Z
     refine rl Z <| cd Z eh (fun ei => ?_) (fun ez => ?_)
     .refine rs AA <| rn 3 Z <| sx Z (Cy AA (fun u : (List AF) => .tup []) (fun u : (List AF) => [(0, .box [lq (A6 e)]), (1, .box [li c.frm, li c.to, li c.fin, ls 3 Af g, ls 2 AR i, .lsl 6 2 0 b.2.2.1.length, .lsl 10 1 0 j.2.2.length, .lsl 8 1 0 b.2.2.2.2.1.length, lb j.2.1]), (2, .box [li 0, li 0, li 0, .p (.nils), .p (.nils), .p (.nils), .p (.nils), .p (.nils), lb false]), (3, .map (Aw (fun x => .agg (AK x)) .bool (BC d true b.2.1))), (4, .box [.lsl 11 2 0 u.length]), (5, .box [li d.elem, li d.fin]), (6, .row 91 2 (b.2.2.1.map AR)), (8, .row 3 1 (b.2.2.2.2.1.map AY)), (10, .row 3 1 (j.2.2.map AY)), (11, .row 96 2 (u.map AK))]) 12 ei Tryz.func50 21 [] [(0, li d.elem), (1, li 2), (2, .lpb 0 0), (3, .lpb 4 0)] Z Z Z Z Z Z Z Z (fun A hA u ej => ?_) (fun u ep => ?_))
      .refine rs AA <| rn 4 Z <| bq ej fun e6 bh ek => sx Z (AS (CB _ _ _ bh) (.inl Z) Z Z Z <| rl Z <| rs AA <| rl Z <| cd Z ek (fun el => ?_) (fun eo => ?_))
       .refine rg AA <| rn 3 Z <| bq el fun fu bi em => sx Z (Ax (enc := AK) (l := f) (m := [e6.1]) bi (fun _ => ⟨Z, Z⟩) Z Z Z Z Z Z <| rl Z ?_)
        have hr := Option.some.inj em; subst hr
        exact Gf (nt := 21) (sl := []) (wj hA (gi 9 [(10, 10), (11, 13), (9, 9)]) Z Z Z Z) Z
       refine AD ?_
       have hr := Option.some.inj eo; subst hr
       exact Gf (nt := 21) (sl := []) (wj hA (gi 9 [(10, 10), (11, 9), (9, 9)]) Z Z Z Z) Z
      refine rl Z <| rg AA <| rn 3 Z <| sx Z (Cy AA (fun ab : (List AF) => .tup []) (fun ab : (List AF) => [(0, .box [lq (A6 e)]), (1, .box [li c.frm, li c.to, li c.fin, ls 3 Af g, ls 2 AR i, .lsl 6 2 0 b.2.2.1.length, .lsl 10 1 0 j.2.2.length, .lsl 8 1 0 b.2.2.2.2.1.length, lb j.2.1]), (2, .box [li 0, li 0, li 0, .p (.nils), .p (.nils), .p (.nils), .p (.nils), .p (.nils), lb false]), (3, .map (Aw (fun x => .agg (AK x)) .bool (BC d true b.2.1))), (4, .box [.lsl 12 2 0 ab.length]), (5, .box [li d.elem, li d.fin]), (6, .row 91 2 (b.2.2.1.map AR)), (8, .row 3 1 (b.2.2.2.2.1.map AY)), (10, .row 3 1 (j.2.2.map AY)), (12, .row 96 2 (ab.map AK))]) 13 ep Tryz.func50 21 [] [(0, li d.elem), (1, li 1), (2, .lpb 0 0), (3, .lpb 4 0)] Z Z Z Z Z Z Z Z (fun A hA ab es => ?_) (fun ab ey => ?_))
      .refine rs AA <| rn 4 Z <| bq es fun e7 bj eu => sx Z (AS (CB _ _ _ bj) (.inl Z) Z Z Z <| rl Z <| rs AA <| rl Z <| cd Z eu (fun ev => ?_) (fun ex => ?_))
       .refine rg AA <| rn 3 Z <| bq ev fun fv bk ew => sx Z (Ax (enc := AK) (l := u) (m := [e7.1]) bk (fun _ => ⟨Z, Z⟩) Z Z Z Z Z Z <| rl Z ?_)
        have hr := Option.some.inj ew; subst hr
        exact Gf (nt := 21) (sl := []) (wj hA (gi 11 [(12, 14), (11, 11)]) Z Z Z Z) Z
       refine AD ?_
       have hr := Option.some.inj ex; subst hr
       exact Gf (nt := 21) (sl := []) (wj hA (gi 11 [(12, 11), (11, 11)]) Z Z Z Z) Z
      exact rl Z <| AN ey (wf hA (gi 5 [(5, 6), (6, 10), (7, 8), (8, 12)]) Z Z Z)
     exact AD <| AN ez (wf hA (gi 5 [(5, 6), (6, 10), (7, 8), (8, 9)]) Z Z Z)
    exact AU <| Ab <| NR Z <| Ao <| Av e0 (wf hA (gi 9 []) Z Z Z)
   refine AD <| AC <| rs AA <| rl Z <| AB <| jb (fun ae : Bool => ⟨187, [(2, .lpb 0 0), (3, .lpb 1 0), (4, .lpb 2 0), (5, lb o.hard), (6, .lmap 3), (7, .lpb 4 0), (12, .fn 50 [.lpb 0 0, .lpb 4 0]), (13, .lpb 5 0), (161, lb ae)], [(0, .box [lq (A6 e)]), (1, .box [li c.frm, li c.to, li c.fin, ls 3 Af g, ls 2 AR i, .lsl 6 2 0 b.2.2.1.length, .lsl 7 1 0 b.2.2.2.1.length, .lsl 8 1 0 b.2.2.2.2.1.length, lb b.1]), (2, .box [li 0, li 0, li 0, .p (.nils), .p (.nils), .p (.nils), .p (.nils), .p (.nils), lb false]), (3, .map (Aw (fun x => .agg (AK x)) .bool (BC d true b.2.1))), (4, .box [.lsl 9 2 0 f.length]), (5, .box [li d.elem, li d.fin]), (6, .row 91 2 (b.2.2.1.map AR)), (7, .row 3 1 (b.2.2.2.1.map AY)), (8, .row 3 1 (b.2.2.2.2.1.map AY)), (9, .row 96 2 (f.map AK))], 10⟩) e1 (fun ae bl => ?_) (fun ae br => ?_)
   .refine rg AA <| rn 3 Z <| bq bl fun fb an bm => sx Z (AS (E1 _ _ _ an) (.inl Z) Z Z Z <| rn 1 Z <| gs 156 bm Z Z Z (fun bn => ?_) (fun bo => ?_))
    .exact rl Z <| AN bn (wf hA (gi 10 []) Z Z Z)
    exact rn 3 Z <| bq bo fun fc ao bp => sx Z (AS (E1 _ _ _ ao) (.inl Z) Z Z (C9.eq (.cons (.one (.own (enc := AR) b.2.2.1 Z Z)) (.cons (.one (.p _)) .nil))) <| rl Z <| AN bp (wf hA (gi 10 []) Z Z Z))
   refine cd Z br (fun bs => ?_) (fun cc => ?_)
   .refine jb (fun q : (Bool × (List Int) × (List AF)) => ⟨187, [(2, .lpb 0 0), (3, .lpb 1 0), (4, .lpb 2 0), (5, lb o.hard), (6, .lmap 3), (7, .lpb 4 0), (12, .fn 50 [.lpb 0 0, .lpb 4 0])], [(0, .box [lq (A6 e)]), (1, .box [li c.frm, li c.to, li c.fin, ls 3 Af g, ls 2 AR i, .lsl 5 2 0 b.2.2.1.length, .lsl 6 1 0 q.2.1.length, .lsl 7 1 0 b.2.2.2.2.1.length, lb q.1]), (2, .box [li 0, li 0, li 0, .p (.nils), .p (.nils), .p (.nils), .p (.nils), .p (.nils), lb false]), (3, .map (Aw (fun x => .agg (AK x)) .bool (BC d true b.2.1))), (4, .box [.lsl 8 2 0 q.2.2.length]), (5, .row 91 2 (b.2.2.1.map AR)), (6, .row 3 1 (q.2.1.map AY)), (7, .row 3 1 (b.2.2.2.2.1.map AY)), (8, .row 96 2 (q.2.2.map AK))], 9⟩) bs (fun q bt => ?_) (fun q cb => ?_)
    .refine rs AA <| rn 2 Z <| sx Z (Cy AA (fun k : (Bool × Bool × (List Int)) => lb k.1) (fun k : (Bool × Bool × (List Int)) => [(0, .box [lq (A6 e)]), (1, .box [li c.frm, li c.to, li c.fin, ls 3 Af g, ls 2 AR i, .lsl 6 2 0 b.2.2.1.length, .lsl 10 1 0 k.2.2.length, .lsl 8 1 0 b.2.2.2.2.1.length, lb k.2.1]), (2, .box [li 0, li 0, li 0, .p (.nils), .p (.nils), .p (.nils), .p (.nils), .p (.nils), lb false]), (3, .map (Aw (fun x => .agg (AK x)) .bool (BC d true b.2.1))), (4, .box [.lsl 9 2 0 f.length]), (5, .box [li d.elem, li d.fin]), (6, .row 91 2 (b.2.2.1.map AR)), (8, .row 3 1 (b.2.2.2.2.1.map AY)), (9, .row 96 2 (f.map AK)), (10, .row 3 1 (k.2.2.map AY))]) 11 bt Tryz.func55 30 [.tmp 4] [(0, .lpb 1 0), (1, li d.elem)] Z Z Z Z Z Z Z Z (fun A hA k bu => ?_) (fun k b2 => ?_))
     .refine rs AA <| rl Z <| AB <| rs AA <| rn 5 Z <| bq bu fun fd ap bv => sx Z (AS (Cz _ _ _ ap) (.inl Z) Z Z (C9.eq (.cons (.one (.own (enc := AY) b.2.2.2.1 Z Z)) (.cons (.one (.p _)) .nil))) <| rl Z <| cd Z bv (fun bw => ?_) (fun bx => ?_))
      .refine rs AA <| rl Z <| AG <| AI ?_
       cases bw
       exact Co (nt := 30) (sl := [(4, lb true)]) (wj hA (gi 7 [(8, 8), (9, 9), (10, 7), (7, 7)]) Z Z Z Z) Z
      refine AD <| AC <| AB <| rs AA <| rl Z <| cd Z bx (fun bz => ?_) (fun b0 => ?_)
      .refine rs AA <| rl Z <| rs AA <| rl Z <| AG <| AI ?_
       cases bz
       exact Co (nt := 30) (sl := [(4, lb false)]) (wj hA (gi 7 [(8, 8), (9, 9), (10, 7), (7, 7)]) Z Z Z Z) Z
      refine AD <| AC <| rs AA <| rn 7 Z <| bq b0 fun fe aq b1 => sx Z (Ax (enc := AY) (l := b.2.2.2.1) (m := [d.elem]) aq (fun _ => ⟨Z, Z⟩) Z Z Z Z Z Z <| rl Z <| rs AA <| rl Z <| AG ?_)
      cases b1
      exact Co (nt := 30) (sl := [(4, lb true)]) (wj hA (gi 7 [(8, 8), (9, 9), (10, 11), (7, 7)]) Z Z Z Z) Z
     refine rl Z <| cd Z b2 (fun b3 => ?_) (fun ca => ?_)
     .refine rg AA <| rn 3 Z <| sx Z (Cy AA (fun w : (List AF) => .tup []) (fun w : (List AF) => [(0, .box [lq (A6 e)]), (1, .box [li c.frm, li c.to, li c.fin, ls 3 Af g, ls 2 AR i, .lsl 6 2 0 b.2.2.1.length, .lsl 10 1 0 k.2.2.length, .lsl 8 1 0 b.2.2.2.2.1.length, lb k.2.1]), (2, .box [li 0, li 0, li 0, .p (.nils), .p (.nils), .p (.nils), .p (.nils), .p (.nils), lb false]), (3, .map (Aw (fun x => .agg (AK x)) .bool (BC d true b.2.1))), (4, .box [.lsl 11 2 0 w.length]), (5, .box [li d.elem, li d.fin]), (6, .row 91 2 (b.2.2.1.map AR)), (8, .row 3 1 (b.2.2.2.2.1.map AY)), (10, .row 3 1 (k.2.2.map AY)), (11, .row 96 2 (w.map AK))]) 12 b3 Tryz.func50 21 [] [(0, li d.elem), (1, li 0), (2, .lpb 0 0), (3, .lpb 4 0)] Z Z Z Z Z Z Z Z (fun A hA w b4 => ?_) (fun w b9 => ?_))
      .refine rs AA <| rn 4 Z <| bq b4 fun e2 ar b5 => sx Z (AS (CB _ _ _ ar) (.inl Z) Z Z Z <| rl Z <| rs AA <| rl Z <| cd Z b5 (fun b6 => ?_) (fun b8 => ?_))
       .refine rg AA <| rn 3 Z <| bq b6 fun ff au b7 => sx Z (Ax (enc := AK) (l := f) (m := [e2.1]) au (fun _ => ⟨Z, Z⟩) Z Z Z Z Z Z <| rl Z ?_)
        have hr := Option.some.inj b7; subst hr
        exact Gf (nt := 21) (sl := []) (wj hA (gi 9 [(10, 10), (11, 13), (9, 9)]) Z Z Z Z) Z
       refine AD ?_
       have hr := Option.some.inj b8; subst hr
       exact Gf (nt := 21) (sl := []) (wj hA (gi 9 [(10, 10), (11, 9), (9, 9)]) Z Z Z Z) Z
      exact rl Z <| AN b9 (wf hA (gi 5 [(5, 6), (6, 10), (7, 8), (8, 11)]) Z Z Z)
     exact AD <| AN ca (wf hA (gi 5 [(5, 6), (6, 10), (7, 8), (8, 9)]) Z Z Z)
    exact AU <| Ab <| NR Z <| Ao <| Av cb (wf hA (gi 9 []) Z Z Z)
   refine AD <| AC <| rs AA <| rl Z <| rs AA <| rn 3 Z <| bq cc fun fg av ce => sx Z (AS (E1 _ _ _ av) (.inl Z) Z Z (C9.eq (.cons (.one (.own (enc := AR) b.2.2.1 Z Z)) (.cons (.one (.p _)) .nil))) <| rl Z <| cd Z ce (fun cf => ?_) (fun ch => ?_))
   .exact rg AA <| rn 4 Z <| bq cf fun fh aw cg => sx Z (Ax (enc := AR) (l := b.2.2.1) (m := [(⟨d.elem, AQ (3 - d.fin)⟩ : AJ)]) aw (fun _ => ⟨Z, Z⟩) Z Z Z Z Z Z <| rl Z <| Ai <| Ai <| Av cg (wf hA (gi 5 [(5, 12), (6, 7), (7, 8), (8, 9)]) Z Z Z))
   exact AD <| Ai <| Ai <| Av ch (wf hA (gi 5 [(5, 6), (6, 7), (7, 8), (8, 9)]) Z Z Z)
  refine rs AA <| rn 5 Z <| bq ci fun ak ax cj => sx Z (AS (R7 _ _ _ _ _ ax) (.inl Z) Z Z Z <| rl Z <| jb (fun n : (Bool × Bool × (List Int)) => ⟨187, [(2, .lpb 0 0), (3, .lpb 1 0), (4, .lpb 2 0), (5, lb o.hard), (6, .lmap 3), (7, .lpb 4 0), (12, .fn 50 [.lpb 0 0, .lpb 4 0]), (13, .lpb 5 0), (17, li ak.1), (122, lb n.1)], [(0, .box [lq (A6 e)]), (1, .box [li c.frm, li c.to, li c.fin, ls 3 Af g, ls 2 AR i, .lsl 6 2 0 b.2.2.1.length, .lsl 7 1 0 n.2.2.length, .lsl 8 1 0 b.2.2.2.2.1.length, lb n.2.1]), (2, .box [li 0, li 0, li 0, .p (.nils), .p (.nils), .p (.nils), .p (.nils), .p (.nils), lb false]), (3, .map (Aw (fun x => .agg (AK x)) .bool (BC d true b.2.1))), (4, .box [.lsl 9 2 0 f.length]), (5, .box [li d.elem, li d.fin]), (6, .row 91 2 (b.2.2.1.map AR)), (7, .row 3 1 (n.2.2.map AY)), (8, .row 3 1 (b.2.2.2.2.1.map AY)), (9, .row 96 2 (f.map AK))], 10⟩) cj (fun n ck => ?_) (fun n cv => ?_))
  .refine rg AA <| rn 2 Z <| gs 118 ck Z Z Z (fun cl => ?_) (fun cu => ?_)
   .refine rn 2 Z <| sx Z (Cy AA (fun s : (Bool × Bool × (List Int)) => lb s.1) (fun s : (Bool × Bool × (List Int)) => [(0, .box [lq (A6 e)]), (1, .box [li c.frm, li c.to, li c.fin, ls 3 Af g, ls 2 AR i, .lsl 6 2 0 b.2.2.1.length, .lsl 10 1 0 s.2.2.length, .lsl 8 1 0 b.2.2.2.2.1.length, lb s.2.1]), (2, .box [li 0, li 0, li 0, .p (.nils), .p (.nils), .p (.nils), .p (.nils), .p (.nils), lb false]), (3, .map (Aw (fun x => .agg (AK x)) .bool (BC d true b.2.1))), (4, .box [.lsl 9 2 0 f.length]), (5, .box [li d.elem, li d.fin]), (6, .row 91 2 (b.2.2.1.map AR)), (8, .row 3 1 (b.2.2.2.2.1.map AY)), (9, .row 96 2 (f.map AK)), (10, .row 3 1 (s.2.2.map AY))]) 11 cl Tryz.func55 30 [.tmp 4] [(0, .lpb 1 0), (1, li d.elem)] Z Z Z Z Z Z Z Z (fun A hA s cm => ?_) (fun s ct => ?_))
    .refine rs AA <| rl Z <| AB <| rs AA <| rn 5 Z <| bq cm fun fi ay cn => sx Z (AS (Cz _ _ _ ay) (.inl Z) Z Z (C9.eq (.cons (.one (.own (enc := AY) b.2.2.2.1 Z Z)) (.cons (.one (.p _)) .nil))) <| rl Z <| cd Z cn (fun co => ?_) (fun cp => ?_))
     .refine rs AA <| rl Z <| AG <| AI ?_
      cases co
      exact Co (nt := 30) (sl := [(4, lb true)]) (wj hA (gi 7 [(8, 8), (9, 9), (10, 7), (7, 7)]) Z Z Z Z) Z
     refine AD <| AC <| AB <| rs AA <| rl Z <| cd Z cp (fun cq => ?_) (fun cr => ?_)
     .refine rs AA <| rl Z <| rs AA <| rl Z <| AG <| AI ?_
      cases cq
      exact Co (nt := 30) (sl := [(4, lb false)]) (wj hA (gi 7 [(8, 8), (9, 9), (10, 7), (7, 7)]) Z Z Z Z) Z
     refine AD <| AC <| rs AA <| rn 7 Z <| bq cr fun fj az cs => sx Z (Ax (enc := AY) (l := b.2.2.2.1) (m := [d.elem]) az (fun _ => ⟨Z, Z⟩) Z Z Z Z Z Z <| rl Z <| rs AA <| rl Z <| AG ?_)
     cases cs
     exact Co (nt := 30) (sl := [(4, lb true)]) (wj hA (gi 7 [(8, 8), (9, 9), (10, 11), (7, 7)]) Z Z Z Z) Z
    exact rl Z <| AN ct (wf hA (gi 7 [(7, 10), (8, 8), (9, 9)]) Z Z Z)
   exact rl Z <| AN cu (wf hA (gi 10 []) Z Z Z)
  refine cd Z cv (fun cw => ?_) (fun c3 => ?_)
  .refine rg AA <| rn 4 Z <| sx Z (Cy AA (fun aa : (List AF) => .tup []) (fun aa : (List AF) => [(0, .box [lq (A6 e)]), (1, .box [li c.frm, li c.to, li c.fin, ls 3 Af g, ls 2 AR i, .lsl 6 2 0 b.2.2.1.length, .lsl 7 1 0 n.2.2.length, .lsl 8 1 0 b.2.2.2.2.1.length, lb n.2.1]), (2, .box [li 0, li 0, li 0, .p (.nils), .p (.nils), .p (.nils), .p (.nils), .p (.nils), lb false]), (3, .map (Aw (fun x => .agg (AK x)) .bool (BC d true b.2.1))), (4, .box [.lsl 10 2 0 aa.length]), (5, .box [li d.elem, li d.fin]), (6, .row 91 2 (b.2.2.1.map AR)), (7, .row 3 1 (n.2.2.map AY)), (8, .row 3 1 (b.2.2.2.2.1.map AY)), (10, .row 96 2 (aa.map AK))]) 11 cw Tryz.func50 21 [] [(0, li d.elem), (1, li ak.1), (2, .lpb 0 0), (3, .lpb 4 0)] Z Z Z Z Z Z Z Z (fun A hA aa cx => ?_) (fun aa c2 => ?_))
   .refine rs AA <| rn 4 Z <| bq cx fun e3 a0 cy => sx Z (AS (CB _ _ _ a0) (.inl Z) Z Z Z <| rl Z <| rs AA <| rl Z <| cd Z cy (fun cz => ?_) (fun c1 => ?_))
    .refine rg AA <| rn 3 Z <| bq cz fun fk a1 c0 => sx Z (Ax (enc := AK) (l := f) (m := [e3.1]) a1 (fun _ => ⟨Z, Z⟩) Z Z Z Z Z Z <| rl Z ?_)
     have hr := Option.some.inj c0; subst hr
     exact Gf (nt := 21) (sl := []) (wj hA (gi 9 [(10, 12), (9, 9)]) Z Z Z Z) Z
    refine AD ?_
    have hr := Option.some.inj c1; subst hr
    exact Gf (nt := 21) (sl := []) (wj hA (gi 9 [(10, 9), (9, 9)]) Z Z Z Z) Z
   exact rl Z <| Ai <| Ai <| Av c2 (wf hA (gi 5 [(5, 6), (6, 7), (7, 8), (8, 10)]) Z Z Z)
  exact AD <| Ai <| Ai <| Av c3 (wf hA (gi 5 [(5, 6), (6, 7), (7, 8), (8, 9)]) Z Z Z)
 refine AU <| Ab <| BH c4 fun e8 c5 => Ao <| AC <| rs AA <| rl Z <| AG <| Em ?_
 cases c5
 exact er (HH Z (.agg (.cons (.p _) (.cons (.p _) (.cons (.p _) (.cons (.p _) (.cons (.p _) (.cons (.own (enc := AR) b.2.2.1 Z Z) (.cons (.own (enc := AY) b.2.2.2.1 Z Z) (.cons (.own (enc := AY) b.2.2.2.2.1 Z Z) (.cons (.p _) .nil))))))))))) Le.rfl
end Go.E
/- Plain functions, and walks in step with them. Written by a program (gen.py). No condition. -/
set_option maxRecDepth 100000
namespace Go.E
open Go Go.RowKit Go.Proofs
end Go.E
/- Plain functions, and walks in step with them. Written by a program (gen.py). No condition. -/
set_option maxRecDepth 100000
namespace Go.E
open Go Go.RowKit Go.Proofs
noncomputable def CY (a : BI) : Option Int :=
 some (a.p.signals.length : Int)
theorem IY (a : BI) (r : Int) (h : CY a = some r) : A4 Tryz.prog 87 [.place (A6 a) 0] (· = .int .i64 r) := by
 refine fn AA Tryz.func87 Z Z 9 Z [.tmp 2] Z [(0, .p (.place (A6 a) 0))] Z Z fun A hA => ?_
 unfold CY at h
 refine rs AA <| rl Z <| rs AA <| rn 5 Z <| sx Z (Al Z Z <| rl Z <| AG ?_)
 cases h
 exact er Z Le.rfl
noncomputable def GQ (b : BI) (a : Int) : Option (AF × Bool) :=
 ((bif decide (a < 0) then some true else some (decide ((b.p.signals.length : Int) <= a)) : Option (Bool))).bind fun (c : Bool) => bif c then some ((⟨0, 0⟩ : AF), false) else (Ak b.p.signals a).bind fun d => some (d.at_, true)
theorem Ot (a : BI) (b : Int) (r : (AF × Bool)) (h : GQ a b = some r) : A4 Tryz.prog 95 [.place (A6 a) 0, .int .i64 b] (· = .tup [.agg (AK r.1), .bool r.2]) := by
 refine fn AA Tryz.func95 Z Z 28 Z [.cell 4 96, .tmp 5] Z [(0, .p (.place (A6 a) 0)), (1, .p (.int .i64 b))] Z Z fun A hA => ?_
 unfold GQ at h
 refine rs AA <| rl Z <| AB <| jb (fun c : Bool => ⟨28, [(0, lq (A6 a)), (1, li b), (4, .lpb 0 0), (17, lb c)], [(0, .box [li 0, li 0])], 1⟩) h (fun c e => ?_) (fun c i => ?_)
 .refine rg AA <| rn 3 Z <| gs 8 e Z Z Z (fun f => ?_) (fun g => ?_)
  .exact rl Z <| AN f (wf hA [(0, 0)] Z Z Z)
  exact rn 6 Z <| sx Z (Al Z Z <| rl Z <| AN g (wf hA [(0, 0)] Z Z Z))
 refine cd Z i (fun j => ?_) (fun k => ?_)
 .refine rs AA <| rl Z <| AG <| AI ?_
  cases j
  exact er Z Le.rfl
 refine AD <| AC <| rs AA <| rn 6 Z <| bq k fun m d l => sx Z (Aj d Z Z Z <| rl Z <| AG ?_)
 cases l
 exact er Z Le.rfl
noncomputable def Et (a : AV) (b : Int) : Option Bool :=
 some (a.elem == b)
theorem Pi (a : AV) (b : Int) (r : Bool) (h : Et a b = some r) : A4 Tryz.prog 209 [.agg (Af a), .place (AY b) 0] (· = .bool r) := by
 refine fn AA Tryz.func209 Z Z 8 Z [.tmp 3] Z [(0, .p (.agg (Af a))), (1, .p (.place (AY b) 0))] Z Z fun A hA => ?_
 unfold Et at h
 refine rs AA <| rl Z <| rs AA <| rl Z <| AG ?_
 cases h
 exact er Z Le.rfl
noncomputable def Bg (b : (List AV)) (x1_0 : Int) (a : Int) : Option (Int ⊕ Int) :=
 bif decide (a < (b.length : Int)) then (Ak b a).bind fun c => (Et c x1_0).bind fun d => bif d then some (.inr a) else some (.inl (AQ (a + 1))) else some (.inr (-1))
noncomputable def B5 (b : (List AV)) (x1_0 : Int) : Option Bool :=
 ((AO (Bg b x1_0) 0 : Option (Int))).bind fun (a : Int) => some (decide (0 <= a))
theorem IZ (b : (List AV)) (x1_0 : Int) (r : Bool) (h : B5 b x1_0 = some r) : A4 Tryz.prog 96 [.slice 3 (b.map Af), .fn 209 [.place (AY x1_0) 0]] (· = .bool r) := by
 refine fn AA Tryz.func96 Z Z 9 Z [.tmp 4] Z [(0, .p (.slice 3 (b.map Af))), (1, .p (.fn 209 [.place (AY x1_0) 0]))] Z Z fun A hA => ?_
 unfold B5 at h
 refine J4 (YW 1 Z) <| rs AA <| rl Z <| rs AA <| rn 2 Z <| sx Z (Cy AA (fun c : Int => li c) (fun c : Int => []) 0 h Tryz.func149 19 [.tmp 4] [(0, ls 3 Af b), (1, .fn 209 [lq (AY x1_0)])] Z Z Z Z Z Z Z Z (fun A hA c i => ?_) (fun c t => ?_))
 .refine rs AA <| rl Z <| AB <| rs AA <| rn 1 Z <| sx Z (Al Z Z <| rl Z <| AH ?_)
  apply lp (a := c) (fun d : Int => ⟨19, [(0, ls 3 Af b), (1, .fn 209 [lq (AY x1_0)]), (7, li (b.length : Int)), (8, li d)], [], 0⟩) i
  . exact wj hA [] Z Z Z Z
  intro d w e
  unfold Bg at e
  refine rs AA <| rl Z <| AB <| cd Z e (fun j => ?_) (fun q => ?_)
  .refine AD <| AC <| AB <| AH <| rs AA <| rl Z <| rs AA <| rn 3 Z <| bq j fun x f k => sx Z (Aj f Z Z Z <| rn 1 Z <| bq k fun y g l => sx Z (AS (Pi _ _ _ g) (.inl Z) Z Z Z <| rl Z <| cd Z l (fun m => ?_) (fun o => ?_)))
   .refine rs AA <| rl Z <| AG <| AT <| AI <| A1 m fun u n => AT <| AI ?_
    have hr := Option.some.inj n; subst hr
    exact Co (nt := 19) (sl := [(4, li d)]) (wj hA [] Z Z Z Z) Z
   exact AD <| Ai <| AC <| rg AA <| rl Z <| Av o (wj hA [] Z Z Z Z)
  refine AU <| Ab <| BH q fun v s => Ao <| AC <| rs AA <| rl Z <| AG ?_
  cases s
  exact Co (nt := 19) (sl := [(4, li (-1))]) (wj hA [] Z Z Z Z) Z
 refine rl Z <| AG ?_
 cases t
 exact er Z Le.rfl
end Go.E
/- Plain functions, and walks in step with them. Written by a program (gen.py). No condition. -/
set_option maxRecDepth 100000
namespace Go.E
open Go Go.RowKit Go.Proofs
noncomputable def Fq (a : Ni) (b : Int) : Option Bool :=
 ((bif decide ((a.steps.length : Int) < 12) then bif (b != a.berth) then (B5 a.steps b).bind fun d => some (!d) else some false else some false : Option (Bool))).bind fun (c : Bool) => some c
theorem Q6 (b : Ni) (c : Int) (r : Bool) (h : Fq b c = some r) : A4 Tryz.prog 189 [.place (Sf b) 0, .int .i64 c] (· = .bool r) := by
 refine fn AA Tryz.func189 Z Z 28 Z [.tmp 4] Z [(0, .p (.place (Sf b) 0)), (1, .p (.int .i64 c))] Z Z fun A hA => ?_
 unfold Fq at h
 refine rs AA <| rl Z <| jb (fun a : Bool => ⟨28, [(4, lb a)], [], 0⟩) h (fun a k => ?_) (fun a j => ?_)
 .refine Bi AA Az [0, 1, 2, 3, 4, 5, 6, 7, 8, 9, 10, 11, 12, 13, 14, 15, 16, 17, 18, 19, 20, 21, 22, 23] 24 (by kernel_rfl) Z Z Z ?_
  refine Am 4 Z <| An Z (Og Z Z <| Am 2 Z <| Dk 11 k Z Z Z (fun l => ?_) (fun i => ?_))
  .refine Am 8 Z <| Dk 19 l Z Z Z (fun e => ?_) (fun g => ?_)
   .exact Am 5 Z <| bq e fun m d f => An Z (BA (IZ _ _ _ d) (.inl Z) Z Z (C9.eq (.cons (.one (.p _)) (.cons (.fn (.box Z (.cons (.p _) .nil) .nil)) .nil))) <| A0 Z <| AN f (wf hA [] Z Z Z))
   exact A0 Z <| AN g (wf hA [] Z Z Z)
  exact A0 Z <| AN i (wf hA [] Z Z Z)
 refine AG ?_
 have hr := Option.some.inj j; subst hr
 exact er Z Le.rfl
noncomputable def Lk (b : ((List AV) × (List Int) × (List (List BO)))) (d : (List AV)) (a : Int × (List AJ)) : Option ((Int × (List AJ)) ⊕ ((List AV) × (List AJ))) :=
 bif decide (a.1 < (b.1.length : Int)) then (((Ak b.1 a.1).bind fun e => (Ak b.2.1 a.1).bind fun f => bif (f != 0) then (Ak b.2.1 a.1).bind fun g => (BE a.2 [(⟨e.elem, g⟩ : AJ)]).bind fun h => some h else some a.2 : Option ((List AJ)))).bind fun (c : (List AJ)) => some (.inl (AQ (a.1 + 1), c)) else some (.inr (d, a.2))
noncomputable def Ll (a : ((List AW) × (List AV) × (List Int) × (List (List BO)))) (c : BO) (d : AV) (f : (List AV)) (b : Int × (List AJ)) : Option ((Int × (List AJ)) ⊕ ((List AV) × (List AJ))) :=
 bif decide (b.1 < ((BF a.2.1 (AQ ((a.2.1.length : Int) - 1)) (⟨d.elem, d.in_, c.out⟩ : AV)).length : Int)) then (((Ak (BF a.2.1 (AQ ((a.2.1.length : Int) - 1)) (⟨d.elem, d.in_, c.out⟩ : AV)) b.1).bind fun g => (Ak (BF a.2.2.1 (AQ ((a.2.1.length : Int) - 1)) c.pos) b.1).bind fun h => bif (h != 0) then (Ak (BF a.2.2.1 (AQ ((a.2.1.length : Int) - 1)) c.pos) b.1).bind fun i => (BE b.2 [(⟨g.elem, i⟩ : AJ)]).bind fun j => some j else some b.2 : Option ((List AJ)))).bind fun (e : (List AJ)) => some (.inl (AQ (b.1 + 1), e)) else some (.inr (f, b.2))
noncomputable def Lm (a : ((List AW) × (List AV) × (List Int) × (List (List BO)))) (c : BO) (d : AV) (f : (List AV)) (b : Int × (List AJ)) : Option ((Int × (List AJ)) ⊕ ((List AV) × (List AJ))) :=
 bif decide (b.1 < ((BF a.2.1 (AQ ((a.2.1.length : Int) - 1)) (⟨d.elem, d.in_, c.out⟩ : AV)).length : Int)) then (((Ak (BF a.2.1 (AQ ((a.2.1.length : Int) - 1)) (⟨d.elem, d.in_, c.out⟩ : AV)) b.1).bind fun g => (Ak (BF a.2.2.1 (AQ ((a.2.1.length : Int) - 1)) c.pos) b.1).bind fun h => bif (h != 0) then (Ak (BF a.2.2.1 (AQ ((a.2.1.length : Int) - 1)) c.pos) b.1).bind fun i => (BE b.2 [(⟨g.elem, i⟩ : AJ)]).bind fun j => some j else some b.2 : Option ((List AJ)))).bind fun (e : (List AJ)) => some (.inl (AQ (b.1 + 1), e)) else some (.inr (f, b.2))
noncomputable def Cq (i : BI) (j : Int) (a : (List AW) × (List AV) × (List Int) × (List (List BO))) : Option (((List AW) × (List AV) × (List Int) × (List (List BO))) ⊕ ((Int × Int × (List AW) × (List AV) × (List Int) × (List (List BO))) ⊕ (List AW))) :=
 bif decide (0 < (a.2.1.length : Int)) then (Ak a.2.2.2 (AQ ((a.2.1.length : Int) - 1))).bind fun n => bif ((n.length : Int) == 0) then (((MH a.2.1 0 (AQ ((a.2.1.length : Int) - 1))).bind fun o => (MH a.2.2.1 0 (AQ ((a.2.1.length : Int) - 1))).bind fun p => (MH a.2.2.2 0 (AQ ((a.2.1.length : Int) - 1))).bind fun q => some (o, p, q) : Option ((List AV) × (List Int) × (List (List BO))))).bind fun (d : (List AV) × (List Int) × (List (List BO))) => some (.inl (a.1, d.1, d.2.1, d.2.2)) else (Ak a.2.2.2 (AQ ((a.2.1.length : Int) - 1))).bind fun r => (Ak r 0).bind fun c => (Ak a.2.2.2 (AQ ((a.2.1.length : Int) - 1))).bind fun k => (JU k 1 (k.length : Int)).bind fun e => (Ak a.2.2.2 (AQ ((a.2.1.length : Int) - 1))).bind fun w => (Ak a.2.1 (AQ ((a.2.1.length : Int) - 1))).bind fun b => (Ak a.2.2.1 (AQ ((a.2.1.length : Int) - 1))).bind fun x => (Ak (BF a.2.1 (AQ ((a.2.1.length : Int) - 1)) (⟨b.elem, b.in_, c.out⟩ : AV)) (AQ ((a.2.1.length : Int) - 1))).bind fun l => (Bw i (⟨l.elem, c.out⟩ : AF)).bind fun m => bif decide (0 <= m) then (((Bl (BF a.2.1 (AQ ((a.2.1.length : Int) - 1)) (⟨b.elem, b.in_, c.out⟩ : AV))).bind fun s => AO (Ll a c b s) (0, ([] : List AJ)) : Option ((List AV) × (List AJ)))).bind fun (g : (List AV) × (List AJ)) => (BE a.1 ([(⟨j, m, 1, g.1, g.2, ([] : List AJ), ([] : List Int), ([] : List Int), false⟩ : AW)])).bind fun t => some (.inl (t, BF a.2.1 (AQ ((a.2.1.length : Int) - 1)) (⟨b.elem, b.in_, c.out⟩ : AV), BF a.2.2.1 (AQ ((a.2.1.length : Int) - 1)) c.pos, BF a.2.2.2 (AQ ((a.2.1.length : Int) - 1)) e)) else (Bc i (⟨l.elem, c.out⟩ : AF)).bind fun f => bif (!f.2) then (((Bl (BF a.2.1 (AQ ((a.2.1.length : Int) - 1)) (⟨b.elem, b.in_, c.out⟩ : AV))).bind fun u => AO (Lm a c b u) (0, ([] : List AJ)) : Option ((List AV) × (List AJ)))).bind fun (h : (List AV) × (List AJ)) => (BE a.1 ([(⟨j, (-1), 3, h.1, h.2, ([] : List AJ), ([] : List Int), ([] : List Int), false⟩ : AW)])).bind fun v => some (.inl (v, BF a.2.1 (AQ ((a.2.1.length : Int) - 1)) (⟨b.elem, b.in_, c.out⟩ : AV), BF a.2.2.1 (AQ ((a.2.1.length : Int) - 1)) c.pos, BF a.2.2.2 (AQ ((a.2.1.length : Int) - 1)) e)) else some (.inr (.inl (f.1.elem, f.1.fin, a.1, BF a.2.1 (AQ ((a.2.1.length : Int) - 1)) (⟨b.elem, b.in_, c.out⟩ : AV), BF a.2.2.1 (AQ ((a.2.1.length : Int) - 1)) c.pos, BF a.2.2.2 (AQ ((a.2.1.length : Int) - 1)) e))) else some (.inr (.inr a.1))
noncomputable def C1 (d : BI) (f : Int) (o : (AF × Bool)) (a : Int × Int × (List AW) × (List AV) × (List Int) × (List (List BO))) : Option ((Int × Int × (List AW) × (List AV) × (List Int) × (List (List BO))) ⊕ (List AW)) :=
 (((Fq (⟨o.1.elem, a.2.2.2.1, a.2.2.2.2.1, a.2.2.2.2.2⟩ : Ni) a.1).bind fun g => bif g then (((BE a.2.2.2.1 [(⟨a.1, a.2.1, (-1)⟩ : AV)]).bind fun h => (BE a.2.2.2.2.1 [0]).bind fun i => (DB d a.1 a.2.1).bind fun j => (BE a.2.2.2.2.2 [j]).bind fun k => some (h, i, k) : Option ((List AV) × (List Int) × (List (List BO))))).bind fun (b : (List AV) × (List Int) × (List (List BO))) => (B1 d a.1).bind fun l => bif (l == 4) then (((Bl b.1).bind fun m => AO (Lk b m) (0, ([] : List AJ)) : Option ((List AV) × (List AJ)))).bind fun (e : (List AV) × (List AJ)) => (BE a.2.2.1 ([(⟨f, (-1), 2, e.1, e.2, ([] : List AJ), ([] : List Int), ([] : List Int), false⟩ : AW)])).bind fun n => some (n, b.1, b.2.1, b.2.2) else some (a.2.2.1, b.1, b.2.1, b.2.2) else some (a.2.2.1, a.2.2.2.1, a.2.2.2.2.1, a.2.2.2.2.2) : Option ((List AW) × (List AV) × (List Int) × (List (List BO))))).bind fun (c : (List AW) × (List AV) × (List Int) × (List (List BO))) => AO (Cq d f) (c.1, c.2.1, c.2.2.1, c.2.2.2)
noncomputable def JF (a : BI) (d : Int) : Option (List AW) :=
 (GQ a d).bind fun c => bif (!c.2) then some [] else (Bc a c.1).bind fun b => bif (!b.2) then some [] else AO (C1 a d c) (b.1.elem, b.1.fin, ([] : List AW), ([] : List AV), ([] : List Int), ([] : List (List BO)))
theorem Sg (t : BI) (g : Int) (r : (List AW)) (h : JF t g = some r) : A4 Tryz.prog 138 [.place (A6 t) 0, .int .i64 g] (· = .slice 9 (r.map Ad)) := by
 refine fn AA Tryz.func138 Z Z 157 Z [.tmp 4] Z [(0, .p (.place (A6 t) 0)), (1, .p (.int .i64 g))] Z Z fun A hA => ?_
 unfold JF at h
 refine rs AA <| rl Z <| sc <| rs AA <| rn 2 Z <| bq h fun j bu ef => sx Z (AS (Ot _ _ _ bu) (.inl Z) Z Z Z <| rl Z <| AB <| rs AA <| rl Z <| cd Z ef (fun eg => ?_) (fun eh => ?_))
 .refine rs AA <| rl Z <| AG <| AI <| Em ?_
  cases eg
  exact er Z (Le.nil _)
 refine AD <| AC <| rs AA <| rn 2 Z <| bq eh fun e2 a8 bv => sx Z (AS (CB _ _ _ a8) (.inl Z) Z Z Z <| rl Z <| AB <| rs AA <| rl Z <| cd Z bv (fun bw => ?_) (fun bx => ?_))
 .refine rs AA <| rl Z <| AG <| AI <| Em ?_
  cases bw
  exact er Z (Le.nil _)
 refine AD <| AC <| rs AA <| rl Z <| rs AA <| rl Z <| AB <| Hv <| AC <| AB <| AH ?_
 apply lp (a := r) (fun d : (Int × Int × (List AW) × (List AV) × (List Int) × (List (List BO))) => ⟨157, [(0, lq (A6 t)), (1, li g), (7, .lpb 0 0), (8, .lsl 1 9 0 d.2.2.1.length), (9, .lpb 2 0)], [(0, .box [li d.1, li d.2.1]), (1, .row 36 9 (d.2.2.1.map Ad)), (2, .box [li j.1.elem, .lsl 3 3 0 d.2.2.2.1.length, .lsl 4 1 0 d.2.2.2.2.1.length, .lsl 5 1 0 d.2.2.2.2.2.length]), (3, .row 65 3 (d.2.2.2.1.map Af)), (4, .row 3 1 (d.2.2.2.2.1.map AY)), (5, .row 145 1 (d.2.2.2.2.2.map (EW 2 CR)))], 6⟩) bx
 . exact A9.trans (By 8 36 9 Z) (A9.trans (Cg 2 1 65 3 Z Z Z Z) (A9.trans (Cg 2 2 3 1 Z Z Z Z) (A9.trans (Cg 2 3 145 1 Z Z Z Z) (wf hA [(0, 1), (1, 3), (2, 2), (3, 4), (4, 5), (5, 6)] Z Z Z))))
 intro d a7 a2
 unfold C1 at a2
 refine AH <| sc <| jb (fun k : ((List AW) × (List AV) × (List Int) × (List (List BO))) => ⟨157, [(0, lq (A6 t)), (1, li g), (7, .lpb 0 0), (8, .lsl 1 9 0 k.1.length), (9, .lpb 2 0)], [(0, .box [li d.1, li d.2.1]), (1, .row 36 9 (k.1.map Ad)), (2, .box [li j.1.elem, .lsl 3 3 0 k.2.1.length, .lsl 4 1 0 k.2.2.1.length, .lsl 5 1 0 k.2.2.2.length]), (3, .row 65 3 (k.2.1.map Af)), (4, .row 3 1 (k.2.2.1.map AY)), (5, .row 145 1 (k.2.2.2.map (EW 2 CR)))], 6⟩) a2 (fun k bz => ?_) (fun k cs => ?_)
 .refine rs AA <| rn 3 Z <| bq bz fun e3 a9 b0 => sx Z (AS (Q6 _ _ _ a9) (.inl Z) Z Z (C9.eq (.cons (.box Z (.cons (.p _) (.cons (.own (enc := Af) d.2.2.2.1 Z Z) (.cons (.own (enc := AY) d.2.2.2.2.1 Z Z) (.cons (.own (enc := (EW 2 CR)) d.2.2.2.2.2 Z Z) .nil))))) (.cons (.one (.p _)) .nil))) <| rl Z <| cd Z b0 (fun b1 => ?_) (fun cr => ?_))
  .refine rs AA <| rn 3 Z <| sx Z (Cy AA (fun f : ((List AV) × (List Int) × (List (List BO))) => .tup []) (fun f : ((List AV) × (List Int) × (List (List BO))) => [(0, .box [li d.1, li d.2.1]), (1, .row 36 9 (d.2.2.1.map Ad)), (2, .box [li j.1.elem, .lsl 6 3 0 f.1.length, .lsl 7 1 0 f.2.1.length, .lsl 8 1 0 f.2.2.length]), (6, .row 65 3 (f.1.map Af)), (7, .row 3 1 (f.2.1.map AY)), (8, .row 145 1 (f.2.2.map (EW 2 CR)))]) 9 b1 Tryz.func190 44 [] [(0, .lpb 2 0), (1, lq (A6 t)), (2, .p (.agg [.int .i64 d.1, .int .i64 d.2.1]))] Z Z Z Z Z Z Z Z (fun A hA f b2 => ?_) (fun f b7 => ?_))
   .refine rs AA <| rl Z <| AB ?_
    refine Bi AA Az [0, 1, 2, 3, 4, 5, 6, 7, 8, 9, 10, 11, 12, 13, 14] 15 (by kernel_rfl) Z Z Z ?_
    refine Am 11 Z <| bq b2 fun e4 ba b3 => An Z (BY (Ax (enc := Af) (l := d.2.2.2.1) (m := [(⟨d.1, d.2.1, (-1)⟩ : AV)]) ba (fun _ => ⟨Z, Z⟩) Z Z Z Z Z Z <| A0 Z <| AC <| rs AA <| rn 6 Z <| bq b3 fun e5 bb b4 => sx Z (Ax (enc := AY) (l := d.2.2.2.2.1) (m := [0]) bb (fun _ => ⟨Z, Z⟩) Z Z Z Z Z Z <| rl Z ?_)))
    refine Bi AA Az [0, 1, 2, 3, 4, 5, 6, 7, 8, 9, 10, 11, 12, 13, 14, 15] 16 (by kernel_rfl) Z Z Z ?_
    refine Am 10 Z <| bq b4 fun ei bc b5 => An Z (BA (GR _ _ _ _ bc) (.inr Z) Z Z Z <| Am 1 Z <| bq b5 fun e6 be b6 => An Z (BY (Ax (enc := (EW 2 CR)) (l := d.2.2.2.2.2) (m := [ei]) be (fun _ => ⟨Z, Z⟩) Z Z Z Z Z Z <| A0 Z ?_)))
    cases b6
    exact Gf (nt := 44) (sl := []) (wj hA (gi 6 [(6, 18), (7, 23), (8, 36)]) Z Z Z Z) Z
   refine rl Z <| rs AA <| rn 3 Z <| bq b7 fun e7 bf b8 => sx Z (AS (DC _ _ _ bf) (.inl Z) Z Z Z <| rl Z <| cd Z b8 (fun b9 => ?_) (fun cq => ?_))
   .refine rg AA <| rn 3 Z <| sx Z (Cy AA (fun n : ((List AV) × (List AJ)) => .p (.agg [.int .i64 g, .int .i64 (-1), .int .i64 2, .slice 3 (n.1.map Af), .slice 2 (n.2.map AR), .slice 2 (([] : List AJ).map AR), .slice 1 (([] : List Int).map AY), .slice 1 (([] : List Int).map AY), .bool false])) (fun n : ((List AV) × (List AJ)) => [(0, .box [li d.1, li d.2.1]), (1, .row 36 9 (d.2.2.1.map Ad)), (2, .box [li j.1.elem, .lsl 6 3 0 f.1.length, .lsl 7 1 0 f.2.1.length, .lsl 8 1 0 f.2.2.length]), (6, .row 65 3 (f.1.map Af)), (7, .row 3 1 (f.2.1.map AY)), (8, .row 145 1 (f.2.2.map (EW 2 CR))), (9, .box [li g, li (-1), li 2, ls 3 Af n.1, ls 2 AR n.2, ls 2 AR ([] : List AJ), ls 1 AY ([] : List Int), ls 1 AY ([] : List Int), lb false])]) 10 b9 Tryz.func191 56 [.cell 8 36] [(0, .lpb 2 0), (1, li g), (2, li (-1)), (3, li 2)] Z Z Z Z Z Z Z Z (fun A hA n ca => ?_) (fun n co => ?_))
    .refine rs AA <| rl Z <| rs AA <| rn 7 Z <| bq ca fun ab bg cb => sx Z (QH (FZ _ _ bg) (fun _ => Z) Z Z (C9.eq (.cons (.one (.own (enc := Af) f.1 Z Z)) .nil)) <| rl Z <| AB <| rs AA <| rl Z <| AH ?_)
     apply lp (a := n) (fun u : (Int × (List AJ)) => ⟨56, [(0, .lpb 2 0), (8, .lpb 9 0), (9, .lpb 10 0), (24, .lsl 6 3 0 f.1.length), (25, li (f.1.length : Int)), (26, li u.1)], [(0, .box [li d.1, li d.2.1]), (1, .row 36 9 (d.2.2.1.map Ad)), (2, .box [li j.1.elem, .lsl 6 3 0 f.1.length, .lsl 7 1 0 f.2.1.length, .lsl 8 1 0 f.2.2.length]), (6, .row 65 3 (f.1.map Af)), (7, .row 3 1 (f.2.1.map AY)), (8, .row 145 1 (f.2.2.map (EW 2 CR))), (9, .box [li 0, li 0, li 0, .p (.nils), .p (.nils), .p (.nils), .p (.nils), .p (.nils), lb false]), (10, .box [li g, li (-1), li 2, .lsl 11 3 0 ab.length, .lsl 12 2 0 u.2.length, .p (.nils), .p (.nils), .p (.nils), lb false]), (11, .row 65 3 (ab.map Af)), (12, .row 91 2 (u.2.map AR))], 13⟩) cb
     . exact A9.trans (Cg 11 4 91 2 Z Z Z Z) (wj hA (gi 10 [(10, 11), (11, 10), (12, 12)]) Z Z Z Z)
     intro u ey a3
     unfold Lk at a3
     refine rs AA <| rl Z <| AB <| cd Z a3 (fun cc => ?_) (fun cm => ?_)
     .refine AD <| AC <| jb (fun af : (List AJ) => ⟨56, [(0, .lpb 2 0), (8, .lpb 9 0), (9, .lpb 10 0), (24, .lsl 6 3 0 f.1.length), (25, li (f.1.length : Int)), (26, li u.1)], [(0, .box [li d.1, li d.2.1]), (1, .row 36 9 (d.2.2.1.map Ad)), (2, .box [li j.1.elem, .lsl 6 3 0 f.1.length, .lsl 7 1 0 f.2.1.length, .lsl 8 1 0 f.2.2.length]), (6, .row 65 3 (f.1.map Af)), (7, .row 3 1 (f.2.1.map AY)), (8, .row 145 1 (f.2.2.map (EW 2 CR))), (9, .box [li 0, li 0, li 0, .p (.nils), .p (.nils), .p (.nils), .p (.nils), .p (.nils), lb false]), (10, .box [li g, li (-1), li 2, .lsl 11 3 0 ab.length, .lsl 12 2 0 af.length, .p (.nils), .p (.nils), .p (.nils), lb false]), (11, .row 65 3 (ab.map Af)), (12, .row 91 2 (af.map AR))], 13⟩) cc (fun af ce => ?_) (fun af cl => ?_)
      .refine AH <| rs AA <| rn 1 Z <| bq ce fun ej aj cf => sx Z (B4 aj Z Z Z Z <| sx Z (DM aj Z Z Z <| rl Z <| rs AA <| rn 5 Z <| bq cf fun e8 ak cg => sx Z (B4 ak Z Z Z Z <| sx Z (DM ak Z Z Z <| rl Z <| cd Z cg (fun ch => ?_) (fun ck => ?_)))))
       .refine Bi AA Az [0, 1, 2, 3, 4, 5, 6, 7, 8, 9, 10, 11, 12, 13, 14, 15] 16 (by kernel_rfl) Z Z Z ?_
        exact Am 9 Z <| bq ch fun ek al ci => An Z (AZ Z (B4 al Z Z Z Z <| An Z (Hy Z (DM al Z Z Z <| Am 2 Z <| bq ci fun e9 bh cj => An Z (BY (Ax (enc := AR) (l := u.2) (m := [(⟨ej.elem, ek⟩ : AJ)]) bh (fun _ => ⟨Z, Z⟩) Z Z Z Z Z Z <| A0 Z <| Ai <| AN cj (wj hA (gi 12 [(12, 27)]) Z Z Z Z)))))))
       exact AD <| Ai <| AN ck (wj hA (gi 13 []) Z Z Z Z)
      exact rg AA <| rl Z <| Av cl (wj hA (gi 13 []) Z Z Z Z)
     refine AU <| Ab <| BH cm fun es cn => Ao <| AC <| rs AA <| rl Z <| AG ?_
     cases cn
     exact Co (nt := 56) (sl := [(8, .lpb 9 0)]) (A9.trans (Gz 11 (Jc (enc := Af) (l := ab) Z) (.cons 8 (.same _) .nil) (.cons 0 Z Z (.same _) (.cons 1 Z Z (.same _) (.cons 2 Z Z (.same _) (.cons 6 Z Z (.same _) (.cons 7 Z Z (.same _) (.cons 8 Z Z (.same _) (.cons 9 Z Z (.box (.cons (.same _) (.cons (.same _) (.cons (.same _) (.cons .hit (.cons (.same _) (.cons (.same _) (.cons (.same _) (.cons (.same _) (.cons (.same _) .nil)))))))))) (.cons 10 Z Z (.box (.cons (.same _) (.cons (.same _) (.cons (.same _) (.cons .hit (.cons (.same _) (.cons (.same _) (.cons (.same _) (.cons (.same _) (.cons (.same _) .nil)))))))))) (.cons 12 Z Z (.same _) .nil)))))))))) (A9.trans (Gz 12 (Jc (enc := AR) (l := u.2) Z) (.cons 8 (.same _) .nil) (.cons 0 Z Z (.same _) (.cons 1 Z Z (.same _) (.cons 2 Z Z (.same _) (.cons 6 Z Z (.same _) (.cons 7 Z Z (.same _) (.cons 8 Z Z (.same _) (.cons 9 Z Z (.box (.cons (.same _) (.cons (.same _) (.cons (.same _) (.cons (.same _) (.cons .hit (.cons (.same _) (.cons (.same _) (.cons (.same _) (.cons (.same _) .nil)))))))))) (.cons 10 Z Z (.box (.cons (.same _) (.cons (.same _) (.cons (.same _) (.cons (.same _) (.cons .hit (.cons (.same _) (.cons (.same _) (.cons (.same _) (.cons (.same _) .nil)))))))))) .nil))))))))) (A9.trans (Fs (.cons 8 (.same _) .nil) (.cons 0 Z Z (.same _) (.cons 1 Z Z (.same _) (.cons 2 Z Z (.same _) (.cons 6 Z Z (.same _) (.cons 7 Z Z (.same _) (.cons 8 Z Z (.same _) (.cons 9 Z Z (.box (.cons (.same _) (.cons (.same _) (.cons (.same _) (.cons (.same _) (.cons (.same _) (.cons (.nil 2) (.cons (.same _) (.cons (.same _) (.cons (.same _) .nil)))))))))) (.cons 10 Z Z (.same _) .nil))))))))) (A9.trans (Fs (.cons 8 (.same _) .nil) (.cons 0 Z Z (.same _) (.cons 1 Z Z (.same _) (.cons 2 Z Z (.same _) (.cons 6 Z Z (.same _) (.cons 7 Z Z (.same _) (.cons 8 Z Z (.same _) (.cons 9 Z Z (.box (.cons (.same _) (.cons (.same _) (.cons (.same _) (.cons (.same _) (.cons (.same _) (.cons (.same _) (.cons (.nil 1) (.cons (.same _) (.cons (.same _) .nil)))))))))) (.cons 10 Z Z (.same _) .nil))))))))) (A9.trans (Fs (.cons 8 (.same _) .nil) (.cons 0 Z Z (.same _) (.cons 1 Z Z (.same _) (.cons 2 Z Z (.same _) (.cons 6 Z Z (.same _) (.cons 7 Z Z (.same _) (.cons 8 Z Z (.same _) (.cons 9 Z Z (.box (.cons (.same _) (.cons (.same _) (.cons (.same _) (.cons (.same _) (.cons (.same _) (.cons (.same _) (.cons (.same _) (.cons (.nil 1) (.cons (.same _) .nil)))))))))) (.cons 10 Z Z (.same _) .nil))))))))) (wj hA (gi 10 []) Z Z Z Z)))))) Z
    exact rn 1 Z <| bq co fun fa bi cp => sx Z (Ax (enc := Ad) (l := d.2.2.1) (m := [(⟨g, (-1), 2, n.1, n.2, ([] : List AJ), ([] : List Int), ([] : List Int), false⟩ : AW)]) bi (fun _ => ⟨Z, Z⟩) Z Z Z Z Z Z <| rl Z <| AN cp (wf hA [(0, 0), (1, 11), (2, 2), (3, 6), (4, 7), (5, 8)] Z Z Z))
   exact AD <| AN cq (wf hA (gi 3 [(3, 6), (4, 7), (5, 8)]) Z Z Z)
  exact AD <| AN cr (wf hA (gi 6 []) Z Z Z)
 refine AB <| Hv <| AC <| AB <| AH ?_
 apply lp (a := a7) (fun b : ((List AW) × (List AV) × (List Int) × (List (List BO))) => ⟨157, [(0, lq (A6 t)), (1, li g), (7, .lpb 0 0), (8, .lsl 1 9 0 b.1.length), (9, .lpb 2 0)], [(0, .box [li d.1, li d.2.1]), (1, .row 36 9 (b.1.map Ad)), (2, .box [li j.1.elem, .lsl 3 3 0 b.2.1.length, .lsl 4 1 0 b.2.2.1.length, .lsl 5 1 0 b.2.2.2.length]), (3, .row 65 3 (b.2.1.map Af)), (4, .row 3 1 (b.2.2.1.map AY)), (5, .row 145 1 (b.2.2.2.map (EW 2 CR)))], 6⟩) cs
 . exact wf hA (gi 6 []) Z Z Z
 intro b ez a4
 unfold Cq at a4
 refine AB <| rs AA <| rl Z <| cd Z a4 (fun ct => ?_) (fun ec => ?_)
 .refine AD <| AC <| AH <| rs AA <| rl Z <| AB <| rs AA <| rn 5 Z <| bq ct fun fb am cu => sx Z (B4 am Z Z Z Z <| sx Z (DM am Z Z Z <| sx Z (Al Z Z <| rl Z <| cd Z cu (fun cv => ?_) (fun c1 => ?_))))
  .refine rs AA <| rn 1 Z <| sx Z (Cy AA (fun s : ((List AV) × (List Int) × (List (List BO))) => .tup []) (fun s : ((List AV) × (List Int) × (List (List BO))) => [(0, .box [li d.1, li d.2.1]), (1, .row 36 9 (b.1.map Ad)), (2, .box [li j.1.elem, .lsl 3 3 0 s.1.length, .lsl 4 1 0 s.2.1.length, .lsl 5 1 0 s.2.2.length]), (3, .row 65 3 (s.1.map Af)), (4, .row 3 1 (s.2.1.map AY)), (5, .row 145 1 (s.2.2.map (EW 2 CR)))]) 6 cv Tryz.func192 36 [] [(0, .lpb 2 0)] Z Z Z Z Z Z Z Z (fun A hA s cw => ?_) (fun s c0 => ?_))
   .refine rs AA <| rl Z ?_
    refine Bi AA Az [0, 1, 2, 3, 4, 5, 6, 7, 8, 9, 10, 11, 12, 13, 14, 15, 16, 17, 18, 19, 20, 21, 22, 23, 24, 25, 26, 27, 28, 29] 30 (by kernel_rfl) Z Z Z ?_
    refine Am 8 Z <| bq cw fun fc an cx => An Z (AZ Z (Tc (l := b.2.1) an Z Z Z Z <| Am 5 Z <| bq cx fun fd ao cy => An Z (AZ Z (Tc (l := b.2.2.1) ao Z Z Z Z <| Am 5 Z <| bq cy fun fe ap cz => An Z (AZ Z (Tc (l := b.2.2.2) ap Z Z Z Z <| A0 Z ?_))))))
    cases cz
    exact Gf (nt := 36) (sl := []) (A9.trans (Ln 3 an Z Z) (A9.trans (Ln 4 ao Z Z) (A9.trans (Ln 5 ap Z Z) (wj hA (gi 6 []) Z Z Z Z)))) Z
   exact rl Z <| AU <| Ab <| Ao <| Av c0 (wf hA (gi 6 []) Z Z Z)
  refine AD <| AC <| rs AA <| rn 5 Z <| bq c1 fun ff aq c2 => sx Z (B4 aq Z Z Z Z <| sx Z (DM aq Z Z Z <| bq c2 fun c bj c3 => sx Z (Aj bj Z Z Z <| rl Z <| AB ?_)))
  refine Bi AA Az [0, 1, 2, 3, 4, 5, 6, 7, 8, 9, 10, 11, 12, 13, 14] 15 (by kernel_rfl) Z Z Z ?_
  refine Am 10 Z <| bq c3 fun fg ar c4 => An Z (AZ Z (B4 ar Z Z Z Z <| An Z (Hy Z (DM ar Z Z Z <| bq c4 fun i bk c5 => An Z (AZ Z (Qr bk Z Z Z Z <| bq c5 fun fh au c6 => An Z (AZ Z (B4 au Z Z Z Z <| An Z (Mw Z (MC (z := i) au Z Z Z Z Z Z Z Z <| A0 Z <| AC <| AB <| bq c6 fun e ai c7 => bq c7 fun fi ae c8 => ?_))))))))))
  refine YX AA Az (.picks [0, 1, 2, 3, 4, 5, 6, 7, 8, 9, 10, 11, 12, 14, 15] (.alt 13 [16, 17, 18] .done (.alt 16 [13, 17, 18] .done .nil))) 19 ⟨157, [(0, lq (A6 t)), (1, li g), (7, .lpb 0 0), (8, .lsl 1 9 0 b.1.length), (9, .lpb 2 0), (10, li (AQ ((b.2.1.length : Int) - 1))), (11, .lpb 3 0)], [(0, .box [li d.1, li d.2.1]), (1, .row 36 9 (b.1.map Ad)), (2, .box [li j.1.elem, .lsl 4 3 0 (BF b.2.1 (AQ ((b.2.1.length : Int) - 1)) (⟨e.elem, e.in_, c.out⟩ : AV)).length, .lsl 5 1 0 (BF b.2.2.1 (AQ ((b.2.1.length : Int) - 1)) c.pos).length, .lsl 6 1 0 (BF b.2.2.2 (AQ ((b.2.1.length : Int) - 1)) i).length]), (3, .box [li c.out, li c.pos]), (4, .row 65 3 ((BF b.2.1 (AQ ((b.2.1.length : Int) - 1)) (⟨e.elem, e.in_, c.out⟩ : AV)).map Af)), (5, .row 3 1 ((BF b.2.2.1 (AQ ((b.2.1.length : Int) - 1)) c.pos).map AY)), (6, .row 145 1 ((BF b.2.2.2 (AQ ((b.2.1.length : Int) - 1)) i).map (EW 2 CR)))], 7⟩ (by kernel_rfl) Z ?_ ?_
  .refine Td <| Am 13 Z <| An Z (AZ Z (B4 ai Z Z Z Z <| A0 Z <| Eh ?_ ?_))
   .exact Am 1 Z <| An Z (Mw Z (MC (z := (⟨e.elem, e.in_, c.out⟩ : AV)) ai Z Z Z Z Z Z Z Z <| An Z (AZ Z (B4 ae Z Z Z Z <| An Z (Mw Z (MC (z := c.pos) ae Z Z Z Z Z Z Z Z <| A0 Z <| Hl (wk (gi 3 [(3, 6), (4, 3), (5, 4), (6, 5)]) (Oj hA _) Z Z Z (.cons Z (.cons Z (.cons Z (.cons Z (.cons Z (.cons Z (.cons Z .nil))))))) (.cons Z Z (.cons Z Z (.cons Z (by simp only [BW]; rfl) (.cons Z Z (.cons Z Z (.cons Z Z (.cons Z Z .nil))))))))))))))
   refine Eh ?_ ?_
   .exact An Z (Mw Z (MC (z := (⟨e.elem, e.in_, c.out⟩ : AV)) ai Z Z Z Z Z Z Z Z <| Am 1 Z <| An Z (AZ Z (B4 ae Z Z Z Z <| An Z (Mw Z (MC (z := c.pos) ae Z Z Z Z Z Z Z Z <| A0 Z <| Hl (wk (gi 3 [(3, 6), (4, 3), (5, 4), (6, 5)]) (Oj hA _) Z Z Z (.cons Z (.cons Z (.cons Z (.cons Z (.cons Z (.cons Z (.cons Z .nil))))))) (.cons Z Z (.cons Z Z (.cons Z (by simp only [BW]; rfl) (.cons Z Z (.cons Z Z (.cons Z Z (.cons Z Z .nil))))))))))))))
   exact KK
  refine AC <| AB ?_
  refine Bi AA Az [0, 1, 2, 3, 4, 5, 6, 7, 8, 9, 10, 11, 12] 13 (by kernel_rfl) Z Z Z ?_
  refine Am 5 Z <| bq c8 fun x av c9 => An Z (AZ Z (B4 av Z Z Z (by simp only [BW]) <| Am 1 Z <| An Z (Hy Z (DM av Z Z Z <| A0 Z <| AC <| AB <| rs AA <| rn 2 Z <| bq c9 fun y bl da => sx Z (AS (Ei _ _ _ bl) (.inl Z) Z Z Z <| rl Z <| rs AA <| rl Z <| cd Z da (fun db => ?_) (fun ds => ?_))))))
  .refine rs AA <| rn 4 Z <| sx Z (Cy AA (fun o : ((List AV) × (List AJ)) => .p (.agg [.int .i64 g, .int .i64 y, .int .i64 1, .slice 3 (o.1.map Af), .slice 2 (o.2.map AR), .slice 2 (([] : List AJ).map AR), .slice 1 (([] : List Int).map AY), .slice 1 (([] : List Int).map AY), .bool false])) (fun o : ((List AV) × (List AJ)) => [(0, .box [li d.1, li d.2.1]), (1, .row 36 9 (b.1.map Ad)), (2, .box [li j.1.elem, .lsl 4 3 0 (BF b.2.1 (AQ ((b.2.1.length : Int) - 1)) (⟨e.elem, e.in_, c.out⟩ : AV)).length, .lsl 5 1 0 (BF b.2.2.1 (AQ ((b.2.1.length : Int) - 1)) c.pos).length, .lsl 6 1 0 (BF b.2.2.2 (AQ ((b.2.1.length : Int) - 1)) i).length]), (3, .box [li c.out, li c.pos]), (4, .row 65 3 ((BF b.2.1 (AQ ((b.2.1.length : Int) - 1)) (⟨e.elem, e.in_, c.out⟩ : AV)).map Af)), (5, .row 3 1 ((BF b.2.2.1 (AQ ((b.2.1.length : Int) - 1)) c.pos).map AY)), (6, .row 145 1 ((BF b.2.2.2 (AQ ((b.2.1.length : Int) - 1)) i).map (EW 2 CR))), (18, .box [li x.elem, li c.out]), (20, .box [li g, li y, li 1, ls 3 Af o.1, ls 2 AR o.2, ls 2 AR ([] : List AJ), ls 1 AY ([] : List Int), ls 1 AY ([] : List Int), lb false])]) 21 db Tryz.func191 56 [.cell 8 36] [(0, .lpb 2 0), (1, li g), (2, li y), (3, li 1)] Z Z Z Z Z Z Z Z (fun A hA o dc => ?_) (fun o dq => ?_))
   .refine rs AA <| rl Z <| rs AA <| rn 7 Z <| bq dc fun ac bm dd => sx Z (QH (FZ _ _ bm) (fun _ => Z) Z Z (C9.eq (.cons (.one (.own (enc := Af) (BF b.2.1 (AQ ((b.2.1.length : Int) - 1)) (⟨e.elem, e.in_, c.out⟩ : AV)) Z (by simp only [BW]))) .nil)) <| rl Z <| AB <| rs AA <| rl Z <| AH ?_)
    apply lp (a := o) (fun v : (Int × (List AJ)) => ⟨56, [(0, .lpb 2 0), (8, .lpb 20 0), (9, .lpb 21 0), (24, .lsl 4 3 0 (BF b.2.1 (AQ ((b.2.1.length : Int) - 1)) (⟨e.elem, e.in_, c.out⟩ : AV)).length), (25, li ((BF b.2.1 (AQ ((b.2.1.length : Int) - 1)) (⟨e.elem, e.in_, c.out⟩ : AV)).length : Int)), (26, li v.1)], [(0, .box [li d.1, li d.2.1]), (1, .row 36 9 (b.1.map Ad)), (2, .box [li j.1.elem, .lsl 4 3 0 (BF b.2.1 (AQ ((b.2.1.length : Int) - 1)) (⟨e.elem, e.in_, c.out⟩ : AV)).length, .lsl 5 1 0 (BF b.2.2.1 (AQ ((b.2.1.length : Int) - 1)) c.pos).length, .lsl 6 1 0 (BF b.2.2.2 (AQ ((b.2.1.length : Int) - 1)) i).length]), (3, .box [li c.out, li c.pos]), (4, .row 65 3 ((BF b.2.1 (AQ ((b.2.1.length : Int) - 1)) (⟨e.elem, e.in_, c.out⟩ : AV)).map Af)), (5, .row 3 1 ((BF b.2.2.1 (AQ ((b.2.1.length : Int) - 1)) c.pos).map AY)), (6, .row 145 1 ((BF b.2.2.2 (AQ ((b.2.1.length : Int) - 1)) i).map (EW 2 CR))), (18, .box [li x.elem, li c.out]), (20, .box [li 0, li 0, li 0, .p (.nils), .p (.nils), .p (.nils), .p (.nils), .p (.nils), lb false]), (21, .box [li g, li y, li 1, .lsl 22 3 0 ac.length, .lsl 23 2 0 v.2.length, .p (.nils), .p (.nils), .p (.nils), lb false]), (22, .row 65 3 (ac.map Af)), (23, .row 91 2 (v.2.map AR))], 24⟩) dd
    . exact A9.trans (Cg 22 4 91 2 Z Z Z Z) (wk (gi 21 [(21, 22), (22, 21), (23, 23)]) (kept hA _ Z) Z Z Z (.cons Z (.cons Z (.cons Z (.cons (by simp only [BW]; rfl) (.cons Z (.cons Z .nil)))))) (.cons Z Z (.cons Z Z (.cons Z (by simp only [BW]; rfl) (.cons Z Z (.cons Z Z (.cons Z Z (.cons Z Z (.cons Z Z (.cons Z Z (.cons Z Z (.cons Z Z (.cons Z Z .nil)))))))))))))
    intro v e0 a5
    unfold Ll at a5
    refine rs AA <| rl Z <| AB <| cd Z a5 (fun de => ?_) (fun dn => ?_)
    .refine AD <| AC <| jb (fun ag : (List AJ) => ⟨56, [(0, .lpb 2 0), (8, .lpb 20 0), (9, .lpb 21 0), (24, .lsl 4 3 0 (BF b.2.1 (AQ ((b.2.1.length : Int) - 1)) (⟨e.elem, e.in_, c.out⟩ : AV)).length), (25, li ((BF b.2.1 (AQ ((b.2.1.length : Int) - 1)) (⟨e.elem, e.in_, c.out⟩ : AV)).length : Int)), (26, li v.1)], [(0, .box [li d.1, li d.2.1]), (1, .row 36 9 (b.1.map Ad)), (2, .box [li j.1.elem, .lsl 4 3 0 (BF b.2.1 (AQ ((b.2.1.length : Int) - 1)) (⟨e.elem, e.in_, c.out⟩ : AV)).length, .lsl 5 1 0 (BF b.2.2.1 (AQ ((b.2.1.length : Int) - 1)) c.pos).length, .lsl 6 1 0 (BF b.2.2.2 (AQ ((b.2.1.length : Int) - 1)) i).length]), (3, .box [li c.out, li c.pos]), (4, .row 65 3 ((BF b.2.1 (AQ ((b.2.1.length : Int) - 1)) (⟨e.elem, e.in_, c.out⟩ : AV)).map Af)), (5, .row 3 1 ((BF b.2.2.1 (AQ ((b.2.1.length : Int) - 1)) c.pos).map AY)), (6, .row 145 1 ((BF b.2.2.2 (AQ ((b.2.1.length : Int) - 1)) i).map (EW 2 CR))), (18, .box [li x.elem, li c.out]), (20, .box [li 0, li 0, li 0, .p (.nils), .p (.nils), .p (.nils), .p (.nils), .p (.nils), lb false]), (21, .box [li g, li y, li 1, .lsl 22 3 0 ac.length, .lsl 23 2 0 ag.length, .p (.nils), .p (.nils), .p (.nils), lb false]), (22, .row 65 3 (ac.map Af)), (23, .row 91 2 (ag.map AR))], 24⟩) de (fun ag df => ?_) (fun ag dm => ?_)
     .refine AH <| rs AA <| rn 1 Z <| bq df fun el aw dg => sx Z (B4 aw Z Z Z (by simp only [BW]) <| sx Z (DM aw Z Z Z <| rl Z <| rs AA <| rn 5 Z <| bq dg fun fj ax dh => sx Z (B4 ax Z Z Z (by simp only [BW]) <| sx Z (DM ax Z Z Z <| rl Z <| cd Z dh (fun di => ?_) (fun dl => ?_)))))
      .refine Bi AA Az [0, 1, 2, 3, 4, 5, 6, 7, 8, 9, 10, 11, 12, 13, 14, 15] 16 (by kernel_rfl) Z Z Z ?_
       exact Am 9 Z <| bq di fun em ay dj => An Z (AZ Z (B4 ay Z Z Z (by simp only [BW]) <| An Z (Hy Z (DM ay Z Z Z <| Am 2 Z <| bq dj fun fk bn dk => An Z (BY (Ax (enc := AR) (l := v.2) (m := [(⟨el.elem, em⟩ : AJ)]) bn (fun _ => ⟨Z, Z⟩) Z Z Z Z Z Z <| A0 Z <| Ai <| AN dk (wk (gi 23 [(23, 38)]) (kept hA _ Z) Z Z Z (.cons Z (.cons Z (.cons Z (.cons (by simp only [BW]; rfl) (.cons Z (.cons Z .nil)))))) (.cons Z Z (.cons Z Z (.cons Z (by simp only [BW]; rfl) (.cons Z Z (.cons Z Z (.cons Z Z (.cons Z Z (.cons Z Z (.cons Z Z (.cons Z Z (.cons Z Z (.cons Z Z .nil)))))))))))))))))))
      exact AD <| Ai <| AN dl (wk (gi 24 []) (kept hA _ Z) Z Z Z (.cons Z (.cons Z (.cons Z (.cons (by simp only [BW]; rfl) (.cons Z (.cons Z .nil)))))) (.cons Z Z (.cons Z Z (.cons Z (by simp only [BW]; rfl) (.cons Z Z (.cons Z Z (.cons Z Z (.cons Z Z (.cons Z Z (.cons Z Z (.cons Z Z (.cons Z Z (.cons Z Z .nil)))))))))))))
     exact rg AA <| rl Z <| Av dm (wk (gi 24 []) (kept hA _ Z) Z Z Z (.cons Z (.cons Z (.cons Z (.cons (by simp only [BW]; rfl) (.cons Z (.cons Z .nil)))))) (.cons Z Z (.cons Z Z (.cons Z (by simp only [BW]; rfl) (.cons Z Z (.cons Z Z (.cons Z Z (.cons Z Z (.cons Z Z (.cons Z Z (.cons Z Z (.cons Z Z (.cons Z Z .nil)))))))))))))
    refine AU <| Ab <| BH dn fun et dp => Ao <| AC <| rs AA <| rl Z <| AG ?_
    cases dp
    exact Co (nt := 56) (sl := [(8, .lpb 20 0)]) (A9.trans (Gz 22 (Jc (enc := Af) (l := ac) Z) (.cons 8 (.same _) .nil) (.cons 0 Z Z (.same _) (.cons 1 Z Z (.same _) (.cons 2 Z Z (.same _) (.cons 3 Z Z (.same _) (.cons 4 Z Z (.same _) (.cons 5 Z Z (.same _) (.cons 6 Z Z (.same _) (.cons 18 Z Z (.same _) (.cons 20 Z Z (.box (.cons (.same _) (.cons (.same _) (.cons (.same _) (.cons .hit (.cons (.same _) (.cons (.same _) (.cons (.same _) (.cons (.same _) (.cons (.same _) .nil)))))))))) (.cons 21 Z Z (.box (.cons (.same _) (.cons (.same _) (.cons (.same _) (.cons .hit (.cons (.same _) (.cons (.same _) (.cons (.same _) (.cons (.same _) (.cons (.same _) .nil)))))))))) (.cons 23 Z Z (.same _) .nil)))))))))))) (A9.trans (Gz 23 (Jc (enc := AR) (l := v.2) Z) (.cons 8 (.same _) .nil) (.cons 0 Z Z (.same _) (.cons 1 Z Z (.same _) (.cons 2 Z Z (.same _) (.cons 3 Z Z (.same _) (.cons 4 Z Z (.same _) (.cons 5 Z Z (.same _) (.cons 6 Z Z (.same _) (.cons 18 Z Z (.same _) (.cons 20 Z Z (.box (.cons (.same _) (.cons (.same _) (.cons (.same _) (.cons (.same _) (.cons .hit (.cons (.same _) (.cons (.same _) (.cons (.same _) (.cons (.same _) .nil)))))))))) (.cons 21 Z Z (.box (.cons (.same _) (.cons (.same _) (.cons (.same _) (.cons (.same _) (.cons .hit (.cons (.same _) (.cons (.same _) (.cons (.same _) (.cons (.same _) .nil)))))))))) .nil))))))))))) (A9.trans (Fs (.cons 8 (.same _) .nil) (.cons 0 Z Z (.same _) (.cons 1 Z Z (.same _) (.cons 2 Z Z (.same _) (.cons 3 Z Z (.same _) (.cons 4 Z Z (.same _) (.cons 5 Z Z (.same _) (.cons 6 Z Z (.same _) (.cons 18 Z Z (.same _) (.cons 20 Z Z (.box (.cons (.same _) (.cons (.same _) (.cons (.same _) (.cons (.same _) (.cons (.same _) (.cons (.nil 2) (.cons (.same _) (.cons (.same _) (.cons (.same _) .nil)))))))))) (.cons 21 Z Z (.same _) .nil))))))))))) (A9.trans (Fs (.cons 8 (.same _) .nil) (.cons 0 Z Z (.same _) (.cons 1 Z Z (.same _) (.cons 2 Z Z (.same _) (.cons 3 Z Z (.same _) (.cons 4 Z Z (.same _) (.cons 5 Z Z (.same _) (.cons 6 Z Z (.same _) (.cons 18 Z Z (.same _) (.cons 20 Z Z (.box (.cons (.same _) (.cons (.same _) (.cons (.same _) (.cons (.same _) (.cons (.same _) (.cons (.same _) (.cons (.nil 1) (.cons (.same _) (.cons (.same _) .nil)))))))))) (.cons 21 Z Z (.same _) .nil))))))))))) (A9.trans (Fs (.cons 8 (.same _) .nil) (.cons 0 Z Z (.same _) (.cons 1 Z Z (.same _) (.cons 2 Z Z (.same _) (.cons 3 Z Z (.same _) (.cons 4 Z Z (.same _) (.cons 5 Z Z (.same _) (.cons 6 Z Z (.same _) (.cons 18 Z Z (.same _) (.cons 20 Z Z (.box (.cons (.same _) (.cons (.same _) (.cons (.same _) (.cons (.same _) (.cons (.same _) (.cons (.same _) (.cons (.same _) (.cons (.nil 1) (.cons (.same _) .nil)))))))))) (.cons 21 Z Z (.same _) .nil))))))))))) (wk (gi 21 []) (kept hA _ Z) Z Z Z (.cons Z .nil) (.cons Z Z (.cons Z Z (.cons Z (by simp only [BW]; rfl) (.cons Z Z (.cons Z Z (.cons Z Z (.cons Z Z (.cons Z Z (.cons Z Z .nil))))))))))))))) Z
   exact rn 1 Z <| bq dq fun fl bo dr => sx Z (Ax (enc := Ad) (l := b.1) (m := [(⟨g, y, 1, o.1, o.2, ([] : List AJ), ([] : List Int), ([] : List Int), false⟩ : AW)]) bo (fun _ => ⟨Z, Z⟩) Z Z Z Z Z Z <| rl Z <| AU <| Ab <| Ao <| Av dr (wk [(0, 0), (1, 22), (2, 2), (3, 4), (4, 5), (5, 6)] (Oj hA _) Z Z Z (.cons Z (.cons Z (.cons Z (.cons Z (.cons Z .nil))))) (.cons Z Z (.cons Z Z (.cons Z (by simp only [BW]; rfl) (.cons Z Z (.cons Z Z (.cons Z Z .nil))))))))
  refine AD <| AC <| rs AA <| rn 2 Z <| bq ds fun aa bp dt => sx Z (AS (CB _ _ _ bp) (.inl Z) Z Z Z <| rl Z <| AB <| rs AA <| rl Z <| cd Z dt (fun du => ?_) (fun ea => ?_))
  .refine rs AA <| rn 3 Z <| sx Z (Cy AA (fun q : ((List AV) × (List AJ)) => .p (.agg [.int .i64 g, .int .i64 (-1), .int .i64 3, .slice 3 (q.1.map Af), .slice 2 (q.2.map AR), .slice 2 (([] : List AJ).map AR), .slice 1 (([] : List Int).map AY), .slice 1 (([] : List Int).map AY), .bool false])) (fun q : ((List AV) × (List AJ)) => [(0, .box [li d.1, li d.2.1]), (1, .row 36 9 (b.1.map Ad)), (2, .box [li j.1.elem, .lsl 4 3 0 (BF b.2.1 (AQ ((b.2.1.length : Int) - 1)) (⟨e.elem, e.in_, c.out⟩ : AV)).length, .lsl 5 1 0 (BF b.2.2.1 (AQ ((b.2.1.length : Int) - 1)) c.pos).length, .lsl 6 1 0 (BF b.2.2.2 (AQ ((b.2.1.length : Int) - 1)) i).length]), (3, .box [li c.out, li c.pos]), (4, .row 65 3 ((BF b.2.1 (AQ ((b.2.1.length : Int) - 1)) (⟨e.elem, e.in_, c.out⟩ : AV)).map Af)), (5, .row 3 1 ((BF b.2.2.1 (AQ ((b.2.1.length : Int) - 1)) c.pos).map AY)), (6, .row 145 1 ((BF b.2.2.2 (AQ ((b.2.1.length : Int) - 1)) i).map (EW 2 CR))), (18, .box [li x.elem, li c.out]), (20, .box [li aa.1.elem, li aa.1.fin]), (21, .box [li g, li (-1), li 3, ls 3 Af q.1, ls 2 AR q.2, ls 2 AR ([] : List AJ), ls 1 AY ([] : List Int), ls 1 AY ([] : List Int), lb false])]) 22 du Tryz.func191 56 [.cell 8 36] [(0, .lpb 2 0), (1, li g), (2, li (-1)), (3, li 3)] Z Z Z Z Z Z Z Z (fun A hA q dv => ?_) (fun q d8 => ?_))
   .refine rs AA <| rl Z <| rs AA <| rn 7 Z <| bq dv fun ad br dw => sx Z (QH (FZ _ _ br) (fun _ => Z) Z Z (C9.eq (.cons (.one (.own (enc := Af) (BF b.2.1 (AQ ((b.2.1.length : Int) - 1)) (⟨e.elem, e.in_, c.out⟩ : AV)) Z (by simp only [BW]))) .nil)) <| rl Z <| AB <| rs AA <| rl Z <| AH ?_)
    apply lp (a := q) (fun w : (Int × (List AJ)) => ⟨56, [(0, .lpb 2 0), (8, .lpb 21 0), (9, .lpb 22 0), (24, .lsl 4 3 0 (BF b.2.1 (AQ ((b.2.1.length : Int) - 1)) (⟨e.elem, e.in_, c.out⟩ : AV)).length), (25, li ((BF b.2.1 (AQ ((b.2.1.length : Int) - 1)) (⟨e.elem, e.in_, c.out⟩ : AV)).length : Int)), (26, li w.1)], [(0, .box [li d.1, li d.2.1]), (1, .row 36 9 (b.1.map Ad)), (2, .box [li j.1.elem, .lsl 4 3 0 (BF b.2.1 (AQ ((b.2.1.length : Int) - 1)) (⟨e.elem, e.in_, c.out⟩ : AV)).length, .lsl 5 1 0 (BF b.2.2.1 (AQ ((b.2.1.length : Int) - 1)) c.pos).length, .lsl 6 1 0 (BF b.2.2.2 (AQ ((b.2.1.length : Int) - 1)) i).length]), (3, .box [li c.out, li c.pos]), (4, .row 65 3 ((BF b.2.1 (AQ ((b.2.1.length : Int) - 1)) (⟨e.elem, e.in_, c.out⟩ : AV)).map Af)), (5, .row 3 1 ((BF b.2.2.1 (AQ ((b.2.1.length : Int) - 1)) c.pos).map AY)), (6, .row 145 1 ((BF b.2.2.2 (AQ ((b.2.1.length : Int) - 1)) i).map (EW 2 CR))), (18, .box [li x.elem, li c.out]), (20, .box [li aa.1.elem, li aa.1.fin]), (21, .box [li 0, li 0, li 0, .p (.nils), .p (.nils), .p (.nils), .p (.nils), .p (.nils), lb false]), (22, .box [li g, li (-1), li 3, .lsl 23 3 0 ad.length, .lsl 24 2 0 w.2.length, .p (.nils), .p (.nils), .p (.nils), lb false]), (23, .row 65 3 (ad.map Af)), (24, .row 91 2 (w.2.map AR))], 25⟩) dw
    . exact A9.trans (Cg 23 4 91 2 Z Z Z Z) (wk (gi 22 [(22, 23), (23, 22), (24, 24)]) (kept hA _ Z) Z Z Z (.cons Z (.cons Z (.cons Z (.cons (by simp only [BW]; rfl) (.cons Z (.cons Z .nil)))))) (.cons Z Z (.cons Z Z (.cons Z (by simp only [BW]; rfl) (.cons Z Z (.cons Z Z (.cons Z Z (.cons Z Z (.cons Z Z (.cons Z Z (.cons Z Z (.cons Z Z (.cons Z Z (.cons Z Z .nil))))))))))))))
    intro w e1 a6
    unfold Lm at a6
    refine rs AA <| rl Z <| AB <| cd Z a6 (fun dx => ?_) (fun d6 => ?_)
    .refine AD <| AC <| jb (fun ah : (List AJ) => ⟨56, [(0, .lpb 2 0), (8, .lpb 21 0), (9, .lpb 22 0), (24, .lsl 4 3 0 (BF b.2.1 (AQ ((b.2.1.length : Int) - 1)) (⟨e.elem, e.in_, c.out⟩ : AV)).length), (25, li ((BF b.2.1 (AQ ((b.2.1.length : Int) - 1)) (⟨e.elem, e.in_, c.out⟩ : AV)).length : Int)), (26, li w.1)], [(0, .box [li d.1, li d.2.1]), (1, .row 36 9 (b.1.map Ad)), (2, .box [li j.1.elem, .lsl 4 3 0 (BF b.2.1 (AQ ((b.2.1.length : Int) - 1)) (⟨e.elem, e.in_, c.out⟩ : AV)).length, .lsl 5 1 0 (BF b.2.2.1 (AQ ((b.2.1.length : Int) - 1)) c.pos).length, .lsl 6 1 0 (BF b.2.2.2 (AQ ((b.2.1.length : Int) - 1)) i).length]), (3, .box [li c.out, li c.pos]), (4, .row 65 3 ((BF b.2.1 (AQ ((b.2.1.length : Int) - 1)) (⟨e.elem, e.in_, c.out⟩ : AV)).map Af)), (5, .row 3 1 ((BF b.2.2.1 (AQ ((b.2.1.length : Int) - 1)) c.pos).map AY)), (6, .row 145 1 ((BF b.2.2.2 (AQ ((b.2.1.length : Int) - 1)) i).map (EW 2 CR))), (18, .box [li x.elem, li c.out]), (20, .box [li aa.1.elem, li aa.1.fin]), (21, .box [li 0, li 0, li 0, .p (.nils), .p (.nils), .p (.nils), .p (.nils), .p (.nils), lb false]), (22, .box [li g, li (-1), li 3, .lsl 23 3 0 ad.length, .lsl 24 2 0 ah.length, .p (.nils), .p (.nils), .p (.nils), lb false]), (23, .row 65 3 (ad.map Af)), (24, .row 91 2 (ah.map AR))], 25⟩) dx (fun ah dy => ?_) (fun ah d5 => ?_)
     .refine AH <| rs AA <| rn 1 Z <| bq dy fun eo az dz => sx Z (B4 az Z Z Z (by simp only [BW]) <| sx Z (DM az Z Z Z <| rl Z <| rs AA <| rn 5 Z <| bq dz fun fm a0 d0 => sx Z (B4 a0 Z Z Z (by simp only [BW]) <| sx Z (DM a0 Z Z Z <| rl Z <| cd Z d0 (fun d1 => ?_) (fun d4 => ?_)))))
      .refine Bi AA Az [0, 1, 2, 3, 4, 5, 6, 7, 8, 9, 10, 11, 12, 13, 14, 15] 16 (by kernel_rfl) Z Z Z ?_
       exact Am 9 Z <| bq d1 fun ep a1 d2 => An Z (AZ Z (B4 a1 Z Z Z (by simp only [BW]) <| An Z (Hy Z (DM a1 Z Z Z <| Am 2 Z <| bq d2 fun fo bs d3 => An Z (BY (Ax (enc := AR) (l := w.2) (m := [(⟨eo.elem, ep⟩ : AJ)]) bs (fun _ => ⟨Z, Z⟩) Z Z Z Z Z Z <| A0 Z <| Ai <| AN d3 (wk (gi 24 [(24, 39)]) (kept hA _ Z) Z Z Z (.cons Z (.cons Z (.cons Z (.cons (by simp only [BW]; rfl) (.cons Z (.cons Z .nil)))))) (.cons Z Z (.cons Z Z (.cons Z (by simp only [BW]; rfl) (.cons Z Z (.cons Z Z (.cons Z Z (.cons Z Z (.cons Z Z (.cons Z Z (.cons Z Z (.cons Z Z (.cons Z Z (.cons Z Z .nil))))))))))))))))))))
      exact AD <| Ai <| AN d4 (wk (gi 25 []) (kept hA _ Z) Z Z Z (.cons Z (.cons Z (.cons Z (.cons (by simp only [BW]; rfl) (.cons Z (.cons Z .nil)))))) (.cons Z Z (.cons Z Z (.cons Z (by simp only [BW]; rfl) (.cons Z Z (.cons Z Z (.cons Z Z (.cons Z Z (.cons Z Z (.cons Z Z (.cons Z Z (.cons Z Z (.cons Z Z (.cons Z Z .nil))))))))))))))
     exact rg AA <| rl Z <| Av d5 (wk (gi 25 []) (kept hA _ Z) Z Z Z (.cons Z (.cons Z (.cons Z (.cons (by simp only [BW]; rfl) (.cons Z (.cons Z .nil)))))) (.cons Z Z (.cons Z Z (.cons Z (by simp only [BW]; rfl) (.cons Z Z (.cons Z Z (.cons Z Z (.cons Z Z (.cons Z Z (.cons Z Z (.cons Z Z (.cons Z Z (.cons Z Z (.cons Z Z .nil))))))))))))))
    refine AU <| Ab <| BH d6 fun eu d7 => Ao <| AC <| rs AA <| rl Z <| AG ?_
    cases d7
    exact Co (nt := 56) (sl := [(8, .lpb 21 0)]) (A9.trans (Gz 23 (Jc (enc := Af) (l := ad) Z) (.cons 8 (.same _) .nil) (.cons 0 Z Z (.same _) (.cons 1 Z Z (.same _) (.cons 2 Z Z (.same _) (.cons 3 Z Z (.same _) (.cons 4 Z Z (.same _) (.cons 5 Z Z (.same _) (.cons 6 Z Z (.same _) (.cons 18 Z Z (.same _) (.cons 20 Z Z (.same _) (.cons 21 Z Z (.box (.cons (.same _) (.cons (.same _) (.cons (.same _) (.cons .hit (.cons (.same _) (.cons (.same _) (.cons (.same _) (.cons (.same _) (.cons (.same _) .nil)))))))))) (.cons 22 Z Z (.box (.cons (.same _) (.cons (.same _) (.cons (.same _) (.cons .hit (.cons (.same _) (.cons (.same _) (.cons (.same _) (.cons (.same _) (.cons (.same _) .nil)))))))))) (.cons 24 Z Z (.same _) .nil))))))))))))) (A9.trans (Gz 24 (Jc (enc := AR) (l := w.2) Z) (.cons 8 (.same _) .nil) (.cons 0 Z Z (.same _) (.cons 1 Z Z (.same _) (.cons 2 Z Z (.same _) (.cons 3 Z Z (.same _) (.cons 4 Z Z (.same _) (.cons 5 Z Z (.same _) (.cons 6 Z Z (.same _) (.cons 18 Z Z (.same _) (.cons 20 Z Z (.same _) (.cons 21 Z Z (.box (.cons (.same _) (.cons (.same _) (.cons (.same _) (.cons (.same _) (.cons .hit (.cons (.same _) (.cons (.same _) (.cons (.same _) (.cons (.same _) .nil)))))))))) (.cons 22 Z Z (.box (.cons (.same _) (.cons (.same _) (.cons (.same _) (.cons (.same _) (.cons .hit (.cons (.same _) (.cons (.same _) (.cons (.same _) (.cons (.same _) .nil)))))))))) .nil)))))))))))) (A9.trans (Fs (.cons 8 (.same _) .nil) (.cons 0 Z Z (.same _) (.cons 1 Z Z (.same _) (.cons 2 Z Z (.same _) (.cons 3 Z Z (.same _) (.cons 4 Z Z (.same _) (.cons 5 Z Z (.same _) (.cons 6 Z Z (.same _) (.cons 18 Z Z (.same _) (.cons 20 Z Z (.same _) (.cons 21 Z Z (.box (.cons (.same _) (.cons (.same _) (.cons (.same _) (.cons (.same _) (.cons (.same _) (.cons (.nil 2) (.cons (.same _) (.cons (.same _) (.cons (.same _) .nil)))))))))) (.cons 22 Z Z (.same _) .nil)))))))))))) (A9.trans (Fs (.cons 8 (.same _) .nil) (.cons 0 Z Z (.same _) (.cons 1 Z Z (.same _) (.cons 2 Z Z (.same _) (.cons 3 Z Z (.same _) (.cons 4 Z Z (.same _) (.cons 5 Z Z (.same _) (.cons 6 Z Z (.same _) (.cons 18 Z Z (.same _) (.cons 20 Z Z (.same _) (.cons 21 Z Z (.box (.cons (.same _) (.cons (.same _) (.cons (.same _) (.cons (.same _) (.cons (.same _) (.cons (.same _) (.cons (.nil 1) (.cons (.same _) (.cons (.same _) .nil)))))))))) (.cons 22 Z Z (.same _) .nil)))))))))))) (A9.trans (Fs (.cons 8 (.same _) .nil) (.cons 0 Z Z (.same _) (.cons 1 Z Z (.same _) (.cons 2 Z Z (.same _) (.cons 3 Z Z (.same _) (.cons 4 Z Z (.same _) (.cons 5 Z Z (.same _) (.cons 6 Z Z (.same _) (.cons 18 Z Z (.same _) (.cons 20 Z Z (.same _) (.cons 21 Z Z (.box (.cons (.same _) (.cons (.same _) (.cons (.same _) (.cons (.same _) (.cons (.same _) (.cons (.same _) (.cons (.same _) (.cons (.nil 1) (.cons (.same _) .nil)))))))))) (.cons 22 Z Z (.same _) .nil)))))))))))) (wk (gi 22 []) (kept hA _ Z) Z Z Z (.cons Z .nil) (.cons Z Z (.cons Z Z (.cons Z (by simp only [BW]; rfl) (.cons Z Z (.cons Z Z (.cons Z Z (.cons Z Z (.cons Z Z (.cons Z Z (.cons Z Z .nil)))))))))))))))) Z
   exact rn 1 Z <| bq d8 fun fp bt d9 => sx Z (Ax (enc := Ad) (l := b.1) (m := [(⟨g, (-1), 3, q.1, q.2, ([] : List AJ), ([] : List Int), ([] : List Int), false⟩ : AW)]) bt (fun _ => ⟨Z, Z⟩) Z Z Z Z Z Z <| rl Z <| AU <| Ab <| Ao <| Av d9 (wk [(0, 0), (1, 23), (2, 2), (3, 4), (4, 5), (5, 6)] (Oj hA _) Z Z Z (.cons Z (.cons Z (.cons Z (.cons Z (.cons Z .nil))))) (.cons Z Z (.cons Z Z (.cons Z (by simp only [BW]; rfl) (.cons Z Z (.cons Z Z (.cons Z Z .nil))))))))
  exact AD <| AC <| rs AA <| rl Z <| AU <| NR Z <| BH ea fun ev eb => NR Z <| Ab <| Zy <| Ao <| Av eb (wk (gi 3 [(3, 4), (4, 5), (5, 6)]) (Oj hA _) Z Z Z (.cons Z (.cons Z (.cons Z (.cons Z (.cons Z .nil))))) (.cons Z Z (.cons Z Z (.cons Z (by simp only [BW]; rfl) (.cons Z Z (.cons Z Z (.cons Z Z .nil)))))))
 refine AU <| Ab <| BH ec fun ew ed => Ao <| AC <| AU <| Zy <| NR Z <| BH ed fun ex ee => Ao <| AC <| rs AA <| rl Z <| AG <| Em ?_
 cases ee
 exact er (HH Z (.one (.own (enc := Ad) b.1 Z Z))) Le.rfl
end Go.E
/- Plain functions, and walks in step with them. Written by a program (gen.py). No condition. -/
set_option maxRecDepth 100000
namespace Go.E
open Go Go.RowKit Go.Proofs
noncomputable def N8 (b : BI) (e : Int) (a : Int × (List AW)) : Option ((Int × (List AW)) ⊕ ((List AW) × Int)) :=
 bif decide (a.1 < e) then (JF b a.1).bind fun c => (BE a.2 c).bind fun d => some (.inl (AQ (a.1 + 1), d)) else (bif decide (64 < (a.2.length : Int)) then some (([] : List AW), 3) else some (a.2, 0)).map .inr
noncomputable def Nj (a : BI) : Option ((List AW) × Int) :=
 (CY a).bind fun b => AO (N8 a b) (0, ([] : List AW))
theorem Wk (c : BI) (r : ((List AW) × Int)) (h : Nj c = some r) : Lo Tryz.prog 135 [] 0 [lq (A6 c)] (.tup [.lsl 0 9 0 r.1.length, li r.2]) [(0, .row 36 9 (r.1.map Ad))] 1 := by
 refine Z4 AA Tryz.func135 21 [.tmp 2, .tmp 3] [(0, lq (A6 c))] Z Z Z Z Z Z (fun A hA => ?_)
 unfold Nj at h
 refine rs AA <| rl Z <| rs AA <| rl Z <| AB <| rs AA <| rn 1 Z <| bq h fun u g s => sx Z (AS (IY _ _ g) (.inl Z) Z Z Z <| rl Z <| AH ?_)
 apply lp (a := r) (fun b : (Int × (List AW)) => ⟨21, [(0, lq (A6 c)), (4, .lsl 0 9 0 b.2.length), (7, li u), (8, li b.1)], [(0, .row 36 9 (b.2.map Ad))], 1⟩) s
 . exact A9.trans (By 4 36 9 Z) (wj hA [(0, 0)] Z Z Z Z)
 intro b w d
 unfold N8 at d
 refine rs AA <| rl Z <| AB <| cd Z d (fun i => ?_) (fun n => ?_)
 .exact AD <| AC <| AB <| AH <| rs AA <| rl Z <| rg AA <| rn 3 Z <| bq i fun t e j => sx Z (AS (Sg _ _ _ e) (.inr Z) Z Z Z <| bq j fun x f k => sx Z (Ax (enc := Ad) (l := b.2) (m := t) f (fun _ => ⟨Z, Z⟩) Z Z Z Z Z Z <| rl Z <| Ai <| AC <| rg AA <| rl Z <| Av k (wj hA [(0, 1)] Z Z Z Z)))
 refine AU <| Ab <| CW n fun v o => Ao <| AC <| AB <| rs AA <| rl Z <| cd Z o (fun p => ?_) (fun q => ?_)
 .refine rs AA <| rl Z <| AG <| AI ?_
  cases p
  exact Co (nt := 21) (sl := [(2, .lsl 0 9 0 ([] : List AW).length), (3, li 3)]) (A9.trans (By 2 36 9 Z) (wj hA [(0, 1)] Z Z Z Z)) Z
 refine AD <| AC <| rs AA <| rl Z <| AG ?_
 cases q
 exact Co (nt := 21) (sl := [(2, .lsl 0 9 0 b.2.length), (3, li 0)]) (wj hA [(0, 0)] Z Z Z Z) Z
noncomputable def Lp (b : BI) (f : ((List AW) × Int)) (a : Int × (List AW)) : Option ((Int × (List AW)) ⊕ (CG × Int)) :=
 bif decide (a.1 < (f.1.length : Int)) then (Ak a.2 a.1).bind fun c => (Ey b c).bind fun d => (Ak a.2 a.1).bind fun g => some (.inl (AQ (a.1 + 1), BF a.2 a.1 d)) else ((DD b).bind fun e => some ((⟨e, a.2⟩ : CG), 0)).map .inr
noncomputable def Kx (d : AM) : Option (CG × Int) :=
 (Gh d).bind fun a => Rv a.1 (bif (a.2 != 0) then some ((⟨(⟨[], [], [], [], 0, 0, 0, 0, false⟩ : AM), []⟩ : CG), a.2) else none) fun c => bif (a.2 != 0) then some ((⟨(⟨[], [], [], [], 0, 0, 0, 0, false⟩ : AM), []⟩ : CG), a.2) else (Nj c).bind fun b => bif (b.2 != 0) then some ((⟨(⟨[], [], [], [], 0, 0, 0, 0, false⟩ : AM), []⟩ : CG), b.2) else AO (Lp c b) (0, b.1)
theorem TD (d : AM) (r : (CG × Int)) (h : Kx d = some r) : A4 Tryz.prog 75 [.agg (Aa d)] (· = .tup [.agg (Bp r.1), .int .i64 r.2]) := by
 refine fn AA Tryz.func75 Z Z 45 Z [.cell 2 68, .tmp 3] Z [(0, .p (.agg (Aa d)))] Z Z fun A hA => ?_
 unfold Kx at h
 refine rs AA <| rl Z <| rs AA <| rn 1 Z <| bq h fun af l b => sx Z (AS (Si _ _ l) (.inr Z) Z Z Z ?_)
 revert b; rcases aj : af.1 with _ | ag <;> intro b
 .replace b := omN b
  refine rl Z <| AB <| rs AA <| rl Z <| cd Z b (fun ac => ?_) (fun m => ?_)
  .refine rs AA <| rl Z <| AG <| AI ?_
   cases ac
   exact er Z (Le.tup' (.cons (Le.agg' (.cons (Le.nil _) (.cons (Le.nil _) (.cons (Le.nil _) (.cons (Le.nil _) (.cons Le.rfl (.cons Le.rfl (.cons Le.rfl (.cons Le.rfl (.cons Le.rfl (.cons (Le.nil _) .nil))))))))))) (.cons Le.rfl .nil)))
  refine AD <| AC <| rs AA <| rn 1 Z ?_
  cases m
 replace b := omS b
 refine rl Z <| AB <| rs AA <| rl Z <| cd Z b (fun v => ?_) (fun x => ?_)
 .refine rs AA <| rl Z <| AG <| AI ?_
  cases v
  exact er Z (Le.tup' (.cons (Le.agg' (.cons (Le.nil _) (.cons (Le.nil _) (.cons (Le.nil _) (.cons (Le.nil _) (.cons Le.rfl (.cons Le.rfl (.cons Le.rfl (.cons Le.rfl (.cons Le.rfl (.cons (Le.nil _) .nil))))))))))) (.cons Le.rfl .nil)))
 refine AD <| AC <| rs AA <| rn 1 Z <| bq x fun ae k y => sx Z (JG (c' := 3) (Wk _ _ k) [] Z trivial Z Z Z Z Z Z Z <| rl Z <| AB <| rs AA <| rl Z <| cd Z y (fun aa => ?_) (fun ab => ?_))
 .refine rs AA <| rl Z <| AG <| AI ?_
  cases aa
  exact er Z (Le.tup' (.cons (Le.agg' (.cons (Le.nil _) (.cons (Le.nil _) (.cons (Le.nil _) (.cons (Le.nil _) (.cons Le.rfl (.cons Le.rfl (.cons Le.rfl (.cons Le.rfl (.cons Le.rfl (.cons (Le.nil _) .nil))))))))))) (.cons Le.rfl .nil)))
 refine AD <| AC <| AB <| rs AA <| rl Z <| AH ?_
 apply lp (a := r) (fun c : (Int × (List AW)) => ⟨45, [(2, .lpb 0 0), (4, lq (A6 ag)), (6, .lsl 1 9 0 c.2.length), (27, li (ae.1.length : Int)), (28, li c.1)], [(0, .box [.p (.nils), .p (.nils), .p (.nils), .p (.nils), li 0, li 0, li 0, li 0, lb false, .p (.nils)]), (1, .row 36 9 (c.2.map Ad))], 2⟩) ab
 . exact wf hA [(0, 1), (1, 2)] Z Z Z
 intro c ai g
 unfold Lp at g
 refine rs AA <| rl Z <| AB <| cd Z g (fun n => ?_) (fun t => ?_)
 .exact AD <| AC <| AB <| AH <| rs AA <| rl Z <| rg AA <| rn 5 Z <| bq n fun ak e o => sx Z (B4 e Z Z Z Z <| sx Z (DM e Z Z Z <| bq o fun ad i q => sx Z (AS (Q7 _ _ _ i) (.inr Z) Z Z Z <| bq q fun al f s => sx Z (B4 f Z Z Z Z <| sx Z (MC (z := ad) f Z Z Z Z Z Z Z Z <| rl Z <| Ai <| AC <| rg AA <| rl Z <| Av s (wk [(0, 0), (1, 1)] (Oj hA _) Z Z Z (.cons Z (.cons Z (.cons (by simp only [BW]; rfl) (.cons Z (.cons Z .nil))))) (.cons Z Z (.cons Z Z .nil))))))))
 refine AU <| Ab <| CW t fun ah u => Ao <| AC <| rs AA <| rn 1 Z <| bq u fun am j w => sx Z (AS (J8 _ _ j) (.inr Z) Z Z Z <| rl Z <| AG ?_)
 cases w
 exact er (SY Z (.cons (.agg (.cons (.p _) (.cons (.p _) (.cons (.p _) (.cons (.p _) (.cons (.p _) (.cons (.p _) (.cons (.p _) (.cons (.p _) (.cons (.p _) (.cons (.own (enc := Ad) c.2 Z Z) .nil))))))))))) (.cons (.one (.p _)) .nil))) Le.rfl
noncomputable def KL (a : AV) (b : AV) : Option Bool :=
 some (a.elem == b.elem)
theorem VG (a : AV) (b : AV) (r : Bool) (h : KL a b = some r) : A4 Tryz.prog 97 [.agg (Af a), .place (Af b) 0] (· = .bool r) := by
 refine fn AA Tryz.func97 Z Z 9 Z [.tmp 3] Z [(0, .p (.agg (Af a))), (1, .p (.place (Af b) 0))] Z Z fun A hA => ?_
 unfold KL at h
 refine rs AA <| rl Z <| rs AA <| rl Z <| AG ?_
 cases h
 exact er Z Le.rfl
noncomputable def KM (a : BO) (b : AV) : Option Bool :=
 some (a.out == b.out)
theorem VH (a : BO) (b : AV) (r : Bool) (h : KM a b = some r) : A4 Tryz.prog 100 [.agg (CR a), .place (Af b) 0] (· = .bool r) := by
 refine fn AA Tryz.func100 Z Z 9 Z [.tmp 3] Z [(0, .p (.agg (CR a))), (1, .p (.place (Af b) 0))] Z Z fun A hA => ?_
 unfold KM at h
 refine rs AA <| rl Z <| rs AA <| rl Z <| AG ?_
 cases h
 exact er Z Le.rfl
noncomputable def Il (c : BI) (a : AW) (b : AV) : Option Bool :=
 (B1 c b.elem).bind fun h => bif (h == 4) then ((bif (a.fin == 2) then some (a.to == (-1)) else some false : Option (Bool))).bind fun (e : Bool) => some e else (Bw c (⟨b.elem, b.out⟩ : AF)).bind fun d => bif decide (0 <= d) then ((bif (a.fin == 1) then some (a.to == d) else some false : Option (Bool))).bind fun (f : Bool) => some f else (Bc c (⟨b.elem, b.out⟩ : AF)).bind fun i => ((bif (!i.2) then bif (a.fin == 3) then some (a.to == (-1)) else some false else some false : Option (Bool))).bind fun (g : Bool) => some g
theorem VI (d : BI) (e : AW) (f : AV) (r : Bool) (h : Il d e f = some r) : A4 Tryz.prog 101 [.place (A6 d) 0, .agg (Ad e), .agg (Af f)] (· = .bool r) := by
 refine fn AA Tryz.func101 Z Z 61 Z [.tmp 6] Z [(0, .p (.place (A6 d) 0)), (1, .p (.agg (Ad e))), (2, .p (.agg (Af f)))] Z Z fun A hA => ?_
 unfold Il at h
 refine rs AA <| rl Z <| AB <| rs AA <| rn 3 Z <| bq h fun ah g k => sx Z (AS (DC _ _ _ g) (.inl Z) Z Z Z <| rl Z <| cd Z k (fun l => ?_) (fun s => ?_))
 .refine jb (fun a : Bool => ⟨61, [(6, lb a)], [], 0⟩) l (fun a m => ?_) (fun a q => ?_)
  .refine rg AA <| rn 4 Z <| gs 19 m Z Z Z (fun n => ?_) (fun o => ?_)
   .exact rl Z <| AN n (wf hA [] Z Z Z)
   exact rl Z <| AN o (wf hA [] Z Z Z)
  refine AG <| AI ?_
  have hr := Option.some.inj q; subst hr
  exact er Z Le.rfl
 refine AD <| AC <| rs AA <| rl Z <| AB <| rs AA <| rn 2 Z <| bq s fun ai i t => sx Z (AS (Ei _ _ _ i) (.inl Z) Z Z Z <| rl Z <| rs AA <| rl Z <| cd Z t (fun u => ?_) (fun z => ?_))
 .refine jb (fun b : Bool => ⟨61, [(6, lb b)], [], 0⟩) u (fun b v => ?_) (fun b y => ?_)
  .refine rg AA <| rn 4 Z <| gs 37 v Z Z Z (fun w => ?_) (fun x => ?_)
   .exact rl Z <| AN w (wf hA [] Z Z Z)
   exact rl Z <| AN x (wf hA [] Z Z Z)
  refine AG <| AI ?_
  have hr := Option.some.inj y; subst hr
  exact er Z Le.rfl
 refine AD <| AC <| rs AA <| rn 2 Z <| bq z fun aj j aa => sx Z (AS (CB _ _ _ j) (.inl Z) Z Z Z <| rl Z <| jb (fun c : Bool => ⟨61, [(6, lb c)], [], 0⟩) aa (fun c ab => ?_) (fun c ag => ?_))
 .refine rg AA <| rn 3 Z <| gs 51 ab Z Z Z (fun ac => ?_) (fun af => ?_)
  .refine rn 5 Z <| gs 56 ac Z Z Z (fun ad => ?_) (fun ae => ?_)
   .exact rl Z <| AN ad (wf hA [] Z Z Z)
   exact rl Z <| AN ae (wf hA [] Z Z Z)
  exact rl Z <| AN af (wf hA [] Z Z Z)
 refine AG ?_
 have hr := Option.some.inj ag; subst hr
 exact er Z Le.rfl
noncomputable def Ez (b : (List AJ)) (c : (List AJ)) (a : Int) : Option (Int ⊕ Bool) :=
 bif decide (a < (b.length : Int)) then (Ak b a).bind fun d => (Ak c a).bind fun e => bif (!(d == e)) then some (.inr false) else some (.inl (AQ (a + 1))) else some (.inr true)
noncomputable def DP (a : (List AJ)) (b : (List AJ)) : Option Bool :=
 bif ((a.length : Int) != (b.length : Int)) then some false else AO (Ez a b) 0
theorem MZ (b : (List AJ)) (c : (List AJ)) (r : Bool) (h : DP b c = some r) : A4 Tryz.prog 102 [.slice 2 (b.map AR), .slice 2 (c.map AR)] (· = .bool r) := by
 refine fn AA Tryz.func102 Z Z 26 Z [.tmp 4] Z [(0, .p (.slice 2 (b.map AR))), (1, .p (.slice 2 (c.map AR)))] Z Z fun A hA => ?_
 unfold DP at h
 refine rs AA <| rl Z <| AB <| rs AA <| rn 1 Z <| sx Z (Al Z Z <| rn 1 Z <| sx Z (Al Z Z <| rl Z <| cd Z h (fun s => ?_) (fun t => ?_)))
 .refine rs AA <| rl Z <| AG <| AI ?_
  cases s
  exact er Z Le.rfl
 refine AD <| AC <| AB <| rs AA <| rn 1 Z <| sx Z (Al Z Z <| rl Z <| AH ?_)
 apply lp (a := r) (fun e : Int => ⟨26, [(0, ls 2 AR b), (1, ls 2 AR c), (12, li (b.length : Int)), (13, li e)], [], 0⟩) t
 . exact wf hA [] Z Z Z
 intro e y d
 unfold Ez at d
 refine rs AA <| rl Z <| AB <| cd Z d (fun i => ?_) (fun o => ?_)
 .refine AD <| AC <| AB <| AH <| rs AA <| rl Z <| AB ?_
  refine Bi AA Az [0, 1, 2, 3, 4, 5, 6, 7, 8] 9 (by kernel_rfl) Z Z Z ?_
  refine Am 2 Z <| bq i fun u f j => An Z (AZ Z (Aj f Z Z Z <| Am 3 Z <| bq j fun v g k => An Z (AZ Z (Aj g Z Z Z <| Am 1 Z <| An Z (Qt (Nk u v) Z Z Z Z Z <| A0 Z <| AC <| cd Z k (fun l => ?_) (fun n => ?_))))))
  .refine rs AA <| rl Z <| AG <| AT <| AI <| A1 l fun w m => AT <| AI ?_
   cases m
   exact er Z Le.rfl
  exact AD <| Ai <| AC <| rg AA <| rl Z <| Av n (wf hA [] Z Z Z)
 refine AU <| Ab <| BH o fun x q => Ao <| AC <| rs AA <| rl Z <| AG ?_
 cases q
 exact er Z Le.rfl
noncomputable def GS (c : AV) (b : (List AV)) (a : Int) : Option (Int ⊕ Int) :=
 bif decide (a < (b.length : Int)) then (Ak b a).bind fun d => (KL d c).bind fun e => bif e then some (.inr a) else some (.inl (AQ (a + 1))) else some (.inr (-1))
noncomputable def GU (c : AV) (b : (List BO)) (a : Int) : Option (Int ⊕ Int) :=
 bif decide (a < (b.length : Int)) then (Ak b a).bind fun d => (KM d c).bind fun e => bif e then some (.inr a) else some (.inl (AQ (a + 1))) else some (.inr (-1))
noncomputable def CO (c : BI) (d : AW) (n : (AF × Bool)) (b : Bool × Int × Int × Int × (List AJ)) : Option ((Bool × Int × Int × Int × (List AJ)) ⊕ ((List AJ) ⊕ Bool)) :=
 bif decide (b.2.1 < (d.steps.length : Int)) then (Ak d.steps b.2.1).bind fun a => ((bif (!b.1) then some true else bif (a.elem != b.2.2.1) then some true else bif (a.in_ != b.2.2.2.1) then some true else bif (a.elem == n.1.elem) then some true else (JU d.steps 0 b.2.1).bind fun o => ((((AO (GS a o) 0 : Option (Int))).bind fun (j : Int) => some (decide (0 <= j)) : Option (Bool))).bind fun (i : Bool) => some i : Option (Bool))).bind fun (h : Bool) => bif h then some (.inr (.inr false)) else (B1 c a.elem).bind fun p => bif (p == 4) then ((bif (!(b.2.1 == (AQ ((d.steps.length : Int) - 1)))) then some true else some (a.out != (-1)) : Option (Bool))).bind fun (k : Bool) => bif k then some (.inr (.inr false)) else some (.inr (.inl b.2.2.2.2)) else (DB c a.elem a.in_).bind fun q => ((AO (GU a q) 0 : Option (Int))).bind fun (f : Int) => bif decide (f < 0) then some (.inr (.inr false)) else (((DB c a.elem a.in_).bind fun r => (Ak r f).bind fun g => bif (g.pos != 0) then (BE b.2.2.2.2 [(⟨a.elem, g.pos⟩ : AJ)]).bind fun s => some s else some b.2.2.2.2 : Option ((List AJ)))).bind fun (l : (List AJ)) => ((bif (!(b.2.1 == (AQ ((d.steps.length : Int) - 1)))) then (Bw c (⟨a.elem, a.out⟩ : AF)).bind fun t => some (decide (0 <= t)) else some false : Option (Bool))).bind fun (m : Bool) => bif m then some (.inr (.inr false)) else (Bc c (⟨a.elem, a.out⟩ : AF)).bind fun e => some (.inl (e.2, AQ (b.2.1 + 1), e.1.elem, e.1.fin, l)) else some (.inr (.inl b.2.2.2.2))
noncomputable def Ki (b : BI) (a : AW) : Option Bool :=
 (GQ b a.frm).bind fun c => ((bif (!c.2) then some true else bif decide ((a.steps.length : Int) < 1) then some true else some (decide (12 < (a.steps.length : Int))) : Option (Bool))).bind fun (e : Bool) => bif e then some false else (Bc b c.1).bind fun d => FG ((AO (CO b a c) (d.2, 0, d.1.elem, d.1.fin, ([] : List AJ)) : Option ((List AJ) ⊕ Bool))) fun (f : (List AJ)) => (((Ak a.steps (AQ ((a.steps.length : Int) - 1))).bind fun h => (Il b a h).bind fun i => bif i then (DP a.needs f).bind fun j => some j else some false : Option (Bool))).bind fun (g : Bool) => some g
theorem Xc (e : BI) (c : AW) (r : Bool) (h : Ki e c = some r) : A4 Tryz.prog 36 [.place (A6 e) 0, .agg (Ad c)] (· = .bool r) := by
 refine fn AA Tryz.func36 Z Z 166 Z [.tmp 4] Z [(0, .p (.place (A6 e) 0)), (1, .p (.agg (Ad c)))] Z Z fun A hA => ?_
 unfold Ki at h
 refine rs AA <| rl Z <| sc <| rs AA <| rn 3 Z <| bq h fun d ad a6 => sx Z (AS (Ot _ _ _ ad) (.inl Z) Z Z Z <| rl Z <| AB <| jb (fun t : Bool => ⟨166, [(0, lq (A6 e)), (3, .lpb 0 0), (5, .lpb 1 0), (36, lb t)], [(0, bx (Ad c)), (1, .box [li d.1.elem, li d.1.fin])], 2⟩) a6 (fun t ax => ?_) (fun t a2 => ?_))
 .refine rg AA <| rn 3 Z <| gs 25 ax Z Z Z (fun ay => ?_) (fun az => ?_)
  .exact rl Z <| AN ay (wf hA [(0, 0), (1, 1)] Z Z Z)
  refine rn 2 Z <| sx Z (Al Z Z <| rn 3 Z <| gs 31 az Z Z Z (fun a0 => ?_) (fun a1 => ?_))
  .exact rl Z <| AN a0 (wf hA [(0, 0), (1, 1)] Z Z Z)
  exact rn 2 Z <| sx Z (Al Z Z <| rl Z <| AN a1 (wf hA [(0, 0), (1, 1)] Z Z Z))
 refine cd Z a2 (fun a3 => ?_) (fun a4 => ?_)
 .refine rs AA <| rl Z <| AG <| AI <| Em ?_
  cases a3
  exact er Z Le.rfl
 refine AD <| AC <| rs AA <| rn 2 Z <| bq a4 fun d7 ae a5 => sx Z (AS (CB _ _ _ ae) (.inl Z) Z Z Z <| rl Z <| rs AA <| rl Z <| AB <| Hv <| AC ?_)
 apply jn (a := r) (fun k : (List AJ) => ⟨166, [(0, lq (A6 e)), (3, .lpb 0 0), (9, .lsl 1 2 0 k.length)], [(0, bx (Ad c)), (1, .row 91 2 (k.map AR))], 2⟩) a5
 .intro ac a7
  refine rs AA <| rn 2 Z <| sx Z (Al Z Z <| rl Z <| AH ?_)
  apply lp (a := ac) (fun b : (Bool × Int × Int × Int × (List AJ)) => ⟨166, [(0, lq (A6 e)), (3, .lpb 0 0), (5, .lpb 1 0), (7, .lpb 2 0), (8, lb b.1), (9, .lsl 3 2 0 b.2.2.2.2.length), (44, ls 3 Af c.steps), (45, li (c.steps.length : Int)), (46, li b.2.1)], [(0, bx (Ad c)), (1, .box [li d.1.elem, li d.1.fin]), (2, .box [li b.2.2.1, li b.2.2.2.1]), (3, .row 91 2 (b.2.2.2.2.map AR))], 4⟩) a7
  . exact A9.trans (By 9 91 2 Z) (wf hA (gi 4 []) Z Z Z)
  intro b d4 z
  unfold CO at z
  refine rs AA <| rl Z <| AB <| cd Z z (fun a8 => ?_) (fun de => ?_)
  .refine AD <| AC <| AB <| AH <| rs AA <| rn 1 Z <| bq a8 fun f af a9 => sx Z (Aj af Z Z Z <| rl Z <| AB <| jb (fun u : Bool => ⟨166, [(0, lq (A6 e)), (3, .lpb 0 0), (5, .lpb 1 0), (7, .lpb 2 0), (9, .lsl 3 2 0 b.2.2.2.2.length), (10, li b.2.1), (11, .lpb 4 0), (44, ls 3 Af c.steps), (45, li (c.steps.length : Int)), (46, li b.2.1), (81, lb u)], [(0, bx (Ad c)), (1, .box [li d.1.elem, li d.1.fin]), (2, .box [li b.2.2.1, li b.2.2.2.1]), (3, .row 91 2 (b.2.2.2.2.map AR)), (4, bx (Af f))], 5⟩) a9 (fun u ba => ?_) (fun u b0 => ?_))
   .refine rg AA <| rn 3 Z <| gs 53 ba Z Z Z (fun bb => ?_) (fun bc => ?_)
    .exact rl Z <| AN bb (wf hA (gi 5 []) Z Z Z)
    refine rn 7 Z <| gs 60 bc Z Z Z (fun be => ?_) (fun bf => ?_)
    .exact rl Z <| AN be (wf hA (gi 5 []) Z Z Z)
    refine rn 7 Z <| gs 67 bf Z Z Z (fun bg => ?_) (fun bh => ?_)
    .exact rl Z <| AN bg (wf hA (gi 5 []) Z Z Z)
    refine rn 7 Z <| gs 74 bh Z Z Z (fun bi => ?_) (fun bj => ?_)
    .exact rl Z <| AN bi (wf hA (gi 5 []) Z Z Z)
    refine rn 3 Z <| bq bj fun o ag bk => sx Z (Qr ag Z Z Z Z <| rn 1 Z <| sx Z (Cy AA (fun n : Bool => lb n) (fun n : Bool => [(0, bx (Ad c)), (1, .box [li d.1.elem, li d.1.fin]), (2, .box [li b.2.2.1, li b.2.2.2.1]), (3, .row 91 2 (b.2.2.2.2.map AR)), (4, bx (Af f))]) 5 bk Tryz.func96 9 [.tmp 4] [(0, ls 3 Af o), (1, .fn 97 [.lpb 4 0])] Z Z Z Z Z Z Z Z (fun A hA n bl => ?_) (fun n bz => ?_)))
    .refine rs AA <| rl Z <| rs AA <| rn 2 Z <| sx Z (Cy AA (fun g : Int => li g) (fun g : Int => [(0, bx (Ad c)), (1, .box [li d.1.elem, li d.1.fin]), (2, .box [li b.2.2.1, li b.2.2.2.1]), (3, .row 91 2 (b.2.2.2.2.map AR)), (4, bx (Af f))]) 5 bl Tryz.func149 19 [.tmp 4] [(0, ls 3 Af o), (1, .fn 97 [.lpb 4 0])] Z Z Z Z Z Z Z Z (fun A hA g bm => ?_) (fun g bw => ?_))
     .refine rs AA <| rl Z <| AB <| rs AA <| rn 1 Z <| sx Z (Al Z Z <| rl Z <| AH ?_)
      apply lp (a := g) (fun q : Int => ⟨19, [(0, ls 3 Af o), (1, .fn 97 [.lpb 4 0]), (7, li (o.length : Int)), (8, li q)], [(0, bx (Ad c)), (1, .box [li d.1.elem, li d.1.fin]), (2, .box [li b.2.2.1, li b.2.2.2.1]), (3, .row 91 2 (b.2.2.2.2.map AR)), (4, bx (Af f))], 5⟩) bm
      . exact wj hA (gi 5 []) Z Z Z Z
      intro q d5 aa
      unfold GS at aa
      refine rs AA <| rl Z <| AB <| cd Z aa (fun bn => ?_) (fun bu => ?_)
      .refine AD <| AC <| AB <| AH <| rs AA <| rl Z <| rs AA <| rn 3 Z <| bq bn fun d8 ah bo => sx Z (Aj ah Z Z Z <| rn 1 Z <| bq bo fun d9 ai bp => sx Z (AS (VG _ _ _ ai) (.inl Z) Z Z (C9.eq (.cons (.one (.p _)) (.cons (.box Z (.cons (.p _) (.cons (.p _) (.cons (.p _) .nil)))) .nil))) <| rl Z <| cd Z bp (fun br => ?_) (fun bt => ?_)))
       .refine rs AA <| rl Z <| AG <| AT <| AI <| A1 br fun dq bs => AT <| AI ?_
        have hr := Option.some.inj bs; subst hr
        exact Co (nt := 19) (sl := [(4, li q)]) (wj hA (gi 5 []) Z Z Z Z) Z
       exact AD <| Ai <| AC <| rg AA <| rl Z <| Av bt (wj hA (gi 5 []) Z Z Z Z)
      refine AU <| Ab <| BH bu fun dr bv => Ao <| AC <| rs AA <| rl Z <| AG ?_
      cases bv
      exact Co (nt := 19) (sl := [(4, li (-1))]) (wj hA (gi 5 []) Z Z Z Z) Z
     refine rl Z <| AG ?_
     cases bw
     exact Co (nt := 9) (sl := [(4, lb (decide (0 <= g)))]) (wj hA (gi 5 []) Z Z Z Z) Z
    exact rl Z <| AN bz (wf hA (gi 5 []) Z Z Z)
   refine cd Z b0 (fun b1 => ?_) (fun b4 => ?_)
   .refine rs AA <| rl Z <| AG <| AI <| AT <| AI <| A1 b1 fun ds b2 => AT <| A1 b2 fun dt b3 => Em ?_
    cases b3
    exact er Z Le.rfl
   refine AD <| AC <| rs AA <| rn 3 Z <| sx Z (Al Z Z <| rl Z <| AB <| rs AA <| rn 3 Z <| bq b4 fun ea aj b5 => sx Z (AS (DC _ _ _ aj) (.inl Z) Z Z Z <| rl Z <| cd Z b5 (fun b6 => ?_) (fun ch => ?_)))
   .refine AB <| jb (fun v : Bool => ⟨166, [(0, lq (A6 e)), (3, .lpb 0 0), (9, .lsl 1 2 0 b.2.2.2.2.length), (99, lb v)], [(0, bx (Ad c)), (1, .row 91 2 (b.2.2.2.2.map AR))], 2⟩) b6 (fun v b7 => ?_) (fun v ca => ?_)
    .refine rg AA <| rn 3 Z <| gs 95 b7 Z Z Z (fun b8 => ?_) (fun b9 => ?_)
     .exact rl Z <| AN b8 (wf hA [(0, 0), (1, 3)] Z Z Z)
     exact rl Z <| AN b9 (wf hA [(0, 0), (1, 3)] Z Z Z)
    refine cd Z ca (fun cb => ?_) (fun cf => ?_)
    .refine rs AA <| rl Z <| AG <| AI <| AI <| AT <| AI <| A1 cb fun du cc => AT <| A1 cc fun dv ce => Em ?_
     cases ce
     exact er Z Le.rfl
    exact AD <| AC <| AU <| Ab <| NR Z <| Ab <| BH cf fun dw cg => Ao <| Av cg (wf hA [(0, 0), (1, 1)] Z Z Z)
   refine AD <| AC <| rs AA <| rn 5 Z <| bq ch fun y ak ci => sx Z (AS (GR _ _ _ _ ak) (.inr Z) Z Z Z <| rn 1 Z <| sx Z (Cy AA (fun j : Int => li j) (fun j : Int => [(0, bx (Ad c)), (1, .box [li d.1.elem, li d.1.fin]), (2, .box [li b.2.2.1, li b.2.2.2.1]), (3, .row 91 2 (b.2.2.2.2.map AR)), (4, bx (Af f))]) 5 ci Tryz.func98 19 [.tmp 4] [(0, ls 2 CR y), (1, .fn 100 [.lpb 4 0])] Z Z Z Z Z Z Z Z (fun A hA j cj => ?_) (fun j cs => ?_)))
   .refine rs AA <| rl Z <| AB <| rs AA <| rn 1 Z <| sx Z (Al Z Z <| rl Z <| AH ?_)
    apply lp (a := j) (fun s : Int => ⟨19, [(0, ls 2 CR y), (1, .fn 100 [.lpb 4 0]), (7, li (y.length : Int)), (8, li s)], [(0, bx (Ad c)), (1, .box [li d.1.elem, li d.1.fin]), (2, .box [li b.2.2.1, li b.2.2.2.1]), (3, .row 91 2 (b.2.2.2.2.map AR)), (4, bx (Af f))], 5⟩) cj
    . exact wj hA (gi 5 []) Z Z Z Z
    intro s d6 ab
    unfold GU at ab
    refine rs AA <| rl Z <| AB <| cd Z ab (fun ck => ?_) (fun cq => ?_)
    .refine AD <| AC <| AB <| AH <| rs AA <| rl Z <| rs AA <| rn 3 Z <| bq ck fun eb al cl => sx Z (Aj al Z Z Z <| rn 1 Z <| bq cl fun ec am cm => sx Z (AS (VH _ _ _ am) (.inl Z) Z Z (C9.eq (.cons (.one (.p _)) (.cons (.box Z (.cons (.p _) (.cons (.p _) (.cons (.p _) .nil)))) .nil))) <| rl Z <| cd Z cm (fun cn => ?_) (fun cp => ?_)))
     .refine rs AA <| rl Z <| AG <| AT <| AI <| A1 cn fun dx co => AT <| AI ?_
      have hr := Option.some.inj co; subst hr
      exact Co (nt := 19) (sl := [(4, li s)]) (wj hA (gi 5 []) Z Z Z Z) Z
     exact AD <| Ai <| AC <| rg AA <| rl Z <| Av cp (wj hA (gi 5 []) Z Z Z Z)
    refine AU <| Ab <| BH cq fun dy cr => Ao <| AC <| rs AA <| rl Z <| AG ?_
    cases cr
    exact Co (nt := 19) (sl := [(4, li (-1))]) (wj hA (gi 5 []) Z Z Z Z) Z
   refine rl Z <| AB <| rs AA <| rl Z <| cd Z cs (fun ct => ?_) (fun cw => ?_)
   .refine rs AA <| rl Z <| AG <| AI <| AT <| AI <| A1 ct fun dz cu => AT <| A1 cu fun d0 cv => Em ?_
    cases cv
    exact er Z Le.rfl
   refine AD <| AC <| jb (fun i : (List AJ) => ⟨166, [(0, lq (A6 e)), (3, .lpb 0 0), (5, .lpb 1 0), (7, .lpb 2 0), (9, .lsl 3 2 0 i.length), (11, .lpb 4 0), (12, lb (b.2.1 == (AQ ((c.steps.length : Int) - 1)))), (44, ls 3 Af c.steps), (45, li (c.steps.length : Int)), (46, li b.2.1)], [(0, bx (Ad c)), (1, .box [li d.1.elem, li d.1.fin]), (2, .box [li b.2.2.1, li b.2.2.2.1]), (3, .row 91 2 (i.map AR)), (4, bx (Af f))], 5⟩) cw (fun i cx => ?_) (fun i c3 => ?_)
   .refine rs AA <| rn 5 Z <| bq cx fun ed an cy => sx Z (AS (GR _ _ _ _ an) (.inr Z) Z Z Z <| rn 1 Z <| bq cy fun dp ao cz => sx Z (Aj ao Z Z Z <| rl Z <| rs AA <| rl Z <| cd Z cz (fun c0 => ?_) (fun c2 => ?_)))
    .exact rg AA <| rn 6 Z <| bq c0 fun ee ap c1 => sx Z (Ax (enc := AR) (l := b.2.2.2.2) (m := [(⟨f.elem, dp.pos⟩ : AJ)]) ap (fun _ => ⟨Z, Z⟩) Z Z Z Z Z Z <| rl Z <| AN c1 (wf hA (gi 3 [(3, 6), (4, 4)]) Z Z Z))
    exact AD <| AN c2 (wf hA (gi 5 []) Z Z Z)
   refine rs AA <| rl Z <| AB <| jb (fun w : Bool => ⟨166, [(0, lq (A6 e)), (3, .lpb 0 0), (5, .lpb 1 0), (7, .lpb 2 0), (9, .lsl 3 2 0 i.length), (15, .lpb 4 0), (44, ls 3 Af c.steps), (45, li (c.steps.length : Int)), (46, li b.2.1), (141, lb w)], [(0, bx (Ad c)), (1, .box [li d.1.elem, li d.1.fin]), (2, .box [li b.2.2.1, li b.2.2.2.1]), (3, .row 91 2 (i.map AR)), (4, .box [li f.elem, li f.out])], 5⟩) c3 (fun w c4 => ?_) (fun w c8 => ?_)
   .refine rg AA <| rn 3 Z <| gs 136 c4 Z Z Z (fun c5 => ?_) (fun c7 => ?_)
    .exact rn 2 Z <| bq c5 fun ef aq c6 => sx Z (AS (Ei _ _ _ aq) (.inl Z) Z Z Z <| rl Z <| AN c6 (wf hA (gi 4 [(4, 5)]) Z Z Z))
    exact rl Z <| AN c7 (wf hA (gi 4 [(4, 5)]) Z Z Z)
   refine cd Z c8 (fun c9 => ?_) (fun dc => ?_)
   .refine rs AA <| rl Z <| AG <| AI <| AT <| AI <| A1 c9 fun d1 da => AT <| A1 da fun d2 db => Em ?_
    cases db
    exact er Z Le.rfl
   exact AD <| AC <| rg AA <| rn 2 Z <| bq dc fun eg ar dd => sx Z (AS (CB _ _ _ ar) (.inl Z) Z Z Z <| rl Z <| Ai <| AC <| rg AA <| rl Z <| Av dd (wf hA (gi 4 []) Z Z Z))
  exact AU <| Ab <| BH de fun d3 df => Ao <| Av df (wf hA [(0, 0), (1, 3)] Z Z Z)
 intro k dg
 refine jb (fun x : Bool => ⟨166, [(4, lb x)], [], 0⟩) dg (fun x dh => ?_) (fun x dn => ?_)
 .refine Bi AA Az [0, 1, 2, 3, 4, 5, 6, 7, 8, 9, 10, 11, 12, 13, 14, 15, 16, 17] 18 (by kernel_rfl) Z Z Z ?_
  refine Am 6 Z <| An Z (Og Z Z <| Am 1 Z <| bq dh fun eh au di => An Z (AZ Z (Aj au Z Z Z <| Am 1 Z <| bq di fun ei av dj => An Z (BA (VI _ _ _ _ av) (.inl Z) Z Z Z <| Am 1 Z <| Dk 160 dj Z Z Z (fun dk => ?_) (fun dm => ?_)))))
  .exact Am 3 Z <| bq dk fun ej aw dl => An Z (BA (MZ _ _ _ aw) (.inl Z) Z Z (C9.eq (.cons (.one (.p _)) (.cons (.one (.own (enc := AR) k Z Z)) .nil))) <| A0 Z <| AN dl (wf hA [] Z Z Z))
  exact A0 Z <| AN dm (wf hA [] Z Z Z)
 refine AG <| Em ?_
 have hr := Option.some.inj dn; subst hr
 exact er Z Le.rfl
end Go.E
/- Plain functions, and walks in step with them. Written by a program (gen.py). No condition. -/
set_option maxRecDepth 100000
namespace Go.E
open Go Go.RowKit Go.Proofs
noncomputable def E0 (b : (List AV)) (c : (List AV)) (a : Int) : Option (Int ⊕ Bool) :=
 bif decide (a < (b.length : Int)) then (Ak b a).bind fun d => (Ak c a).bind fun e => bif (!(d == e)) then some (.inr false) else some (.inl (AQ (a + 1))) else some (.inr true)
noncomputable def DQ (a : (List AV)) (b : (List AV)) : Option Bool :=
 bif ((a.length : Int) != (b.length : Int)) then some false else AO (E0 a b) 0
theorem Ma (b : (List AV)) (c : (List AV)) (r : Bool) (h : DQ b c = some r) : A4 Tryz.prog 137 [.slice 3 (b.map Af), .slice 3 (c.map Af)] (· = .bool r) := by
 refine fn AA Tryz.func137 Z Z 26 Z [.tmp 4] Z [(0, .p (.slice 3 (b.map Af))), (1, .p (.slice 3 (c.map Af)))] Z Z fun A hA => ?_
 unfold DQ at h
 refine rs AA <| rl Z <| AB <| rs AA <| rn 1 Z <| sx Z (Al Z Z <| rn 1 Z <| sx Z (Al Z Z <| rl Z <| cd Z h (fun s => ?_) (fun t => ?_)))
 .refine rs AA <| rl Z <| AG <| AI ?_
  cases s
  exact er Z Le.rfl
 refine AD <| AC <| AB <| rs AA <| rn 1 Z <| sx Z (Al Z Z <| rl Z <| AH ?_)
 apply lp (a := r) (fun e : Int => ⟨26, [(0, ls 3 Af b), (1, ls 3 Af c), (12, li (b.length : Int)), (13, li e)], [], 0⟩) t
 . exact wf hA [] Z Z Z
 intro e y d
 unfold E0 at d
 refine rs AA <| rl Z <| AB <| cd Z d (fun i => ?_) (fun o => ?_)
 .refine AD <| AC <| AB <| AH <| rs AA <| rl Z <| AB ?_
  refine Bi AA Az [0, 1, 2, 3, 4, 5, 6, 7, 8] 9 (by kernel_rfl) Z Z Z ?_
  refine Am 2 Z <| bq i fun u f j => An Z (AZ Z (Aj f Z Z Z <| Am 3 Z <| bq j fun v g k => An Z (AZ Z (Aj g Z Z Z <| Am 1 Z <| An Z (Qt (UG u v) Z Z Z Z Z <| A0 Z <| AC <| cd Z k (fun l => ?_) (fun n => ?_))))))
  .refine rs AA <| rl Z <| AG <| AT <| AI <| A1 l fun w m => AT <| AI ?_
   cases m
   exact er Z Le.rfl
  exact AD <| Ai <| AC <| rg AA <| rl Z <| Av n (wf hA [] Z Z Z)
 refine AU <| Ab <| BH o fun x q => Ao <| AC <| rs AA <| rl Z <| AG ?_
 cases q
 exact er Z Le.rfl
noncomputable def Ff (a : AW) (b : AW) : Option Bool :=
 (DQ a.steps b.steps).bind fun c => some c
theorem N9 (a : AW) (b : AW) (r : Bool) (h : Ff a b = some r) : A4 Tryz.prog 79 [.agg (Ad a), .agg (Ad b)] (· = .bool r) := by
 refine fn AA Tryz.func79 Z Z 10 Z [.tmp 4] Z [(0, .p (.agg (Ad a))), (1, .p (.agg (Ad b)))] Z Z fun A hA => ?_
 unfold Ff at h
 refine rs AA <| rl Z <| rs AA <| rn 4 Z <| bq h fun e c d => sx Z (AS (Ma _ _ _ c) (.inl Z) Z Z Z <| rl Z <| AG ?_)
 have hr := Option.some.inj d; subst hr
 exact er Z Le.rfl
noncomputable def Ft (a : AW) (b : AW) : Option Bool :=
 (Ff a b).bind fun c => some c
theorem MI (a : AW) (b : AW) (r : Bool) (h : Ft a b = some r) : A4 Tryz.prog 78 [.agg (Ad a), .place (Ad b) 0] (· = .bool r) := by
 refine fn AA Tryz.func78 Z Z 7 Z [.tmp 3] Z [(0, .p (.agg (Ad a))), (1, .p (.place (Ad b) 0))] Z Z fun A hA => ?_
 unfold Ft at h
 refine rs AA <| rl Z <| rs AA <| rn 2 Z <| bq h fun e c d => sx Z (AS (N9 _ _ _ c) (.inl Z) Z Z Z <| rl Z <| AG ?_)
 have hr := Option.some.inj d; subst hr
 exact er Z Le.rfl
noncomputable def Hm (a : AW) (b : AW) : Option Bool :=
 (Ff a b).bind fun c => some c
theorem Q8 (a : AW) (b : AW) (r : Bool) (h : Hm a b = some r) : A4 Tryz.prog 139 [.agg (Ad a), .place (Ad b) 0] (· = .bool r) := by
 refine fn AA Tryz.func139 Z Z 7 Z [.tmp 3] Z [(0, .p (.agg (Ad a))), (1, .p (.place (Ad b) 0))] Z Z fun A hA => ?_
 unfold Hm at h
 refine rs AA <| rl Z <| rs AA <| rn 2 Z <| bq h fun e c d => sx Z (AS (N9 _ _ _ c) (.inl Z) Z Z Z <| rl Z <| AG ?_)
 have hr := Option.some.inj d; subst hr
 exact er Z Le.rfl
noncomputable def FK (b : (List AW)) (c : AW) (a : Int) : Option (Int ⊕ Int) :=
 bif decide (a < (b.length : Int)) then (Ak b a).bind fun d => (Hm d c).bind fun e => bif e then some (.inr a) else some (.inl (AQ (a + 1))) else some (.inr (-1))
noncomputable def FL (f : (List AW)) (b : Int) (c : (List AW)) (a : Int) : Option (Int ⊕ (Int ⊕ Int)) :=
 bif decide (a < (c.length : Int)) then (Ak c a).bind fun g => ((((AO (FK f g) 0 : Option (Int))).bind fun (e : Int) => some (decide (0 <= e)) : Option (Bool))).bind fun (d : Bool) => bif (!d) then some (.inr (.inr b)) else some (.inl (AQ (a + 1))) else some (.inr (.inl (AQ (b + 1))))
noncomputable def G0 (b : BI) (c : (List AW)) (d : Int) (a : Int) : Option (Int ⊕ Int) :=
 bif decide (a < d) then (JF b a).bind fun e => AO (FL c a e) 0 else some (.inr (-1))
noncomputable def Fg (a : BI) (b : (List AW)) : Option Int :=
 (CY a).bind fun c => AO (G0 a b c) 0
theorem TE (d : BI) (b : (List AW)) (r : Int) (h : Fg d b = some r) : A4 Tryz.prog 80 [.place (A6 d) 0, .slice 9 (b.map Ad)] (· = .int .i64 r) := by
 refine fn AA Tryz.func80 Z Z 28 Z [.tmp 4] Z [(0, .p (.place (A6 d) 0)), (1, .p (.slice 9 (b.map Ad)))] Z Z fun A hA => ?_
 unfold Fg at h
 refine rs AA <| rl Z <| sc <| AB <| Hv <| AC <| AB <| rs AA <| rn 1 Z <| bq h fun n s x => sx Z (AS (IY _ _ s) (.inl Z) Z Z Z <| rl Z <| AH ?_)
 apply lp (a := r) (fun e : Int => ⟨28, [(0, lq (A6 d)), (1, ls 9 Ad b), (9, li n), (10, li e)], [], 0⟩) x
 . exact wf hA [] Z Z Z
 intro e q j
 unfold G0 at j
 refine rs AA <| rl Z <| AB <| cd Z j (fun y => ?_) (fun aw => ?_)
 .refine AD <| AC <| AB <| AH <| rs AA <| rl Z <| AB <| rs AA <| rn 2 Z <| bq y fun o t z => sx Z (AS (Sg _ _ _ t) (.inr Z) Z Z Z <| sx Z (Al Z Z <| rl Z <| AH ?_))
  apply lp (a := q) (fun m : Int => ⟨28, [(0, lq (A6 d)), (1, ls 9 Ad b), (5, li e), (9, li n), (10, li e), (15, ls 9 Ad o), (16, li (o.length : Int)), (17, li m)], [], 0⟩) z
  . exact wf hA [] Z Z Z
  intro m a4 k
  unfold FL at k
  refine rs AA <| rl Z <| AB <| cd Z k (fun aa => ?_) (fun au => ?_)
  .refine AD <| AC <| AB <| AH <| rs AA <| bq aa fun i u ab => sx Z (Aj u Z Z Z <| rl Z <| rs AA <| rn 2 Z <| sx Z (Cy AA (fun f : Bool => lb f) (fun f : Bool => [(0, bx (Ad i))]) 1 ab Tryz.func77 9 [.tmp 4] [(0, ls 9 Ad b), (1, .fn 139 [.lpb 0 0])] Z Z Z Z Z Z Z Z (fun A hA f ac => ?_) (fun f an => ?_)))
   .refine rs AA <| rl Z <| rs AA <| rn 2 Z <| sx Z (Cy AA (fun c : Int => li c) (fun c : Int => [(0, bx (Ad i))]) 1 ac Tryz.func136 19 [.tmp 4] [(0, ls 9 Ad b), (1, .fn 139 [.lpb 0 0])] Z Z Z Z Z Z Z Z (fun A hA c ad => ?_) (fun c am => ?_))
    .refine rs AA <| rl Z <| AB <| rs AA <| rn 1 Z <| sx Z (Al Z Z <| rl Z <| AH ?_)
     apply lp (a := c) (fun g : Int => ⟨19, [(0, ls 9 Ad b), (1, .fn 139 [.lpb 0 0]), (7, li (b.length : Int)), (8, li g)], [(0, bx (Ad i))], 1⟩) ad
     . exact wj hA [(0, 0)] Z Z Z Z
     intro g a5 l
     unfold FK at l
     refine rs AA <| rl Z <| AB <| cd Z l (fun ae => ?_) (fun ak => ?_)
     .refine AD <| AC <| AB <| AH <| rs AA <| rl Z <| rs AA <| rn 3 Z <| bq ae fun a6 v af => sx Z (Aj v Z Z Z <| rn 1 Z <| bq af fun a7 w ag => sx Z (AS (Q8 _ _ _ w) (.inl Z) Z Z (C9.eq (.cons (.one (.p _)) (.cons (.box Z (.cons (.p _) (.cons (.p _) (.cons (.p _) (.cons (.p _) (.cons (.p _) (.cons (.p _) (.cons (.p _) (.cons (.p _) (.cons (.p _) .nil)))))))))) .nil))) <| rl Z <| cd Z ag (fun ah => ?_) (fun aj => ?_)))
      .refine rs AA <| rl Z <| AG <| AT <| AI <| A1 ah fun ay ai => AT <| AI ?_
       have hr := Option.some.inj ai; subst hr
       exact Co (nt := 19) (sl := [(4, li g)]) (wj hA [(0, 0)] Z Z Z Z) Z
      exact AD <| Ai <| AC <| rg AA <| rl Z <| Av aj (wj hA [(0, 0)] Z Z Z Z)
     refine AU <| Ab <| BH ak fun az al => Ao <| AC <| rs AA <| rl Z <| AG ?_
     cases al
     exact Co (nt := 19) (sl := [(4, li (-1))]) (wj hA [(0, 0)] Z Z Z Z) Z
    refine rl Z <| AG ?_
    cases am
    exact Co (nt := 9) (sl := [(4, lb (decide (0 <= c)))]) (wj hA [(0, 0)] Z Z Z Z) Z
   refine rl Z <| cd Z an (fun ao => ?_) (fun ar => ?_)
   .refine rs AA <| rl Z <| AG <| AT <| AI <| A1 ao fun a0 ap => AT <| AI <| AT <| AI <| A1 ap fun a1 aq => AT <| AI <| Em ?_
    have hr := Option.some.inj aq; subst hr
    exact er Z Le.rfl
   exact AD <| Ai <| AC <| rg AA <| rl Z <| Av ar (wf hA [] Z Z Z)
  exact AU <| Ab <| BH au fun a2 av => Ao <| AC <| AU <| Ao <| AC <| rg AA <| rl Z <| Av av (wf hA [] Z Z Z)
 refine AU <| Ab <| BH aw fun a3 ax => Ao <| AC <| rs AA <| rl Z <| AG <| Em ?_
 cases ax
 exact er Z Le.rfl
noncomputable def D0 (f : BI) (g : AW) (c : (List AJ)) (a : Int × (List (Int × Int))) : Option ((Int × (List (Int × Int))) ⊕ ((List (Int × Int)) × Bool)) :=
 bif decide (a.1 < (c.length : Int)) then (Ak c a.1).bind fun b => ((bif decide ((g.needs.length : Int) <= a.1) then (B1 f b.elem).bind fun h => bif (h != 2) then some true else bif (b.pos != 1) then some (b.pos != 2) else some false else some false : Option (Bool))).bind fun (d : Bool) => bif d then some (.inr ([], false)) else ((bif (Ap a.2 b.elem).isSome then some (((Ap a.2 b.elem).getD 0) != b.pos) else some false : Option (Bool))).bind fun (e : Bool) => bif e then some (.inr ([], false)) else some (.inl (AQ (a.1 + 1), BC b.elem b.pos a.2)) else some (.inr (a.2, true))
noncomputable def HJ (b : BI) (a : AW) : Option ((List (Int × Int)) × Bool) :=
 (B9 a.needs).bind fun c => (BE c a.guards).bind fun d => AO (D0 b a d) (0, [])
theorem TF (f : BI) (d : AW) (r : ((List (Int × Int)) × Bool)) (h : HJ f d = some r) : A4 Tryz.prog 85 [.place (A6 f) 0, .agg (Ad d)] (· = .tup [.map (Aw (.int .i64) (.int .i64) r.1), .bool r.2]) := by
 refine fn AA Tryz.func85 Z Z 67 Z [.tmp 4, .tmp 5] Z [(0, .p (.place (A6 f) 0)), (1, .p (.agg (Ad d)))] Z Z fun A hA => ?_
 unfold HJ at h
 refine rs AA <| rl Z <| rs AA <| rl Z <| AB <| AB ?_
 refine Bi ZT Az [0, 1, 3, 4, 2, 7, 5, 6] 8 (by kernel_rfl) Z Z Z ?_
 refine Am 4 Z <| bq h fun av n s => An Z (YS (L3 _ _ n) Z Z Z Z Z <| Am 1 Z <| bq s fun c o t => An Z (BY (Ax (enc := AR) (l := av) (m := d.guards) o (fun _ => ⟨Z, Z⟩) Z Z Z Z Z Z <| A0 Z <| AC <| AH ?_)))
 apply lp (a := r) (fun b : (Int × (List (Int × Int))) => ⟨67, [(0, lq (A6 f)), (3, .lpb 0 0), (6, .lmap 1), (17, .lsl 2 2 0 c.length), (18, li (c.length : Int)), (19, li b.1)], [(0, bx (Ad d)), (1, .map (Aw (.int .i64) (.int .i64) b.2)), (2, .row 91 2 (c.map AR))], 3⟩) t
 . exact wf hA [(0, 0), (1, 1), (2, 7)] Z Z Z
 intro b az k
 unfold D0 at k
 refine rs AA <| rl Z <| AB <| cd Z k (fun u => ?_) (fun ar => ?_)
 .refine AD <| AC <| AB <| AH <| rs AA <| rn 1 Z <| bq u fun e j v => sx Z (B4 j Z Z Z Z <| sx Z (DM j Z Z Z <| rl Z <| AB <| jb (fun g : Bool => ⟨67, [(0, lq (A6 f)), (3, .lpb 0 0), (6, .lmap 1), (8, .lpb 2 0), (17, .lsl 3 2 0 c.length), (18, li (c.length : Int)), (19, li b.1), (45, lb g)], [(0, bx (Ad d)), (1, .map (Aw (.int .i64) (.int .i64) b.2)), (2, .box [li e.elem, li e.pos]), (3, .row 91 2 (c.map AR))], 4⟩) v (fun g w => ?_) (fun g ag => ?_)))
  .refine rg AA <| rn 3 Z <| sx Z (Al Z Z <| rn 2 Z <| gs 29 w Z Z Z (fun x => ?_) (fun af => ?_))
   .refine rn 3 Z <| bq x fun a0 q aa => sx Z (AS (DC _ _ _ q) (.inl Z) Z Z Z <| rn 2 Z <| gs 35 aa Z Z Z (fun ab => ?_) (fun ac => ?_))
    .exact rl Z <| AN ab (wf hA [(0, 0), (1, 1), (2, 3), (3, 2)] Z Z Z)
    refine rn 4 Z <| gs 39 ac Z Z Z (fun ad => ?_) (fun ae => ?_)
    .exact rl Z <| AN ad (wf hA [(0, 0), (1, 1), (2, 3), (3, 2)] Z Z Z)
    exact rl Z <| AN ae (wf hA [(0, 0), (1, 1), (2, 3), (3, 2)] Z Z Z)
   exact rl Z <| AN af (wf hA [(0, 0), (1, 1), (2, 3), (3, 2)] Z Z Z)
  refine cd Z ag (fun ah => ?_) (fun aj => ?_)
  .refine rs AA <| rl Z <| AG <| AI <| AT <| AI <| A1 ah fun aw ai => AT <| AI ?_
   cases ai
   exact er Z (Le.tup' (.cons Le.nilm (.cons Le.rfl .nil)))
  refine AD <| AC <| AB <| rs AA <| rn 3 Z <| sx Z (JV (et := 3) (ke := (.int .i64)) (ve := (.int .i64)) (mp := b.2) (y := e.elem) 0 Lq Z Z Z Z <| rl Z <| jb (fun i : Bool => ⟨67, [(0, lq (A6 f)), (3, .lpb 0 0), (6, .lmap 1), (8, .lpb 2 0), (17, .lsl 3 2 0 c.length), (18, li (c.length : Int)), (19, li b.1), (59, lb i)], [(0, bx (Ad d)), (1, .map (Aw (.int .i64) (.int .i64) b.2)), (2, .box [li e.elem, li e.pos]), (3, .row 91 2 (c.map AR))], 4⟩) aj (fun i ak => ?_) (fun i an => ?_))
  .refine rg AA <| rn 2 Z <| gs 54 ak Z Z Z (fun al => ?_) (fun am => ?_)
   .exact rl Z <| AN al (wf hA (gi 4 []) Z Z Z)
   exact rl Z <| AN am (wf hA (gi 4 []) Z Z Z)
  refine cd Z an (fun ao => ?_) (fun aq => ?_)
  .refine rs AA <| rl Z <| AG <| AI <| AT <| AI <| A1 ao fun ax ap => AT <| AI ?_
   cases ap
   exact er Z (Le.tup' (.cons Le.nilm (.cons Le.rfl .nil)))
  exact AD <| AC <| rg AA <| rn 5 Z <| sx Z (JW (et := 3) (ke := (.int .i64)) (ve := (.int .i64)) (mp := b.2) (y := e.elem) (z := e.pos) Lq Z Z Z Z Z Z <| rl Z <| Ai <| AC <| rg AA <| rl Z <| Av aq (wf hA [(0, 0), (1, 1), (2, 3)] Z Z Z))
 refine AU <| Ab <| BH ar fun ay au => Ao <| AC <| rs AA <| rl Z <| AG ?_
 cases au
 exact er (SY Z (.cons (.one (.map Z)) (.cons (.one (.p _)) .nil))) Le.rfl
noncomputable def Fh (a : BI) : Option Int :=
 some (a.p.elems.length : Int)
theorem TG (a : BI) (r : Int) (h : Fh a = some r) : A4 Tryz.prog 86 [.place (A6 a) 0] (· = .int .i64 r) := by
 refine fn AA Tryz.func86 Z Z 9 Z [.tmp 2] Z [(0, .p (.place (A6 a) 0))] Z Z fun A hA => ?_
 unfold Fh at h
 refine rs AA <| rl Z <| rs AA <| rn 5 Z <| sx Z (Al Z Z <| rl Z <| AG ?_)
 cases h
 exact er Z Le.rfl
noncomputable def FM (c : AF) (d : (List (Int × Int))) (e : (List BO)) (a : Int × (List Int)) : Option ((Int × (List Int)) ⊕ (List Int)) :=
 bif decide (a.1 < (e.length : Int)) then (((Ak e a.1).bind fun b => ((bif (b.pos == 0) then some true else bif (!(Ap d c.elem).isSome) then some true else some (b.pos == ((Ap d c.elem).getD 0)) : Option (Bool))).bind fun (g : Bool) => bif g then (BE a.2 [b.out]).bind fun h => some h else some a.2 : Option ((List Int)))).bind fun (f : (List Int)) => some (.inl (AQ (a.1 + 1), f)) else some (.inr a.2)
noncomputable def HK (b : BI) (a : AF) (c : (List (Int × Int))) : Option (List Int) :=
 (DB b a.elem a.fin).bind fun d => AO (FM a c d) (0, ([] : List Int))
theorem TH (i : BI) (c : AF) (d : (List (Int × Int))) (r : (List Int)) (h : HK i c d = some r) : A4 Tryz.prog 88 [.place (A6 i) 0, .agg (AK c), .map (Aw (.int .i64) (.int .i64) d)] (· = .slice 1 (r.map AY)) := by
 refine fn AA Tryz.func88 Z Z 50 Z [.tmp 6] Z [(0, .p (.place (A6 i) 0)), (1, .p (.agg (AK c))), (2, .p (.map (Aw (.int .i64) (.int .i64) d)))] Z Z fun A hA => ?_
 unfold HK at h
 refine rs AA <| rl Z <| rs AA <| rl Z <| AB <| rs AA <| rn 5 Z <| bq h fun e n s => sx Z (AS (GR _ _ _ _ n) (.inr Z) Z Z Z <| sx Z (Al Z Z <| rl Z <| AH ?_))
 apply lp (a := r) (fun b : (Int × (List Int)) => ⟨50, [(2, .p (.map (Aw (.int .i64) (.int .i64) d))), (4, .lpb 0 0), (7, .lsl 1 1 0 b.2.length), (17, ls 2 CR e), (18, li (e.length : Int)), (19, li b.1)], [(0, .box [li c.elem, li c.fin]), (1, .row 3 1 (b.2.map AY))], 2⟩) s
 . exact A9.trans (By 7 3 1 Z) (wf hA [(0, 0), (1, 1)] Z Z Z)
 intro b ak k
 unfold FM at k
 refine rs AA <| rl Z <| AB <| cd Z k (fun t => ?_) (fun ah => ?_)
 .refine AD <| AC <| jb (fun f : (List Int) => ⟨50, [(2, .p (.map (Aw (.int .i64) (.int .i64) d))), (4, .lpb 0 0), (7, .lsl 1 1 0 f.length), (17, ls 2 CR e), (18, li (e.length : Int)), (19, li b.1)], [(0, .box [li c.elem, li c.fin]), (1, .row 3 1 (f.map AY))], 2⟩) t (fun f u => ?_) (fun f ag => ?_)
  .refine AH <| rs AA <| bq u fun j o v => sx Z (Aj o Z Z Z <| rl Z <| rs AA <| rn 3 Z <| sx Z (JV (et := 3) (ke := (.int .i64)) (ve := (.int .i64)) (mp := d) (y := c.elem) 0 Lq Z Z Z Z <| rl Z <| jb (fun g : Bool => ⟨50, [(2, .p (.map (Aw (.int .i64) (.int .i64) d))), (4, .lpb 0 0), (7, .lsl 1 1 0 b.2.length), (9, .lpb 2 0), (17, ls 2 CR e), (18, li (e.length : Int)), (19, li b.1), (42, lb g)], [(0, .box [li c.elem, li c.fin]), (1, .row 3 1 (b.2.map AY)), (2, .box [li j.out, li j.pos])], 3⟩) v (fun g w => ?_) (fun g ac => ?_)))
   .refine rg AA <| rn 4 Z <| gs 33 w Z Z Z (fun x => ?_) (fun z => ?_)
    .exact rl Z <| AN x (wf hA (gi 3 []) Z Z Z)
    refine rn 4 Z <| gs 37 z Z Z Z (fun aa => ?_) (fun ab => ?_)
    .exact rl Z <| AN aa (wf hA (gi 3 []) Z Z Z)
    exact rl Z <| AN ab (wf hA (gi 3 []) Z Z Z)
   refine cd Z ac (fun ad => ?_) (fun af => ?_)
   .exact rg AA <| rn 4 Z <| bq ad fun al q ae => sx Z (Ax (enc := AY) (l := b.2) (m := [j.out]) q (fun _ => ⟨Z, Z⟩) Z Z Z Z Z Z <| rl Z <| Ai <| AN ae (wf hA [(0, 0), (1, 4)] Z Z Z))
   exact AD <| Ai <| AN af (wf hA [(0, 0), (1, 1)] Z Z Z)
  exact rg AA <| rl Z <| Av ag (wf hA [(0, 0), (1, 1)] Z Z Z)
 refine AU <| Ab <| BH ah fun aj ai => Ao <| AC <| rs AA <| rl Z <| AG ?_
 cases ai
 exact er (HH Z (.one (.own (enc := AY) b.2 Z Z))) Le.rfl
noncomputable def Db (g : BI) (e : ((List AF) × (List (AF × Bool)))) (b : AF) (c : (List Int)) (a : Int × (List AF)) : Option ((Int × (List AF)) ⊕ (((List AF) × (List (AF × Bool))) ⊕ Bool)) :=
 bif decide (a.1 < (c.length : Int)) then (((Ak c a.1).bind fun h => (Bc g (⟨b.elem, h⟩ : AF)).bind fun d => bif d.2 then (BE a.2 [d.1]).bind fun i => some i else some a.2 : Option ((List AF)))).bind fun (f : (List AF)) => some (.inl (AQ (a.1 + 1), f)) else some (.inr (.inl (a.2, BC b true e.2)))
noncomputable def CP (c : BI) (d : AW) (o : ((List (Int × Int)) × Bool)) (p : AM) (b : (List AF) × (List (AF × Bool))) : Option (((List AF) × (List (AF × Bool))) ⊕ Bool) :=
 bif decide (0 < (b.1.length : Int)) then (Ak b.1 0).bind fun a => (MH b.1 1 (b.1.length : Int)).bind fun e => ((bif ((Ap b.2 a).getD false) then some true else (Fu d a.elem).bind fun i => bif i then some true else bif (!p.hard) then (Bw c a).bind fun j => bif decide (0 <= j) then (Bw c a).bind fun k => (BU d.holds k).bind fun l => some l else some false else some false : Option (Bool))).bind fun (g : Bool) => bif g then some (.inl (e, b.2)) else (B1 c a.elem).bind fun m => bif (m == 4) then some (.inr false) else (HK c a o.1).bind fun f => ((bif decide (0 < (f.length : Int)) then (BU d.zone a.elem).bind fun n => some (!n) else some false : Option (Bool))).bind fun (h : Bool) => bif h then some (.inr false) else AO (Db c b a f) (0, e) else some (.inr true)
noncomputable def EX (b : BI) (d : AW) (e : ((List (Int × Int)) × Bool)) (f : AM) (c : (List AF)) (a : Int × (List AF)) : Option ((Int × (List AF)) ⊕ Bool) :=
 bif decide (a.1 < (c.length : Int)) then (Ak c a.1).bind fun g => (Bc b g).bind fun h => (BE a.2 [h.1]).bind fun i => some (.inl (AQ (a.1 + 1), i)) else (AO (CP b d e f) (a.2, [])).map .inr
noncomputable def EY (a : BI) (b : AW) (f : ((List (Int × Int)) × Bool)) (c : Int) : Option (Int ⊕ Bool) :=
 bif decide (c < (b.holds.length : Int)) then (Ak b.holds c).bind fun d => ((bif decide (d < 0) then some true else (CY a).bind fun g => some (decide (g <= d)) : Option (Bool))).bind fun (e : Bool) => bif e then some (.inr false) else some (.inl (AQ (c + 1))) else ((DD a).bind fun h => (GV a b).bind fun i => AO (EX a b f h i) (0, ([] : List AF))).map .inr
noncomputable def EZ (d : BI) (a : AW) (f : ((List (Int × Int)) × Bool)) (b : Int) : Option (Int ⊕ Bool) :=
 bif decide (b < (a.zone.length : Int)) then (Ak a.zone b).bind fun c => ((bif decide (c < 0) then some true else (Fh d).bind fun g => bif decide (g <= c) then some true else (Fu a c).bind fun h => some h : Option (Bool))).bind fun (e : Bool) => bif e then some (.inr false) else some (.inl (AQ (b + 1))) else (AO (EY d a f) 0).map .inr
noncomputable def Fv (a : BI) (b : AW) : Option Bool :=
 (HJ a b).bind fun c => bif (!c.2) then some false else AO (EZ a b c) 0
theorem Q9 (d : BI) (b : AW) (r : Bool) (h : Fv d b = some r) : A4 Tryz.prog 34 [.place (A6 d) 0, .agg (Ad b)] (· = .bool r) := by
 refine fn AA Tryz.func34 Z Z 170 Z [.tmp 4] Z [(0, .p (.place (A6 d) 0)), (1, .p (.agg (Ad b)))] Z Z fun A hA => ?_
 unfold Fv at h
 refine rs AA <| rl Z <| sc <| rs AA <| rn 2 Z <| bq h fun f ay c1 => sx Z (AS (TF _ _ _ ay) (.inr Z) Z Z Z <| rl Z <| AB <| rs AA <| rl Z <| cd Z c1 (fun df => ?_) (fun dl => ?_))
 .refine rs AA <| rl Z <| AG <| AI <| Em ?_
  cases df
  exact er Z Le.rfl
 refine AD <| AC <| AB <| rs AA <| rn 2 Z <| sx Z (Al Z Z <| rl Z <| AH ?_)
 apply lp (a := r) (fun q : Int => ⟨170, [(0, lq (A6 d)), (3, .lpb 0 0), (5, .p (.map (Aw (.int .i64) (.int .i64) f.1))), (33, ls 1 AY b.zone), (34, li (b.zone.length : Int)), (35, li q)], [(0, bx (Ad b))], 1⟩) dl
 . exact wf hA [(0, 0)] Z Z Z
 intro q dy ae
 unfold EZ at ae
 refine rs AA <| rl Z <| AB <| cd Z ae (fun cm => ?_) (fun cz => ?_)
 .refine AD <| AC <| AB <| AH <| rs AA <| bq cm fun d9 az cn => sx Z (Aj az Z Z Z <| rl Z <| jb (fun v : Bool => ⟨170, [(0, lq (A6 d)), (3, .lpb 0 0), (5, .p (.map (Aw (.int .i64) (.int .i64) f.1))), (33, ls 1 AY b.zone), (34, li (b.zone.length : Int)), (35, li q), (51, lb v)], [(0, bx (Ad b))], 1⟩) cn (fun v co => ?_) (fun v cv => ?_))
  .refine rg AA <| rn 3 Z <| gs 41 co Z Z Z (fun cp => ?_) (fun cq => ?_)
   .exact rl Z <| AN cp (wf hA [(0, 0)] Z Z Z)
   refine rn 2 Z <| bq cq fun ea a0 cr => sx Z (AS (TG _ _ a0) (.inl Z) Z Z Z <| rn 3 Z <| gs 47 cr Z Z Z (fun cs => ?_) (fun ct => ?_))
   .exact rl Z <| AN cs (wf hA [(0, 0)] Z Z Z)
   exact rn 2 Z <| bq ct fun eb a1 cu => sx Z (AS (Nl _ _ _ a1) (.inl Z) Z Z Z <| rl Z <| AN cu (wf hA [(0, 0)] Z Z Z))
  refine cd Z cv (fun cw => ?_) (fun cy => ?_)
  .refine rs AA <| rl Z <| AG <| AT <| AI <| A1 cw fun dv cx => AT <| AI <| Em ?_
   cases cx
   exact er Z Le.rfl
  exact AD <| Ai <| AC <| rg AA <| rl Z <| Av cy (wf hA [(0, 0)] Z Z Z)
 refine AU <| Ab <| CW cz fun ai c0 => Ao <| AC <| AB <| rs AA <| rn 2 Z <| sx Z (Al Z Z <| rl Z <| AH ?_)
 apply lp (a := ai) (fun s : Int => ⟨170, [(0, lq (A6 d)), (3, .lpb 0 0), (5, .p (.map (Aw (.int .i64) (.int .i64) f.1))), (54, ls 1 AY b.holds), (55, li (b.holds.length : Int)), (56, li s)], [(0, bx (Ad b))], 1⟩) c0
 . exact wf hA [(0, 0)] Z Z Z
 intro s dz af
 unfold EY at af
 refine rs AA <| rl Z <| AB <| cd Z af (fun c2 => ?_) (fun dc => ?_)
 .refine AD <| AC <| AB <| AH <| rs AA <| bq c2 fun ec a2 c3 => sx Z (Aj a2 Z Z Z <| rl Z <| jb (fun w : Bool => ⟨170, [(0, lq (A6 d)), (3, .lpb 0 0), (5, .p (.map (Aw (.int .i64) (.int .i64) f.1))), (54, ls 1 AY b.holds), (55, li (b.holds.length : Int)), (56, li s), (67, lb w)], [(0, bx (Ad b))], 1⟩) c3 (fun w c4 => ?_) (fun w c8 => ?_))
  .refine rg AA <| rn 3 Z <| gs 62 c4 Z Z Z (fun c5 => ?_) (fun c6 => ?_)
   .exact rl Z <| AN c5 (wf hA [(0, 0)] Z Z Z)
   exact rn 2 Z <| bq c6 fun ed a3 c7 => sx Z (AS (IY _ _ a3) (.inl Z) Z Z Z <| rl Z <| AN c7 (wf hA [(0, 0)] Z Z Z))
  refine cd Z c8 (fun c9 => ?_) (fun db => ?_)
  .refine rs AA <| rl Z <| AG <| AT <| AI <| A1 c9 fun dw da => AT <| AI <| Em ?_
   cases da
   exact er Z Le.rfl
  exact AD <| Ai <| AC <| rg AA <| rl Z <| Av db (wf hA [(0, 0)] Z Z Z)
 refine AU <| Ab <| CW dc fun aj dd => Ao <| AC <| rs AA <| rn 1 Z <| bq dd fun g a4 de => sx Z (AS (J8 _ _ a4) (.inr Z) Z Z Z <| rl Z <| rs AA <| rl Z <| AB <| rs AA <| rn 2 Z <| bq de fun ah a5 dg => sx Z (AS (Ou _ _ _ a5) (.inr Z) Z Z Z <| sx Z (Al Z Z <| rl Z <| AH ?_)))
 apply lp (a := aj) (fun k : (Int × (List AF)) => ⟨170, [(0, lq (A6 d)), (3, .lpb 0 0), (5, .p (.map (Aw (.int .i64) (.int .i64) f.1))), (11, lb g.hard), (12, .lsl 1 2 0 k.2.length), (74, ls 2 AK ah), (75, li (ah.length : Int)), (76, li k.1)], [(0, bx (Ad b)), (1, .row 96 2 (k.2.map AK))], 2⟩) dg
 . exact A9.trans (By 12 96 2 Z) (wf hA [(0, 0), (1, 1)] Z Z Z)
 intro k d0 ag
 unfold EX at ag
 refine rs AA <| rl Z <| AB <| cd Z ag (fun dh => ?_) (fun dm => ?_)
 .exact AD <| AC <| AB <| AH <| rs AA <| bq dh fun ee a6 di => sx Z (Aj a6 Z Z Z <| rl Z <| rs AA <| rn 2 Z <| bq di fun dq a7 dj => sx Z (AS (CB _ _ _ a7) (.inl Z) Z Z Z <| rl Z <| rg AA <| rn 3 Z <| bq dj fun ef a8 dk => sx Z (Ax (enc := AK) (l := k.2) (m := [dq.1]) a8 (fun _ => ⟨Z, Z⟩) Z Z Z Z Z Z <| rl Z <| Ai <| AC <| rg AA <| rl Z <| Av dk (wf hA [(0, 0), (1, 5)] Z Z Z))))
 refine AU <| Ab <| CW dm fun ak dn => Ao <| AC <| rs AA <| rl Z <| AB <| Hv <| AC <| AB <| AH ?_
 apply lp (a := ak) (fun e : ((List AF) × (List (AF × Bool))) => ⟨170, [(0, lq (A6 d)), (3, .lpb 0 0), (5, .p (.map (Aw (.int .i64) (.int .i64) f.1))), (11, lb g.hard), (12, .lsl 1 2 0 e.1.length), (17, .lmap 2)], [(0, bx (Ad b)), (1, .row 96 2 (e.1.map AK)), (2, .map (Aw (fun x => .agg (AK x)) .bool e.2))], 3⟩) dn
 . exact wf hA (gi 3 []) Z Z Z
 intro e al ac
 unfold CP at ac
 refine AB <| rs AA <| rl Z <| cd Z ac (fun a9 => ?_) (fun ck => ?_)
 .refine AD <| AC <| AH <| rs AA <| rn 1 Z <| bq a9 fun c aa ba => sx Z (B4 aa Z Z Z Z <| sx Z (DM aa Z Z Z <| rl Z <| rs AA <| rn 1 Z <| bq ba fun j ab bb => sx Z (Wl (l := e.1) ab Z Z Z Z Z <| rl Z <| J4 (st' := ⟨170, [(0, lq (A6 d)), (3, .lpb 0 0), (5, .p (.map (Aw (.int .i64) (.int .i64) f.1))), (11, lb g.hard), (12, .lsl 1 2 0 j.length), (17, .lmap 2), (18, .lpb 3 0)], [(0, bx (Ad b)), (1, .row 96 2 (j.map AK)), (2, .map (Aw (fun x => .agg (AK x)) .bool e.2)), (3, .box [li c.elem, li c.fin])], 4⟩) (A9.trans (UH 1 (enc := AK) (l := e.1) Z (RA ab) (.cons 0 (.same _) (.cons 3 (.same _) (.cons 5 (.same _) (.cons 11 (.same _) (.cons 12 .hit (.cons 17 (.same _) (.cons 18 (.same _) .nil))))))) (.cons 0 Z Z (.same _) (.cons 2 Z Z (.same _) (.cons 3 Z Z (.same _) .nil)))) (wf hA [(0, 0), (1, 4), (2, 2), (3, 3)] Z Z Z)) <| AB <| jb (fun t : Bool => ⟨170, [(0, lq (A6 d)), (3, .lpb 0 0), (5, .p (.map (Aw (.int .i64) (.int .i64) f.1))), (11, lb g.hard), (12, .lsl 1 2 0 j.length), (17, .lmap 2), (18, .lpb 3 0), (126, lb t)], [(0, bx (Ad b)), (1, .row 96 2 (j.map AK)), (2, .map (Aw (fun x => .agg (AK x)) .bool e.2)), (3, .box [li c.elem, li c.fin])], 4⟩) bb (fun t bc => ?_) (fun t br => ?_))))
  .refine Bi AA Az [0, 1, 2, 3, 4, 5, 6, 7, 8, 9, 10, 11, 12, 13, 14, 15, 16, 17, 18, 19, 20, 21, 22, 23, 24, 25, 26] 27 (by kernel_rfl) Z Z Z ?_
   refine Am 2 Z <| An Z (AZ Z (K6 (et := 4) (ke := (fun x => .agg (AK x))) (ve := .bool) (mp := e.2) (y := c) false Ck Z Z Z Z <| Am 1 Z <| Dk 103 bc Z Z Z (fun be => ?_) (fun bf => ?_)))
   .exact A0 Z <| AN be (wf hA (gi 4 []) Z Z Z)
   refine Am 3 Z <| bq bf fun d1 am bg => An Z (BA (Nl _ _ _ am) (.inl Z) Z Z Z <| Am 2 Z <| Dk 109 bg Z Z Z (fun bh => ?_) (fun bi => ?_))
   .exact A0 Z <| AN bh (wf hA (gi 4 []) Z Z Z)
   refine Am 3 Z <| Dk 112 bi Z Z Z (fun bj => ?_) (fun bp => ?_)
   .refine Am 2 Z <| bq bj fun d2 an bk => An Z (BA (Ei _ _ _ an) (.inl Z) Z Z Z <| Am 3 Z <| Dk 118 bk Z Z Z (fun bl => ?_) (fun bo => ?_))
    .exact Am 4 Z <| bq bl fun d3 ao bm => An Z (BA (Ei _ _ _ ao) (.inl Z) Z Z Z <| bq bm fun d4 ap bn => An Z (BA (Cz _ _ _ ap) (.inl Z) Z Z Z <| A0 Z <| AN bn (wf hA (gi 4 []) Z Z Z)))
    exact A0 Z <| AN bo (wf hA (gi 4 []) Z Z Z)
   exact A0 Z <| AN bp (wf hA (gi 4 []) Z Z Z)
  refine cd Z br (fun bs => ?_) (fun bt => ?_)
  .exact AU <| Ab <| Ao <| Av bs (wf hA (gi 3 []) Z Z Z)
  refine AD <| AC <| rs AA <| rn 2 Z <| sx Z (JW (et := 4) (ke := (fun x => .agg (AK x))) (ve := .bool) (mp := e.2) (y := c) (z := true) Ck Z Z Z Z Z Z <| rl Z <| AB <| rs AA <| rn 3 Z <| bq bt fun d5 aq bu => sx Z (AS (DC _ _ _ aq) (.inl Z) Z Z Z <| rl Z <| cd Z bu (fun bv => ?_) (fun bz => ?_)))
  .refine rs AA <| rl Z <| AG <| AI <| AT <| A1 bv fun dr bw => AT <| AI <| Em ?_
   cases bw
   exact er Z Le.rfl
  refine AD <| AC <| rs AA <| rn 3 Z <| bq bz fun n ar b0 => sx Z (AS (TH _ _ _ _ ar) (.inr Z) Z Z Z <| rl Z <| AB <| jb (fun u : Bool => ⟨170, [(0, lq (A6 d)), (3, .lpb 0 0), (5, .p (.map (Aw (.int .i64) (.int .i64) f.1))), (11, lb g.hard), (12, .lsl 1 2 0 j.length), (17, .lmap 2), (18, .lpb 3 0), (19, ls 1 AY n), (148, lb u)], [(0, bx (Ad b)), (1, .row 96 2 (j.map AK)), (2, .map (Aw (fun x => .agg (AK x)) .bool (BC c true e.2))), (3, .box [li c.elem, li c.fin])], 4⟩) b0 (fun u b1 => ?_) (fun u b5 => ?_))
  .refine rg AA <| rn 1 Z <| sx Z (Al Z Z <| rn 2 Z <| gs 141 b1 Z Z Z (fun b2 => ?_) (fun b4 => ?_))
   .exact rn 4 Z <| bq b2 fun d6 au b3 => sx Z (AS (Cz _ _ _ au) (.inl Z) Z Z Z <| rl Z <| AN b3 (wf hA (gi 4 []) Z Z Z))
   exact rl Z <| AN b4 (wf hA (gi 4 []) Z Z Z)
  refine cd Z b5 (fun b6 => ?_) (fun b8 => ?_)
  .refine rs AA <| rl Z <| AG <| AI <| AT <| A1 b6 fun ds b7 => AT <| AI <| Em ?_
   cases b7
   exact er Z Le.rfl
  refine AD <| AC <| rs AA <| rn 1 Z <| sx Z (Al Z Z <| rl Z <| AH ?_)
  apply lp (a := al) (fun i : (Int × (List AF)) => ⟨170, [(0, lq (A6 d)), (3, .lpb 0 0), (5, .p (.map (Aw (.int .i64) (.int .i64) f.1))), (11, lb g.hard), (12, .lsl 1 2 0 i.2.length), (17, .lmap 2), (18, .lpb 3 0), (149, ls 1 AY n), (150, li (n.length : Int)), (151, li i.1)], [(0, bx (Ad b)), (1, .row 96 2 (i.2.map AK)), (2, .map (Aw (fun x => .agg (AK x)) .bool (BC c true e.2))), (3, .box [li c.elem, li c.fin])], 4⟩) b8
  . exact wf hA (gi 4 []) Z Z Z
  intro i dx ad
  unfold Db at ad
  refine rs AA <| rl Z <| AB <| cd Z ad (fun b9 => ?_) (fun ci => ?_)
  .refine AD <| AC <| jb (fun o : (List AF) => ⟨170, [(0, lq (A6 d)), (3, .lpb 0 0), (5, .p (.map (Aw (.int .i64) (.int .i64) f.1))), (11, lb g.hard), (12, .lsl 1 2 0 o.length), (17, .lmap 2), (18, .lpb 3 0), (149, ls 1 AY n), (150, li (n.length : Int)), (151, li i.1)], [(0, bx (Ad b)), (1, .row 96 2 (o.map AK)), (2, .map (Aw (fun x => .agg (AK x)) .bool (BC c true e.2))), (3, .box [li c.elem, li c.fin])], 4⟩) b9 (fun o ca => ?_) (fun o ch => ?_)
   .refine AH <| rs AA <| bq ca fun d7 av cb => sx Z (Aj av Z Z Z <| rl Z <| rs AA <| rn 5 Z <| bq cb fun dp aw cc => sx Z (AS (CB _ _ _ aw) (.inl Z) Z Z Z <| rl Z <| rs AA <| rl Z <| cd Z cc (fun ce => ?_) (fun cg => ?_)))
    .exact rg AA <| rn 3 Z <| bq ce fun d8 ax cf => sx Z (Ax (enc := AK) (l := i.2) (m := [dp.1]) ax (fun _ => ⟨Z, Z⟩) Z Z Z Z Z Z <| rl Z <| Ai <| AN cf (wf hA [(0, 0), (1, 6), (2, 2), (3, 3)] Z Z Z))
    exact AD <| Ai <| AN cg (wf hA (gi 4 []) Z Z Z)
   exact rg AA <| rl Z <| Av ch (wf hA (gi 4 []) Z Z Z)
  exact AU <| Ab <| BH ci fun dt cj => Ao <| Ai <| Av cj (wf hA (gi 3 []) Z Z Z)
 refine AU <| Ab <| BH ck fun du cl => Ao <| AC <| rs AA <| rl Z <| AG <| Em ?_
 cases cl
 exact er Z Le.rfl
end Go.E
/- Plain functions, and walks in step with them. Written by a program (gen.py). No condition. -/
set_option maxRecDepth 100000
namespace Go.E
open Go Go.RowKit Go.Proofs
noncomputable def Lr (c : AW) (b : (List AW)) (a : Int) : Option (Int ⊕ Int) :=
 bif decide (a < (b.length : Int)) then (Ak b a).bind fun d => (Ft d c).bind fun e => bif e then some (.inr a) else some (.inl (AQ (a + 1))) else some (.inr (-1))
noncomputable def Ls (b : CG) (a : Int) : Option (Int ⊕ (Int × Int)) :=
 bif decide (a < (b.roads.length : Int)) then (Ak b.roads a).bind fun e => (JU b.roads 0 a).bind fun f => ((((AO (Lr e f) 0 : Option (Int))).bind fun (d : Int) => some (decide (0 <= d)) : Option (Bool))).bind fun (c : Bool) => bif c then some (.inr (4, a)) else some (.inl (AQ (a + 1))) else (none).map .inr
noncomputable def Lt (a : CG) (b : Unit) : Option (Unit ⊕ (Int × Int)) :=
 bif decide (0 < (a.roads.length : Int)) then (Ak a.roads 0).bind fun c => none else (AO (Ls a) 0).map .inr
noncomputable def FN (c : AW) (b : (List AW)) (a : Int) : Option (Int ⊕ Int) :=
 bif decide (a < (b.length : Int)) then (Ak b a).bind fun d => (Ft d c).bind fun e => bif e then some (.inr a) else some (.inl (AQ (a + 1))) else some (.inr (-1))
noncomputable def D1 (b : CG) (e : BI) (a : Int) : Option (Int ⊕ (Int × Int)) :=
 bif decide (a < (b.roads.length : Int)) then (Ak b.roads a).bind fun c => (Ey e c).bind fun d => bif (!(c.bare == d.bare)) then some (.inr (7, a)) else some (.inl (AQ (a + 1))) else some (.inr (0, (-1)))
noncomputable def D2 (b : CG) (d : BI) (a : Int) : Option (Int ⊕ (Int × Int)) :=
 bif decide (a < (b.roads.length : Int)) then (Ak b.roads a).bind fun c => ((bif (!c.bare) then (Fv d c).bind fun f => some (!f) else some false : Option (Bool))).bind fun (e : Bool) => bif e then some (.inr (6, a)) else some (.inl (AQ (a + 1))) else (AO (D1 b d) 0).map .inr
noncomputable def DZ (b : CG) (d : BI) (a : Int) : Option (Int ⊕ (Int × Int)) :=
 bif decide (a < (b.roads.length : Int)) then (Ak b.roads a).bind fun g => (JU b.roads 0 a).bind fun h => ((((AO (FN g h) 0 : Option (Int))).bind fun (f : Int) => some (decide (0 <= f)) : Option (Bool))).bind fun (e : Bool) => bif e then some (.inr (4, a)) else some (.inl (AQ (a + 1))) else ((Fg d b.roads).bind fun c => bif decide (0 <= c) then some (5, c) else AO (D2 b d) 0).map .inr
noncomputable def FO (b : CG) (c : BI) (a : Int) : Option (Int ⊕ (Int × Int)) :=
 bif decide (a < (b.roads.length : Int)) then (Ak b.roads a).bind fun d => (Ki c d).bind fun e => bif (!e) then some (.inr (3, a)) else some (.inl (AQ (a + 1))) else (AO (DZ b c) 0).map .inr
noncomputable def DS (a : CG) : Option (Int × Int) :=
 (Gh a.plan).bind fun b => Rv b.1 (bif (b.2 != 0) then some (1, (-1)) else bif decide (64 < (a.roads.length : Int)) then some (2, (-1)) else AO (Lt a) ()) fun c => bif (b.2 != 0) then some (1, (-1)) else bif decide (64 < (a.roads.length : Int)) then some (2, (-1)) else AO (FO a c) 0
theorem Ky (b : CG) (r : (Int × Int)) (h : DS b = some r) : A4 Tryz.prog 30 [.agg (Bp b)] (· = .tup [.int .i64 r.1, .int .i64 r.2]) := by
 refine fn AA Tryz.func30 Z Z 100 Z [.tmp 2, .tmp 3] Z [(0, .p (.agg (Bp b)))] Z Z fun A hA => ?_
 unfold DS at h
 refine rs AA <| rl Z <| rs AA <| rn 2 Z <| bq h fun dj ap c => sx Z (AS (Si _ _ ap) (.inr Z) Z Z Z ?_)
 revert c; rcases d4 : dj.1 with _ | f <;> intro c
 .replace c := omN c
  refine rl Z <| AB <| rs AA <| rl Z <| cd Z c (fun dh => ?_) (fun a2 => ?_)
  .refine rs AA <| rl Z <| AG <| AI ?_
   cases dh
   exact er Z Le.rfl
  refine AD <| AC <| AB <| rs AA <| rn 2 Z <| sx Z (Al Z Z <| rl Z <| cd Z a2 (fun a3 => ?_) (fun a4 => ?_))
  .refine rs AA <| rl Z <| AG <| AI ?_
   cases a3
   exact er Z Le.rfl
  refine AD <| AC <| AB <| rs AA <| rn 2 Z <| sx Z (Al Z Z <| rl Z <| AH ?_)
  apply lp (a := r) (fun di : Unit => ⟨100, [(1, .lpb 0 0), (4, .p (.nilp)), (28, ls 9 Ad b.roads), (29, li (b.roads.length : Int)), (30, li 0)], [(0, bx (Bp b))], 1⟩) a4
  . exact wf hA [(0, 0)] Z Z Z
  intro di d0 x
  unfold Lt at x
  refine rs AA <| rl Z <| AB <| cd Z x (fun b8 => ?_) (fun df => ?_)
  .refine AD <| AC <| AB <| AH <| rs AA <| rn 1 Z <| bq b8 fun eg a1 de => sx Z (Aj a1 Z Z Z <| rl Z <| rs AA <| rn 2 Z ?_)
   cases de
  refine AU <| Ab <| CW df fun ai dg => Ao <| AC <| AB <| rs AA <| rn 2 Z <| sx Z (Al Z Z <| rl Z <| AH ?_)
  apply lp (a := ai) (fun ab : Int => ⟨100, [(1, .lpb 0 0), (4, .p (.nilp)), (42, ls 9 Ad b.roads), (43, li (b.roads.length : Int)), (44, li ab)], [(0, bx (Bp b))], 1⟩) dg
  . exact wf hA [(0, 0)] Z Z Z
  intro ab dw t
  unfold Ls at t
  refine rs AA <| rl Z <| AB <| cd Z t (fun a5 => ?_) (fun bo => ?_)
  .refine AD <| AC <| AB <| AH <| rs AA <| rn 1 Z <| bq a5 fun q aj a6 => sx Z (Aj aj Z Z Z <| rl Z <| rs AA <| rn 3 Z <| bq a6 fun k ak a7 => sx Z (Qr ak Z Z Z Z <| rn 1 Z <| sx Z (Cy AA (fun i : Bool => lb i) (fun i : Bool => [(0, bx (Bp b)), (1, bx (Ad q))]) 2 a7 Tryz.func77 9 [.tmp 4] [(0, ls 9 Ad k), (1, .fn 78 [.lpb 1 0])] Z Z Z Z Z Z Z Z (fun A hA i a8 => ?_) (fun i bk => ?_))))
   .refine rs AA <| rl Z <| rs AA <| rn 2 Z <| sx Z (Cy AA (fun d : Int => li d) (fun d : Int => [(0, bx (Bp b)), (1, bx (Ad q))]) 2 a8 Tryz.func136 19 [.tmp 4] [(0, ls 9 Ad k), (1, .fn 78 [.lpb 1 0])] Z Z Z Z Z Z Z Z (fun A hA d a9 => ?_) (fun d bj => ?_))
    .refine rs AA <| rl Z <| AB <| rs AA <| rn 1 Z <| sx Z (Al Z Z <| rl Z <| AH ?_)
     apply lp (a := d) (fun m : Int => ⟨19, [(0, ls 9 Ad k), (1, .fn 78 [.lpb 1 0]), (7, li (k.length : Int)), (8, li m)], [(0, bx (Bp b)), (1, bx (Ad q))], 2⟩) a9
     . exact wj hA [(0, 0), (1, 1)] Z Z Z Z
     intro m dx u
     unfold Lr at u
     refine rs AA <| rl Z <| AB <| cd Z u (fun ba => ?_) (fun bh => ?_)
     .refine AD <| AC <| AB <| AH <| rs AA <| rl Z <| rs AA <| rn 3 Z <| bq ba fun d5 al bb => sx Z (Aj al Z Z Z <| rn 1 Z <| bq bb fun d6 am bc => sx Z (AS (MI _ _ _ am) (.inl Z) Z Z (C9.eq (.cons (.one (.p _)) (.cons (.box Z (.cons (.p _) (.cons (.p _) (.cons (.p _) (.cons (.p _) (.cons (.p _) (.cons (.p _) (.cons (.p _) (.cons (.p _) (.cons (.p _) .nil)))))))))) .nil))) <| rl Z <| cd Z bc (fun be => ?_) (fun bg => ?_)))
      .refine rs AA <| rl Z <| AG <| AT <| AI <| A1 be fun dk bf => AT <| AI ?_
       have hr := Option.some.inj bf; subst hr
       exact Co (nt := 19) (sl := [(4, li m)]) (wj hA [(0, 0), (1, 1)] Z Z Z Z) Z
      exact AD <| Ai <| AC <| rg AA <| rl Z <| Av bg (wj hA [(0, 0), (1, 1)] Z Z Z Z)
     refine AU <| Ab <| BH bh fun dl bi => Ao <| AC <| rs AA <| rl Z <| AG ?_
     cases bi
     exact Co (nt := 19) (sl := [(4, li (-1))]) (wj hA [(0, 0), (1, 1)] Z Z Z Z) Z
    refine rl Z <| AG ?_
    cases bj
    exact Co (nt := 9) (sl := [(4, lb (decide (0 <= d)))]) (wj hA [(0, 0), (1, 1)] Z Z Z Z) Z
   refine rl Z <| cd Z bk (fun bl => ?_) (fun bn => ?_)
   .refine rs AA <| rl Z <| AG <| AT <| AI <| A1 bl fun dm bm => AT <| AI ?_
    cases bm
    exact er Z Le.rfl
   exact AD <| Ai <| AC <| rg AA <| rl Z <| Av bn (wf hA [(0, 0)] Z Z Z)
  refine AU <| Ab <| CW bo fun dn bp => Ao <| AC <| AB <| rs AA <| rn 3 Z ?_
  cases bp
 replace c := omS c
 refine rl Z <| AB <| rs AA <| rl Z <| cd Z c (fun br => ?_) (fun bs => ?_)
 .refine rs AA <| rl Z <| AG <| AI ?_
  cases br
  exact er Z Le.rfl
 refine AD <| AC <| AB <| rs AA <| rn 2 Z <| sx Z (Al Z Z <| rl Z <| cd Z bs (fun bt => ?_) (fun bu => ?_))
 .refine rs AA <| rl Z <| AG <| AI ?_
  cases bt
  exact er Z Le.rfl
 refine AD <| AC <| AB <| rs AA <| rn 2 Z <| sx Z (Al Z Z <| rl Z <| AH ?_)
 apply lp (a := r) (fun ac : Int => ⟨100, [(1, .lpb 0 0), (4, lq (A6 f)), (28, ls 9 Ad b.roads), (29, li (b.roads.length : Int)), (30, li ac)], [(0, bx (Bp b))], 1⟩) bu
 . exact wf hA [(0, 0)] Z Z Z
 intro ac dy v
 unfold FO at v
 refine rs AA <| rl Z <| AB <| cd Z v (fun bv => ?_) (fun b3 => ?_)
 .refine AD <| AC <| AB <| AH <| rs AA <| rn 1 Z <| bq bv fun d7 an bw => sx Z (Aj an Z Z Z <| rl Z <| rs AA <| rn 2 Z <| bq bw fun d8 ao bz => sx Z (AS (Xc _ _ _ ao) (.inl Z) Z Z Z <| rl Z <| cd Z bz (fun b0 => ?_) (fun b2 => ?_)))
  .refine rs AA <| rl Z <| AG <| AT <| AI <| A1 b0 fun dp b1 => AT <| AI ?_
   cases b1
   exact er Z Le.rfl
  exact AD <| Ai <| AC <| rg AA <| rl Z <| Av b2 (wf hA [(0, 0)] Z Z Z)
 refine AU <| Ab <| CW b3 fun af b4 => Ao <| AC <| AB <| rs AA <| rn 2 Z <| sx Z (Al Z Z <| rl Z <| AH ?_)
 apply lp (a := af) (fun ad : Int => ⟨100, [(1, .lpb 0 0), (4, lq (A6 f)), (42, ls 9 Ad b.roads), (43, li (b.roads.length : Int)), (44, li ad)], [(0, bx (Bp b))], 1⟩) b4
 . exact wf hA [(0, 0)] Z Z Z
 intro ad dz w
 unfold DZ at w
 refine rs AA <| rl Z <| AB <| cd Z w (fun b5 => ?_) (fun cp => ?_)
 .refine AD <| AC <| AB <| AH <| rs AA <| rn 1 Z <| bq b5 fun s aq b6 => sx Z (Aj aq Z Z Z <| rl Z <| rs AA <| rn 3 Z <| bq b6 fun l ar b7 => sx Z (Qr ar Z Z Z Z <| rn 1 Z <| sx Z (Cy AA (fun j : Bool => lb j) (fun j : Bool => [(0, bx (Bp b)), (1, bx (Ad s))]) 2 b7 Tryz.func77 9 [.tmp 4] [(0, ls 9 Ad l), (1, .fn 78 [.lpb 1 0])] Z Z Z Z Z Z Z Z (fun A hA j b9 => ?_) (fun j cl => ?_))))
  .refine rs AA <| rl Z <| rs AA <| rn 2 Z <| sx Z (Cy AA (fun e : Int => li e) (fun e : Int => [(0, bx (Bp b)), (1, bx (Ad s))]) 2 b9 Tryz.func136 19 [.tmp 4] [(0, ls 9 Ad l), (1, .fn 78 [.lpb 1 0])] Z Z Z Z Z Z Z Z (fun A hA e ca => ?_) (fun e ck => ?_))
   .refine rs AA <| rl Z <| AB <| rs AA <| rn 1 Z <| sx Z (Al Z Z <| rl Z <| AH ?_)
    apply lp (a := e) (fun n : Int => ⟨19, [(0, ls 9 Ad l), (1, .fn 78 [.lpb 1 0]), (7, li (l.length : Int)), (8, li n)], [(0, bx (Bp b)), (1, bx (Ad s))], 2⟩) ca
    . exact wj hA [(0, 0), (1, 1)] Z Z Z Z
    intro n d1 y
    unfold FN at y
    refine rs AA <| rl Z <| AB <| cd Z y (fun cb => ?_) (fun ci => ?_)
    .refine AD <| AC <| AB <| AH <| rs AA <| rl Z <| rs AA <| rn 3 Z <| bq cb fun d9 au cc => sx Z (Aj au Z Z Z <| rn 1 Z <| bq cc fun ea av ce => sx Z (AS (MI _ _ _ av) (.inl Z) Z Z (C9.eq (.cons (.one (.p _)) (.cons (.box Z (.cons (.p _) (.cons (.p _) (.cons (.p _) (.cons (.p _) (.cons (.p _) (.cons (.p _) (.cons (.p _) (.cons (.p _) (.cons (.p _) .nil)))))))))) .nil))) <| rl Z <| cd Z ce (fun cf => ?_) (fun ch => ?_)))
     .refine rs AA <| rl Z <| AG <| AT <| AI <| A1 cf fun dq cg => AT <| AI ?_
      have hr := Option.some.inj cg; subst hr
      exact Co (nt := 19) (sl := [(4, li n)]) (wj hA [(0, 0), (1, 1)] Z Z Z Z) Z
     exact AD <| Ai <| AC <| rg AA <| rl Z <| Av ch (wj hA [(0, 0), (1, 1)] Z Z Z Z)
    refine AU <| Ab <| BH ci fun dr cj => Ao <| AC <| rs AA <| rl Z <| AG ?_
    cases cj
    exact Co (nt := 19) (sl := [(4, li (-1))]) (wj hA [(0, 0), (1, 1)] Z Z Z Z) Z
   refine rl Z <| AG ?_
   cases ck
   exact Co (nt := 9) (sl := [(4, lb (decide (0 <= e)))]) (wj hA [(0, 0), (1, 1)] Z Z Z Z) Z
  refine rl Z <| cd Z cl (fun cm => ?_) (fun co => ?_)
  .refine rs AA <| rl Z <| AG <| AT <| AI <| A1 cm fun ds cn => AT <| AI ?_
   cases cn
   exact er Z Le.rfl
  exact AD <| Ai <| AC <| rg AA <| rl Z <| Av co (wf hA [(0, 0)] Z Z Z)
 refine AU <| Ab <| CW cp fun ag cq => Ao <| AC <| AB <| rs AA <| rn 3 Z <| bq cq fun eb aw cr => sx Z (AS (TE _ _ _ aw) (.inl Z) Z Z Z <| rl Z <| rs AA <| rl Z <| cd Z cr (fun cs => ?_) (fun ct => ?_))
 .refine rs AA <| rl Z <| AG <| AI ?_
  cases cs
  exact er Z Le.rfl
 refine AD <| AC <| AB <| rs AA <| rn 2 Z <| sx Z (Al Z Z <| rl Z <| AH ?_)
 apply lp (a := ag) (fun g : Int => ⟨100, [(1, .lpb 0 0), (4, lq (A6 f)), (65, ls 9 Ad b.roads), (66, li (b.roads.length : Int)), (67, li g)], [(0, bx (Bp b))], 1⟩) ct
 . exact wf hA [(0, 0)] Z Z Z
 intro g d2 z
 unfold D2 at z
 refine rs AA <| rl Z <| AB <| cd Z z (fun cu => ?_) (fun c4 => ?_)
 .refine AD <| AC <| AB <| AH <| rs AA <| rn 1 Z <| bq cu fun ec ax cv => sx Z (Aj ax Z Z Z <| rl Z <| jb (fun o : Bool => ⟨100, [(1, .lpb 0 0), (4, lq (A6 f)), (11, li g), (65, ls 9 Ad b.roads), (66, li (b.roads.length : Int)), (67, li g), (80, lb o)], [(0, bx (Bp b))], 1⟩) cv (fun o cw => ?_) (fun o c0 => ?_))
  .refine rg AA <| rn 4 Z <| gs 75 cw Z Z Z (fun cx => ?_) (fun cz => ?_)
   .exact rn 2 Z <| bq cx fun ed ay cy => sx Z (AS (Q9 _ _ _ ay) (.inl Z) Z Z Z <| rl Z <| AN cy (wf hA [(0, 0)] Z Z Z))
   exact rl Z <| AN cz (wf hA [(0, 0)] Z Z Z)
  refine cd Z c0 (fun c1 => ?_) (fun c3 => ?_)
  .refine rs AA <| rl Z <| AG <| AT <| AI <| A1 c1 fun dt c2 => AT <| AI ?_
   cases c2
   exact er Z Le.rfl
  exact AD <| Ai <| AC <| rg AA <| rl Z <| Av c3 (wf hA [(0, 0)] Z Z Z)
 refine AU <| Ab <| CW c4 fun ah c5 => Ao <| AC <| AB <| rs AA <| rn 2 Z <| sx Z (Al Z Z <| rl Z <| AH ?_)
 apply lp (a := ah) (fun ae : Int => ⟨100, [(4, lq (A6 f)), (84, ls 9 Ad b.roads), (85, li (b.roads.length : Int)), (86, li ae)], [], 0⟩) c5
 . exact wf hA [] Z Z Z
 intro ae d3 aa
 unfold D1 at aa
 refine rs AA <| rl Z <| AB <| cd Z aa (fun c6 => ?_) (fun dc => ?_)
 .refine AD <| AC <| AB <| AH <| rs AA <| rn 1 Z <| bq c6 fun ee az c7 => sx Z (Aj az Z Z Z <| rl Z <| AB ?_)
  refine Bi AA Az [0, 1, 2, 3, 4, 5, 6] 7 (by kernel_rfl) Z Z Z ?_
  refine Am 4 Z <| bq c7 fun ef a0 c8 => An Z (BA (Q7 _ _ _ a0) (.inr Z) Z Z Z <| A0 Z <| AC <| cd Z c8 (fun c9 => ?_) (fun db => ?_))
  .refine rs AA <| rl Z <| AG <| AT <| AI <| A1 c9 fun du da => AT <| AI ?_
   cases da
   exact er Z Le.rfl
  exact AD <| Ai <| AC <| rg AA <| rl Z <| Av db (wf hA [] Z Z Z)
 refine AU <| Ab <| BH dc fun dv dd => Ao <| AC <| rs AA <| rl Z <| AG ?_
 cases dd
 exact er Z Le.rfl
noncomputable def KN : Option Bool :=
 (Ng).bind fun g => (Kx g).bind fun a => ((bif (a.2 != 0) then some true else some ((a.1.roads.length : Int) != 6) : Option (Bool))).bind fun (d : Bool) => bif d then some false else (DS a.1).bind fun b => (JU a.1.roads 0 5).bind fun f => (DS (⟨a.1.plan, f⟩ : CG)).bind fun c => ((bif (b.1 == 0) then bif (b.2 == (-1)) then bif (c.1 == 5) then some (c.2 == 4) else some false else some false else some false : Option (Bool))).bind fun (e : Bool) => some e
theorem VJ (r : Bool) (h : KN = some r) : A4 Tryz.prog 28 [] (· = .bool r) := by
 refine fn AA Tryz.func28 Z Z 48 Z [.tmp 0] Z [] Z Z fun A hA => ?_
 unfold KN at h
 refine rs AA <| rl Z <| rs AA <| bq h fun ag f aa => sx Z (AS (Wi _ f) (.inr Z) Z Z Z <| bq aa fun ac g ab => sx Z (AS (TD _ _ g) (.inr Z) Z Z Z <| rl Z <| AB <| jb (fun a : Bool => ⟨48, [(1, .lpb 0 0), (19, lb a)], [(0, bx (Bp ac.1))], 1⟩) ab (fun a i => ?_) (fun a l => ?_)))
 .refine rg AA <| rn 3 Z <| gs 14 i Z Z Z (fun j => ?_) (fun k => ?_)
  .exact rl Z <| AN j (wf hA [(0, 0)] Z Z Z)
  exact rn 2 Z <| sx Z (Al Z Z <| rl Z <| AN k (wf hA [(0, 0)] Z Z Z))
 refine cd Z l (fun m => ?_) (fun n => ?_)
 .refine rs AA <| rl Z <| AG <| AI ?_
  cases m
  exact er Z Le.rfl
 refine AD <| AC <| rs AA <| rn 1 Z <| bq n fun ad c o => sx Z (AS (Ky _ _ c) (.inl Z) Z Z Z <| rl Z <| rs AA <| rn 2 Z <| bq o fun ae d p => sx Z (Qr d Z Z Z Z <| rl Z <| rs AA <| rn 1 Z <| bq p fun af e q => sx Z (AS (Ky _ _ e) (.inl Z) Z Z Z <| rl Z <| jb (fun b : Bool => ⟨48, [(0, lb b)], [], 0⟩) q (fun b s => ?_) (fun b z => ?_))))
 .refine rg AA <| rn 3 Z <| gs 36 s Z Z Z (fun t => ?_) (fun y => ?_)
  .refine rn 4 Z <| gs 40 t Z Z Z (fun u => ?_) (fun x => ?_)
   .refine rn 4 Z <| gs 44 u Z Z Z (fun v => ?_) (fun w => ?_)
    .exact rl Z <| AN v (wf hA [] Z Z Z)
    exact rl Z <| AN w (wf hA [] Z Z Z)
   exact rl Z <| AN x (wf hA [] Z Z Z)
  exact rl Z <| AN y (wf hA [] Z Z Z)
 refine AG ?_
 have hr := Option.some.inj z; subst hr
 exact er Z Le.rfl
noncomputable def Jd (a : AW) : Option Bool :=
 ((bif decide ((a.steps.length : Int) <= 40) then bif decide ((a.needs.length : Int) <= 40) then bif decide ((a.guards.length : Int) <= 40) then bif decide ((a.zone.length : Int) <= 60) then some (decide ((a.holds.length : Int) <= 60)) else some false else some false else some false else some false : Option (Bool))).bind fun (b : Bool) => some b
theorem Wm (b : AW) (r : Bool) (h : Jd b = some r) : A4 Tryz.prog 67 [.agg (Ad b)] (· = .bool r) := by
 refine fn AA Tryz.func67 Z Z 31 Z [.tmp 2] Z [(0, .p (.agg (Ad b)))] Z Z fun A hA => ?_
 unfold Jd at h
 refine rs AA <| rl Z <| jb (fun a : Bool => ⟨31, [(2, lb a)], [], 0⟩) h (fun a c => ?_) (fun a m => ?_)
 .refine rg AA <| rn 2 Z <| sx Z (Al Z Z <| rn 2 Z <| gs 7 c Z Z Z (fun d => ?_) (fun l => ?_))
  .refine rn 2 Z <| sx Z (Al Z Z <| rn 3 Z <| gs 13 d Z Z Z (fun e => ?_) (fun k => ?_))
   .refine rn 2 Z <| sx Z (Al Z Z <| rn 3 Z <| gs 19 e Z Z Z (fun f => ?_) (fun j => ?_))
    .refine rn 2 Z <| sx Z (Al Z Z <| rn 3 Z <| gs 25 f Z Z Z (fun g => ?_) (fun i => ?_))
     .exact rn 2 Z <| sx Z (Al Z Z <| rl Z <| AN g (wf hA [] Z Z Z))
     exact rl Z <| AN i (wf hA [] Z Z Z)
    exact rl Z <| AN j (wf hA [] Z Z Z)
   exact rl Z <| AN k (wf hA [] Z Z Z)
  exact rl Z <| AN l (wf hA [] Z Z Z)
 refine AG ?_
 have hr := Option.some.inj m; subst hr
 exact er Z Le.rfl
noncomputable def E6 (b : (List AW)) (a : Int) : Option (Int ⊕ Bool) :=
 bif decide (a < (b.length : Int)) then (Ak b a).bind fun c => (Jd c).bind fun d => bif (!d) then some (.inr false) else some (.inl (AQ (a + 1))) else some (.inr true)
noncomputable def Im (a : (List AW)) : Option Bool :=
 bif decide (100 < (a.length : Int)) then some false else AO (E6 a) 0
theorem VK (b : (List AW)) (r : Bool) (h : Im b = some r) : A4 Tryz.prog 76 [.slice 9 (b.map Ad)] (· = .bool r) := by
 refine fn AA Tryz.func76 Z Z 19 Z [.tmp 2] Z [(0, .p (.slice 9 (b.map Ad)))] Z Z fun A hA => ?_
 unfold Im at h
 refine rs AA <| rl Z <| AB <| rs AA <| rn 1 Z <| sx Z (Al Z Z <| rl Z <| cd Z h (fun q => ?_) (fun s => ?_))
 .refine rs AA <| rl Z <| AG <| AI ?_
  cases q
  exact er Z Le.rfl
 refine AD <| AC <| AB <| rs AA <| rl Z <| AH ?_
 apply lp (a := r) (fun d : Int => ⟨19, [(0, ls 9 Ad b), (3, li d)], [], 0⟩) s
 . exact wf hA [] Z Z Z
 intro d v c
 unfold E6 at c
 refine AB <| rs AA <| rn 2 Z <| sx Z (Al Z Z <| rl Z <| cd Z c (fun g => ?_) (fun n => ?_))
 .refine AD <| AC <| AB <| AH <| rs AA <| rn 2 Z <| bq g fun w e i => sx Z (Aj e Z Z Z <| rn 1 Z <| bq i fun x f j => sx Z (AS (Wm _ _ f) (.inl Z) Z Z Z <| rl Z <| cd Z j (fun k => ?_) (fun m => ?_)))
  .refine rs AA <| rl Z <| AG <| AT <| AI <| A1 k fun t l => AT <| AI ?_
   cases l
   exact er Z Le.rfl
  exact AD <| Ai <| AC <| rg AA <| rl Z <| Av m (wf hA [] Z Z Z)
 refine AU <| Ab <| BH n fun u o => Ao <| AC <| rs AA <| rl Z <| AG ?_
 cases o
 exact er Z Le.rfl
noncomputable def Je (a : CG) : Option Bool :=
 (((Lj a.plan).bind fun d => bif d then (Im a.roads).bind fun c => some c else some false : Option (Bool))).bind fun (b : Bool) => some b
theorem UI (b : CG) (r : Bool) (h : Je b = some r) : A4 Tryz.prog 29 [.agg (Bp b)] (· = .bool r) := by
 refine fn AA Tryz.func29 Z Z 11 Z [.tmp 2] Z [(0, .p (.agg (Bp b)))] Z Z fun A hA => ?_
 unfold Je at h
 refine rs AA <| rl Z <| jb (fun a : Bool => ⟨11, [(2, lb a)], [], 0⟩) h (fun a k => ?_) (fun a j => ?_)
 .refine rg AA <| rn 2 Z <| bq k fun m d e => sx Z (AS (YV _ _ d) (.inl Z) Z Z Z <| rn 1 Z <| gs 6 e Z Z Z (fun f => ?_) (fun i => ?_))
  .exact rn 2 Z <| bq f fun l c g => sx Z (AS (VK _ _ c) (.inl Z) Z Z Z <| rl Z <| AN g (wf hA [] Z Z Z))
  exact rl Z <| AN i (wf hA [] Z Z Z)
 refine AG ?_
 have hr := Option.some.inj j; subst hr
 exact er Z Le.rfl
noncomputable def Ch (d : AM) (b : (List AV)) (a : Int × (List Int) × Int × Int) : Option ((Int × (List Int) × Int × Int) ⊕ Bool) :=
 bif decide (a.1 < (b.length : Int)) then (CK d (⟨a.2.2.1, a.2.2.2⟩ : AF)).bind fun c => ((bif (!c.2) then some true else (Ak b a.1).bind fun f => bif (c.1.elem != f.elem) then some true else (Ak b a.1).bind fun g => bif (c.1.fin != g.in_) then some true else (Ak b a.1).bind fun h => (C0 a.2.1 h.elem).bind fun i => bif i then some true else bif decide (0 < a.1) then (Dl d (⟨a.2.2.1, a.2.2.2⟩ : AF)).bind fun j => some (decide (0 <= j)) else some false : Option (Bool))).bind fun (e : Bool) => bif e then some (.inr false) else (Ak b a.1).bind fun k => (BE a.2.1 [k.elem]).bind fun l => (Ak b a.1).bind fun m => (Ak b a.1).bind fun n => some (.inl (AQ (a.1 + 1), l, m.elem, n.out)) else some (.inr true)
noncomputable def Jf (b : AM) (a : AF) (c : (List AV)) : Option Bool :=
 AO (Ch b c) (0, [a.elem], a.elem, a.fin)
theorem UJ (c : AM) (f : AF) (d : (List AV)) (r : Bool) (h : Jf c f d = some r) : A4 Tryz.prog 193 [.agg (Aa c), .agg (AK f), .slice 3 (d.map Af)] (· = .bool r) := by
 refine fn AA Tryz.func193 Z Z 88 Z [.tmp 6] Z [(0, .p (.agg (Aa c))), (1, .p (.agg (AK f))), (2, .p (.slice 3 (d.map Af)))] Z Z fun A hA => ?_
 unfold Jf at h
 refine rs AA <| rl Z <| rs AA <| rl Z <| rs AA <| rl Z <| AB <| rs AA <| rl Z <| AH ?_
 apply lp (a := r) (fun b : (Int × (List Int) × Int × Int) => ⟨88, [(2, ls 3 Af d), (3, .lpb 0 0), (7, .lsl 1 1 0 b.2.1.length), (8, .lpb 2 0), (9, li b.1)], [(0, bx (Aa c)), (1, .row 3 1 (b.2.1.map AY)), (2, .box [li b.2.2.1, li b.2.2.2])], 3⟩) h
 . exact wf hA [(0, 0), (1, 2), (2, 3)] Z Z Z
 intro b a3 g
 unfold Ch at g
 refine AB <| rs AA <| rn 2 Z <| sx Z (Al Z Z <| rl Z <| cd Z g (fun w => ?_) (fun ay => ?_))
 .refine AD <| AC <| AB <| AH <| rs AA <| rn 2 Z <| bq w fun a4 i x => sx Z (AS (Cs _ _ _ i) (.inl Z) Z Z Z <| rl Z <| AB <| jb (fun e : Bool => ⟨88, [(2, ls 3 Af d), (3, .lpb 0 0), (7, .lsl 1 1 0 b.2.1.length), (8, .lpb 2 0), (9, li b.1), (68, lb e)], [(0, bx (Aa c)), (1, .row 3 1 (b.2.1.map AY)), (2, .box [li b.2.2.1, li b.2.2.2])], 3⟩) x (fun e y => ?_) (fun e ao => ?_))
  .refine Bi AA Az [0, 1, 2, 3, 4, 5, 6, 7, 8, 9, 10, 11, 12, 13, 14, 15, 16, 17, 18, 19, 20, 21, 22, 23, 24, 25, 26, 27, 28, 29, 30, 31, 32, 33, 34, 35, 36, 37, 38, 39, 40] 41 (by kernel_rfl) Z Z Z ?_
   refine Am 3 Z <| Dk 30 y Z Z Z (fun z => ?_) (fun aa => ?_)
   .exact A0 Z <| AN z (wf hA (gi 3 []) Z Z Z)
   refine Am 4 Z <| bq aa fun a5 j ab => An Z (AZ Z (Aj j Z Z Z <| Am 5 Z <| Dk 40 ab Z Z Z (fun ac => ?_) (fun ad => ?_)))
   .exact A0 Z <| AN ac (wf hA (gi 3 []) Z Z Z)
   refine Am 4 Z <| bq ad fun a6 k ae => An Z (AZ Z (Aj k Z Z Z <| Am 5 Z <| Dk 50 ae Z Z Z (fun af => ?_) (fun ag => ?_)))
   .exact A0 Z <| AN af (wf hA (gi 3 []) Z Z Z)
   refine Am 3 Z <| bq ag fun a7 n ah => An Z (AZ Z (Aj n Z Z Z <| Am 2 Z <| bq ah fun a8 o ai => An Z (BA (Ha _ _ _ o) (.inl Z) Z Z (C9.eq (.cons (.one (.own (enc := AY) b.2.1 Z Z)) (.cons (.one (.p _)) .nil))) <| Am 2 Z <| Dk 59 ai Z Z Z (fun aj => ?_) (fun ak => ?_))))
   .exact A0 Z <| AN aj (wf hA (gi 3 []) Z Z Z)
   refine Am 3 Z <| Dk 62 ak Z Z Z (fun al => ?_) (fun an => ?_)
   .exact Am 2 Z <| bq al fun a9 q am => An Z (BA (G1 _ _ _ q) (.inl Z) Z Z Z <| A0 Z <| AN am (wf hA (gi 3 []) Z Z Z))
   exact A0 Z <| AN an (wf hA (gi 3 []) Z Z Z)
  refine cd Z ao (fun ap => ?_) (fun ar => ?_)
  .refine rs AA <| rl Z <| AG <| AI <| AT <| AI <| A1 ap fun a1 aq => AT <| AI ?_
   cases aq
   exact er Z Le.rfl
  refine AD <| AC <| rs AA <| rn 3 Z <| bq ar fun a0 s au => sx Z (Aj s Z Z Z <| rn 3 Z <| bq au fun ba t av => sx Z (Ax (enc := AY) (l := b.2.1) (m := [a0.elem]) t (fun _ => ⟨Z, Z⟩) Z Z Z Z Z Z <| rl Z ?_))
  refine Bi AA Az [0, 1, 2, 3, 4, 5, 6, 7, 8, 9, 10, 11] 12 (by kernel_rfl) Z Z Z ?_
  exact Am 2 Z <| bq av fun bb u aw => An Z (AZ Z (Aj u Z Z Z <| Am 4 Z <| bq aw fun bc v ax => An Z (AZ Z (Aj v Z Z Z <| A0 Z <| Ai <| AC <| rg AA <| rl Z <| Av ax (wf hA [(0, 0), (1, 4), (2, 2)] Z Z Z)))))
 refine AU <| Ab <| BH ay fun a2 az => Ao <| AC <| rs AA <| rl Z <| AG ?_
 cases az
 exact er Z Le.rfl
end Go.E
/- Plain functions, and walks in step with them. Written by a program (gen.py). No condition. -/
set_option maxRecDepth 100000
namespace Go.E
open Go Go.RowKit Go.Proofs
noncomputable def D3 (g : AM) (c : (List AV)) (b : (Int × (List AJ))) (d : (List BO)) (a : Bool × Int × (List AJ)) : Option ((Bool × Int × (List AJ)) ⊕ ((Int × (List AJ)) ⊕ ((List AJ) × Bool))) :=
 bif decide (a.2.1 < (d.length : Int)) then (((Ak d a.2.1).bind fun h => (Ak c b.1).bind fun i => bif (h.out != i.out) then some (a.1, a.2.2) else (Ak d a.2.1).bind fun j => bif (j.pos != 0) then (Ak c b.1).bind fun k => (Ak d a.2.1).bind fun l => (BE a.2.2 [(⟨k.elem, l.pos⟩ : AJ)]).bind fun m => some (true, m) else some (true, a.2.2) : Option (Bool × (List AJ)))).bind fun (e : Bool × (List AJ)) => some (.inl (e.1, AQ (a.2.1 + 1), e.2)) else (((bif (!a.1) then (Ak c b.1).bind fun n => (Ea g n.elem).bind fun o => bif (o != 4) then some true else (Ak c b.1).bind fun p => bif (p.in_ != 0) then some true else (Ak c b.1).bind fun q => bif (q.out != (-1)) then some true else some (b.1 != (AQ ((c.length : Int) - 1))) else some false : Option (Bool))).bind fun (f : Bool) => bif f then some (.inr ([], false)) else some (.inl (AQ (b.1 + 1), a.2.2))).map .inr
noncomputable def E7 (c : AM) (b : (List AV)) (a : Int × (List AJ)) : Option ((Int × (List AJ)) ⊕ ((List AJ) × Bool)) :=
 bif decide (a.1 < (b.length : Int)) then (Ak b a.1).bind fun d => (Ak b a.1).bind fun e => (H3 c d.elem e.in_).bind fun f => AO (D3 c b a f) (false, 0, a.2) else some (.inr (a.2, true))
noncomputable def KO (a : AM) (b : (List AV)) : Option ((List AJ) × Bool) :=
 AO (E7 a b) (0, ([] : List AJ))
theorem VL (d : AM) (e : (List AV)) (r : ((List AJ) × Bool)) (h : KO d e = some r) : A4 Tryz.prog 194 [.agg (Aa d), .slice 3 (e.map Af)] (· = .tup [.slice 2 (r.1.map AR), .bool r.2]) := by
 refine fn AA Tryz.func194 Z Z 102 Z [.tmp 4, .tmp 5] Z [(0, .p (.agg (Aa d))), (1, .p (.slice 3 (e.map Af)))] Z Z fun A hA => ?_
 unfold KO at h
 refine rs AA <| rl Z <| rs AA <| rl Z <| AB <| rs AA <| rl Z <| AH ?_
 apply lp (a := r) (fun c : (Int × (List AJ)) => ⟨102, [(1, ls 3 Af e), (2, .lpb 0 0), (6, .lsl 1 2 0 c.2.length), (7, li c.1)], [(0, bx (Aa d)), (1, .row 91 2 (c.2.map AR))], 2⟩) h
 . exact A9.trans (By 6 91 2 Z) (wf hA [(0, 0), (1, 1)] Z Z Z)
 intro c n i
 unfold E7 at i
 refine AB <| rs AA <| rn 2 Z <| sx Z (Al Z Z <| rl Z <| cd Z i (fun ad => ?_) (fun bg => ?_))
 .refine AD <| AC <| AB <| AH <| AB ?_
  refine Bi AA Az [0, 1, 2, 3, 4, 5, 6, 7, 8, 9, 10, 11, 12] 13 (by kernel_rfl) Z Z Z ?_
  refine Am 3 Z <| bq ad fun bo o ae => An Z (AZ Z (Aj o Z Z Z <| Am 4 Z <| bq ae fun bp q af => An Z (AZ Z (Aj q Z Z Z <| Am 2 Z <| bq af fun k s ag => An Z (BA (Ov _ _ _ _ s) (.inr Z) Z Z Z <| A0 Z <| AC <| rs AA <| rl Z <| AB <| rs AA <| rl Z <| AH ?_)))))
  apply lp (a := n) (fun b : (Bool × Int × (List AJ)) => ⟨102, [(1, ls 3 Af e), (2, .lpb 0 0), (6, .lsl 1 2 0 b.2.2.length), (7, li c.1), (8, ls 2 CR k), (9, lb b.1), (10, li b.2.1)], [(0, bx (Aa d)), (1, .row 91 2 (b.2.2.map AR))], 2⟩) ag
  . exact wf hA [(0, 0), (1, 1)] Z Z Z
  intro b bn j
  unfold D3 at j
  refine AB <| rs AA <| rn 2 Z <| sx Z (Al Z Z <| rl Z <| cd Z j (fun ah => ?_) (fun aw => ?_))
  .refine AD <| AC <| jb (fun f : (Bool × (List AJ)) => ⟨102, [(1, ls 3 Af e), (2, .lpb 0 0), (6, .lsl 1 2 0 f.2.length), (7, li c.1), (8, ls 2 CR k), (9, lb f.1), (10, li b.2.1)], [(0, bx (Aa d)), (1, .row 91 2 (f.2.map AR))], 2⟩) ah (fun f ai => ?_) (fun f av => ?_)
   .refine AH <| AB <| AB ?_
    refine Bi AA Az [0, 1, 2, 3, 4, 5, 6, 7, 8, 9, 10] 11 (by kernel_rfl) Z Z Z ?_
    refine Am 2 Z <| bq ai fun br t aj => An Z (AZ Z (Aj t Z Z Z <| Am 4 Z <| bq aj fun bs u ak => An Z (AZ Z (Aj u Z Z Z <| A0 Z <| AC <| cd Z ak (fun al => ?_) (fun am => ?_)))))
    .exact AU <| Ab <| Ao <| AN al (wf hA [(0, 0), (1, 1)] Z Z Z)
    refine AD <| AC <| rs AA <| rl Z <| rs AA <| rn 2 Z <| bq am fun bt v an => sx Z (Aj v Z Z Z <| rl Z <| cd Z an (fun ao => ?_) (fun au => ?_))
    .refine Bi AA Az [0, 1, 2, 3, 4, 5, 6, 7, 8, 9, 10, 11, 12, 13, 14] 15 (by kernel_rfl) Z Z Z ?_
     exact Am 3 Z <| bq ao fun bi w ap => An Z (AZ Z (Aj w Z Z Z <| Am 4 Z <| bq ap fun bj x aq => An Z (AZ Z (Aj x Z Z Z <| Am 4 Z <| bq aq fun bu y ar => An Z (BY (Ax (enc := AR) (l := b.2.2) (m := [(⟨bi.elem, bj.pos⟩ : AJ)]) y (fun _ => ⟨Z, Z⟩) Z Z Z Z Z Z <| A0 Z <| Ai <| AN ar (wf hA [(0, 0), (1, 26)] Z Z Z)))))))
    exact AD <| Ai <| AN au (wf hA [(0, 0), (1, 1)] Z Z Z)
   exact rg AA <| rl Z <| Av av (wf hA [(0, 0), (1, 1)] Z Z Z)
  refine AU <| Ab <| CW aw fun bk ax => Ao <| AC <| jb (fun g : Bool => ⟨102, [(1, ls 3 Af e), (2, .lpb 0 0), (6, .lsl 1 2 0 b.2.2.length), (7, li c.1), (100, lb g)], [(0, bx (Aa d)), (1, .row 91 2 (b.2.2.map AR))], 2⟩) ax (fun g ay => ?_) (fun g bb => ?_)
  .refine Bi AA Az [0, 1, 2, 3, 4, 5, 6, 7, 8, 9, 10, 11, 12, 13, 14, 15, 16, 17, 18, 19, 20, 21, 22, 23, 24, 25, 26, 27, 28, 29, 30, 31, 32, 33, 34] 35 (by kernel_rfl) Z Z Z ?_
   refine Am 3 Z <| Dk 68 ay Z Z Z (fun az => ?_) (fun ba => ?_)
   .refine Am 3 Z <| bq az fun bv z a0 => An Z (AZ Z (Aj z Z Z Z <| Am 2 Z <| bq a0 fun bw aa a1 => An Z (BA (H4 _ _ _ aa) (.inl Z) Z Z Z <| Am 2 Z <| Dk 77 a1 Z Z Z (fun a2 => ?_) (fun a3 => ?_))))
    .exact A0 Z <| AN a2 (wf hA [(0, 0), (1, 1)] Z Z Z)
    refine Am 2 Z <| bq a3 fun bz ab a4 => An Z (AZ Z (Aj ab Z Z Z <| Am 5 Z <| Dk 85 a4 Z Z Z (fun a5 => ?_) (fun a6 => ?_)))
    .exact A0 Z <| AN a5 (wf hA [(0, 0), (1, 1)] Z Z Z)
    refine Am 2 Z <| bq a6 fun b0 ac a7 => An Z (AZ Z (Aj ac Z Z Z <| Am 5 Z <| Dk 93 a7 Z Z Z (fun a8 => ?_) (fun a9 => ?_)))
    .exact A0 Z <| AN a8 (wf hA [(0, 0), (1, 1)] Z Z Z)
    exact Am 2 Z <| An Z (Og Z Z <| A0 Z <| AN a9 (wf hA [(0, 0), (1, 1)] Z Z Z))
   exact A0 Z <| AN ba (wf hA [(0, 0), (1, 1)] Z Z Z)
  refine cd Z bb (fun bc => ?_) (fun bf => ?_)
  .refine rs AA <| rl Z <| AG <| AT <| AI <| A1 bc fun bl be => AT <| AI ?_
   cases be
   exact er Z (Le.tup' (.cons (Le.nil _) (.cons Le.rfl .nil)))
  exact AD <| Ai <| AC <| rg AA <| rl Z <| Av bf (wf hA [(0, 0), (1, 1)] Z Z Z)
 refine AU <| Ab <| BH bg fun bm bh => Ao <| AC <| rs AA <| rl Z <| AG ?_
 cases bh
 exact er (SY Z (.cons (.one (.own (enc := AR) c.2 Z Z)) (.cons (.one (.p _)) .nil))) Le.rfl
noncomputable def H5 (b : (List AJ)) (c : (List AJ)) (a : Int) : Option (Int ⊕ Bool) :=
 bif decide (a < (b.length : Int)) then (Ak b a).bind fun d => (Ak c a).bind fun e => bif (!(d == e)) then some (.inr false) else some (.inl (AQ (a + 1))) else some (.inr true)
noncomputable def Fw (a : (List AJ)) (b : (List AJ)) : Option Bool :=
 bif ((a.length : Int) != (b.length : Int)) then some false else AO (H5 a b) 0
theorem RB (b : (List AJ)) (c : (List AJ)) (r : Bool) (h : Fw b c = some r) : A4 Tryz.prog 195 [.slice 2 (b.map AR), .slice 2 (c.map AR)] (· = .bool r) := by
 refine fn AA Tryz.func195 Z Z 26 Z [.tmp 4] Z [(0, .p (.slice 2 (b.map AR))), (1, .p (.slice 2 (c.map AR)))] Z Z fun A hA => ?_
 unfold Fw at h
 refine rs AA <| rl Z <| AB <| rs AA <| rn 1 Z <| sx Z (Al Z Z <| rn 1 Z <| sx Z (Al Z Z <| rl Z <| cd Z h (fun s => ?_) (fun t => ?_)))
 .refine rs AA <| rl Z <| AG <| AI ?_
  cases s
  exact er Z Le.rfl
 refine AD <| AC <| AB <| rs AA <| rl Z <| AH ?_
 apply lp (a := r) (fun e : Int => ⟨26, [(0, ls 2 AR b), (1, ls 2 AR c), (5, li e)], [], 0⟩) t
 . exact wf hA [] Z Z Z
 intro e y d
 unfold H5 at d
 refine AB <| rs AA <| rn 2 Z <| sx Z (Al Z Z <| rl Z <| cd Z d (fun i => ?_) (fun o => ?_))
 .refine AD <| AC <| AB <| AH <| AB ?_
  refine Bi AA Az [0, 1, 2, 3, 4, 5, 6, 7, 8] 9 (by kernel_rfl) Z Z Z ?_
  refine Am 2 Z <| bq i fun u f j => An Z (AZ Z (Aj f Z Z Z <| Am 3 Z <| bq j fun v g k => An Z (AZ Z (Aj g Z Z Z <| Am 1 Z <| An Z (Qt (Nk u v) Z Z Z Z Z <| A0 Z <| AC <| cd Z k (fun l => ?_) (fun n => ?_))))))
  .refine rs AA <| rl Z <| AG <| AT <| AI <| A1 l fun w m => AT <| AI ?_
   cases m
   exact er Z Le.rfl
  exact AD <| Ai <| AC <| rg AA <| rl Z <| Av n (wf hA [] Z Z Z)
 refine AU <| Ab <| BH o fun x q => Ao <| AC <| rs AA <| rl Z <| AG ?_
 cases q
 exact er Z Le.rfl
noncomputable def Lu (b : AM) (a : AW) : Option Bool :=
 (JH b a.frm).bind fun e => ((bif (!e.2) then some true else bif decide ((a.steps.length : Int) < 1) then some true else bif decide (12 < (a.steps.length : Int)) then some true else (Jf b e.1 a.steps).bind fun m => some (!m) : Option (Bool))).bind fun (i : Bool) => bif i then some false else (KO b a.steps).bind fun f => ((bif (!f.2) then some true else (Fw f.1 a.needs).bind fun n => some (!n) : Option (Bool))).bind fun (j : Bool) => bif j then some false else (Ak a.steps (AQ ((a.steps.length : Int) - 1))).bind fun c => bif decide (c.out < 0) then ((bif (a.fin == 2) then some (a.to == (-1)) else some false : Option (Bool))).bind fun (k : Bool) => some k else (Dl b (⟨c.elem, c.out⟩ : AF)).bind fun d => bif decide (0 <= d) then ((bif (a.fin == 1) then some (a.to == d) else some false : Option (Bool))).bind fun (g : Bool) => some g else (CK b (⟨c.elem, c.out⟩ : AF)).bind fun l => ((bif (!l.2) then bif (a.fin == 3) then some (a.to == (-1)) else some false else some false : Option (Bool))).bind fun (h : Bool) => some h
theorem YY (a : AM) (b : AW) (r : Bool) (h : Lu a b = some r) : A4 Tryz.prog 140 [.agg (Aa a), .agg (Ad b)] (· = .bool r) := by
 refine fn AA Tryz.func140 Z Z 115 Z [.tmp 4] Z [(0, .p (.agg (Aa a))), (1, .p (.agg (Ad b)))] Z Z fun A hA => ?_
 unfold Lu at h
 refine rs AA <| rl Z <| rs AA <| rn 3 Z <| bq h fun ba k ak => sx Z (AS (R3 _ _ _ k) (.inl Z) Z Z Z <| rl Z <| AB <| jb (fun e : Bool => ⟨115, [(2, .lpb 0 0), (3, .lpb 1 0), (42, lb e)], [(0, bx (Aa a)), (1, bx (Ad b))], 2⟩) ak (fun e af => ?_) (fun e ao => ?_))
 .refine rg AA <| rn 3 Z <| gs 23 af Z Z Z (fun ag => ?_) (fun ah => ?_)
  .exact rl Z <| AN ag (wf hA [(0, 0), (1, 1)] Z Z Z)
  refine rn 2 Z <| sx Z (Al Z Z <| rn 3 Z <| gs 29 ah Z Z Z (fun ai => ?_) (fun aj => ?_))
  .exact rl Z <| AN ai (wf hA [(0, 0), (1, 1)] Z Z Z)
  refine rn 2 Z <| sx Z (Al Z Z <| rn 3 Z <| gs 35 aj Z Z Z (fun al => ?_) (fun am => ?_))
  .exact rl Z <| AN al (wf hA [(0, 0), (1, 1)] Z Z Z)
  exact rn 4 Z <| bq am fun bb l an => sx Z (AS (UJ _ _ _ _ l) (.inl Z) Z Z Z <| rl Z <| AN an (wf hA [(0, 0), (1, 1)] Z Z Z))
 refine cd Z ao (fun ap => ?_) (fun aq => ?_)
 .refine rs AA <| rl Z <| AG <| AI ?_
  cases ap
  exact er Z Le.rfl
 refine AD <| AC <| rs AA <| rn 3 Z <| bq aq fun bc m ar => sx Z (AS (VL _ _ _ m) (.inr Z) Z Z Z <| rl Z <| AB <| jb (fun f : Bool => ⟨115, [(2, .lpb 0 0), (3, .lpb 1 0), (58, lb f)], [(0, bx (Aa a)), (1, bx (Ad b))], 2⟩) ar (fun f au => ?_) (fun f ay => ?_))
 .refine rg AA <| rn 3 Z <| gs 52 au Z Z Z (fun av => ?_) (fun aw => ?_)
  .exact rl Z <| AN av (wf hA [(0, 0), (1, 1)] Z Z Z)
  exact rn 3 Z <| bq aw fun be n ax => sx Z (AS (RB _ _ _ n) (.inl Z) Z Z Z <| rl Z <| AN ax (wf hA [(0, 0), (1, 1)] Z Z Z))
 refine cd Z ay (fun az => ?_) (fun a0 => ?_)
 .refine rs AA <| rl Z <| AG <| AI ?_
  cases az
  exact er Z Le.rfl
 refine AD <| AC <| rs AA <| rn 4 Z <| sx Z (Al Z Z <| rn 1 Z <| bq a0 fun bf o a1 => sx Z (Aj o Z Z Z <| rl Z <| rs AA <| rl Z <| AB <| rs AA <| rl Z <| cd Z a1 (fun a2 => ?_) (fun a7 => ?_)))
 .refine jb (fun g : Bool => ⟨115, [(4, lb g)], [], 0⟩) a2 (fun g a3 => ?_) (fun g a6 => ?_)
  .refine rg AA <| rn 4 Z <| gs 78 a3 Z Z Z (fun a4 => ?_) (fun a5 => ?_)
   .exact rl Z <| AN a4 (wf hA [] Z Z Z)
   exact rl Z <| AN a5 (wf hA [] Z Z Z)
  refine AG <| AI ?_
  have hr := Option.some.inj a6; subst hr
  exact er Z Le.rfl
 refine AD <| AC <| AB <| rs AA <| rn 2 Z <| bq a7 fun a8 i q => sx Z (AS (G1 _ _ _ i) (.inl Z) Z Z Z <| rl Z <| rs AA <| rl Z <| cd Z q (fun s => ?_) (fun x => ?_))
 .refine jb (fun c : Bool => ⟨115, [(4, lb c)], [], 0⟩) s (fun c t => ?_) (fun c w => ?_)
  .refine rg AA <| rn 4 Z <| gs 91 t Z Z Z (fun u => ?_) (fun v => ?_)
   .exact rl Z <| AN u (wf hA [] Z Z Z)
   exact rl Z <| AN v (wf hA [] Z Z Z)
  refine AG <| AI ?_
  have hr := Option.some.inj w; subst hr
  exact er Z Le.rfl
 refine AD <| AC <| rs AA <| rn 2 Z <| bq x fun a9 j y => sx Z (AS (Cs _ _ _ j) (.inl Z) Z Z Z <| rl Z <| jb (fun d : Bool => ⟨115, [(4, lb d)], [], 0⟩) y (fun d z => ?_) (fun d ae => ?_))
 .refine rg AA <| rn 3 Z <| gs 105 z Z Z Z (fun aa => ?_) (fun ad => ?_)
  .refine rn 5 Z <| gs 110 aa Z Z Z (fun ab => ?_) (fun ac => ?_)
   .exact rl Z <| AN ab (wf hA [] Z Z Z)
   exact rl Z <| AN ac (wf hA [] Z Z Z)
  exact rl Z <| AN ad (wf hA [] Z Z Z)
 refine AG ?_
 have hr := Option.some.inj ae; subst hr
 exact er Z Le.rfl
noncomputable def H6 (b : (List AV)) (c : (List AV)) (a : Int) : Option (Int ⊕ Bool) :=
 bif decide (a < (b.length : Int)) then (Ak b a).bind fun d => (Ak c a).bind fun e => bif (!(d == e)) then some (.inr false) else some (.inl (AQ (a + 1))) else some (.inr true)
noncomputable def Ej (a : (List AV)) (b : (List AV)) : Option Bool :=
 bif ((a.length : Int) != (b.length : Int)) then some false else AO (H6 a b) 0
theorem MJ (b : (List AV)) (c : (List AV)) (r : Bool) (h : Ej b c = some r) : A4 Tryz.prog 141 [.slice 3 (b.map Af), .slice 3 (c.map Af)] (· = .bool r) := by
 refine fn AA Tryz.func141 Z Z 26 Z [.tmp 4] Z [(0, .p (.slice 3 (b.map Af))), (1, .p (.slice 3 (c.map Af)))] Z Z fun A hA => ?_
 unfold Ej at h
 refine rs AA <| rl Z <| AB <| rs AA <| rn 1 Z <| sx Z (Al Z Z <| rn 1 Z <| sx Z (Al Z Z <| rl Z <| cd Z h (fun s => ?_) (fun t => ?_)))
 .refine rs AA <| rl Z <| AG <| AI ?_
  cases s
  exact er Z Le.rfl
 refine AD <| AC <| AB <| rs AA <| rl Z <| AH ?_
 apply lp (a := r) (fun e : Int => ⟨26, [(0, ls 3 Af b), (1, ls 3 Af c), (5, li e)], [], 0⟩) t
 . exact wf hA [] Z Z Z
 intro e y d
 unfold H6 at d
 refine AB <| rs AA <| rn 2 Z <| sx Z (Al Z Z <| rl Z <| cd Z d (fun i => ?_) (fun o => ?_))
 .refine AD <| AC <| AB <| AH <| AB ?_
  refine Bi AA Az [0, 1, 2, 3, 4, 5, 6, 7, 8] 9 (by kernel_rfl) Z Z Z ?_
  refine Am 2 Z <| bq i fun u f j => An Z (AZ Z (Aj f Z Z Z <| Am 3 Z <| bq j fun v g k => An Z (AZ Z (Aj g Z Z Z <| Am 1 Z <| An Z (Qt (UG u v) Z Z Z Z Z <| A0 Z <| AC <| cd Z k (fun l => ?_) (fun n => ?_))))))
  .refine rs AA <| rl Z <| AG <| AT <| AI <| A1 l fun w m => AT <| AI ?_
   cases m
   exact er Z Le.rfl
  exact AD <| Ai <| AC <| rg AA <| rl Z <| Av n (wf hA [] Z Z Z)
 refine AU <| Ab <| BH o fun x q => Ao <| AC <| rs AA <| rl Z <| AG ?_
 cases q
 exact er Z Le.rfl
noncomputable def Eb (c : CG) (a : Int) (b : Int) : Option (Int ⊕ (Int ⊕ (Int × Int))) :=
 bif decide (b < a) then (((Ak c.roads a).bind fun e => (Ak c.roads b).bind fun f => bif (e.frm == f.frm) then (Ak c.roads a).bind fun g => (Ak c.roads b).bind fun h => (Ej g.steps h.steps).bind fun i => some i else some false : Option (Bool))).bind fun (d : Bool) => bif d then some (.inr (.inr (4, a))) else some (.inl (AQ (b + 1))) else some (.inr (.inl (AQ (a + 1))))
noncomputable def Dc (b : CG) (a : Int) : Option (Int ⊕ (Int × Int)) :=
 bif decide (a < (b.roads.length : Int)) then AO (Eb b a) 0 else some (.inr (0, (-1)))
noncomputable def Ec (b : CG) (a : Int) : Option (Int ⊕ (Int × Int)) :=
 bif decide (a < (b.roads.length : Int)) then (Ak b.roads a).bind fun c => (Lu b.plan c).bind fun d => bif (!d) then some (.inr (3, a)) else some (.inl (AQ (a + 1))) else (AO (Dc b) 0).map .inr
noncomputable def Hn (a : CG) : Option (Int × Int) :=
 AO (Ec a) 0
theorem RC (b : CG) (r : (Int × Int)) (h : Hn b = some r) : A4 Tryz.prog 81 [.agg (Bp b)] (· = .tup [.int .i64 r.1, .int .i64 r.2]) := by
 refine fn AA Tryz.func81 Z Z 65 Z [.tmp 2, .tmp 3] Z [(0, .p (.agg (Bp b)))] Z Z fun A hA => ?_
 unfold Hn at h
 refine rs AA <| rl Z <| AB <| rs AA <| rl Z <| AH ?_
 apply lp (a := r) (fun j : Int => ⟨65, [(1, .lpb 0 0), (4, li j)], [(0, bx (Bp b))], 1⟩) h
 . exact wf hA [(0, 0)] Z Z Z
 intro j a3 f
 unfold Ec at f
 refine AB <| rs AA <| rn 3 Z <| sx Z (Al Z Z <| rl Z <| cd Z f (fun v => ?_) (fun ab => ?_))
 .refine AD <| AC <| AB <| AH <| AB ?_
  refine Bi AA Az [0, 1, 2, 3, 4, 5, 6, 7, 8] 9 (by kernel_rfl) Z Z Z ?_
  refine Am 5 Z <| bq v fun a5 m w => An Z (AZ Z (Aj m Z Z Z <| Am 1 Z <| bq w fun a6 n x => An Z (BA (YY _ _ _ n) (.inl Z) Z Z Z <| A0 Z <| AC <| cd Z x (fun y => ?_) (fun aa => ?_))))
  .refine rs AA <| rl Z <| AG <| AT <| AI <| A1 y fun ay z => AT <| AI ?_
   cases z
   exact er Z Le.rfl
  exact AD <| Ai <| AC <| rg AA <| rl Z <| Av aa (wf hA [(0, 0)] Z Z Z)
 refine AU <| Ab <| CW ab fun k ac => Ao <| AC <| AB <| rs AA <| rl Z <| AH ?_
 apply lp (a := k) (fun c : Int => ⟨65, [(1, .lpb 0 0), (5, li c)], [(0, bx (Bp b))], 1⟩) ac
 . exact wf hA [(0, 0)] Z Z Z
 intro c l g
 unfold Dc at g
 refine AB <| rs AA <| rn 3 Z <| sx Z (Al Z Z <| rl Z <| cd Z g (fun ad => ?_) (fun aw => ?_))
 .refine AD <| AC <| AB <| AH <| rs AA <| rl Z <| AH ?_
  apply lp (a := l) (fun d : Int => ⟨65, [(1, .lpb 0 0), (5, li c), (6, li d)], [(0, bx (Bp b))], 1⟩) ad
  . exact wf hA [(0, 0)] Z Z Z
  intro d a4 i
  unfold Eb at i
  refine AB <| rs AA <| rl Z <| cd Z i (fun ae => ?_) (fun au => ?_)
  .refine AD <| AC <| AB <| AH <| jb (fun e : Bool => ⟨65, [(1, .lpb 0 0), (5, li c), (6, li d), (63, lb e)], [(0, bx (Bp b))], 1⟩) ae (fun e af => ?_) (fun e an => ?_)
   .refine Bi AA Az [0, 1, 2, 3, 4, 5, 6, 7, 8, 9, 10, 11, 12, 13, 14, 15, 16, 17, 18, 19, 20, 21, 22, 23, 24, 25, 26, 27] 28 (by kernel_rfl) Z Z Z ?_
    refine Am 3 Z <| bq af fun a7 o ag => An Z (AZ Z (Aj o Z Z Z <| Am 5 Z <| bq ag fun a8 q ah => An Z (AZ Z (Aj q Z Z Z <| Am 4 Z <| Dk 49 ah Z Z Z (fun ai => ?_) (fun am => ?_)))))
    .exact Am 3 Z <| bq ai fun a9 s aj => An Z (AZ Z (Aj s Z Z Z <| Am 5 Z <| bq aj fun ba t ak => An Z (AZ Z (Aj t Z Z Z <| Am 2 Z <| bq ak fun bb u al => An Z (BA (MJ _ _ _ u) (.inl Z) Z Z Z <| A0 Z <| AN al (wf hA [(0, 0)] Z Z Z))))))
    exact A0 Z <| AN am (wf hA [(0, 0)] Z Z Z)
   refine cd Z an (fun ao => ?_) (fun ar => ?_)
   .refine rs AA <| rl Z <| AG <| AT <| AI <| A1 ao fun az ap => AT <| AT <| AI <| A1 ap fun a0 aq => AT <| AI ?_
    cases aq
    exact er Z Le.rfl
   exact AD <| Ai <| AC <| rg AA <| rl Z <| Av ar (wf hA [(0, 0)] Z Z Z)
  exact AU <| Ab <| BH au fun a1 av => Ao <| Ai <| AC <| rg AA <| rl Z <| Av av (wf hA [(0, 0)] Z Z Z)
 refine AU <| Ab <| BH aw fun a2 ax => Ao <| AC <| rs AA <| rl Z <| AG ?_
 cases ax
 exact er Z Le.rfl
noncomputable def E8 (b : CG) (d : Int) (f : (List AW)) (c : Int) (a : Bool × Int) : Option ((Bool × Int) ⊕ (Int ⊕ (Int ⊕ Int))) :=
 bif decide (a.2 < (b.roads.length : Int)) then ((bif a.1 then some true else (Ak b.roads a.2).bind fun g => bif (g.frm == d) then (Ak f c).bind fun h => (Ak b.roads a.2).bind fun i => (Ej h.steps i.steps).bind fun j => some j else some false : Option (Bool))).bind fun (e : Bool) => some (.inl (e, AQ (a.2 + 1))) else (bif (!a.1) then some (.inr (.inr d)) else some (.inl (AQ (c + 1)))).map .inr
noncomputable def GW (d : CG) (b : Int) (c : (List AW)) (a : Int) : Option (Int ⊕ (Int ⊕ Int)) :=
 bif decide (a < (c.length : Int)) then AO (E8 d b c a) (false, 0) else some (.inr (.inl (AQ (b + 1))))
noncomputable def IN (b : CG) (a : Int) : Option (Int ⊕ Int) :=
 bif decide (a < (b.plan.signals.length : Int)) then (Lv b.plan a).bind fun c => AO (GW b a c) 0 else some (.inr (-1))
noncomputable def Io (a : CG) : Option Int :=
 AO (IN a) 0
theorem VM (b : CG) (r : Int) (h : Io b = some r) : A4 Tryz.prog 82 [.agg (Bp b)] (· = .int .i64 r) := by
 refine fn AA Tryz.func82 Z Z 61 Z [.tmp 2] Z [(0, .p (.agg (Bp b)))] Z Z fun A hA => ?_
 unfold Io at h
 refine rs AA <| rl Z <| AB <| rs AA <| rl Z <| AH ?_
 apply lp (a := r) (fun c : Int => ⟨61, [(1, .lpb 0 0), (3, li c)], [(0, bx (Bp b))], 1⟩) h
 . exact wf hA [(0, 0)] Z Z Z
 intro c l i
 unfold IN at i
 refine AB <| rs AA <| rn 4 Z <| sx Z (Al Z Z <| rl Z <| cd Z i (fun u => ?_) (fun aq => ?_))
 .refine AD <| AC <| AB <| AH <| rs AA <| rn 3 Z <| bq u fun g n v => sx Z (AS (YZ _ _ _ n) (.inr Z) Z Z Z <| rl Z <| rs AA <| rl Z <| AH ?_)
  apply lp (a := l) (fun d : Int => ⟨61, [(1, .lpb 0 0), (3, li c), (4, ls 9 Ad g), (5, li d)], [(0, bx (Bp b))], 1⟩) v
  . exact wf hA [(0, 0)] Z Z Z
  intro d m j
  unfold GW at j
  refine AB <| rs AA <| rn 2 Z <| sx Z (Al Z Z <| rl Z <| cd Z j (fun w => ?_) (fun ao => ?_))
  .refine AD <| AC <| AB <| AH <| rs AA <| rl Z <| AB <| rs AA <| rl Z <| AH ?_
   apply lp (a := m) (fun e : (Bool × Int) => ⟨61, [(1, .lpb 0 0), (3, li c), (4, ls 9 Ad g), (5, li d), (6, lb e.1), (7, li e.2)], [(0, bx (Bp b))], 1⟩) w
   . exact wf hA [(0, 0)] Z Z Z
   intro e az k
   unfold E8 at k
   refine AB <| rs AA <| rn 3 Z <| sx Z (Al Z Z <| rl Z <| cd Z k (fun x => ?_) (fun ai => ?_))
   .refine AD <| AC <| jb (fun f : Bool => ⟨61, [(1, .lpb 0 0), (3, li c), (4, ls 9 Ad g), (5, li d), (6, lb f), (7, li e.2)], [(0, bx (Bp b))], 1⟩) x (fun f y => ?_) (fun f ah => ?_)
    .refine AH ?_
     refine Bi AA Az [0, 1, 2, 3, 4, 5, 6, 7, 8, 9, 10, 11, 12, 13, 14, 15, 16, 17, 18, 19, 20, 21, 22, 23, 24, 25] 26 (by kernel_rfl) Z Z Z ?_
     refine Am 2 Z <| Dk 34 y Z Z Z (fun z => ?_) (fun aa => ?_)
     .exact A0 Z <| Ai <| AN z (wf hA [(0, 0)] Z Z Z)
     refine Am 3 Z <| bq aa fun a0 o ab => An Z (AZ Z (Aj o Z Z Z <| Am 5 Z <| Dk 43 ab Z Z Z (fun ac => ?_) (fun ag => ?_)))
     .exact Am 2 Z <| bq ac fun a1 q ad => An Z (AZ Z (Aj q Z Z Z <| Am 5 Z <| bq ad fun a2 s ae => An Z (AZ Z (Aj s Z Z Z <| Am 2 Z <| bq ae fun a3 t af => An Z (BA (MJ _ _ _ t) (.inl Z) Z Z Z <| A0 Z <| Ai <| AN af (wf hA [(0, 0)] Z Z Z))))))
     exact A0 Z <| Ai <| AN ag (wf hA [(0, 0)] Z Z Z)
    exact rg AA <| rl Z <| Av ah (wf hA [(0, 0)] Z Z Z)
   refine AU <| Ab <| CW ai fun au aj => Ao <| AC <| rs AA <| rl Z <| cd Z aj (fun ak => ?_) (fun an => ?_)
   .refine rs AA <| rl Z <| AG <| AT <| AI <| A1 ak fun av al => AT <| AT <| AI <| A1 al fun aw am => AT <| AI ?_
    have hr := Option.some.inj am; subst hr
    exact er Z Le.rfl
   exact AD <| Ai <| AC <| rg AA <| rl Z <| Av an (wf hA [(0, 0)] Z Z Z)
  exact AU <| Ab <| BH ao fun ax ap => Ao <| Ai <| AC <| rg AA <| rl Z <| Av ap (wf hA [(0, 0)] Z Z Z)
 refine AU <| Ab <| BH aq fun ay ar => Ao <| AC <| rs AA <| rl Z <| AG ?_
 cases ar
 exact er Z Le.rfl
end Go.E
/- Plain functions, and walks in step with them. Written by a program (gen.py). No condition. -/
set_option maxRecDepth 100000
namespace Go.E
open Go Go.RowKit Go.Proofs
noncomputable def Kj (a : AW) : Option (List AJ) :=
 (BE ([] : List AJ) a.needs).bind fun b => (BE b a.guards).bind fun c => some c
theorem Wn (a : AW) (r : (List AJ)) (h : Kj a = some r) : Gn Tryz.prog 89 [.agg (Ad a)] 91 2 (r.map AR) := by
 refine XW (enc := AR) (fun _ => ⟨Z, Z⟩) Tryz.func89 Z Z 10 Z 2 Z [(0, .p (.agg (Ad a)))] Z Z fun A hA => ?_
 unfold Kj at h
 refine rs AA <| rl Z <| AB ?_
 refine Zv (Rz 1 []) Az [1, 2, 4, 5, 0, 3, 6, 7] 8 Z (by kernel_rfl) Z Z Z ?_
 refine Am 5 Z <| bq h fun f b d => An Z (BY (Ax (enc := AR) (l := ([] : List AJ)) (m := a.needs) b (fun _ => ⟨Z, Z⟩) Z Z Z Z Z Z <| bq d fun g c e => An Z (BY (Ax (enc := AR) (l := f) (m := a.guards) c (fun _ => ⟨Z, Z⟩) Z Z Z Z Z Z <| A0 Z <| AC <| AG ?_))))
 have hr := Option.some.inj e; subst hr
 exact XX Z Z Z
noncomputable def FP (d : (List AJ)) (c : (List AJ)) (b : Int) (a : Int) : Option (Int ⊕ (Int ⊕ Bool)) :=
 bif decide (a < (c.length : Int)) then (((Ak d b).bind fun f => (Ak c a).bind fun g => bif (f.elem == g.elem) then (Ak d b).bind fun h => (Ak c a).bind fun i => some (h.pos != i.pos) else some false : Option (Bool))).bind fun (e : Bool) => bif e then some (.inr (.inr true)) else some (.inl (AQ (a + 1))) else some (.inr (.inl (AQ (b + 1))))
noncomputable def FQ (b : (List AJ)) (c : (List AJ)) (a : Int) : Option (Int ⊕ Bool) :=
 bif decide (a < (b.length : Int)) then AO (FP b c a) 0 else some (.inr false)
noncomputable def HL (a : (List AJ)) (b : (List AJ)) : Option Bool :=
 AO (FQ a b) 0
theorem TJ (b : (List AJ)) (c : (List AJ)) (r : Bool) (h : HL b c = some r) : A4 Tryz.prog 90 [.slice 2 (b.map AR), .slice 2 (c.map AR)] (· = .bool r) := by
 refine fn AA Tryz.func90 Z Z 43 Z [.tmp 4] Z [(0, .p (.slice 2 (b.map AR))), (1, .p (.slice 2 (c.map AR)))] Z Z fun A hA => ?_
 unfold HL at h
 refine rs AA <| rl Z <| AB <| rs AA <| rl Z <| AH ?_
 apply lp (a := r) (fun d : Int => ⟨43, [(0, ls 2 AR b), (1, ls 2 AR c), (5, li d)], [], 0⟩) h
 . exact wf hA [] Z Z Z
 intro d j g
 unfold FQ at g
 refine AB <| rs AA <| rn 2 Z <| sx Z (Al Z Z <| rl Z <| cd Z g (fun o => ?_) (fun ag => ?_))
 .refine AD <| AC <| AB <| AH <| rs AA <| rl Z <| AH ?_
  apply lp (a := j) (fun e : Int => ⟨43, [(0, ls 2 AR b), (1, ls 2 AR c), (5, li d), (6, li e)], [], 0⟩) o
  . exact wf hA [] Z Z Z
  intro e am i
  unfold FP at i
  refine AB <| rs AA <| rn 2 Z <| sx Z (Al Z Z <| rl Z <| cd Z i (fun q => ?_) (fun ae => ?_))
  .refine AD <| AC <| AB <| AH <| jb (fun f : Bool => ⟨43, [(0, ls 2 AR b), (1, ls 2 AR c), (5, li d), (6, li e), (42, lb f)], [], 0⟩) q (fun f s => ?_) (fun f z => ?_)
   .refine Bi AA Az [0, 1, 2, 3, 4, 5, 6, 7, 8, 9, 10, 11, 12, 13, 14, 15, 16, 17, 18, 19, 20, 21, 22, 23] 24 (by kernel_rfl) Z Z Z ?_
    refine Am 2 Z <| bq s fun an k t => An Z (AZ Z (Aj k Z Z Z <| Am 4 Z <| bq t fun ao l u => An Z (AZ Z (Aj l Z Z Z <| Am 4 Z <| Dk 30 u Z Z Z (fun v => ?_) (fun y => ?_)))))
    .exact Am 2 Z <| bq v fun ap m w => An Z (AZ Z (Aj m Z Z Z <| Am 4 Z <| bq w fun aq n x => An Z (AZ Z (Aj n Z Z Z <| A0 Z <| AN x (wf hA [] Z Z Z)))))
    exact A0 Z <| AN y (wf hA [] Z Z Z)
   refine cd Z z (fun aa => ?_) (fun ad => ?_)
   .refine rs AA <| rl Z <| AG <| AT <| AI <| A1 aa fun ai ab => AT <| AT <| AI <| A1 ab fun aj ac => AT <| AI ?_
    cases ac
    exact er Z Le.rfl
   exact AD <| Ai <| AC <| rg AA <| rl Z <| Av ad (wf hA [] Z Z Z)
  exact AU <| Ab <| BH ae fun ak af => Ao <| Ai <| AC <| rg AA <| rl Z <| Av af (wf hA [] Z Z Z)
 refine AU <| Ab <| BH ag fun al ah => Ao <| AC <| rs AA <| rl Z <| AG ?_
 cases ah
 exact er Z Le.rfl
noncomputable def M3 (b : AW) (a : Int × (List Int)) : Option ((Int × (List Int)) ⊕ (List Int)) :=
 bif decide (a.1 < (b.steps.length : Int)) then (Ak b.steps a.1).bind fun c => (BE a.2 [c.elem]).bind fun d => some (.inl (AQ (a.1 + 1), d)) else some (.inr a.2)
noncomputable def KP (a : AW) : Option (List Int) :=
 AO (M3 a) (0, ([] : List Int))
theorem UK (c : AW) (r : (List Int)) (h : KP c = some r) : Gn Tryz.prog 129 [.agg (Ad c)] 3 1 (r.map AY) := by
 refine XW (enc := AY) (fun _ => ⟨Z, Z⟩) Tryz.func129 Z Z 22 Z 2 Z [(0, .p (.agg (Ad c)))] Z Z fun A hA => ?_
 unfold KP at h
 refine rs AA <| rl Z <| rs AA <| rl Z <| AB <| rs AA <| rl Z <| AH ?_
 apply lp (a := r) (fun b : (Int × (List Int)) => ⟨22, [(1, .lpb 0 0), (3, .lsl 1 1 0 b.2.length), (4, li b.1)], [(0, bx (Ad c)), (1, .row 3 1 (b.2.map AY))], 2⟩) h
 . exact A9.trans (By 3 3 1 Z) (wf hA [(0, 0), (1, 1)] Z Z Z)
 intro b s d
 unfold M3 at d
 refine AB <| rs AA <| rn 3 Z <| sx Z (Al Z Z <| rl Z <| cd Z d (fun n => ?_) (fun j => ?_))
 .exact AD <| AC <| AB <| AH <| rg AA <| rn 4 Z <| bq n fun o e g => sx Z (Aj e Z Z Z <| rn 3 Z <| bq g fun t f i => sx Z (Ax (enc := AY) (l := b.2) (m := [o.elem]) f (fun _ => ⟨Z, Z⟩) Z Z Z Z Z Z <| rl Z <| Ai <| AC <| rg AA <| rl Z <| Av i (wf hA [(0, 0), (1, 3)] Z Z Z)))
 refine AU <| Ab <| BH j fun q k => Ao <| AC <| rs AA <| rl Z <| AG ?_
 cases k
 exact XX Z Z Z
noncomputable def Gi (a : AW) (b : Int) : Option Bool :=
 (KP a).bind fun c => (C0 c b).bind fun d => some d
theorem Ow (a : AW) (b : Int) (r : Bool) (h : Gi a b = some r) : A4 Tryz.prog 92 [.agg (Ad a), .int .i64 b] (· = .bool r) := by
 refine fn AA Tryz.func92 Z Z 9 Z [.tmp 4] Z [(0, .p (.agg (Ad a))), (1, .p (.int .i64 b))] Z Z fun A hA => ?_
 unfold Gi at h
 refine rs AA <| rl Z <| rs AA <| rn 1 Z <| bq h fun g c e => sx Z (Rx (UK _ _ c) Z Z Z Z <| rn 1 Z <| bq e fun i d f => sx Z (AS (Ha _ _ _ d) (.inl Z) Z Z (C9.eq (.cons (.one (.own (enc := AY) g Z Z)) (.cons (.one (.p _)) .nil))) <| rl Z <| AG ?_))
 have hr := Option.some.inj f; subst hr
 exact er Z Le.rfl
noncomputable def GX (e : AM) (c : (Int × (List AF))) (b : (List AF)) (a : Int × (List AF)) : Option ((Int × (List AF)) ⊕ ((Int × (List AF)) ⊕ (List AF))) :=
 bif decide (a.1 < (b.length : Int)) then (((Ak b a.1).bind fun f => (CK e f).bind fun g => bif g.2 then (Ak b a.1).bind fun h => (BE a.2 [h]).bind fun i => some i else some a.2 : Option ((List AF)))).bind fun (d : (List AF)) => some (.inl (AQ (a.1 + 1), d)) else some (.inr (.inl (AQ (c.1 + 1), a.2)))
noncomputable def IQ (d : AM) (e : AW) (b : Int × (List AF)) : Option ((Int × (List AF)) ⊕ (List AF)) :=
 bif decide (b.1 < (e.steps.length : Int)) then (Ak e.steps b.1).bind fun a => (((Ea d a.elem).bind fun f => bif (f == 2) then (BE ([] : List AF) [(⟨a.elem, AQ (3 - (if a.out > a.in_ then a.out else a.in_))⟩ : AF)]).bind fun h => some h else bif (f == 3) then ((bif decide (2 <= a.in_) then some 0 else some 2 : Option (Int))).bind fun (c : Int) => (BE ([] : List AF) [(⟨a.elem, c⟩ : AF), (⟨a.elem, AQ (c + 1)⟩ : AF)]).bind fun i => some i else some ([] : List AF) : Option ((List AF)))).bind fun (g : (List AF)) => AO (GX d b g) (0, b.2) else some (.inr b.2)
noncomputable def Hb (a : AM) (b : AW) : Option (List AF) :=
 AO (IQ a b) (0, ([] : List AF))
theorem Pt (d : AM) (f : AW) (r : (List AF)) (h : Hb d f = some r) : A4 Tryz.prog 142 [.agg (Aa d), .agg (Ad f)] (· = .slice 2 (r.map AK)) := by
 refine fn AA Tryz.func142 Z Z 84 Z [.tmp 4] Z [(0, .p (.agg (Aa d))), (1, .p (.agg (Ad f)))] Z Z fun A hA => ?_
 unfold Hb at h
 refine rs AA <| rl Z <| rs AA <| rl Z <| AB <| rs AA <| rl Z <| AH ?_
 apply lp (a := r) (fun b : (Int × (List AF)) => ⟨84, [(2, .lpb 0 0), (3, .lpb 1 0), (5, .lsl 2 2 0 b.2.length), (6, li b.1)], [(0, bx (Aa d)), (1, bx (Ad f)), (2, .row 96 2 (b.2.map AK))], 3⟩) h
 . exact A9.trans (By 5 96 2 Z) (wf hA (gi 3 []) Z Z Z)
 intro b t q
 unfold IQ at q
 refine AB <| rs AA <| rn 3 Z <| sx Z (Al Z Z <| rl Z <| cd Z q (fun aa => ?_) (fun a2 => ?_))
 .refine AD <| AC <| AB <| AH <| rs AA <| rn 3 Z <| bq aa fun g u ab => sx Z (Aj u Z Z Z <| rl Z <| rs AA <| rl Z <| jb (fun c : (List AF) => ⟨84, [(2, .lpb 0 0), (3, .lpb 1 0), (5, .lsl 2 2 0 b.2.length), (6, li b.1), (8, .lsl 3 2 0 c.length)], [(0, bx (Aa d)), (1, bx (Ad f)), (2, .row 96 2 (b.2.map AK)), (3, .row 96 2 (c.map AK))], 4⟩) ab (fun c ac => ?_) (fun c ao => ?_))
  .refine rs AA <| rn 3 Z <| bq ac fun a8 v ad => sx Z (AS (H4 _ _ _ v) (.inl Z) Z Z Z <| rl Z <| AH <| rs AA <| rl Z <| cd Z ad (fun ae => ?_) (fun ag => ?_))
   .exact rg AA <| rn 11 Z <| bq ae fun a9 w af => sx Z (XV (e := 96) (sz := 2) (enc := AK) (m := [(⟨g.elem, AQ (3 - (if g.out > g.in_ then g.out else g.in_))⟩ : AF)]) w (fun _ => ⟨Z, Z⟩) Z Z Z <| rl Z <| Ai <| AN af (wf hA (gi 3 [(3, 5)]) Z Z Z))
   refine rs AA <| rl Z <| cd Z ag (fun ah => ?_) (fun an => ?_)
   .refine rs AA <| rl Z <| jb (fun j : Int => ⟨84, [(2, .lpb 0 0), (3, .lpb 1 0), (5, .lsl 2 2 0 b.2.length), (6, li b.1), (7, .lpb 3 0), (8, .p (.nils)), (9, li j)], [(0, bx (Aa d)), (1, bx (Ad f)), (2, .row 96 2 (b.2.map AK)), (3, bx (Af g))], 4⟩) ah (fun j ai => ?_) (fun j al => ?_)
    .refine rs AA <| rl Z <| cd Z ai (fun aj => ?_) (fun ak => ?_)
     .exact rg AA <| rl Z <| AN aj (wf hA (gi 4 []) Z Z Z)
     exact AD <| AN ak (wf hA (gi 4 []) Z Z Z)
    exact rg AA <| rn 11 Z <| bq al fun ba x am => sx Z (XV (e := 96) (sz := 2) (enc := AK) (m := [(⟨g.elem, j⟩ : AF), (⟨g.elem, AQ (j + 1)⟩ : AF)]) x (fun _ => ⟨Z, Z⟩) Z Z Z <| rl Z <| Ai <| AN am (wf hA (gi 3 [(3, 5)]) Z Z Z))
   exact AD <| Ai <| AN an (A9.trans (By 8 96 2 Z) (wf hA (gi 3 [(3, 4)]) Z Z Z))
  refine rs AA <| rl Z <| AH ?_
  apply lp (a := t) (fun i : (Int × (List AF)) => ⟨84, [(2, .lpb 0 0), (3, .lpb 1 0), (5, .lsl 2 2 0 i.2.length), (6, li b.1), (8, .lsl 3 2 0 c.length), (10, li i.1)], [(0, bx (Aa d)), (1, bx (Ad f)), (2, .row 96 2 (i.2.map AK)), (3, .row 96 2 (c.map AK))], 4⟩) ao
  . exact wf hA (gi 4 []) Z Z Z
  intro i a7 s
  unfold GX at s
  refine AB <| rs AA <| rl Z <| cd Z s (fun ap => ?_) (fun a0 => ?_)
  .refine AD <| AC <| jb (fun k : (List AF) => ⟨84, [(2, .lpb 0 0), (3, .lpb 1 0), (5, .lsl 2 2 0 k.length), (6, li b.1), (8, .lsl 3 2 0 c.length), (10, li i.1)], [(0, bx (Aa d)), (1, bx (Ad f)), (2, .row 96 2 (k.map AK)), (3, .row 96 2 (c.map AK))], 4⟩) ap (fun k aq => ?_) (fun k az => ?_)
   .refine AH <| AB ?_
    refine Bi AA Az [0, 1, 2, 3, 4, 5, 6, 7, 8, 9, 10, 11] 12 (by kernel_rfl) Z Z Z ?_
    refine Am 3 Z <| bq aq fun bb n ar => An Z (AZ Z (B4 n Z Z Z Z <| An Z (Hy Z (DM n Z Z Z <| bq ar fun bc y au => An Z (BA (Cs _ _ _ y) (.inl Z) Z Z Z <| A0 Z <| AC <| rs AA <| rl Z <| cd Z au (fun av => ?_) (fun ay => ?_))))))
    .exact rg AA <| rn 3 Z <| bq av fun a4 o aw => sx Z (B4 o Z Z Z Z <| sx Z (DM o Z Z Z <| rn 1 Z <| bq aw fun be z ax => sx Z (Ax (enc := AK) (l := i.2) (m := [a4]) z (fun _ => ⟨Z, Z⟩) Z Z Z Z Z Z <| rl Z <| Ai <| AN ax (wf hA [(0, 0), (1, 1), (2, 17), (3, 3)] Z Z Z))))
    exact AD <| Ai <| AN ay (wf hA (gi 4 []) Z Z Z)
   exact rg AA <| rl Z <| Av az (wf hA (gi 4 []) Z Z Z)
  exact AU <| Ab <| BH a0 fun a5 a1 => Ao <| Ai <| AC <| rg AA <| rl Z <| Av a1 (wf hA (gi 3 []) Z Z Z)
 refine AU <| Ab <| BH a2 fun a6 a3 => Ao <| AC <| rs AA <| rl Z <| AG ?_
 cases a3
 exact er (HH Z (.one (.own (enc := AK) b.2 Z Z))) Le.rfl
noncomputable def D4 (b : (List AF)) (c : AF) (a : Int) : Option (Int ⊕ Bool) :=
 bif decide (a < (b.length : Int)) then (Ak b a).bind fun d => bif (d == c) then some (.inr true) else some (.inl (AQ (a + 1))) else some (.inr false)
noncomputable def Fi (a : (List AF)) (b : AF) : Option Bool :=
 AO (D4 a b) 0
theorem OA (c : (List AF)) (b : AF) (r : Bool) (h : Fi c b = some r) : A4 Tryz.prog 145 [.slice 2 (c.map AK), .agg (AK b)] (· = .bool r) := by
 refine fn AA Tryz.func145 Z Z 18 Z [.tmp 4] Z [(0, .p (.slice 2 (c.map AK))), (1, .p (.agg (AK b)))] Z Z fun A hA => ?_
 unfold Fi at h
 refine rs AA <| rl Z <| AB <| rs AA <| rl Z <| AH ?_
 apply lp (a := r) (fun e : Int => ⟨18, [(0, ls 2 AK c), (3, .lpb 0 0), (5, li e)], [(0, .box [li b.elem, li b.fin])], 1⟩) h
 . exact wf hA [(0, 0)] Z Z Z
 intro e t d
 unfold D4 at d
 refine AB <| rs AA <| rn 2 Z <| sx Z (Al Z Z <| rl Z <| cd Z d (fun n => ?_) (fun l => ?_))
 .refine AD <| AC <| AB <| AH <| AB ?_
  refine Bi AA Az [0, 1, 2, 3, 4, 5] 6 (by kernel_rfl) Z Z Z ?_
  refine Am 2 Z <| bq n fun o f g => An Z (AZ Z (Aj f Z Z Z <| Am 2 Z <| An Z (Lf (I9 o b) Z Z Z Z Z <| A0 Z <| AC <| cd Z g (fun i => ?_) (fun k => ?_))))
  .refine rs AA <| rl Z <| AG <| AT <| AI <| A1 i fun q j => AT <| AI ?_
   cases j
   exact er Z Le.rfl
  exact AD <| Ai <| AC <| rg AA <| rl Z <| Av k (wf hA [(0, 0)] Z Z Z)
 refine AU <| Ab <| BH l fun s m => Ao <| AC <| rs AA <| rl Z <| AG ?_
 cases m
 exact er Z Le.rfl
noncomputable def D5 (b : (List AJ)) (c : AJ) (a : Int) : Option (Int ⊕ Bool) :=
 bif decide (a < (b.length : Int)) then (Ak b a).bind fun d => bif (d == c) then some (.inr true) else some (.inl (AQ (a + 1))) else some (.inr false)
noncomputable def DT (a : (List AJ)) (b : AJ) : Option Bool :=
 AO (D5 a b) 0
theorem HM (c : (List AJ)) (b : AJ) (r : Bool) (h : DT c b = some r) : A4 Tryz.prog 147 [.slice 2 (c.map AR), .agg (AR b)] (· = .bool r) := by
 refine fn AA Tryz.func147 Z Z 18 Z [.tmp 4] Z [(0, .p (.slice 2 (c.map AR))), (1, .p (.agg (AR b)))] Z Z fun A hA => ?_
 unfold DT at h
 refine rs AA <| rl Z <| AB <| rs AA <| rl Z <| AH ?_
 apply lp (a := r) (fun e : Int => ⟨18, [(0, ls 2 AR c), (3, .lpb 0 0), (5, li e)], [(0, .box [li b.elem, li b.pos])], 1⟩) h
 . exact wf hA [(0, 0)] Z Z Z
 intro e t d
 unfold D5 at d
 refine AB <| rs AA <| rn 2 Z <| sx Z (Al Z Z <| rl Z <| cd Z d (fun n => ?_) (fun l => ?_))
 .refine AD <| AC <| AB <| AH <| AB ?_
  refine Bi AA Az [0, 1, 2, 3, 4, 5] 6 (by kernel_rfl) Z Z Z ?_
  refine Am 2 Z <| bq n fun o f g => An Z (AZ Z (Aj f Z Z Z <| Am 2 Z <| An Z (Lf (Nk o b) Z Z Z Z Z <| A0 Z <| AC <| cd Z g (fun i => ?_) (fun k => ?_))))
  .refine rs AA <| rl Z <| AG <| AT <| AI <| A1 i fun q j => AT <| AI ?_
   cases j
   exact er Z Le.rfl
  exact AD <| Ai <| AC <| rg AA <| rl Z <| Av k (wf hA [(0, 0)] Z Z Z)
 refine AU <| Ab <| BH l fun s m => Ao <| AC <| rs AA <| rl Z <| AG ?_
 cases m
 exact er Z Le.rfl
noncomputable def Ho (d : Int) (b : (List BO)) (a : Int) : Option (Int ⊕ (Int × Bool)) :=
 bif decide (a < (b.length : Int)) then (((Ak b a).bind fun e => bif (e.pos == 0) then some true else (Ak b a).bind fun f => some (f.pos == d) : Option (Bool))).bind fun (c : Bool) => bif c then (Ak b a).bind fun g => some (.inr (g.out, true)) else some (.inl (AQ (a + 1))) else some (.inr (0, false))
noncomputable def H7 (a : AM) (b : Int) (c : Int) (d : Int) : Option (Int × Bool) :=
 (H3 a b c).bind fun e => AO (Ho d e) 0
theorem UL (e : AM) (f : Int) (g : Int) (b : Int) (r : (Int × Bool)) (h : H7 e f g b = some r) : A4 Tryz.prog 197 [.agg (Aa e), .int .i64 f, .int .i64 g, .int .i64 b] (· = .tup [.int .i64 r.1, .bool r.2]) := by
 refine fn AA Tryz.func197 Z Z 42 Z [.tmp 8, .tmp 9] Z [(0, .p (.agg (Aa e))), (1, .p (.int .i64 f)), (2, .p (.int .i64 g)), (3, .p (.int .i64 b))] Z Z fun A hA => ?_
 unfold H7 at h
 refine rs AA <| rl Z <| rs AA <| rn 3 Z <| bq h fun j n ad => sx Z (AS (Ov _ _ _ _ n) (.inr Z) Z Z Z <| rl Z <| AB <| rs AA <| rl Z <| AH ?_)
 apply lp (a := r) (fun c : Int => ⟨42, [(3, li b), (10, ls 2 CR j), (11, li c)], [], 0⟩) ad
 . exact wf hA [] Z Z Z
 intro c ag i
 unfold Ho at i
 refine AB <| rs AA <| rn 2 Z <| sx Z (Al Z Z <| rl Z <| cd Z i (fun o => ?_) (fun ab => ?_))
 .refine AD <| AC <| AB <| AH <| jb (fun d : Bool => ⟨42, [(3, li b), (10, ls 2 CR j), (11, li c), (36, lb d)], [], 0⟩) o (fun d q => ?_) (fun d w => ?_)
  .refine rg AA <| rn 2 Z <| bq q fun ah k s => sx Z (Aj k Z Z Z <| rn 4 Z <| gs 28 s Z Z Z (fun t => ?_) (fun u => ?_))
   .exact rl Z <| AN t (wf hA [] Z Z Z)
   exact rn 2 Z <| bq u fun ai l v => sx Z (Aj l Z Z Z <| rl Z <| AN v (wf hA [] Z Z Z))
  refine cd Z w (fun x => ?_) (fun aa => ?_)
  .refine rs AA <| rn 2 Z <| bq x fun aj m y => sx Z (Aj m Z Z Z <| rl Z <| AG <| AT <| AI <| A1 y fun ae z => AT <| AI ?_)
   cases z
   exact er Z Le.rfl
  exact AD <| Ai <| AC <| rg AA <| rl Z <| Av aa (wf hA [] Z Z Z)
 refine AU <| Ab <| BH ab fun af ac => Ao <| AC <| rs AA <| rl Z <| AG ?_
 cases ac
 exact er Z Le.rfl
noncomputable def Jg (b : AM) (c : Int) (f : Int) (g : Int) (a : Int) : Option (Int ⊕ (Int × Bool)) :=
 (Du b c).bind fun h => (H0 h).bind fun i => bif decide (a < i) then (H7 b c a g).bind fun d => ((bif d.2 then some (d.1 == f) else some false : Option (Bool))).bind fun (e : Bool) => bif e then some (.inr (a, true)) else some (.inl (AQ (a + 1))) else some (.inr (0, false))
noncomputable def JI (a : AM) (b : Int) (c : Int) (d : Int) : Option (Int × Bool) :=
 AO (Jg a b c d) 0
theorem Sj (b : AM) (c : Int) (d : Int) (e : Int) (r : (Int × Bool)) (h : JI b c d e = some r) : A4 Tryz.prog 148 [.agg (Aa b), .int .i64 c, .int .i64 d, .int .i64 e] (· = .tup [.int .i64 r.1, .bool r.2]) := by
 refine fn AA Tryz.func148 Z Z 36 Z [.tmp 8, .tmp 9] Z [(0, .p (.agg (Aa b))), (1, .p (.int .i64 c)), (2, .p (.int .i64 d)), (3, .p (.int .i64 e))] Z Z fun A hA => ?_
 unfold JI at h
 refine rs AA <| rl Z <| AB <| rs AA <| rl Z <| AH ?_
 apply lp (a := r) (fun f : Int => ⟨36, [(1, li c), (2, li d), (3, li e), (4, .lpb 0 0), (10, li f)], [(0, bx (Aa b))], 1⟩) h
 . exact wf hA [(0, 0)] Z Z Z
 intro f ad i
 unfold Jg at i
 refine AB <| rs AA <| rn 3 Z <| bq i fun ae j m => sx Z (AS (Gj _ _ _ j) (.inl Z) Z Z Z <| bq m fun af k n => sx Z (AS (Oq _ _ k) (.inl Z) Z Z Z <| rl Z <| cd Z n (fun o => ?_) (fun z => ?_)))
 .refine AD <| AC <| AB <| AH <| rs AA <| rn 4 Z <| bq o fun ag l q => sx Z (AS (UL _ _ _ _ _ l) (.inl Z) Z Z Z <| rl Z <| jb (fun g : Bool => ⟨36, [(1, li c), (2, li d), (3, li e), (4, .lpb 0 0), (10, li f), (34, lb g)], [(0, bx (Aa b))], 1⟩) q (fun g s => ?_) (fun g v => ?_))
  .refine rg AA <| rn 2 Z <| gs 30 s Z Z Z (fun t => ?_) (fun u => ?_)
   .exact rl Z <| AN t (wf hA [(0, 0)] Z Z Z)
   exact rl Z <| AN u (wf hA [(0, 0)] Z Z Z)
  refine cd Z v (fun w => ?_) (fun y => ?_)
  .refine rs AA <| rl Z <| AG <| AT <| AI <| A1 w fun ab x => AT <| AI ?_
   cases x
   exact er Z Le.rfl
  exact AD <| Ai <| AC <| rg AA <| rl Z <| Av y (wf hA [(0, 0)] Z Z Z)
 refine AU <| Ab <| BH z fun ac aa => Ao <| AC <| rs AA <| rl Z <| AG ?_
 cases aa
 exact er Z Le.rfl
noncomputable def DU (c : (List AJ)) (d : AF) (a : Int × (List Int)) : Option ((Int × (List Int)) ⊕ (List Int)) :=
 bif decide (a.1 <= 2) then (((DT c (⟨d.elem, AQ (3 - a.1)⟩ : AJ)).bind fun e => bif (!e) then (BE a.2 [a.1]).bind fun f => some f else some a.2 : Option ((List Int)))).bind fun (b : (List Int)) => some (.inl (AQ (a.1 + 1), b)) else some (.inr a.2)
noncomputable def Fj (e : AM) (f : AF) (g : (List AF)) (b : (List Int)) (a : Int × (List AF)) : Option ((Int × (List AF)) ⊕ (((List AF) × (List AF)) ⊕ Bool)) :=
 bif decide (a.1 < (b.length : Int)) then (((Ak b a.1).bind fun h => (CK e (⟨f.elem, h⟩ : AF)).bind fun c => bif c.2 then (BE a.2 [c.1]).bind fun i => some i else some a.2 : Option ((List AF)))).bind fun (d : (List AF)) => some (.inl (AQ (a.1 + 1), d)) else some (.inr (.inl (g, a.2)))
noncomputable def DW (c : AM) (f : AW) (h : (List AJ)) (b : (List AF) × (List AF)) : Option (((List AF) × (List AF)) ⊕ Bool) :=
 bif decide (0 < (b.2.length : Int)) then (Ak b.2 0).bind fun a => (MH b.2 1 (b.2.length : Int)).bind fun d => (((Fi b.1 a).bind fun p => bif p then some true else (Gi f a.elem).bind fun q => some q : Option (Bool))).bind fun (j : Bool) => bif j then some (.inl (b.1, d)) else (BE b.1 [a]).bind fun g => (Dl c a).bind fun i => ((bif decide (0 <= i) then bif (!c.hard) then (C0 f.holds i).bind fun r => some r else some false else some false : Option (Bool))).bind fun (k : Bool) => bif k then some (.inl (g, d)) else (Ea c a.elem).bind fun e => ((bif (e == 2) then bif decide (0 < a.fin) then (DT h (⟨a.elem, AQ (3 - a.fin)⟩ : AJ)).bind fun s => some s else some false else some false : Option (Bool))).bind fun (l : Bool) => bif l then some (.inl (g, d)) else ((bif (e == 4) then some true else (C0 f.zone a.elem).bind fun t => some (!t) : Option (Bool))).bind fun (m : Bool) => bif m then some (.inr false) else ((((bif (e == 2) then some (a.fin == 0) else some false : Option (Bool))).bind fun (o : Bool) => bif o then AO (DU h a) (1, ([] : List Int)) else bif (e != 2) then (JI c a.elem a.fin 0).bind fun u => (Ak ([0] : List Int) 0).bind fun v => some (BF [0] 0 u.1) else some [0] : Option ((List Int)))).bind fun (n : (List Int)) => AO (Fj c a g n) (0, d) else some (.inr true)
noncomputable def Iz (b : AM) (d : AW) (e : (List AJ)) (c : (List AF)) (a : Int × (List AF)) : Option ((Int × (List AF)) ⊕ Bool) :=
 bif decide (a.1 < (c.length : Int)) then (Ak c a.1).bind fun f => (CK b f).bind fun g => (BE a.2 [g.1]).bind fun h => some (.inl (AQ (a.1 + 1), h)) else (AO (DW b d e) (([] : List AF), a.2)).map .inr
noncomputable def G2 (a : AM) (b : AW) (c : (List AJ)) : Option Bool :=
 (Hb a b).bind fun d => AO (Iz a b c d) (0, ([] : List AF))
theorem Wo (e : AM) (f : AW) (g : (List AJ)) (r : Bool) (h : G2 e f g = some r) : A4 Tryz.prog 94 [.agg (Aa e), .agg (Ad f), .slice 2 (g.map AR)] (· = .bool r) := by
 refine fn AA Tryz.func94 Z Z 176 Z [.tmp 6] Z [(0, .p (.agg (Aa e))), (1, .p (.agg (Ad f))), (2, .p (.slice 2 (g.map AR)))] Z Z fun A hA => ?_
 unfold G2 at h
 refine rs AA <| rl Z <| rs AA <| rl Z <| rs AA <| rn 2 Z <| bq h fun dh an c3 => sx Z (AS (Pt _ _ _ an) (.inr Z) Z Z Z <| rl Z <| AB <| rs AA <| rl Z <| AH ?_)
 apply lp (a := r) (fun o : (Int × (List AF)) => ⟨176, [(2, ls 2 AR g), (3, .lpb 0 0), (4, .lpb 1 0), (7, .p (.nils)), (8, .lsl 2 2 0 o.2.length), (9, ls 2 AK dh), (10, li o.1)], [(0, bx (Aa e)), (1, bx (Ad f)), (2, .row 96 2 (o.2.map AK))], 3⟩) c3
 . exact A9.trans (By 8 96 2 Z) (wf hA (gi 3 []) Z Z Z)
 intro o dp ae
 unfold Iz at ae
 refine AB <| rs AA <| rn 2 Z <| sx Z (Al Z Z <| rl Z <| cd Z ae (fun a3 => ?_) (fun a7 => ?_))
 .refine AD <| AC <| AB <| AH <| AB ?_
  refine Bi AA Az [0, 1, 2, 3, 4, 5, 6, 7, 8, 9, 10, 11] 12 (by kernel_rfl) Z Z Z ?_
  exact Am 3 Z <| bq a3 fun ds ak a4 => An Z (AZ Z (Aj ak Z Z Z <| Am 1 Z <| bq a4 fun dg al a5 => An Z (BA (Cs _ _ _ al) (.inl Z) Z Z Z <| A0 Z <| AC <| rg AA <| rn 3 Z <| bq a5 fun dt am a6 => sx Z (Ax (enc := AK) (l := o.2) (m := [dg.1]) am (fun _ => ⟨Z, Z⟩) Z Z Z Z Z Z <| rl Z <| Ai <| AC <| rg AA <| rl Z <| Av a6 (wf hA [(0, 0), (1, 1), (2, 16)] Z Z Z)))))
 refine AU <| Ab <| CW a7 fun ai a8 => Ao <| AC <| AB <| AH ?_
 apply lp (a := ai) (fun i : ((List AF) × (List AF)) => ⟨176, [(2, ls 2 AR g), (3, .lpb 0 0), (4, .lpb 1 0), (7, .lsl 2 2 0 i.1.length), (8, .lsl 3 2 0 i.2.length)], [(0, bx (Aa e)), (1, bx (Ad f)), (2, .row 96 2 (i.1.map AK)), (3, .row 96 2 (i.2.map AK))], 4⟩) a8
 . exact A9.trans (By 7 96 2 Z) (wf hA [(0, 0), (1, 1), (2, 3), (3, 2)] Z Z Z)
 intro i aj af
 unfold DW at af
 refine AB <| rs AA <| rl Z <| cd Z af (fun a9 => ?_) (fun de => ?_)
 .refine AD <| AC <| AH <| rs AA <| rn 1 Z <| bq a9 fun b aa ba => sx Z (B4 aa Z Z Z Z <| sx Z (DM aa Z Z Z <| rl Z <| rs AA <| rn 1 Z <| bq ba fun c ab bb => sx Z (Wl (l := i.2) ab Z Z Z Z Z <| rl Z <| J4 (st' := ⟨176, [(2, ls 2 AR g), (3, .lpb 0 0), (4, .lpb 1 0), (7, .lsl 2 2 0 i.1.length), (8, .lsl 3 2 0 c.length), (13, .lpb 4 0)], [(0, bx (Aa e)), (1, bx (Ad f)), (2, .row 96 2 (i.1.map AK)), (3, .row 96 2 (c.map AK)), (4, .box [li b.elem, li b.fin])], 5⟩) (A9.trans (UH 3 (enc := AK) (l := i.2) Z (RA ab) (.cons 2 (.same _) (.cons 3 (.same _) (.cons 4 (.same _) (.cons 7 (.same _) (.cons 8 .hit (.cons 13 (.same _) .nil)))))) (.cons 0 Z Z (.same _) (.cons 1 Z Z (.same _) (.cons 2 Z Z (.same _) (.cons 4 Z Z (.same _) .nil))))) (wf hA (gi 3 [(3, 5), (4, 4)]) Z Z Z)) <| AB <| jb (fun t : Bool => ⟨176, [(2, ls 2 AR g), (3, .lpb 0 0), (4, .lpb 1 0), (7, .lsl 2 2 0 i.1.length), (8, .lsl 3 2 0 c.length), (13, .lpb 4 0), (61, lb t)], [(0, bx (Aa e)), (1, bx (Ad f)), (2, .row 96 2 (i.1.map AK)), (3, .row 96 2 (c.map AK)), (4, .box [li b.elem, li b.fin])], 5⟩) bb (fun t bc => ?_) (fun t bi => ?_))))
  .refine rg AA <| rn 2 Z <| bq bc fun du ao be => sx Z (AS (OA _ _ _ ao) (.inl Z) Z Z (C9.eq (.cons (.one (.own (enc := AK) i.1 Z Z)) (.cons (.one (.p _)) .nil))) <| rn 1 Z <| gs 56 be Z Z Z (fun bf => ?_) (fun bg => ?_))
   .exact rl Z <| AN bf (wf hA (gi 5 []) Z Z Z)
   exact rn 3 Z <| bq bg fun dv ap bh => sx Z (AS (Ow _ _ _ ap) (.inl Z) Z Z Z <| rl Z <| AN bh (wf hA (gi 5 []) Z Z Z))
  refine cd Z bi (fun bj => ?_) (fun bk => ?_)
  .exact AU <| Ab <| Ao <| Av bj (wf hA (gi 4 []) Z Z Z)
  refine AD <| AC <| rs AA <| rn 3 Z <| bq bk fun d aq bl => sx Z (Ax (enc := AK) (l := i.1) (m := [b]) aq (fun _ => ⟨Z, Z⟩) Z Z Z Z Z Z <| rl Z <| rs AA <| rn 2 Z <| bq bl fun dw ar bm => sx Z (AS (G1 _ _ _ ar) (.inl Z) Z Z Z <| rl Z <| AB <| jb (fun u : Bool => ⟨176, [(2, ls 2 AR g), (3, .lpb 0 0), (4, .lpb 1 0), (7, .lsl 2 2 0 d.length), (8, .lsl 3 2 0 c.length), (13, .lpb 4 0), (81, lb u)], [(0, bx (Aa e)), (1, bx (Ad f)), (2, .row 96 2 (d.map AK)), (3, .row 96 2 (c.map AK)), (4, .box [li b.elem, li b.fin])], 5⟩) bm (fun u bn => ?_) (fun u bu => ?_)))
  .refine rg AA <| rn 3 Z <| gs 71 bn Z Z Z (fun bo => ?_) (fun bt => ?_)
   .refine rn 5 Z <| gs 76 bo Z Z Z (fun bp => ?_) (fun bs => ?_)
    .exact rn 3 Z <| bq bp fun dx au br => sx Z (AS (Ha _ _ _ au) (.inl Z) Z Z Z <| rl Z <| AN br (wf hA [(0, 0), (1, 1), (2, 6), (3, 3), (4, 4)] Z Z Z))
    exact rl Z <| AN bs (wf hA [(0, 0), (1, 1), (2, 6), (3, 3), (4, 4)] Z Z Z)
   exact rl Z <| AN bt (wf hA [(0, 0), (1, 1), (2, 6), (3, 3), (4, 4)] Z Z Z)
  refine cd Z bu (fun bv => ?_) (fun bw => ?_)
  .exact AU <| Ab <| Ao <| Av bv (wf hA (gi 4 []) Z Z Z)
  refine AD <| AC <| rs AA <| rn 3 Z <| bq bw fun y av bz => sx Z (AS (H4 _ _ _ av) (.inl Z) Z Z Z <| rl Z <| AB <| jb (fun v : Bool => ⟨176, [(2, ls 2 AR g), (3, .lpb 0 0), (4, .lpb 1 0), (7, .lsl 2 2 0 d.length), (8, .lsl 3 2 0 c.length), (13, .lpb 4 0), (15, li y), (102, lb v)], [(0, bx (Aa e)), (1, bx (Ad f)), (2, .row 96 2 (d.map AK)), (3, .row 96 2 (c.map AK)), (4, .box [li b.elem, li b.fin])], 5⟩) bz (fun v b0 => ?_) (fun v b6 => ?_))
  .refine rg AA <| rn 3 Z <| gs 88 b0 Z Z Z (fun b1 => ?_) (fun b5 => ?_)
   .refine rn 5 Z <| gs 93 b1 Z Z Z (fun b2 => ?_) (fun b4 => ?_)
    .exact rn 7 Z <| bq b2 fun dy aw b3 => sx Z (AS (HM _ _ _ aw) (.inl Z) Z Z Z <| rl Z <| AN b3 (wf hA (gi 5 []) Z Z Z))
    exact rl Z <| AN b4 (wf hA (gi 5 []) Z Z Z)
   exact rl Z <| AN b5 (wf hA (gi 5 []) Z Z Z)
  refine cd Z b6 (fun b7 => ?_) (fun b8 => ?_)
  .exact AU <| Ab <| Ao <| Av b7 (wf hA (gi 4 []) Z Z Z)
  refine AD <| AC <| AB <| jb (fun w : Bool => ⟨176, [(2, ls 2 AR g), (3, .lpb 0 0), (4, .lpb 1 0), (7, .lsl 2 2 0 d.length), (8, .lsl 3 2 0 c.length), (13, .lpb 4 0), (15, li y), (112, lb w)], [(0, bx (Aa e)), (1, bx (Ad f)), (2, .row 96 2 (d.map AK)), (3, .row 96 2 (c.map AK)), (4, .box [li b.elem, li b.fin])], 5⟩) b8 (fun w b9 => ?_) (fun w ce => ?_)
  .refine rg AA <| rn 3 Z <| gs 105 b9 Z Z Z (fun ca => ?_) (fun cb => ?_)
   .exact rl Z <| AN ca (wf hA (gi 5 []) Z Z Z)
   exact rn 4 Z <| bq cb fun dz ax cc => sx Z (AS (Ha _ _ _ ax) (.inl Z) Z Z Z <| rl Z <| AN cc (wf hA (gi 5 []) Z Z Z))
  refine cd Z ce (fun cf => ?_) (fun ch => ?_)
  .refine rs AA <| rl Z <| AG <| AI <| AT <| A1 cf fun dk cg => AT <| AI ?_
   cases cg
   exact er Z Le.rfl
  refine AD <| AC <| rs AA <| rl Z <| jb (fun j : (List Int) => ⟨176, [(2, ls 2 AR g), (3, .lpb 0 0), (4, .lpb 1 0), (7, .lsl 2 2 0 d.length), (8, .lsl 3 2 0 c.length), (13, .lpb 4 0), (16, .lsl 5 1 0 j.length)], [(0, bx (Aa e)), (1, bx (Ad f)), (2, .row 96 2 (d.map AK)), (3, .row 96 2 (c.map AK)), (4, .box [li b.elem, li b.fin]), (5, .row 3 1 (j.map AY))], 6⟩) ch (fun j ci => ?_) (fun j c2 => ?_)
  .refine AH <| jb (fun x : Bool => ⟨176, [(2, ls 2 AR g), (3, .lpb 0 0), (4, .lpb 1 0), (7, .lsl 2 2 0 d.length), (8, .lsl 3 2 0 c.length), (13, .lpb 4 0), (15, li y), (16, .lsl 5 1 0 [0].length), (114, lb x)], [(0, bx (Aa e)), (1, bx (Ad f)), (2, .row 96 2 (d.map AK)), (3, .row 96 2 (c.map AK)), (4, .box [li b.elem, li b.fin]), (5, .row 3 1 ([0].map AY))], 6⟩) ci (fun x cj => ?_) (fun x cm => ?_)
   .refine rg AA <| rn 3 Z <| gs 117 cj Z Z Z (fun ck => ?_) (fun cl => ?_)
    .exact rl Z <| AN ck (wf hA (gi 6 []) Z Z Z)
    exact rl Z <| AN cl (wf hA (gi 6 []) Z Z Z)
   refine cd Z cm (fun cn => ?_) (fun cx => ?_)
   .refine rs AA <| rl Z <| rs AA <| rl Z <| AH ?_
    apply lp (a := j) (fun k : (Int × (List Int)) => ⟨176, [(2, ls 2 AR g), (3, .lpb 0 0), (4, .lpb 1 0), (7, .lsl 2 2 0 d.length), (8, .lsl 3 2 0 c.length), (13, .lpb 4 0), (16, .lsl 5 1 0 k.2.length), (17, li k.1)], [(0, bx (Aa e)), (1, bx (Ad f)), (2, .row 96 2 (d.map AK)), (3, .row 96 2 (c.map AK)), (4, .box [li b.elem, li b.fin]), (5, .row 3 1 (k.2.map AY))], 6⟩) cn
    . exact A9.trans (By 16 3 1 Z) (wf hA (gi 5 [(5, 6)]) Z Z Z)
    intro k dq ag
    unfold DU at ag
    refine AB <| rs AA <| rl Z <| cd Z ag (fun co => ?_) (fun cv => ?_)
    .refine AD <| AC <| jb (fun q : (List Int) => ⟨176, [(2, ls 2 AR g), (3, .lpb 0 0), (4, .lpb 1 0), (7, .lsl 2 2 0 d.length), (8, .lsl 3 2 0 c.length), (13, .lpb 4 0), (16, .lsl 5 1 0 q.length), (17, li k.1)], [(0, bx (Aa e)), (1, bx (Ad f)), (2, .row 96 2 (d.map AK)), (3, .row 96 2 (c.map AK)), (4, .box [li b.elem, li b.fin]), (5, .row 3 1 (q.map AY))], 6⟩) co (fun q cp => ?_) (fun q cu => ?_)
     .refine AH <| rs AA <| rn 6 Z <| bq cp fun d0 ay cq => sx Z (AS (HM _ _ _ ay) (.inl Z) Z Z Z <| rl Z <| cd Z cq (fun cr => ?_) (fun ct => ?_))
      .exact rg AA <| rn 3 Z <| bq cr fun d1 az cs => sx Z (Ax (enc := AY) (l := k.2) (m := [k.1]) az (fun _ => ⟨Z, Z⟩) Z Z Z Z Z Z <| rl Z <| Ai <| AN cs (wf hA (gi 5 [(5, 7)]) Z Z Z))
      exact AD <| Ai <| AN ct (wf hA (gi 6 []) Z Z Z)
     exact rg AA <| rl Z <| Av cu (wf hA (gi 6 []) Z Z Z)
    exact AU <| Ab <| BH cv fun dl cw => Ao <| Ai <| AN cw (wf hA (gi 6 []) Z Z Z)
   refine rs AA <| rl Z <| cd Z cx (fun cy => ?_) (fun c1 => ?_)
   .exact rs AA <| rn 5 Z <| bq cy fun di a0 cz => sx Z (AS (Sj _ _ _ _ _ a0) (.inl Z) Z Z Z <| rl Z <| rg AA <| rn 2 Z <| bq cz fun d2 ac c0 => sx Z (B4 ac Z Z Z Z <| sx Z (MC (z := di.1) ac Z Z Z Z Z Z Z Z <| rl Z <| Ai <| AN c0 (wk (gi 6 []) (Oj hA _) Z Z Z (.cons Z (.cons Z (.cons Z (.cons Z (.cons Z (.cons Z (.cons (by simp only [BW]; rfl) .nil))))))) (.cons Z Z (.cons Z Z (.cons Z Z (.cons Z Z (.cons Z Z (.cons Z Z .nil))))))))))
   exact AD <| Ai <| AN c1 (wf hA (gi 6 []) Z Z Z)
  refine rs AA <| rl Z <| AH ?_
  apply lp (a := aj) (fun n : (Int × (List AF)) => ⟨176, [(2, ls 2 AR g), (3, .lpb 0 0), (4, .lpb 1 0), (7, .lsl 2 2 0 d.length), (8, .lsl 3 2 0 n.2.length), (13, .lpb 4 0), (16, .lsl 5 1 0 j.length), (20, li n.1)], [(0, bx (Aa e)), (1, bx (Ad f)), (2, .row 96 2 (d.map AK)), (3, .row 96 2 (n.2.map AK)), (4, .box [li b.elem, li b.fin]), (5, .row 3 1 (j.map AY))], 6⟩) c2
  . exact wf hA (gi 6 []) Z Z Z
  intro n dr ah
  unfold Fj at ah
  refine AB <| rs AA <| rl Z <| cd Z ah (fun c4 => ?_) (fun dc => ?_)
  .refine AD <| AC <| jb (fun s : (List AF) => ⟨176, [(2, ls 2 AR g), (3, .lpb 0 0), (4, .lpb 1 0), (7, .lsl 2 2 0 d.length), (8, .lsl 3 2 0 s.length), (13, .lpb 4 0), (16, .lsl 5 1 0 j.length), (20, li n.1)], [(0, bx (Aa e)), (1, bx (Ad f)), (2, .row 96 2 (d.map AK)), (3, .row 96 2 (s.map AK)), (4, .box [li b.elem, li b.fin]), (5, .row 3 1 (j.map AY))], 6⟩) c4 (fun s c5 => ?_) (fun s db => ?_)
   .refine AH <| AB ?_
    refine Bi AA Az [0, 1, 2, 3, 4, 5, 6, 7, 8, 9, 10, 11, 12, 13, 14] 15 (by kernel_rfl) Z Z Z ?_
    refine Am 5 Z <| bq c5 fun d3 ad c6 => An Z (AZ Z (B4 ad Z Z Z Z <| An Z (Hy Z (DM ad Z Z Z <| Am 1 Z <| bq c6 fun dj a1 c7 => An Z (BA (Cs _ _ _ a1) (.inl Z) Z Z Z <| A0 Z <| AC <| rs AA <| rl Z <| cd Z c7 (fun c8 => ?_) (fun da => ?_))))))
    .exact rg AA <| rn 3 Z <| bq c8 fun d4 a2 c9 => sx Z (Ax (enc := AK) (l := n.2) (m := [dj.1]) a2 (fun _ => ⟨Z, Z⟩) Z Z Z Z Z Z <| rl Z <| Ai <| AN c9 (wf hA (gi 3 [(3, 22), (4, 4), (5, 5)]) Z Z Z))
    exact AD <| Ai <| AN da (wf hA (gi 6 []) Z Z Z)
   exact rg AA <| rl Z <| Av db (wf hA (gi 6 []) Z Z Z)
  exact AU <| Ab <| BH dc fun dm dd => Ao <| Ai <| Av dd (wf hA (gi 4 []) Z Z Z)
 refine AU <| Ab <| BH de fun dn df => Ao <| AC <| rs AA <| rl Z <| AG ?_
 cases df
 exact er Z Le.rfl
end Go.E
/- Plain functions, and walks in step with them. Written by a program (gen.py). No condition. -/
set_option maxRecDepth 100000
namespace Go.E
open Go Go.RowKit Go.Proofs
noncomputable def D6 (c : AM) (b : AW) (d : (List AJ)) (a : Int) : Option (Int ⊕ Bool) :=
 bif decide (a < (b.holds.length : Int)) then (Ak b.holds a).bind fun e => (JH c e).bind fun f => bif (!f.2) then some (.inr false) else some (.inl (AQ (a + 1))) else ((G2 c b d).bind fun g => some g).map .inr
noncomputable def D7 (c : AM) (a : AW) (e : (List AJ)) (b : Int) : Option (Int ⊕ Bool) :=
 bif decide (b < (a.zone.length : Int)) then (((Ak a.zone b).bind fun f => (Ea c f).bind fun g => bif (g == 0) then some true else (Ak a.zone b).bind fun h => (Gi a h).bind fun i => some i : Option (Bool))).bind fun (d : Bool) => bif d then some (.inr false) else some (.inl (AQ (b + 1))) else (AO (D6 c a e) 0).map .inr
noncomputable def FR (c : AM) (b : AW) (e : (List AJ)) (a : Int) : Option (Int ⊕ Bool) :=
 bif decide (a < (b.guards.length : Int)) then (((Ak b.guards a).bind fun f => (Ea c f.elem).bind fun g => bif (g != 2) then some true else (Ak b.guards a).bind fun h => bif (h.pos != 1) then (Ak b.guards a).bind fun i => some (i.pos != 2) else some false : Option (Bool))).bind fun (d : Bool) => bif d then some (.inr false) else some (.inl (AQ (a + 1))) else (AO (D7 c b e) 0).map .inr
noncomputable def HN (c : AM) (b : AW) : Option Bool :=
 (Kj b).bind fun a => (HL a a).bind fun d => bif d then some false else AO (FR c b a) 0
theorem TK (c : AM) (d : AW) (r : Bool) (h : HN c d = some r) : A4 Tryz.prog 35 [.agg (Aa c), .agg (Ad d)] (· = .bool r) := by
 refine fn AA Tryz.func35 Z Z 97 Z [.tmp 4] Z [(0, .p (.agg (Aa c))), (1, .p (.agg (Ad d)))] Z Z fun A hA => ?_
 unfold HN at h
 refine rs AA <| rl Z <| rs AA <| rn 1 Z <| bq h fun b s ax => sx Z (Rx (Wn _ _ s) Z Z Z Z <| rl Z <| AB <| rs AA <| rn 2 Z <| bq ax fun bw q ae => sx Z (AS (TJ _ _ _ q) (.inl Z) Z Z (C9.eq (.cons (.one (.own (enc := AR) b Z Z)) (.cons (.one (.own (enc := AR) b Z Z)) .nil))) <| rl Z <| cd Z ae (fun af => ?_) (fun ag => ?_)))
 .refine rs AA <| rl Z <| AG <| AI ?_
  cases af
  exact er Z Le.rfl
 refine AD <| AC <| AB <| rs AA <| rl Z <| AH ?_
 apply lp (a := r) (fun e : Int => ⟨97, [(2, .lpb 0 0), (3, .lpb 1 0), (5, .lsl 2 2 0 b.length), (6, li e)], [(0, bx (Aa c)), (1, bx (Ad d)), (2, .row 91 2 (b.map AR))], 3⟩) ag
 . exact wf hA (gi 3 []) Z Z Z
 intro e bt j
 unfold FR at j
 refine AB <| rs AA <| rn 3 Z <| sx Z (Al Z Z <| rl Z <| cd Z j (fun ah => ?_) (fun ay => ?_))
 .refine AD <| AC <| AB <| AH <| jb (fun g : Bool => ⟨97, [(2, .lpb 0 0), (3, .lpb 1 0), (5, .lsl 2 2 0 b.length), (6, li e), (49, lb g)], [(0, bx (Aa c)), (1, bx (Ad d)), (2, .row 91 2 (b.map AR))], 3⟩) ah (fun g ai => ?_) (fun g ar => ?_)
  .refine Bi AA Az [0, 1, 2, 3, 4, 5, 6, 7, 8, 9, 10, 11, 12, 13, 14, 15, 16, 17, 18, 19, 20, 21, 22, 23, 24, 25, 26] 27 (by kernel_rfl) Z Z Z ?_
   refine Am 4 Z <| bq ai fun bz t aj => An Z (AZ Z (Aj t Z Z Z <| Am 2 Z <| bq aj fun b0 u ak => An Z (BA (H4 _ _ _ u) (.inl Z) Z Z Z <| Am 2 Z <| Dk 32 ak Z Z Z (fun al => ?_) (fun am => ?_))))
   .exact A0 Z <| AN al (wf hA (gi 3 []) Z Z Z)
   refine Am 3 Z <| bq am fun b1 v an => An Z (AZ Z (Aj v Z Z Z <| Am 4 Z <| Dk 40 an Z Z Z (fun ao => ?_) (fun aq => ?_)))
   .exact Am 3 Z <| bq ao fun b2 w ap => An Z (AZ Z (Aj w Z Z Z <| A0 Z <| AN ap (wf hA (gi 3 []) Z Z Z)))
   exact A0 Z <| AN aq (wf hA (gi 3 []) Z Z Z)
  refine cd Z ar (fun au => ?_) (fun aw => ?_)
  .refine rs AA <| rl Z <| AG <| AT <| AI <| A1 au fun bo av => AT <| AI ?_
   cases av
   exact er Z Le.rfl
  exact AD <| Ai <| AC <| rg AA <| rl Z <| Av aw (wf hA (gi 3 []) Z Z Z)
 refine AU <| Ab <| CW ay fun n az => Ao <| AC <| AB <| rs AA <| rl Z <| AH ?_
 apply lp (a := n) (fun f : Int => ⟨97, [(2, .lpb 0 0), (3, .lpb 1 0), (5, .lsl 2 2 0 b.length), (7, li f)], [(0, bx (Aa c)), (1, bx (Ad d)), (2, .row 91 2 (b.map AR))], 3⟩) az
 . exact wf hA (gi 3 []) Z Z Z
 intro f bu k
 unfold D7 at k
 refine AB <| rs AA <| rn 3 Z <| sx Z (Al Z Z <| rl Z <| cd Z k (fun a0 => ?_) (fun bc => ?_))
 .refine AD <| AC <| AB <| AH <| jb (fun i : Bool => ⟨97, [(2, .lpb 0 0), (3, .lpb 1 0), (5, .lsl 2 2 0 b.length), (7, li f), (73, lb i)], [(0, bx (Aa c)), (1, bx (Ad d)), (2, .row 91 2 (b.map AR))], 3⟩) a0 (fun i a1 => ?_) (fun i a8 => ?_)
  .refine Bi AA Az [0, 1, 2, 3, 4, 5, 6, 7, 8, 9, 10, 11, 12, 13, 14, 15, 16] 17 (by kernel_rfl) Z Z Z ?_
   refine Am 4 Z <| bq a1 fun b3 x a2 => An Z (AZ Z (Aj x Z Z Z <| Am 1 Z <| bq a2 fun b4 y a3 => An Z (BA (H4 _ _ _ y) (.inl Z) Z Z Z <| Am 2 Z <| Dk 65 a3 Z Z Z (fun a4 => ?_) (fun a5 => ?_))))
   .exact A0 Z <| AN a4 (wf hA (gi 3 []) Z Z Z)
   exact Am 4 Z <| bq a5 fun b5 z a6 => An Z (AZ Z (Aj z Z Z Z <| Am 1 Z <| bq a6 fun b6 aa a7 => An Z (BA (Ow _ _ _ aa) (.inl Z) Z Z Z <| A0 Z <| AN a7 (wf hA (gi 3 []) Z Z Z))))
  refine cd Z a8 (fun a9 => ?_) (fun bb => ?_)
  .refine rs AA <| rl Z <| AG <| AT <| AI <| A1 a9 fun bp ba => AT <| AI ?_
   cases ba
   exact er Z Le.rfl
  exact AD <| Ai <| AC <| rg AA <| rl Z <| Av bb (wf hA (gi 3 []) Z Z Z)
 refine AU <| Ab <| CW bc fun o be => Ao <| AC <| AB <| rs AA <| rl Z <| AH ?_
 apply lp (a := o) (fun m : Int => ⟨97, [(2, .lpb 0 0), (3, .lpb 1 0), (5, .lsl 2 2 0 b.length), (8, li m)], [(0, bx (Aa c)), (1, bx (Ad d)), (2, .row 91 2 (b.map AR))], 3⟩) be
 . exact wf hA (gi 3 []) Z Z Z
 intro m bv l
 unfold D6 at l
 refine AB <| rs AA <| rn 3 Z <| sx Z (Al Z Z <| rl Z <| cd Z l (fun bf => ?_) (fun bl => ?_))
 .refine AD <| AC <| AB <| AH <| AB ?_
  refine Bi AA Az [0, 1, 2, 3, 4, 5, 6, 7, 8, 9, 10, 11, 12] 13 (by kernel_rfl) Z Z Z ?_
  refine Am 4 Z <| bq bf fun b7 ab bg => An Z (AZ Z (Aj ab Z Z Z <| Am 1 Z <| bq bg fun b8 ac bh => An Z (BA (R3 _ _ _ ac) (.inl Z) Z Z Z <| A0 Z <| AC <| rs AA <| rl Z <| cd Z bh (fun bi => ?_) (fun bk => ?_))))
  .refine rs AA <| rl Z <| AG <| AT <| AI <| A1 bi fun br bj => AT <| AI ?_
   cases bj
   exact er Z Le.rfl
  exact AD <| Ai <| AC <| rg AA <| rl Z <| Av bk (wf hA (gi 3 []) Z Z Z)
 refine AU <| Ab <| CW bl fun bs bm => Ao <| AC <| rs AA <| rn 3 Z <| bq bm fun b9 ad bn => sx Z (AS (Wo _ _ _ _ ad) (.inl Z) Z Z (C9.eq (.cons (.one (.p _)) (.cons (.one (.p _)) (.cons (.one (.own (enc := AR) b Z Z)) .nil)))) <| rl Z <| AG ?_)
 have hr := Option.some.inj bn; subst hr
 exact er Z Le.rfl
noncomputable def CX (rc : (Aq × AF) -> Option Aq) (a : Aq) (c : AF) : Option Aq :=
 (((Gi (⟨a.r.frm, a.r.to, a.r.fin, a.r.steps, a.r.needs, a.r.guards, a.r.zone, a.r.holds, a.r.bare⟩ : AW) c.elem).bind fun ao => bif ao then some true else (Fi a.met c).bind fun ap => some ap : Option (Bool))).bind fun (aa : Bool) => bif aa then some (⟨a.p, (⟨a.r.frm, a.r.to, a.r.fin, a.r.steps, a.r.needs, a.r.guards, a.r.zone, a.r.holds, a.r.bare⟩ : AW), a.met⟩ : Aq) else (BE a.met [c]).bind fun m => (Dl a.p c).bind fun s => ((bif decide (0 <= s) then some (!a.p.hard) else some false : Option (Bool))).bind fun (ab : Bool) => bif ab then (((C0 a.r.holds s).bind fun aq => bif (!aq) then (BE a.r.holds [s]).bind fun ar => some ar else some a.r.holds : Option ((List Int)))).bind fun (ac : (List Int)) => some (⟨a.p, (⟨a.r.frm, a.r.to, a.r.fin, a.r.steps, a.r.needs, a.r.guards, a.r.zone, ac, a.r.bare⟩ : AW), m⟩ : Aq) else (Ea a.p c.elem).bind fun t => bif (t == 4) then some (⟨a.p, (⟨a.r.frm, a.r.to, a.r.fin, a.r.steps, a.r.needs, a.r.guards, a.r.zone, a.r.holds, true⟩ : AW), m⟩ : Aq) else bif (t == 2) then ((bif (c.fin == 0) then (((((C0 a.r.zone c.elem).bind fun ad => bif ad then some (true, a.r.bare, a.r.zone) else bif decide (12 <= (a.r.zone.length : Int)) then some (false, true, a.r.zone) else (BE a.r.zone [c.elem]).bind fun ae => some (true, a.r.bare, ae) : Option (Bool × Bool × (List Int)))).bind fun (n : Bool × Bool × (List Int)) => bif n.1 then (((CK a.p (⟨c.elem, 1⟩ : AF)).bind fun u => bif u.2 then (rc ((⟨a.p, (⟨a.r.frm, a.r.to, a.r.fin, a.r.steps, a.r.needs, a.r.guards, n.2.2, a.r.holds, n.2.1⟩ : AW), m⟩ : Aq), u.1)).bind fun i => some (i.p.elems, i.p.joins, i.p.signals, i.p.lines, i.p.top, i.p.brake, i.p.margin, i.p.throw, i.p.hard, i.r.frm, i.r.to, i.r.fin, i.r.steps, i.r.needs, i.r.bare, i.r.guards, i.r.zone, i.r.holds, i.met) else some (a.p.elems, a.p.joins, a.p.signals, a.p.lines, a.p.top, a.p.brake, a.p.margin, a.p.throw, a.p.hard, a.r.frm, a.r.to, a.r.fin, a.r.steps, a.r.needs, n.2.1, a.r.guards, n.2.2, a.r.holds, m) : Option ((List Bv) × (List Bs) × (List BB) × (List CC) × Int × Int × Int × Int × Bool × Int × Int × Int × (List AV) × (List AJ) × Bool × (List AJ) × (List Int) × (List Int) × (List AF)))).bind fun (b : (List Bv) × (List Bs) × (List BB) × (List CC) × Int × Int × Int × Int × Bool × Int × Int × Int × (List AV) × (List AJ) × Bool × (List AJ) × (List Int) × (List Int) × (List AF)) => (((CK (⟨b.1, b.2.1, b.2.2.1, b.2.2.2.1, b.2.2.2.2.1, b.2.2.2.2.2.1, b.2.2.2.2.2.2.1, b.2.2.2.2.2.2.2.1, b.2.2.2.2.2.2.2.2.1⟩ : AM) (⟨c.elem, 2⟩ : AF)).bind fun v => bif v.2 then (rc ((⟨(⟨b.1, b.2.1, b.2.2.1, b.2.2.2.1, b.2.2.2.2.1, b.2.2.2.2.2.1, b.2.2.2.2.2.2.1, b.2.2.2.2.2.2.2.1, b.2.2.2.2.2.2.2.2.1⟩ : AM), (⟨b.2.2.2.2.2.2.2.2.2.1, b.2.2.2.2.2.2.2.2.2.2.1, b.2.2.2.2.2.2.2.2.2.2.2.1, b.2.2.2.2.2.2.2.2.2.2.2.2.1, b.2.2.2.2.2.2.2.2.2.2.2.2.2.1, b.2.2.2.2.2.2.2.2.2.2.2.2.2.2.2.1, b.2.2.2.2.2.2.2.2.2.2.2.2.2.2.2.2.1, b.2.2.2.2.2.2.2.2.2.2.2.2.2.2.2.2.2.1, b.2.2.2.2.2.2.2.2.2.2.2.2.2.2.1⟩ : AW), b.2.2.2.2.2.2.2.2.2.2.2.2.2.2.2.2.2.2⟩ : Aq), v.1)).bind fun j => some (j.p.elems, j.p.joins, j.p.signals, j.p.lines, j.p.top, j.p.brake, j.p.margin, j.p.throw, j.p.hard, j.r.frm, j.r.to, j.r.fin, j.r.steps, j.r.needs, j.r.bare, j.r.guards, j.r.zone, j.r.holds, j.met) else some (b.1, b.2.1, b.2.2.1, b.2.2.2.1, b.2.2.2.2.1, b.2.2.2.2.2.1, b.2.2.2.2.2.2.1, b.2.2.2.2.2.2.2.1, b.2.2.2.2.2.2.2.2.1, b.2.2.2.2.2.2.2.2.2.1, b.2.2.2.2.2.2.2.2.2.2.1, b.2.2.2.2.2.2.2.2.2.2.2.1, b.2.2.2.2.2.2.2.2.2.2.2.2.1, b.2.2.2.2.2.2.2.2.2.2.2.2.2.1, b.2.2.2.2.2.2.2.2.2.2.2.2.2.2.1, b.2.2.2.2.2.2.2.2.2.2.2.2.2.2.2.1, b.2.2.2.2.2.2.2.2.2.2.2.2.2.2.2.2.1, b.2.2.2.2.2.2.2.2.2.2.2.2.2.2.2.2.2.1, b.2.2.2.2.2.2.2.2.2.2.2.2.2.2.2.2.2.2) : Option ((List Bv) × (List Bs) × (List BB) × (List CC) × Int × Int × Int × Int × Bool × Int × Int × Int × (List AV) × (List AJ) × Bool × (List AJ) × (List Int) × (List Int) × (List AF)))).bind fun (e : (List Bv) × (List Bs) × (List BB) × (List CC) × Int × Int × Int × Int × Bool × Int × Int × Int × (List AV) × (List AJ) × Bool × (List AJ) × (List Int) × (List Int) × (List AF)) => some (e.1, e.2.1, e.2.2.1, e.2.2.2.1, e.2.2.2.2.1, e.2.2.2.2.2.1, e.2.2.2.2.2.2.1, e.2.2.2.2.2.2.2.1, e.2.2.2.2.2.2.2.2.1, e.2.2.2.2.2.2.2.2.2.1, e.2.2.2.2.2.2.2.2.2.2.1, e.2.2.2.2.2.2.2.2.2.2.2.1, e.2.2.2.2.2.2.2.2.2.2.2.2.1, e.2.2.2.2.2.2.2.2.2.2.2.2.2.1, e.2.2.2.2.2.2.2.2.2.2.2.2.2.2.1, e.2.2.2.2.2.2.2.2.2.2.2.2.2.2.2.1, e.2.2.2.2.2.2.2.2.2.2.2.2.2.2.2.2.1, e.2.2.2.2.2.2.2.2.2.2.2.2.2.2.2.2.2.1, e.2.2.2.2.2.2.2.2.2.2.2.2.2.2.2.2.2.2) else some (a.p.elems, a.p.joins, a.p.signals, a.p.lines, a.p.top, a.p.brake, a.p.margin, a.p.throw, a.p.hard, a.r.frm, a.r.to, a.r.fin, a.r.steps, a.r.needs, n.2.1, a.r.guards, n.2.2, a.r.holds, m) : Option ((List Bv) × (List Bs) × (List BB) × (List CC) × Int × Int × Int × Int × Bool × Int × Int × Int × (List AV) × (List AJ) × Bool × (List AJ) × (List Int) × (List Int) × (List AF)))).bind fun (d : (List Bv) × (List Bs) × (List BB) × (List CC) × Int × Int × Int × Int × Bool × Int × Int × Int × (List AV) × (List AJ) × Bool × (List AJ) × (List Int) × (List Int) × (List AF)) => some (d.1, d.2.1, d.2.2.1, d.2.2.2.1, d.2.2.2.2.1, d.2.2.2.2.2.1, d.2.2.2.2.2.2.1, d.2.2.2.2.2.2.2.1, d.2.2.2.2.2.2.2.2.1, d.2.2.2.2.2.2.2.2.2.1, d.2.2.2.2.2.2.2.2.2.2.1, d.2.2.2.2.2.2.2.2.2.2.2.1, d.2.2.2.2.2.2.2.2.2.2.2.2.1, d.2.2.2.2.2.2.2.2.2.2.2.2.2.1, d.2.2.2.2.2.2.2.2.2.2.2.2.2.2.1, d.2.2.2.2.2.2.2.2.2.2.2.2.2.2.2.1, d.2.2.2.2.2.2.2.2.2.2.2.2.2.2.2.2.1, d.2.2.2.2.2.2.2.2.2.2.2.2.2.2.2.2.2.1, d.2.2.2.2.2.2.2.2.2.2.2.2.2.2.2.2.2.2) else (((DT a.r.needs (⟨c.elem, c.fin⟩ : AJ)).bind fun af => bif (!af) then (DT a.r.guards (⟨c.elem, c.fin⟩ : AJ)).bind fun ag => some (!ag) else some false : Option (Bool))).bind fun (y : Bool) => bif y then (((DT a.r.guards (⟨c.elem, AQ (3 - c.fin)⟩ : AJ)).bind fun ah => bif (!ah) then (BE a.r.guards [(⟨c.elem, AQ (3 - c.fin)⟩ : AJ)]).bind fun ai => some ai else some a.r.guards : Option ((List AJ)))).bind fun (z : (List AJ)) => some (a.p.elems, a.p.joins, a.p.signals, a.p.lines, a.p.top, a.p.brake, a.p.margin, a.p.throw, a.p.hard, a.r.frm, a.r.to, a.r.fin, a.r.steps, a.r.needs, a.r.bare, z, a.r.zone, a.r.holds, m) else (((C0 a.r.zone c.elem).bind fun aj => bif aj then some (true, a.r.bare, a.r.zone) else bif decide (12 <= (a.r.zone.length : Int)) then some (false, true, a.r.zone) else (BE a.r.zone [c.elem]).bind fun ak => some (true, a.r.bare, ak) : Option (Bool × Bool × (List Int)))).bind fun (o : Bool × Bool × (List Int)) => bif o.1 then (((CK a.p (⟨c.elem, 0⟩ : AF)).bind fun w => bif w.2 then (rc ((⟨a.p, (⟨a.r.frm, a.r.to, a.r.fin, a.r.steps, a.r.needs, a.r.guards, o.2.2, a.r.holds, o.2.1⟩ : AW), m⟩ : Aq), w.1)).bind fun k => some (k.p.elems, k.p.joins, k.p.signals, k.p.lines, k.p.top, k.p.brake, k.p.margin, k.p.throw, k.p.hard, k.r.frm, k.r.to, k.r.fin, k.r.steps, k.r.needs, k.r.bare, k.r.guards, k.r.zone, k.r.holds, k.met) else some (a.p.elems, a.p.joins, a.p.signals, a.p.lines, a.p.top, a.p.brake, a.p.margin, a.p.throw, a.p.hard, a.r.frm, a.r.to, a.r.fin, a.r.steps, a.r.needs, o.2.1, a.r.guards, o.2.2, a.r.holds, m) : Option ((List Bv) × (List Bs) × (List BB) × (List CC) × Int × Int × Int × Int × Bool × Int × Int × Int × (List AV) × (List AJ) × Bool × (List AJ) × (List Int) × (List Int) × (List AF)))).bind fun (f : (List Bv) × (List Bs) × (List BB) × (List CC) × Int × Int × Int × Int × Bool × Int × Int × Int × (List AV) × (List AJ) × Bool × (List AJ) × (List Int) × (List Int) × (List AF)) => some (f.1, f.2.1, f.2.2.1, f.2.2.2.1, f.2.2.2.2.1, f.2.2.2.2.2.1, f.2.2.2.2.2.2.1, f.2.2.2.2.2.2.2.1, f.2.2.2.2.2.2.2.2.1, f.2.2.2.2.2.2.2.2.2.1, f.2.2.2.2.2.2.2.2.2.2.1, f.2.2.2.2.2.2.2.2.2.2.2.1, f.2.2.2.2.2.2.2.2.2.2.2.2.1, f.2.2.2.2.2.2.2.2.2.2.2.2.2.1, f.2.2.2.2.2.2.2.2.2.2.2.2.2.2.1, f.2.2.2.2.2.2.2.2.2.2.2.2.2.2.2.1, f.2.2.2.2.2.2.2.2.2.2.2.2.2.2.2.2.1, f.2.2.2.2.2.2.2.2.2.2.2.2.2.2.2.2.2.1, f.2.2.2.2.2.2.2.2.2.2.2.2.2.2.2.2.2.2) else some (a.p.elems, a.p.joins, a.p.signals, a.p.lines, a.p.top, a.p.brake, a.p.margin, a.p.throw, a.p.hard, a.r.frm, a.r.to, a.r.fin, a.r.steps, a.r.needs, o.2.1, a.r.guards, o.2.2, a.r.holds, m) : Option ((List Bv) × (List Bs) × (List BB) × (List CC) × Int × Int × Int × Int × Bool × Int × Int × Int × (List AV) × (List AJ) × Bool × (List AJ) × (List Int) × (List Int) × (List AF)))).bind fun (h : (List Bv) × (List Bs) × (List BB) × (List CC) × Int × Int × Int × Int × Bool × Int × Int × Int × (List AV) × (List AJ) × Bool × (List AJ) × (List Int) × (List Int) × (List AF)) => some (⟨(⟨h.1, h.2.1, h.2.2.1, h.2.2.2.1, h.2.2.2.2.1, h.2.2.2.2.2.1, h.2.2.2.2.2.2.1, h.2.2.2.2.2.2.2.1, h.2.2.2.2.2.2.2.2.1⟩ : AM), (⟨h.2.2.2.2.2.2.2.2.2.1, h.2.2.2.2.2.2.2.2.2.2.1, h.2.2.2.2.2.2.2.2.2.2.2.1, h.2.2.2.2.2.2.2.2.2.2.2.2.1, h.2.2.2.2.2.2.2.2.2.2.2.2.2.1, h.2.2.2.2.2.2.2.2.2.2.2.2.2.2.2.1, h.2.2.2.2.2.2.2.2.2.2.2.2.2.2.2.2.1, h.2.2.2.2.2.2.2.2.2.2.2.2.2.2.2.2.2.1, h.2.2.2.2.2.2.2.2.2.2.2.2.2.2.1⟩ : AW), h.2.2.2.2.2.2.2.2.2.2.2.2.2.2.2.2.2.2⟩ : Aq) else (JI a.p c.elem c.fin 0).bind fun al => (((C0 a.r.zone c.elem).bind fun am => bif am then some (true, a.r.bare, a.r.zone) else bif decide (12 <= (a.r.zone.length : Int)) then some (false, true, a.r.zone) else (BE a.r.zone [c.elem]).bind fun an => some (true, a.r.bare, an) : Option (Bool × Bool × (List Int)))).bind fun (q : Bool × Bool × (List Int)) => bif q.1 then (((CK a.p (⟨c.elem, al.1⟩ : AF)).bind fun x => bif x.2 then (rc ((⟨a.p, (⟨a.r.frm, a.r.to, a.r.fin, a.r.steps, a.r.needs, a.r.guards, q.2.2, a.r.holds, q.2.1⟩ : AW), m⟩ : Aq), x.1)).bind fun l => some (l.p.elems, l.p.joins, l.p.signals, l.p.lines, l.p.top, l.p.brake, l.p.margin, l.p.throw, l.p.hard, l.r.frm, l.r.to, l.r.fin, l.r.steps, l.r.needs, l.r.bare, l.r.guards, l.r.zone, l.r.holds, l.met) else some (a.p.elems, a.p.joins, a.p.signals, a.p.lines, a.p.top, a.p.brake, a.p.margin, a.p.throw, a.p.hard, a.r.frm, a.r.to, a.r.fin, a.r.steps, a.r.needs, q.2.1, a.r.guards, q.2.2, a.r.holds, m) : Option ((List Bv) × (List Bs) × (List BB) × (List CC) × Int × Int × Int × Int × Bool × Int × Int × Int × (List AV) × (List AJ) × Bool × (List AJ) × (List Int) × (List Int) × (List AF)))).bind fun (g : (List Bv) × (List Bs) × (List BB) × (List CC) × Int × Int × Int × Int × Bool × Int × Int × Int × (List AV) × (List AJ) × Bool × (List AJ) × (List Int) × (List Int) × (List AF)) => some (⟨(⟨g.1, g.2.1, g.2.2.1, g.2.2.2.1, g.2.2.2.2.1, g.2.2.2.2.2.1, g.2.2.2.2.2.2.1, g.2.2.2.2.2.2.2.1, g.2.2.2.2.2.2.2.2.1⟩ : AM), (⟨g.2.2.2.2.2.2.2.2.2.1, g.2.2.2.2.2.2.2.2.2.2.1, g.2.2.2.2.2.2.2.2.2.2.2.1, g.2.2.2.2.2.2.2.2.2.2.2.2.1, g.2.2.2.2.2.2.2.2.2.2.2.2.2.1, g.2.2.2.2.2.2.2.2.2.2.2.2.2.2.2.1, g.2.2.2.2.2.2.2.2.2.2.2.2.2.2.2.2.1, g.2.2.2.2.2.2.2.2.2.2.2.2.2.2.2.2.2.1, g.2.2.2.2.2.2.2.2.2.2.2.2.2.2.1⟩ : AW), g.2.2.2.2.2.2.2.2.2.2.2.2.2.2.2.2.2.2⟩ : Aq) else some (⟨a.p, (⟨a.r.frm, a.r.to, a.r.fin, a.r.steps, a.r.needs, a.r.guards, q.2.2, a.r.holds, q.2.1⟩ : AW), m⟩ : Aq)
noncomputable def Ia (b : Aq) (c : AF) : Option Aq :=
 Ox (fun (rc : (Aq × AF) -> Option Aq) (a : (Aq × AF)) => CX rc a.1 a.2) 1000 (b, c)
theorem OG (rc : (Aq × AF) -> Option Aq) (hrec : ∀ (a : Aq) (b : AF) (r : Aq), rc (a, b) = some r -> Lo Tryz.prog 196 [(0, .box [ls 3 BJ a.p.elems, ls 4 BZ a.p.joins, ls 4 A2 a.p.signals, ls 2 BR a.p.lines, li a.p.top, li a.p.brake, li a.p.margin, li a.p.throw, lb a.p.hard, li a.r.frm, li a.r.to, li a.r.fin, ls 3 Af a.r.steps, ls 2 AR a.r.needs, .lsl 1 2 0 a.r.guards.length, .lsl 2 1 0 a.r.zone.length, .lsl 3 1 0 a.r.holds.length, lb a.r.bare, .lsl 4 2 0 a.met.length]), (1, .row 91 2 (a.r.guards.map AR)), (2, .row 3 1 (a.r.zone.map AY)), (3, .row 3 1 (a.r.holds.map AY)), (4, .row 96 2 (a.met.map AK))] 5 [.lpb 0 0, .p (.agg (AK b))] (.tup []) [(0, .box [ls 3 BJ r.p.elems, ls 4 BZ r.p.joins, ls 4 A2 r.p.signals, ls 2 BR r.p.lines, li r.p.top, li r.p.brake, li r.p.margin, li r.p.throw, lb r.p.hard, li r.r.frm, li r.r.to, li r.r.fin, ls 3 Af r.r.steps, ls 2 AR r.r.needs, .lsl 5 2 0 r.r.guards.length, .lsl 6 1 0 r.r.zone.length, .lsl 7 1 0 r.r.holds.length, lb r.r.bare, .lsl 8 2 0 r.met.length]), (5, .row 91 2 (r.r.guards.map AR)), (6, .row 3 1 (r.r.zone.map AY)), (7, .row 3 1 (r.r.holds.map AY)), (8, .row 96 2 (r.met.map AK))] 9) (a : Aq) (b : AF) (r : Aq) (h : CX rc a b = some r) : Lo Tryz.prog 196 [(0, .box [ls 3 BJ a.p.elems, ls 4 BZ a.p.joins, ls 4 A2 a.p.signals, ls 2 BR a.p.lines, li a.p.top, li a.p.brake, li a.p.margin, li a.p.throw, lb a.p.hard, li a.r.frm, li a.r.to, li a.r.fin, ls 3 Af a.r.steps, ls 2 AR a.r.needs, .lsl 1 2 0 a.r.guards.length, .lsl 2 1 0 a.r.zone.length, .lsl 3 1 0 a.r.holds.length, lb a.r.bare, .lsl 4 2 0 a.met.length]), (1, .row 91 2 (a.r.guards.map AR)), (2, .row 3 1 (a.r.zone.map AY)), (3, .row 3 1 (a.r.holds.map AY)), (4, .row 96 2 (a.met.map AK))] 5 [.lpb 0 0, .p (.agg (AK b))] (.tup []) [(0, .box [ls 3 BJ r.p.elems, ls 4 BZ r.p.joins, ls 4 A2 r.p.signals, ls 2 BR r.p.lines, li r.p.top, li r.p.brake, li r.p.margin, li r.p.throw, lb r.p.hard, li r.r.frm, li r.r.to, li r.r.fin, ls 3 Af r.r.steps, ls 2 AR r.r.needs, .lsl 5 2 0 r.r.guards.length, .lsl 6 1 0 r.r.zone.length, .lsl 7 1 0 r.r.holds.length, lb r.r.bare, .lsl 8 2 0 r.met.length]), (5, .row 91 2 (r.r.guards.map AR)), (6, .row 3 1 (r.r.zone.map AY)), (7, .row 3 1 (r.r.holds.map AY)), (8, .row 96 2 (r.met.map AK))] 9 := by
 refine Z4 AA Tryz.func196 107 [] [(0, .lpb 0 0), (1, .p (.agg (AK b)))] Z Z Z Z Z Z (fun A hA => ?_)
 unfold CX at h
 refine rs AA <| rl Z <| AB <| jb (fun u : Bool => ⟨107, [(0, .lpb 0 0), (3, .lpb 5 0), (21, lb u)], [(0, .box [ls 3 BJ a.p.elems, ls 4 BZ a.p.joins, ls 4 A2 a.p.signals, ls 2 BR a.p.lines, li a.p.top, li a.p.brake, li a.p.margin, li a.p.throw, lb a.p.hard, li a.r.frm, li a.r.to, li a.r.fin, ls 3 Af a.r.steps, ls 2 AR a.r.needs, .lsl 1 2 0 a.r.guards.length, .lsl 2 1 0 a.r.zone.length, .lsl 3 1 0 a.r.holds.length, lb a.r.bare, .lsl 4 2 0 a.met.length]), (1, .row 91 2 (a.r.guards.map AR)), (2, .row 3 1 (a.r.zone.map AY)), (3, .row 3 1 (a.r.holds.map AY)), (4, .row 96 2 (a.met.map AK)), (5, .box [li b.elem, li b.fin])], 6⟩) h (fun u dd => ?_) (fun u di => ?_)
 .refine Bi AA Az [0, 1, 2, 3, 4, 5, 6, 7, 8, 9, 10, 11, 12, 13, 14] 15 (by kernel_rfl) Z Z Z ?_
  refine Am 6 Z <| bq dd fun ei ar de => An Z (BA (Ow _ _ _ ar) (.inl Z) Z Z (C9.eq (.cons (.agg (.cons (.p _) (.cons (.p _) (.cons (.p _) (.cons (.p _) (.cons (.p _) (.cons (.own (enc := AR) a.r.guards Z Z) (.cons (.own (enc := AY) a.r.zone Z Z) (.cons (.own (enc := AY) a.r.holds Z Z) (.cons (.p _) .nil)))))))))) (.cons (.one (.p _)) .nil))) <| Am 1 Z <| Dk 14 de Z Z Z (fun df => ?_) (fun dg => ?_))
  .exact A0 Z <| AN df (wj hA (gi 6 []) Z Z Z Z)
  exact Am 5 Z <| bq dg fun ej au dh => An Z (BA (OA _ _ _ au) (.inl Z) Z Z (C9.eq (.cons (.one (.own (enc := AK) a.met Z Z)) (.cons (.one (.p _)) .nil))) <| A0 Z <| AN dh (wj hA (gi 6 []) Z Z Z Z))
 refine cd Z di (fun dj => ?_) (fun dk => ?_)
 .refine AG <| AI ?_
  cases dj
  exact Co (nt := 107) (sl := [(0, .lpb 0 0)]) (wj hA [(0, 0), (5, 1), (6, 2), (7, 3), (8, 4), (1, 1), (2, 2), (3, 3), (4, 4)] Z Z Z Z) Z
 refine AD <| AC <| AB ?_
 refine Bi AA Az [0, 1, 2, 3, 4, 5, 6, 7, 8, 9, 10] 11 (by kernel_rfl) Z Z Z ?_
 refine Am 7 Z <| bq dk fun j av dl => An Z (BY (Ax (enc := AK) (l := a.met) (m := [b]) av (fun _ => ⟨Z, Z⟩) Z Z Z Z Z Z <| A0 Z <| AC <| AB <| AB ?_))
 refine Bi AA Az [0, 1, 2, 3, 4, 5, 6] 7 (by kernel_rfl) Z Z Z ?_
 refine Am 5 Z <| bq dl fun w aw dm => An Z (BA (G1 _ _ _ aw) (.inl Z) Z Z Z <| A0 Z <| AC <| jb (fun v : Bool => ⟨107, [(0, .lpb 0 0), (3, .lpb 5 0), (4, li w), (47, lb v)], [(0, .box [ls 3 BJ a.p.elems, ls 4 BZ a.p.joins, ls 4 A2 a.p.signals, ls 2 BR a.p.lines, li a.p.top, li a.p.brake, li a.p.margin, li a.p.throw, lb a.p.hard, li a.r.frm, li a.r.to, li a.r.fin, ls 3 Af a.r.steps, ls 2 AR a.r.needs, .lsl 1 2 0 a.r.guards.length, .lsl 2 1 0 a.r.zone.length, .lsl 3 1 0 a.r.holds.length, lb a.r.bare, .lsl 6 2 0 j.length]), (1, .row 91 2 (a.r.guards.map AR)), (2, .row 3 1 (a.r.zone.map AY)), (3, .row 3 1 (a.r.holds.map AY)), (5, .box [li b.elem, li b.fin]), (6, .row 96 2 (j.map AK))], 7⟩) dm (fun v dn => ?_) (fun v dr => ?_))
 .refine rg AA <| rn 3 Z <| gs 40 dn Z Z Z (fun dp => ?_) (fun dq => ?_)
  .exact rl Z <| AN dp (wj hA (gi 6 [(6, 13)]) Z Z Z Z)
  exact rl Z <| AN dq (wj hA (gi 6 [(6, 13)]) Z Z Z Z)
 refine cd Z dr (fun ds => ?_) (fun a1 => ?_)
 .refine jb (fun s : (List Int) => ⟨107, [(0, .lpb 0 0)], [(0, .box [ls 3 BJ a.p.elems, ls 4 BZ a.p.joins, ls 4 A2 a.p.signals, ls 2 BR a.p.lines, li a.p.top, li a.p.brake, li a.p.margin, li a.p.throw, lb a.p.hard, li a.r.frm, li a.r.to, li a.r.fin, ls 3 Af a.r.steps, ls 2 AR a.r.needs, .lsl 1 2 0 a.r.guards.length, .lsl 2 1 0 a.r.zone.length, .lsl 5 1 0 s.length, lb a.r.bare, .lsl 6 2 0 j.length]), (1, .row 91 2 (a.r.guards.map AR)), (2, .row 3 1 (a.r.zone.map AY)), (5, .row 3 1 (s.map AY)), (6, .row 96 2 (j.map AK))], 7⟩) ds (fun s du => ?_) (fun s a0 => ?_)
  .refine rs AA <| rn 6 Z <| bq du fun ek ax dv => sx Z (AS (Ha _ _ _ ax) (.inl Z) Z Z (C9.eq (.cons (.one (.own (enc := AY) a.r.holds Z Z)) (.cons (.one (.p _)) .nil))) <| rl Z <| cd Z dv (fun dw => ?_) (fun az => ?_))
   .exact rg AA <| rn 8 Z <| bq dw fun el ay dx => sx Z (Ax (enc := AY) (l := a.r.holds) (m := [w]) ay (fun _ => ⟨Z, Z⟩) Z Z Z Z Z Z <| rl Z <| AN dx (wj hA (gi 3 [(4, 4), (5, 8), (6, 6), (3, 3)]) Z Z Z Z))
   exact AD <| AN az (wj hA (gi 3 [(4, 4), (5, 3), (6, 6), (3, 3)]) Z Z Z Z)
  refine AG <| AI ?_
  cases a0
  exact Co (nt := 107) (sl := [(0, .lpb 0 0)]) (wj hA [(0, 0), (5, 1), (6, 2), (7, 5), (8, 6), (1, 1), (2, 2), (3, 3), (4, 4)] Z Z Z Z) Z
 refine AD <| AC <| AB ?_
 refine Bi AA Az [0, 1, 2, 3, 4, 5, 6] 7 (by kernel_rfl) Z Z Z ?_
 refine Am 6 Z <| bq a1 fun dz x a2 => An Z (BA (H4 _ _ _ x) (.inl Z) Z Z Z <| A0 Z <| AC <| AH <| rs AA <| rl Z <| cd Z a2 (fun a3 => ?_) (fun a4 => ?_))
 .refine rg AA <| rl Z <| Ai ?_
  cases a3
  exact Gf (nt := 107) (sl := [(0, .lpb 0 0)]) (wj hA [(0, 0), (5, 1), (6, 2), (7, 3), (8, 6), (1, 1), (2, 2), (3, 3), (4, 4)] Z Z Z Z) Z
 refine rs AA <| rl Z <| cd Z a4 (fun a5 => ?_) (fun cv => ?_)
 .refine rg AA <| rn 2 Z <| sx Z (Cy AA (fun g : ((List Bv) × (List Bs) × (List BB) × (List CC) × Int × Int × Int × Int × Bool × Int × Int × Int × (List AV) × (List AJ) × Bool × (List AJ) × (List Int) × (List Int) × (List AF)) => .tup []) (fun g : ((List Bv) × (List Bs) × (List BB) × (List CC) × Int × Int × Int × Int × Bool × Int × Int × Int × (List AV) × (List AJ) × Bool × (List AJ) × (List Int) × (List Int) × (List AF)) => [(0, .box [ls 3 BJ g.1, ls 4 BZ g.2.1, ls 4 A2 g.2.2.1, ls 2 BR g.2.2.2.1, li g.2.2.2.2.1, li g.2.2.2.2.2.1, li g.2.2.2.2.2.2.1, li g.2.2.2.2.2.2.2.1, lb g.2.2.2.2.2.2.2.2.1, li g.2.2.2.2.2.2.2.2.2.1, li g.2.2.2.2.2.2.2.2.2.2.1, li g.2.2.2.2.2.2.2.2.2.2.2.1, ls 3 Af g.2.2.2.2.2.2.2.2.2.2.2.2.1, ls 2 AR g.2.2.2.2.2.2.2.2.2.2.2.2.2.1, .lsl 14 2 0 g.2.2.2.2.2.2.2.2.2.2.2.2.2.2.2.1.length, .lsl 15 1 0 g.2.2.2.2.2.2.2.2.2.2.2.2.2.2.2.2.1.length, .lsl 16 1 0 g.2.2.2.2.2.2.2.2.2.2.2.2.2.2.2.2.2.1.length, lb g.2.2.2.2.2.2.2.2.2.2.2.2.2.2.1, .lsl 17 2 0 g.2.2.2.2.2.2.2.2.2.2.2.2.2.2.2.2.2.2.length]), (5, .box [li b.elem, li b.fin]), (14, .row 91 2 (g.2.2.2.2.2.2.2.2.2.2.2.2.2.2.2.1.map AR)), (15, .row 3 1 (g.2.2.2.2.2.2.2.2.2.2.2.2.2.2.2.2.1.map AY)), (16, .row 3 1 (g.2.2.2.2.2.2.2.2.2.2.2.2.2.2.2.2.2.1.map AY)), (17, .row 96 2 (g.2.2.2.2.2.2.2.2.2.2.2.2.2.2.2.2.2.2.map AK))]) 18 a5 Tryz.func210 78 [] [(0, .lpb 0 0), (1, .p (.agg (AK b)))] Z Z Z Z Z Z Z Z (fun A hA g dt => ?_) (fun g cu => ?_))
  .refine rs AA <| rl Z <| AB <| rs AA <| rl Z <| cd Z dt (fun a6 => ?_) (fun bx => ?_)
   .refine jb (fun i : ((List Bv) × (List Bs) × (List BB) × (List CC) × Int × Int × Int × Int × Bool × Int × Int × Int × (List AV) × (List AJ) × Bool × (List AJ) × (List Int) × (List Int) × (List AF)) => ⟨78, [], [(0, .box [ls 3 BJ i.1, ls 4 BZ i.2.1, ls 4 A2 i.2.2.1, ls 2 BR i.2.2.2.1, li i.2.2.2.2.1, li i.2.2.2.2.2.1, li i.2.2.2.2.2.2.1, li i.2.2.2.2.2.2.2.1, lb i.2.2.2.2.2.2.2.2.1, li i.2.2.2.2.2.2.2.2.2.1, li i.2.2.2.2.2.2.2.2.2.2.1, li i.2.2.2.2.2.2.2.2.2.2.2.1, ls 3 Af i.2.2.2.2.2.2.2.2.2.2.2.2.1, ls 2 AR i.2.2.2.2.2.2.2.2.2.2.2.2.2.1, .lsl 14 2 0 i.2.2.2.2.2.2.2.2.2.2.2.2.2.2.2.1.length, .lsl 15 1 0 i.2.2.2.2.2.2.2.2.2.2.2.2.2.2.2.2.1.length, .lsl 16 1 0 i.2.2.2.2.2.2.2.2.2.2.2.2.2.2.2.2.2.1.length, lb i.2.2.2.2.2.2.2.2.2.2.2.2.2.2.1, .lsl 17 2 0 i.2.2.2.2.2.2.2.2.2.2.2.2.2.2.2.2.2.2.length]), (5, .box [li b.elem, li b.fin]), (14, .row 91 2 (i.2.2.2.2.2.2.2.2.2.2.2.2.2.2.2.1.map AR)), (15, .row 3 1 (i.2.2.2.2.2.2.2.2.2.2.2.2.2.2.2.2.1.map AY)), (16, .row 3 1 (i.2.2.2.2.2.2.2.2.2.2.2.2.2.2.2.2.2.1.map AY)), (17, .row 96 2 (i.2.2.2.2.2.2.2.2.2.2.2.2.2.2.2.2.2.2.map AK))], 18⟩) a6 (fun i a7 => ?_) (fun i bw => ?_)
    .refine rs AA <| rn 3 Z <| sx Z (Cy AA (fun k : (Bool × Bool × (List Int)) => lb k.1) (fun k : (Bool × Bool × (List Int)) => [(0, .box [ls 3 BJ a.p.elems, ls 4 BZ a.p.joins, ls 4 A2 a.p.signals, ls 2 BR a.p.lines, li a.p.top, li a.p.brake, li a.p.margin, li a.p.throw, lb a.p.hard, li a.r.frm, li a.r.to, li a.r.fin, ls 3 Af a.r.steps, ls 2 AR a.r.needs, .lsl 1 2 0 a.r.guards.length, .lsl 15 1 0 k.2.2.length, .lsl 3 1 0 a.r.holds.length, lb k.2.1, .lsl 6 2 0 j.length]), (1, .row 91 2 (a.r.guards.map AR)), (3, .row 3 1 (a.r.holds.map AY)), (5, .box [li b.elem, li b.fin]), (6, .row 96 2 (j.map AK)), (14, .box [li b.elem, li b.fin]), (15, .row 3 1 (k.2.2.map AY))]) 16 a7 Tryz.func211 35 [.tmp 4] [(0, .lpb 0 0), (1, li b.elem)] Z Z Z Z Z Z Z Z (fun A hA k a8 => ?_) (fun k bg => ?_))
     .refine rs AA <| rl Z <| AB <| rs AA <| rn 6 Z <| bq a8 fun d0 y a9 => sx Z (AS (Ha _ _ _ y) (.inl Z) Z Z (C9.eq (.cons (.one (.own (enc := AY) a.r.zone Z Z)) (.cons (.one (.p _)) .nil))) <| rl Z <| cd Z a9 (fun ba => ?_) (fun bb => ?_))
      .refine rs AA <| rl Z <| AG <| AI ?_
       cases ba
       exact Co (nt := 35) (sl := [(4, lb true)]) (wj hA [(0, 0), (1, 1), (3, 3), (4, 4), (5, 5), (6, 6), (7, 7), (8, 8), (9, 9), (10, 10), (11, 11), (12, 12), (13, 13), (14, 14), (15, 2), (2, 2)] Z Z Z Z) Z
      refine AD <| AC <| AB <| rs AA <| rl Z <| cd Z bb (fun bc => ?_) (fun be => ?_)
      .refine rs AA <| rl Z <| rs AA <| rl Z <| AG <| AI ?_
       cases bc
       exact Co (nt := 35) (sl := [(4, lb false)]) (wj hA [(0, 0), (1, 1), (3, 3), (4, 4), (5, 5), (6, 6), (7, 7), (8, 8), (9, 9), (10, 10), (11, 11), (12, 12), (13, 13), (14, 14), (15, 2), (2, 2)] Z Z Z Z) Z
      refine AD <| AC <| rs AA <| rn 8 Z <| bq be fun d1 z bf => sx Z (Ax (enc := AY) (l := a.r.zone) (m := [b.elem]) z (fun _ => ⟨Z, Z⟩) Z Z Z Z Z Z <| rl Z <| rs AA <| rl Z <| AG ?_)
      cases bf
      exact Co (nt := 35) (sl := [(4, lb true)]) (wj hA [(0, 0), (1, 1), (3, 3), (4, 4), (5, 5), (6, 6), (7, 7), (8, 8), (9, 9), (10, 10), (11, 11), (12, 12), (13, 13), (14, 14), (15, 16), (2, 2)] Z Z Z Z) Z
     refine rl Z <| cd Z bg (fun bh => ?_) (fun bv => ?_)
     .refine rs AA <| rn 3 Z <| sx Z (Cy AA (fun c : ((List Bv) × (List Bs) × (List BB) × (List CC) × Int × Int × Int × Int × Bool × Int × Int × Int × (List AV) × (List AJ) × Bool × (List AJ) × (List Int) × (List Int) × (List AF)) => .tup []) (fun c : ((List Bv) × (List Bs) × (List BB) × (List CC) × Int × Int × Int × Int × Bool × Int × Int × Int × (List AV) × (List AJ) × Bool × (List AJ) × (List Int) × (List Int) × (List AF)) => [(0, .box [ls 3 BJ c.1, ls 4 BZ c.2.1, ls 4 A2 c.2.2.1, ls 2 BR c.2.2.2.1, li c.2.2.2.2.1, li c.2.2.2.2.2.1, li c.2.2.2.2.2.2.1, li c.2.2.2.2.2.2.2.1, lb c.2.2.2.2.2.2.2.2.1, li c.2.2.2.2.2.2.2.2.2.1, li c.2.2.2.2.2.2.2.2.2.2.1, li c.2.2.2.2.2.2.2.2.2.2.2.1, ls 3 Af c.2.2.2.2.2.2.2.2.2.2.2.2.1, ls 2 AR c.2.2.2.2.2.2.2.2.2.2.2.2.2.1, .lsl 16 2 0 c.2.2.2.2.2.2.2.2.2.2.2.2.2.2.2.1.length, .lsl 17 1 0 c.2.2.2.2.2.2.2.2.2.2.2.2.2.2.2.2.1.length, .lsl 18 1 0 c.2.2.2.2.2.2.2.2.2.2.2.2.2.2.2.2.2.1.length, lb c.2.2.2.2.2.2.2.2.2.2.2.2.2.2.1, .lsl 19 2 0 c.2.2.2.2.2.2.2.2.2.2.2.2.2.2.2.2.2.2.length]), (5, .box [li b.elem, li b.fin]), (14, .box [li b.elem, li b.fin]), (16, .row 91 2 (c.2.2.2.2.2.2.2.2.2.2.2.2.2.2.2.1.map AR)), (17, .row 3 1 (c.2.2.2.2.2.2.2.2.2.2.2.2.2.2.2.2.1.map AY)), (18, .row 3 1 (c.2.2.2.2.2.2.2.2.2.2.2.2.2.2.2.2.2.1.map AY)), (19, .row 96 2 (c.2.2.2.2.2.2.2.2.2.2.2.2.2.2.2.2.2.2.map AK))]) 20 bh Tryz.func143 23 [] [(0, .lpb 0 0), (1, li b.elem), (2, li 1)] Z Z Z Z Z Z Z Z (fun A hA c bi => ?_) (fun c bn => ?_))
      .refine rs AA <| rn 7 Z <| bq bi fun d2 aa bj => sx Z (AS (Cs _ _ _ aa) (.inl Z) Z Z Z <| rl Z <| rs AA <| rl Z <| cd Z bj (fun bk => ?_) (fun bm => ?_))
       .refine rg AA <| rn 2 Z <| bq bk fun d3 ab bl => sx Z (JG (c' := 21) (hrec _ _ _ ab) [(0, 0), (1, 1), (2, 15), (3, 3), (4, 6)] Z ⟨Z, Z, Z, Z, Z, trivial⟩ Z Z Z Z Z Z Z <| rl Z ?_)
        cases bl
        exact Gf (nt := 23) (sl := []) (wj hA [(0, 0), (2, 2), (4, 4), (5, 5), (7, 7), (8, 8), (9, 9), (10, 10), (11, 11), (12, 12), (13, 13), (14, 14), (16, 17), (17, 18), (18, 19), (19, 20), (1, 1), (3, 3), (6, 6), (15, 15)] Z Z Z Z) Z
       refine AD ?_
       cases bm
       exact Gf (nt := 23) (sl := []) (wj hA [(0, 0), (2, 2), (4, 4), (5, 5), (7, 7), (8, 8), (9, 9), (10, 10), (11, 11), (12, 12), (13, 13), (14, 14), (16, 1), (17, 15), (18, 3), (19, 6), (1, 1), (3, 3), (6, 6), (15, 15)] Z Z Z Z) Z
      refine rl Z <| rg AA <| rn 3 Z <| sx Z (Cy AA (fun d : ((List Bv) × (List Bs) × (List BB) × (List CC) × Int × Int × Int × Int × Bool × Int × Int × Int × (List AV) × (List AJ) × Bool × (List AJ) × (List Int) × (List Int) × (List AF)) => .tup []) (fun d : ((List Bv) × (List Bs) × (List BB) × (List CC) × Int × Int × Int × Int × Bool × Int × Int × Int × (List AV) × (List AJ) × Bool × (List AJ) × (List Int) × (List Int) × (List AF)) => [(0, .box [ls 3 BJ d.1, ls 4 BZ d.2.1, ls 4 A2 d.2.2.1, ls 2 BR d.2.2.2.1, li d.2.2.2.2.1, li d.2.2.2.2.2.1, li d.2.2.2.2.2.2.1, li d.2.2.2.2.2.2.2.1, lb d.2.2.2.2.2.2.2.2.1, li d.2.2.2.2.2.2.2.2.2.1, li d.2.2.2.2.2.2.2.2.2.2.1, li d.2.2.2.2.2.2.2.2.2.2.2.1, ls 3 Af d.2.2.2.2.2.2.2.2.2.2.2.2.1, ls 2 AR d.2.2.2.2.2.2.2.2.2.2.2.2.2.1, .lsl 20 2 0 d.2.2.2.2.2.2.2.2.2.2.2.2.2.2.2.1.length, .lsl 21 1 0 d.2.2.2.2.2.2.2.2.2.2.2.2.2.2.2.2.1.length, .lsl 22 1 0 d.2.2.2.2.2.2.2.2.2.2.2.2.2.2.2.2.2.1.length, lb d.2.2.2.2.2.2.2.2.2.2.2.2.2.2.1, .lsl 23 2 0 d.2.2.2.2.2.2.2.2.2.2.2.2.2.2.2.2.2.2.length]), (5, .box [li b.elem, li b.fin]), (14, .box [li b.elem, li b.fin]), (20, .row 91 2 (d.2.2.2.2.2.2.2.2.2.2.2.2.2.2.2.1.map AR)), (21, .row 3 1 (d.2.2.2.2.2.2.2.2.2.2.2.2.2.2.2.2.1.map AY)), (22, .row 3 1 (d.2.2.2.2.2.2.2.2.2.2.2.2.2.2.2.2.2.1.map AY)), (23, .row 96 2 (d.2.2.2.2.2.2.2.2.2.2.2.2.2.2.2.2.2.2.map AK))]) 24 bn Tryz.func143 23 [] [(0, .lpb 0 0), (1, li b.elem), (2, li 2)] Z Z Z Z Z Z Z Z (fun A hA d bo => ?_) (fun d bu => ?_))
      .refine rs AA <| rn 7 Z <| bq bo fun d4 ac bp => sx Z (AS (Cs _ _ _ ac) (.inl Z) Z Z Z <| rl Z <| rs AA <| rl Z <| cd Z bp (fun br => ?_) (fun bt => ?_))
       .refine rg AA <| rn 2 Z <| bq br fun d5 ad bs => sx Z (JG (c' := 25) (hrec _ _ _ ad) [(0, 0), (1, 16), (2, 17), (3, 18), (4, 19)] Z ⟨Z, Z, Z, Z, Z, trivial⟩ Z Z Z Z Z Z Z <| rl Z ?_)
        cases bs
        exact Gf (nt := 23) (sl := []) (wj hA (gi 16 [(20, 21), (21, 22), (22, 23), (23, 24), (16, 16), (17, 17), (18, 18), (19, 19)]) Z Z Z Z) Z
       refine AD ?_
       cases bt
       exact Gf (nt := 23) (sl := []) (wj hA (gi 16 [(20, 16), (21, 17), (22, 18), (23, 19), (16, 16), (17, 17), (18, 18), (19, 19)]) Z Z Z Z) Z
      exact rl Z <| AN bu (wj hA [(0, 0), (2, 2), (4, 4), (5, 5), (7, 7), (8, 8), (9, 9), (10, 10), (11, 11), (12, 12), (13, 13), (14, 20), (15, 21), (16, 22), (17, 23), (1, 1), (3, 3), (6, 6)] Z Z Z Z)
     exact AD <| AN bv (wj hA [(0, 0), (2, 2), (4, 4), (5, 5), (7, 7), (8, 8), (9, 9), (10, 10), (11, 11), (12, 12), (13, 13), (14, 1), (15, 15), (16, 3), (17, 6), (1, 1), (3, 3), (6, 6)] Z Z Z Z)
    refine AG <| AI ?_
    cases bw
    exact Co (nt := 78) (sl := []) (wj hA [(0, 0), (4, 4), (5, 5), (7, 7), (8, 8), (9, 9), (10, 10), (11, 11), (12, 12), (13, 13), (14, 14), (15, 15), (16, 16), (17, 17), (1, 1), (2, 2), (3, 3), (6, 6)] Z Z Z Z) Z
   refine AD <| AC <| AB ?_
   refine Zv (Rz 15 []) Az [0, 1, 2, 3, 4, 5, 6, 7, 8, 9, 10, 11, 12, 13, 14] 15 Z (by kernel_rfl) Z Z Z ?_
   refine A0 Z <| AC <| AB <| jb (fun t : Bool => ⟨78, [(0, .lpb 0 0), (3, .lpb 14 0), (5, .lpb 15 0), (49, lb t)], [(0, .box [ls 3 BJ a.p.elems, ls 4 BZ a.p.joins, ls 4 A2 a.p.signals, ls 2 BR a.p.lines, li a.p.top, li a.p.brake, li a.p.margin, li a.p.throw, lb a.p.hard, li a.r.frm, li a.r.to, li a.r.fin, ls 3 Af a.r.steps, ls 2 AR a.r.needs, .lsl 1 2 0 a.r.guards.length, .lsl 2 1 0 a.r.zone.length, .lsl 3 1 0 a.r.holds.length, lb a.r.bare, .lsl 6 2 0 j.length]), (1, .row 91 2 (a.r.guards.map AR)), (2, .row 3 1 (a.r.zone.map AY)), (3, .row 3 1 (a.r.holds.map AY)), (5, .box [li b.elem, li b.fin]), (6, .row 96 2 (j.map AK)), (14, .box [li b.elem, li b.fin]), (15, .box [li b.elem, li (AQ (3 - b.fin))])], 16⟩) bx (fun t bz => ?_) (fun t b4 => ?_)
   .refine Bi AA Az [0, 1, 2, 3, 4, 5, 6, 7, 8, 9, 10, 11, 12, 13, 14, 15, 16, 17] 18 (by kernel_rfl) Z Z Z ?_
    refine Am 6 Z <| bq bz fun d6 ae b0 => An Z (BA (HM _ _ _ ae) (.inl Z) Z Z Z <| Am 2 Z <| Dk 40 b0 Z Z Z (fun b1 => ?_) (fun b3 => ?_))
    .exact Am 6 Z <| bq b1 fun d7 af b2 => An Z (BA (HM _ _ _ af) (.inl Z) Z Z (C9.eq (.cons (.one (.own (enc := AR) a.r.guards Z Z)) (.cons (.one (.p _)) .nil))) <| A0 Z <| AN b2 (wj hA (gi 15 [(15, 27)]) Z Z Z Z))
    exact A0 Z <| AN b3 (wj hA (gi 15 [(15, 27)]) Z Z Z Z)
   refine cd Z b4 (fun b5 => ?_) (fun cc => ?_)
   .refine jb (fun q : (List AJ) => ⟨78, [], [(0, .box [ls 3 BJ a.p.elems, ls 4 BZ a.p.joins, ls 4 A2 a.p.signals, ls 2 BR a.p.lines, li a.p.top, li a.p.brake, li a.p.margin, li a.p.throw, lb a.p.hard, li a.r.frm, li a.r.to, li a.r.fin, ls 3 Af a.r.steps, ls 2 AR a.r.needs, .lsl 14 2 0 q.length, .lsl 2 1 0 a.r.zone.length, .lsl 3 1 0 a.r.holds.length, lb a.r.bare, .lsl 6 2 0 j.length]), (2, .row 3 1 (a.r.zone.map AY)), (3, .row 3 1 (a.r.holds.map AY)), (5, .box [li b.elem, li b.fin]), (6, .row 96 2 (j.map AK)), (14, .row 91 2 (q.map AR))], 15⟩) b5 (fun q b6 => ?_) (fun q cb => ?_)
    .refine AB ?_
     refine Bi AA Az [0, 1, 2, 3, 4, 5, 6, 7] 8 (by kernel_rfl) Z Z Z ?_
     refine Am 6 Z <| bq b6 fun d8 ag b7 => An Z (BA (HM _ _ _ ag) (.inl Z) Z Z (C9.eq (.cons (.one (.own (enc := AR) a.r.guards Z Z)) (.cons (.one (.p _)) .nil))) <| A0 Z <| AC <| cd Z b7 (fun b8 => ?_) (fun ca => ?_))
     .refine Bi AA Az [0, 1, 2, 3, 4, 5, 6, 7, 8, 9, 10, 11, 12] 13 (by kernel_rfl) Z Z Z ?_
      exact Am 8 Z <| bq b8 fun d9 ah b9 => An Z (BY (Ax (enc := AR) (l := a.r.guards) (m := [(⟨b.elem, AQ (3 - b.fin)⟩ : AJ)]) ah (fun _ => ⟨Z, Z⟩) Z Z Z Z Z Z <| A0 Z <| AN b9 (wj hA [(0, 0), (2, 2), (3, 3), (4, 4), (5, 5), (6, 6), (7, 7), (8, 8), (9, 9), (10, 10), (11, 11), (12, 12), (13, 13), (14, 32), (1, 1)] Z Z Z Z)))
     exact AD <| AN ca (wj hA [(0, 0), (2, 2), (3, 3), (4, 4), (5, 5), (6, 6), (7, 7), (8, 8), (9, 9), (10, 10), (11, 11), (12, 12), (13, 13), (14, 1), (1, 1)] Z Z Z Z)
    refine AG <| AI ?_
    cases cb
    exact Co (nt := 78) (sl := []) (wj hA [(0, 0), (4, 4), (5, 5), (7, 7), (8, 8), (9, 9), (10, 10), (11, 11), (12, 12), (13, 13), (14, 14), (15, 2), (16, 3), (17, 6), (1, 1), (2, 2), (3, 3), (6, 6)] Z Z Z Z) Z
   refine AD <| AC <| rs AA <| rn 3 Z <| sx Z (Cy AA (fun n : (Bool × Bool × (List Int)) => lb n.1) (fun n : (Bool × Bool × (List Int)) => [(0, .box [ls 3 BJ a.p.elems, ls 4 BZ a.p.joins, ls 4 A2 a.p.signals, ls 2 BR a.p.lines, li a.p.top, li a.p.brake, li a.p.margin, li a.p.throw, lb a.p.hard, li a.r.frm, li a.r.to, li a.r.fin, ls 3 Af a.r.steps, ls 2 AR a.r.needs, .lsl 1 2 0 a.r.guards.length, .lsl 16 1 0 n.2.2.length, .lsl 3 1 0 a.r.holds.length, lb n.2.1, .lsl 6 2 0 j.length]), (1, .row 91 2 (a.r.guards.map AR)), (3, .row 3 1 (a.r.holds.map AY)), (5, .box [li b.elem, li b.fin]), (6, .row 96 2 (j.map AK)), (14, .box [li b.elem, li b.fin]), (15, .box [li b.elem, li (AQ (3 - b.fin))]), (16, .row 3 1 (n.2.2.map AY))]) 17 cc Tryz.func211 35 [.tmp 4] [(0, .lpb 0 0), (1, li b.elem)] Z Z Z Z Z Z Z Z (fun A hA n ce => ?_) (fun n cl => ?_))
   .refine rs AA <| rl Z <| AB <| rs AA <| rn 6 Z <| bq ce fun ea ai cf => sx Z (AS (Ha _ _ _ ai) (.inl Z) Z Z (C9.eq (.cons (.one (.own (enc := AY) a.r.zone Z Z)) (.cons (.one (.p _)) .nil))) <| rl Z <| cd Z cf (fun cg => ?_) (fun ch => ?_))
    .refine rs AA <| rl Z <| AG <| AI ?_
     cases cg
     exact Co (nt := 35) (sl := [(4, lb true)]) (wj hA [(0, 0), (1, 1), (3, 3), (4, 4), (5, 5), (6, 6), (7, 7), (8, 8), (9, 9), (10, 10), (11, 11), (12, 12), (13, 13), (14, 14), (15, 15), (16, 2), (2, 2)] Z Z Z Z) Z
    refine AD <| AC <| AB <| rs AA <| rl Z <| cd Z ch (fun ci => ?_) (fun cj => ?_)
    .refine rs AA <| rl Z <| rs AA <| rl Z <| AG <| AI ?_
     cases ci
     exact Co (nt := 35) (sl := [(4, lb false)]) (wj hA [(0, 0), (1, 1), (3, 3), (4, 4), (5, 5), (6, 6), (7, 7), (8, 8), (9, 9), (10, 10), (11, 11), (12, 12), (13, 13), (14, 14), (15, 15), (16, 2), (2, 2)] Z Z Z Z) Z
    refine AD <| AC <| rs AA <| rn 8 Z <| bq cj fun eb aj ck => sx Z (Ax (enc := AY) (l := a.r.zone) (m := [b.elem]) aj (fun _ => ⟨Z, Z⟩) Z Z Z Z Z Z <| rl Z <| rs AA <| rl Z <| AG ?_)
    cases ck
    exact Co (nt := 35) (sl := [(4, lb true)]) (wj hA [(0, 0), (1, 1), (3, 3), (4, 4), (5, 5), (6, 6), (7, 7), (8, 8), (9, 9), (10, 10), (11, 11), (12, 12), (13, 13), (14, 14), (15, 15), (16, 17), (2, 2)] Z Z Z Z) Z
   refine rl Z <| cd Z cl (fun cm => ?_) (fun ct => ?_)
   .refine rg AA <| rn 3 Z <| sx Z (Cy AA (fun e : ((List Bv) × (List Bs) × (List BB) × (List CC) × Int × Int × Int × Int × Bool × Int × Int × Int × (List AV) × (List AJ) × Bool × (List AJ) × (List Int) × (List Int) × (List AF)) => .tup []) (fun e : ((List Bv) × (List Bs) × (List BB) × (List CC) × Int × Int × Int × Int × Bool × Int × Int × Int × (List AV) × (List AJ) × Bool × (List AJ) × (List Int) × (List Int) × (List AF)) => [(0, .box [ls 3 BJ e.1, ls 4 BZ e.2.1, ls 4 A2 e.2.2.1, ls 2 BR e.2.2.2.1, li e.2.2.2.2.1, li e.2.2.2.2.2.1, li e.2.2.2.2.2.2.1, li e.2.2.2.2.2.2.2.1, lb e.2.2.2.2.2.2.2.2.1, li e.2.2.2.2.2.2.2.2.2.1, li e.2.2.2.2.2.2.2.2.2.2.1, li e.2.2.2.2.2.2.2.2.2.2.2.1, ls 3 Af e.2.2.2.2.2.2.2.2.2.2.2.2.1, ls 2 AR e.2.2.2.2.2.2.2.2.2.2.2.2.2.1, .lsl 17 2 0 e.2.2.2.2.2.2.2.2.2.2.2.2.2.2.2.1.length, .lsl 18 1 0 e.2.2.2.2.2.2.2.2.2.2.2.2.2.2.2.2.1.length, .lsl 19 1 0 e.2.2.2.2.2.2.2.2.2.2.2.2.2.2.2.2.2.1.length, lb e.2.2.2.2.2.2.2.2.2.2.2.2.2.2.1, .lsl 20 2 0 e.2.2.2.2.2.2.2.2.2.2.2.2.2.2.2.2.2.2.length]), (5, .box [li b.elem, li b.fin]), (14, .box [li b.elem, li b.fin]), (15, .box [li b.elem, li (AQ (3 - b.fin))]), (17, .row 91 2 (e.2.2.2.2.2.2.2.2.2.2.2.2.2.2.2.1.map AR)), (18, .row 3 1 (e.2.2.2.2.2.2.2.2.2.2.2.2.2.2.2.2.1.map AY)), (19, .row 3 1 (e.2.2.2.2.2.2.2.2.2.2.2.2.2.2.2.2.2.1.map AY)), (20, .row 96 2 (e.2.2.2.2.2.2.2.2.2.2.2.2.2.2.2.2.2.2.map AK))]) 21 cm Tryz.func143 23 [] [(0, .lpb 0 0), (1, li b.elem), (2, li 0)] Z Z Z Z Z Z Z Z (fun A hA e cn => ?_) (fun e cs => ?_))
    .refine rs AA <| rn 7 Z <| bq cn fun ec ak co => sx Z (AS (Cs _ _ _ ak) (.inl Z) Z Z Z <| rl Z <| rs AA <| rl Z <| cd Z co (fun cp => ?_) (fun cr => ?_))
     .refine rg AA <| rn 2 Z <| bq cp fun ed al cq => sx Z (JG (c' := 22) (hrec _ _ _ al) [(0, 0), (1, 1), (2, 16), (3, 3), (4, 6)] Z ⟨Z, Z, Z, Z, Z, trivial⟩ Z Z Z Z Z Z Z <| rl Z ?_)
      cases cq
      exact Gf (nt := 23) (sl := []) (wj hA [(0, 0), (2, 2), (4, 4), (5, 5), (7, 7), (8, 8), (9, 9), (10, 10), (11, 11), (12, 12), (13, 13), (14, 14), (15, 15), (17, 18), (18, 19), (19, 20), (20, 21), (1, 1), (3, 3), (6, 6), (16, 16)] Z Z Z Z) Z
     refine AD ?_
     cases cr
     exact Gf (nt := 23) (sl := []) (wj hA [(0, 0), (2, 2), (4, 4), (5, 5), (7, 7), (8, 8), (9, 9), (10, 10), (11, 11), (12, 12), (13, 13), (14, 14), (15, 15), (17, 1), (18, 16), (19, 3), (20, 6), (1, 1), (3, 3), (6, 6), (16, 16)] Z Z Z Z) Z
    refine rl Z ?_
    cases cs
    exact Gf (nt := 78) (sl := []) (wj hA [(0, 0), (4, 4), (5, 5), (7, 7), (8, 8), (9, 9), (10, 10), (11, 11), (12, 12), (13, 13), (14, 17), (15, 18), (16, 19), (17, 20), (1, 1), (2, 2), (3, 3), (6, 6)] Z Z Z Z) Z
   refine AD ?_
   cases ct
   exact Gf (nt := 78) (sl := []) (wj hA [(0, 0), (4, 4), (5, 5), (7, 7), (8, 8), (9, 9), (10, 10), (11, 11), (12, 12), (13, 13), (14, 1), (15, 16), (16, 3), (17, 6), (1, 1), (2, 2), (3, 3), (6, 6)] Z Z Z Z) Z
  refine rl Z <| Ai ?_
  cases cu
  exact Gf (nt := 107) (sl := [(0, .lpb 0 0)]) (wj hA [(0, 0), (5, 14), (6, 15), (7, 16), (8, 17), (1, 1), (2, 2), (3, 3), (4, 4)] Z Z Z Z) Z
 refine AB ?_
 refine Bi AA Az [0, 1, 2, 3, 4, 5, 6, 7, 8, 9, 10, 11, 12, 13] 14 (by kernel_rfl) Z Z Z ?_
 refine Am 8 Z <| bq cv fun dy am cw => An Z (BA (Sj _ _ _ _ _ am) (.inl Z) Z Z Z <| A0 Z <| AC <| rs AA <| rn 3 Z <| sx Z (Cy AA (fun o : (Bool × Bool × (List Int)) => lb o.1) (fun o : (Bool × Bool × (List Int)) => [(0, .box [ls 3 BJ a.p.elems, ls 4 BZ a.p.joins, ls 4 A2 a.p.signals, ls 2 BR a.p.lines, li a.p.top, li a.p.brake, li a.p.margin, li a.p.throw, lb a.p.hard, li a.r.frm, li a.r.to, li a.r.fin, ls 3 Af a.r.steps, ls 2 AR a.r.needs, .lsl 1 2 0 a.r.guards.length, .lsl 28 1 0 o.2.2.length, .lsl 3 1 0 a.r.holds.length, lb o.2.1, .lsl 6 2 0 j.length]), (1, .row 91 2 (a.r.guards.map AR)), (3, .row 3 1 (a.r.holds.map AY)), (5, .box [li b.elem, li b.fin]), (6, .row 96 2 (j.map AK)), (28, .row 3 1 (o.2.2.map AY))]) 29 cw Tryz.func211 35 [.tmp 4] [(0, .lpb 0 0), (1, li b.elem)] Z Z Z Z Z Z Z Z (fun A hA o cx => ?_) (fun o c4 => ?_)))
 .refine rs AA <| rl Z <| AB <| rs AA <| rn 6 Z <| bq cx fun ee an cy => sx Z (AS (Ha _ _ _ an) (.inl Z) Z Z (C9.eq (.cons (.one (.own (enc := AY) a.r.zone Z Z)) (.cons (.one (.p _)) .nil))) <| rl Z <| cd Z cy (fun cz => ?_) (fun c0 => ?_))
  .refine rs AA <| rl Z <| AG <| AI ?_
   cases cz
   exact Co (nt := 35) (sl := [(4, lb true)]) (wj hA [(0, 0), (1, 1), (3, 3), (4, 4), (5, 5), (6, 6), (7, 7), (8, 8), (9, 9), (10, 10), (11, 11), (12, 12), (13, 13), (14, 14), (15, 15), (16, 16), (17, 17), (18, 18), (19, 19), (20, 20), (21, 21), (22, 22), (23, 23), (24, 24), (25, 25), (26, 26), (27, 27), (28, 2), (2, 2)] Z Z Z Z) Z
  refine AD <| AC <| AB <| rs AA <| rl Z <| cd Z c0 (fun c1 => ?_) (fun c2 => ?_)
  .refine rs AA <| rl Z <| rs AA <| rl Z <| AG <| AI ?_
   cases c1
   exact Co (nt := 35) (sl := [(4, lb false)]) (wj hA [(0, 0), (1, 1), (3, 3), (4, 4), (5, 5), (6, 6), (7, 7), (8, 8), (9, 9), (10, 10), (11, 11), (12, 12), (13, 13), (14, 14), (15, 15), (16, 16), (17, 17), (18, 18), (19, 19), (20, 20), (21, 21), (22, 22), (23, 23), (24, 24), (25, 25), (26, 26), (27, 27), (28, 2), (2, 2)] Z Z Z Z) Z
  refine AD <| AC <| rs AA <| rn 8 Z <| bq c2 fun ef ao c3 => sx Z (Ax (enc := AY) (l := a.r.zone) (m := [b.elem]) ao (fun _ => ⟨Z, Z⟩) Z Z Z Z Z Z <| rl Z <| rs AA <| rl Z <| AG ?_)
  cases c3
  exact Co (nt := 35) (sl := [(4, lb true)]) (wj hA [(0, 0), (1, 1), (3, 3), (4, 4), (5, 5), (6, 6), (7, 7), (8, 8), (9, 9), (10, 10), (11, 11), (12, 12), (13, 13), (14, 14), (15, 15), (16, 16), (17, 17), (18, 18), (19, 19), (20, 20), (21, 21), (22, 22), (23, 23), (24, 24), (25, 25), (26, 26), (27, 27), (28, 29), (2, 2)] Z Z Z Z) Z
 refine rl Z <| cd Z c4 (fun c5 => ?_) (fun dc => ?_)
 .refine rg AA <| rn 4 Z <| sx Z (Cy AA (fun f : ((List Bv) × (List Bs) × (List BB) × (List CC) × Int × Int × Int × Int × Bool × Int × Int × Int × (List AV) × (List AJ) × Bool × (List AJ) × (List Int) × (List Int) × (List AF)) => .tup []) (fun f : ((List Bv) × (List Bs) × (List BB) × (List CC) × Int × Int × Int × Int × Bool × Int × Int × Int × (List AV) × (List AJ) × Bool × (List AJ) × (List Int) × (List Int) × (List AF)) => [(0, .box [ls 3 BJ f.1, ls 4 BZ f.2.1, ls 4 A2 f.2.2.1, ls 2 BR f.2.2.2.1, li f.2.2.2.2.1, li f.2.2.2.2.2.1, li f.2.2.2.2.2.2.1, li f.2.2.2.2.2.2.2.1, lb f.2.2.2.2.2.2.2.2.1, li f.2.2.2.2.2.2.2.2.2.1, li f.2.2.2.2.2.2.2.2.2.2.1, li f.2.2.2.2.2.2.2.2.2.2.2.1, ls 3 Af f.2.2.2.2.2.2.2.2.2.2.2.2.1, ls 2 AR f.2.2.2.2.2.2.2.2.2.2.2.2.2.1, .lsl 29 2 0 f.2.2.2.2.2.2.2.2.2.2.2.2.2.2.2.1.length, .lsl 30 1 0 f.2.2.2.2.2.2.2.2.2.2.2.2.2.2.2.2.1.length, .lsl 31 1 0 f.2.2.2.2.2.2.2.2.2.2.2.2.2.2.2.2.2.1.length, lb f.2.2.2.2.2.2.2.2.2.2.2.2.2.2.1, .lsl 32 2 0 f.2.2.2.2.2.2.2.2.2.2.2.2.2.2.2.2.2.2.length]), (5, .box [li b.elem, li b.fin]), (29, .row 91 2 (f.2.2.2.2.2.2.2.2.2.2.2.2.2.2.2.1.map AR)), (30, .row 3 1 (f.2.2.2.2.2.2.2.2.2.2.2.2.2.2.2.2.1.map AY)), (31, .row 3 1 (f.2.2.2.2.2.2.2.2.2.2.2.2.2.2.2.2.2.1.map AY)), (32, .row 96 2 (f.2.2.2.2.2.2.2.2.2.2.2.2.2.2.2.2.2.2.map AK))]) 33 c5 Tryz.func143 23 [] [(0, .lpb 0 0), (1, li b.elem), (2, li dy.1)] Z Z Z Z Z Z Z Z (fun A hA f c6 => ?_) (fun f db => ?_))
  .refine rs AA <| rn 7 Z <| bq c6 fun eg ap c7 => sx Z (AS (Cs _ _ _ ap) (.inl Z) Z Z Z <| rl Z <| rs AA <| rl Z <| cd Z c7 (fun c8 => ?_) (fun da => ?_))
   .refine rg AA <| rn 2 Z <| bq c8 fun eh aq c9 => sx Z (JG (c' := 34) (hrec _ _ _ aq) [(0, 0), (1, 1), (2, 28), (3, 3), (4, 6)] Z ⟨Z, Z, Z, Z, Z, trivial⟩ Z Z Z Z Z Z Z <| rl Z ?_)
    cases c9
    exact Gf (nt := 23) (sl := []) (wj hA [(0, 0), (2, 2), (4, 4), (5, 5), (7, 7), (8, 8), (9, 9), (10, 10), (11, 11), (12, 12), (13, 13), (14, 14), (15, 15), (16, 16), (17, 17), (18, 18), (19, 19), (20, 20), (21, 21), (22, 22), (23, 23), (24, 24), (25, 25), (26, 26), (27, 27), (29, 30), (30, 31), (31, 32), (32, 33), (1, 1), (3, 3), (6, 6), (28, 28)] Z Z Z Z) Z
   refine AD ?_
   cases da
   exact Gf (nt := 23) (sl := []) (wj hA [(0, 0), (2, 2), (4, 4), (5, 5), (7, 7), (8, 8), (9, 9), (10, 10), (11, 11), (12, 12), (13, 13), (14, 14), (15, 15), (16, 16), (17, 17), (18, 18), (19, 19), (20, 20), (21, 21), (22, 22), (23, 23), (24, 24), (25, 25), (26, 26), (27, 27), (29, 1), (30, 28), (31, 3), (32, 6), (1, 1), (3, 3), (6, 6), (28, 28)] Z Z Z Z) Z
  refine rl Z <| Ai ?_
  cases db
  exact Gf (nt := 107) (sl := [(0, .lpb 0 0)]) (wj hA [(0, 0), (5, 29), (6, 30), (7, 31), (8, 32), (1, 1), (2, 2), (3, 3), (4, 4)] Z Z Z Z) Z
 refine AD <| Ai ?_
 cases dc
 exact Gf (nt := 107) (sl := [(0, .lpb 0 0)]) (wj hA [(0, 0), (5, 1), (6, 28), (7, 3), (8, 6), (1, 1), (2, 2), (3, 3), (4, 4)] Z Z Z Z) Z
theorem Pj (b : Aq) (c : AF) (r : Aq) (h : Ia b c = some r) : Lo Tryz.prog 196 [(0, .box [ls 3 BJ b.p.elems, ls 4 BZ b.p.joins, ls 4 A2 b.p.signals, ls 2 BR b.p.lines, li b.p.top, li b.p.brake, li b.p.margin, li b.p.throw, lb b.p.hard, li b.r.frm, li b.r.to, li b.r.fin, ls 3 Af b.r.steps, ls 2 AR b.r.needs, .lsl 1 2 0 b.r.guards.length, .lsl 2 1 0 b.r.zone.length, .lsl 3 1 0 b.r.holds.length, lb b.r.bare, .lsl 4 2 0 b.met.length]), (1, .row 91 2 (b.r.guards.map AR)), (2, .row 3 1 (b.r.zone.map AY)), (3, .row 3 1 (b.r.holds.map AY)), (4, .row 96 2 (b.met.map AK))] 5 [.lpb 0 0, .p (.agg (AK c))] (.tup []) [(0, .box [ls 3 BJ r.p.elems, ls 4 BZ r.p.joins, ls 4 A2 r.p.signals, ls 2 BR r.p.lines, li r.p.top, li r.p.brake, li r.p.margin, li r.p.throw, lb r.p.hard, li r.r.frm, li r.r.to, li r.r.fin, ls 3 Af r.r.steps, ls 2 AR r.r.needs, .lsl 5 2 0 r.r.guards.length, .lsl 6 1 0 r.r.zone.length, .lsl 7 1 0 r.r.holds.length, lb r.r.bare, .lsl 8 2 0 r.met.length]), (5, .row 91 2 (r.r.guards.map AR)), (6, .row 3 1 (r.r.zone.map AY)), (7, .row 3 1 (r.r.holds.map AY)), (8, .row 96 2 (r.met.map AK))] 9 :=
 recF_holds (F := fun (rc : (Aq × AF) -> Option Aq) (a : (Aq × AF)) => CX rc a.1 a.2) (C := fun (a : (Aq × AF)) (r : Aq) => Lo Tryz.prog 196 [(0, .box [ls 3 BJ a.1.p.elems, ls 4 BZ a.1.p.joins, ls 4 A2 a.1.p.signals, ls 2 BR a.1.p.lines, li a.1.p.top, li a.1.p.brake, li a.1.p.margin, li a.1.p.throw, lb a.1.p.hard, li a.1.r.frm, li a.1.r.to, li a.1.r.fin, ls 3 Af a.1.r.steps, ls 2 AR a.1.r.needs, .lsl 1 2 0 a.1.r.guards.length, .lsl 2 1 0 a.1.r.zone.length, .lsl 3 1 0 a.1.r.holds.length, lb a.1.r.bare, .lsl 4 2 0 a.1.met.length]), (1, .row 91 2 (a.1.r.guards.map AR)), (2, .row 3 1 (a.1.r.zone.map AY)), (3, .row 3 1 (a.1.r.holds.map AY)), (4, .row 96 2 (a.1.met.map AK))] 5 [.lpb 0 0, .p (.agg (AK a.2))] (.tup []) [(0, .box [ls 3 BJ r.p.elems, ls 4 BZ r.p.joins, ls 4 A2 r.p.signals, ls 2 BR r.p.lines, li r.p.top, li r.p.brake, li r.p.margin, li r.p.throw, lb r.p.hard, li r.r.frm, li r.r.to, li r.r.fin, ls 3 Af r.r.steps, ls 2 AR r.r.needs, .lsl 5 2 0 r.r.guards.length, .lsl 6 1 0 r.r.zone.length, .lsl 7 1 0 r.r.holds.length, lb r.r.bare, .lsl 8 2 0 r.met.length]), (5, .row 91 2 (r.r.guards.map AR)), (6, .row 3 1 (r.r.zone.map AY)), (7, .row 3 1 (r.r.holds.map AY)), (8, .row 96 2 (r.met.map AK))] 9) (fun rc hrec a r h => OG rc (fun d e r h => hrec (d, e) r h) a.1 a.2 r h) 1000 (b, c) r h
end Go.E
