/- The types that the functions of this seat use, as plain data. Written by a program (mkenv.py). No condition. -/
import Derived.Test.YtilbadmonidmhaaGreatProg
import Derived.Test.YtilbadmonidmhaaGreatDel
import Derived.Shelf.Sort.Plain
import Derived.Shelf.Slices.In.SortNone
import Derived.Shelf.Slices.CompactI
import Derived.Lib.RowBridge
import Derived.ScopeJumps
import Derived.Test.YtilbadmonidmhaaGreatJ2
set_option linter.unusedVariables false
set_option linter.unusedSimpArgs false
namespace Go.E
open Go Go.RowKit Go.Proofs
def ttL : List (Nat × TI) := [
 (3, ⟨.int .i64, 1, 8, [.int .i64 0]⟩),
 (4, ⟨.bool, 1, 1, [.bool false]⟩),
 (5, ⟨.int .u8, 1, 1, [.int .u8 0]⟩),
 (9, ⟨.str, 1, 16, [.str .empty]⟩),
 (22, ⟨.slc 152, 1, 24, [.nils]⟩),
 (23, ⟨.slc 154, 1, 24, [.nils]⟩),
 (24, ⟨.slc 157, 1, 24, [.nils]⟩),
 (25, ⟨.slc 163, 1, 24, [.nils]⟩),
 (27, ⟨.struct [(0, 22), (1, 23), (2, 24), (3, 25), (4, 3), (5, 3), (6, 3), (7, 3), (8, 4)], 9, 136, [.nils, .nils, .nils, .nils, .int .i64 0, .int .i64 0, .int .i64 0, .int .i64 0, .bool false]⟩),
 (28, ⟨.slc 3, 1, 24, [.nils]⟩),
 (31, ⟨.other, 1, 8, [.nilp]⟩),
 (33, ⟨.slc 65, 1, 24, [.nils]⟩),
 (34, ⟨.slc 91, 1, 24, [.nils]⟩),
 (36, ⟨.struct [(0, 3), (1, 3), (2, 3), (3, 33), (4, 34), (5, 34), (6, 28), (7, 28), (8, 4)], 9, 152, [.int .i64 0, .int .i64 0, .int .i64 0, .nils, .nils, .nils, .nils, .nils, .bool false]⟩),
 (41, ⟨.slc 4, 1, 24, [.nils]⟩),
 (46, ⟨.slc 55, 1, 24, [.nils]⟩),
 (48, ⟨.other, 1, 8, [.nilp]⟩),
 (50, ⟨.other, 1, 8, [.nilp]⟩),
 (55, ⟨.struct [(0, 3), (1, 3), (2, 3), (3, 36)], 12, 176, [.int .i64 0, .int .i64 0, .int .i64 0, .int .i64 0, .int .i64 0, .int .i64 0, .nils, .nils, .nils, .nils, .nils, .bool false]⟩),
 (60, ⟨.slc 5, 1, 24, [.nils]⟩),
 (61, ⟨.slc 36, 1, 24, [.nils]⟩),
 (65, ⟨.struct [(0, 3), (1, 3), (2, 3)], 3, 24, [.int .i64 0, .int .i64 0, .int .i64 0]⟩),
 (68, ⟨.struct [(0, 27), (9, 61)], 10, 160, [.nils, .nils, .nils, .nils, .int .i64 0, .int .i64 0, .int .i64 0, .int .i64 0, .bool false, .nils]⟩),
 (72, ⟨.int .i64, 1, 8, [.int .i64 0]⟩),
 (91, ⟨.struct [(0, 3), (1, 3)], 2, 16, [.int .i64 0, .int .i64 0]⟩),
 (92, ⟨.mp 96 4, 1, 8, [.nilm]⟩),
 (93, ⟨.slc 96, 1, 24, [.nils]⟩),
 (96, ⟨.struct [(0, 3), (1, 3)], 2, 16, [.int .i64 0, .int .i64 0]⟩),
 (104, ⟨.other, 1, 8, [.nilp]⟩),
 (108, ⟨.mp 3 4, 1, 8, [.nilm]⟩),
 (115, ⟨.mp 3 28, 1, 8, [.nilm]⟩),
 (116, ⟨.mp 3 34, 1, 8, [.nilm]⟩),
 (118, ⟨.struct [(0, 3), (1, 115), (2, 115), (3, 116), (4, 116)], 5, 40, [.int .i64 0, .nilm, .nilm, .nilm, .nilm]⟩),
 (119, ⟨.slc 124, 1, 24, [.nils]⟩),
 (121, ⟨.struct [(0, 3), (1, 119)], 2, 32, [.int .i64 0, .nils]⟩),
 (124, ⟨.struct [(0, 3), (1, 28), (2, 28), (3, 34), (4, 34)], 5, 104, [.int .i64 0, .nils, .nils, .nils, .nils]⟩),
 (131, ⟨.mp 3 3, 1, 8, [.nilm]⟩),
 (145, ⟨.slc 147, 1, 24, [.nils]⟩),
 (147, ⟨.struct [(0, 3), (1, 3)], 2, 16, [.int .i64 0, .int .i64 0]⟩),
 (152, ⟨.struct [(0, 9), (1, 3), (2, 3)], 3, 32, [.str .empty, .int .i64 0, .int .i64 0]⟩),
 (154, ⟨.struct [(0, 96), (2, 96)], 4, 32, [.int .i64 0, .int .i64 0, .int .i64 0, .int .i64 0]⟩),
 (157, ⟨.struct [(0, 9), (1, 96), (3, 4)], 4, 40, [.str .empty, .int .i64 0, .int .i64 0, .bool false]⟩),
 (160, ⟨.slc 34, 1, 24, [.nils]⟩),
 (163, ⟨.struct [(0, 9), (1, 28)], 2, 40, [.str .empty, .nils]⟩),
 (164, ⟨.slc 9, 1, 24, [.nils]⟩),
 (169, ⟨.mp 96 96, 1, 8, [.nilm]⟩),
 (170, ⟨.mp 96 3, 1, 8, [.nilm]⟩),
 (171, ⟨.mp 3 174, 1, 8, [.nilm]⟩),
 (173, ⟨.struct [(0, 27), (9, 169), (10, 170), (11, 171), (12, 131)], 13, 168, [.nils, .nils, .nils, .nils, .int .i64 0, .int .i64 0, .int .i64 0, .int .i64 0, .bool false, .nilm, .nilm, .nilm, .nilm]⟩),
 (174, ⟨.arr 2 3, 2, 16, [.int .i64 0, .int .i64 0]⟩),
 (180, ⟨.int .u64, 1, 8, [.int .u64 0]⟩),
 (193, ⟨.other, 1, 8, [.nilp]⟩),
 (195, ⟨.struct [(0, 27), (9, 36), (18, 93)], 19, 312, [.nils, .nils, .nils, .nils, .int .i64 0, .int .i64 0, .int .i64 0, .int .i64 0, .bool false, .int .i64 0, .int .i64 0, .int .i64 0, .nils, .nils, .nils, .nils, .nils, .bool false, .nils]⟩),
 (201, ⟨.arr 4 3, 4, 32, [.int .i64 0, .int .i64 0, .int .i64 0, .int .i64 0]⟩),
 (202, ⟨.arr 3 3, 3, 24, [.int .i64 0, .int .i64 0, .int .i64 0]⟩),
 (222, ⟨.int .i64, 1, 8, [.int .i64 0]⟩),
 (229, ⟨.int .u32, 1, 4, [.int .u32 0]⟩),
 (231, ⟨.int .u64, 1, 8, [.int .u64 0]⟩),
 (233, ⟨.other, 1, 8, [.nilp]⟩),
 (234, ⟨.slc 145, 1, 24, [.nils]⟩),
 (236, ⟨.struct [(0, 3), (1, 33), (2, 28), (3, 234)], 4, 80, [.int .i64 0, .nils, .nils, .nils]⟩),
 (243, ⟨.mp 9 4, 1, 8, [.nilm]⟩),
 (245, ⟨.int .u64, 1, 8, [.int .u64 0]⟩),
 (249, ⟨.other, 1, 8, [.nilp]⟩)]
def eqL : List (Nat × List Sh) := [(65, [.int .i64, .int .i64, .int .i64]), (91, [.int .i64, .int .i64]), (96, [.int .i64, .int .i64])]
def keyL : List (Nat × List Sh) := [(96, [.int .i64, .int .i64])]
def ptrL : List Nat := [31, 48]
def env : Env := ⟨fun t => lookB t ttL, fun t => lookB t eqL, fun t => lookB t keyL, memB ptrL, none, false⟩
def envC (b : Nat) (l : List Nat) : Env := ⟨fun t => lookB t ttL, fun t => lookB t eqL, fun t => lookB t keyL, memB ptrL, some fun id => Nat.ble b id || memB l id, false⟩
def envO : Env := ⟨fun t => lookB t ttL, fun t => lookB t eqL, fun t => lookB t keyL, memB ptrL, none, true⟩
theorem ptr_31 : ∃ e, Tryz.prog.underlying 31 = some (.pointer e) := ⟨173, by kernel_rfl⟩
theorem ptr_48 : ∃ e, Tryz.prog.underlying 48 = some (.pointer e) := ⟨118, by kernel_rfl⟩
theorem tts_ok : TTOK Tryz.prog env.tt := ttok_ofB (by kernel_rfl)
theorem eq_65 : EqOK Tryz.prog 65 [.int .i64, .int .i64, .int .i64] := eqok_flat (by kernel_rfl) (by kernel_rfl) (by kernel_rfl) (by kernel_rfl)
theorem eq_91 : EqOK Tryz.prog 91 [.int .i64, .int .i64] := eqok_flat (by kernel_rfl) (by kernel_rfl) (by kernel_rfl) (by kernel_rfl)
theorem eq_96 : EqOK Tryz.prog 96 [.int .i64, .int .i64] := eqok_flat (by kernel_rfl) (by kernel_rfl) (by kernel_rfl) (by kernel_rfl)
theorem key_96 : KeyOK Tryz.prog 96 [.int .i64, .int .i64] := keyok_flat (by kernel_rfl) eq_96 (by kernel_rfl)
theorem env_ok : EnvOK Tryz.prog env := by
 refine ⟨tts_ok, fun t ks h => ?_, fun t ks h => ?_, fun t h => ?_⟩
 .simp only [env, lookB_eq, eqL, look] at h
  split at h
  .subst_vars; cases h; exact eq_65
  split at h
  .subst_vars; cases h; exact eq_91
  split at h
  .subst_vars; cases h; exact eq_96
  cases h
 .simp only [env, lookB_eq, keyL, look] at h
  split at h
  .subst_vars; cases h; exact key_96
  cases h
 .simp only [env, ptrL, memB_eq, List.mem_cons, List.not_mem_nil, or_false] at h
  rcases h with rfl | rfl
  .exact ptr_31
  .exact ptr_48
theorem env_okC (b : Nat) (l : List Nat) : EnvOK Tryz.prog (envC b l) := ⟨env_ok.tt, env_ok.eqk, env_ok.keyk, env_ok.ptr⟩
theorem env_okO : EnvOK Tryz.prog envO := ⟨env_ok.tt, env_ok.eqk, env_ok.keyk, env_ok.ptr⟩
theorem mixed : Tryz.prog.follows .mixedOrders = true := by kernel_rfl
end Go.E
/- slices.Delete as a call out of a data state: the row goes on under a new name. For an own slice, i up to j up to its length. -/
namespace Go.E
open Go Go.RowKit Go.Shelf Go.Proofs
variable {P : Program} {ρ : Ren} {env : Env} {A : Amb}
section
variable {α : Type} {enc : α -> List DV} {l r : List α} {i j : Int} {nt : Nat} {sl : List (Nat × LV)} {h h' : Heap} {c d : Nat} {f : St -> Prop} {hf : Hid f}
end
end Go.E
/- slices.Sort and slices.Compact of an own row of whole numbers, as calls out of a data state. For rows of fewer than 2^62 numbers. -/
namespace Go.E
open Go Go.RowKit Go.Shelf Go.Proofs Go.Sort
section
variable {P : Program} {ρ : Ren} {env : Env} {A : Amb}
end
section
variable {P : Program} {ρ : Ren} {env : Env} {A : Amb} {l r : List Int} {nt : Nat} {sl : List (Nat × LV)} {h h' : Heap} {c d : Nat} {f : St -> Prop} {hf : Hid f}
end
end Go.E
/- A scope in which the run jumps back to one label, and on to another. No condition. -/
namespace Go.E
open Go Go.RowKit
section
variable {P : Program} {A : Amb} {st : St} {σ Ans : Type}
end
def slO {α : Type} (l : List α) (lo hi : Int) : Option (List α) := match l with
 | [] => none
 | x :: r => slI (x :: r) lo hi
theorem slO_eq {α : Type} {l r : List α} {lo hi : Int} (h : slO l lo hi = some r) : l ≠ [] /\ slI l lo hi = some r := by
 cases l with
 | nil => cases h
 | cons x l => exact ⟨by simp, h⟩
theorem slO_sp {α : Type} {l r : List α} {lo hi : Int} (h : slO l lo hi = some r) : lo.toNat + (hi - lo).toNat <= l.length /\ (l.drop lo.toNat).take (hi - lo).toNat = r := by
 obtain ⟨-, h⟩ := slO_eq h
 unfold slI at h
 split at h
 .rename_i hb
  cases h
  refine ⟨by omega, ?_⟩
  rw [List.drop_take]
  congr 1
  omega
 .cases h
section
variable {P : Program} {A : Amb} {env : Env} {α : Type} {enc : α -> List DV} {l r : List α} {nt : Nat} {sl : List (Nat × LV)} {h : Heap} {c d : Nat} {f : St -> Prop} {hf : Hid f} {x : Operand} {t sz : Nat}
theorem o_slO {lo hi : Option Operand} {n m : Int} {id k : Nat} (hr : slO l n m = some r) (ht : slcSz env t sz = true) (hk : k = l.length) (hx : evC nt sl x = .lsl id sz 0 k)
  (hlo : bndI nt sl 0 lo = some n) (hhi : bndI nt sl l.length hi = some m)
  (kk : f ⟨nt, (d, .lsl id sz n.toNat (m - n).toNat) :: sl, h, c⟩) : opS P A env ⟨nt, sl, h, c⟩ (some d) (.slice t x lo hi none) ⟨f, hf⟩ := by
 obtain ⟨ti, e, te, h1, h2, h3, h4⟩ := slcSz_eq ht
 obtain ⟨hne, hs⟩ := slO_eq hr
 have hpos := List.length_pos_iff.2 hne
 subst hk
 rw [evC_eq (h := h) (c := c)] at hx
 simp only [slI] at hs
 split at hs
 .rename_i hb
  show sliceS env t _ _ _ _
  rw [hx]
  refine tiW_iff.2 ⟨ti, h1, slcW_iff.2 ⟨e, h2, tiW_iff.2 ⟨te, h3, h4, by omega, ?_⟩⟩⟩
  refine bndI_eq hhi (bndI_eq hlo ⟨hb, ?_⟩)
  rw [Nat.zero_add]; exact kk
 .cases hs
end
end Go.E
/- Own rows cut short; nil cells of own boxes; functions that call themselves. No condition. -/
namespace Go.E
open Go Go.RowKit
section
variable {A : Amb} {μ : Nat -> Option Loc} {h : List (Nat × HObj)} {F : Nat -> Prop} {w : World}
theorem HRel.swap (hh : HRel A μ h F w) {id : Nat} {o o' : HObj} (hx : look id h = some o) (hor : ∀ loc, μ id = some loc -> ORel (Own A μ h) μ w loc o -> ORel (Own A μ h) μ w loc o') :
  HRel A μ (upd id o' h) F w /\ ∀ b, Own A μ (upd id o' h) b -> Own A μ h b := by
 have hlook : ∀ j y, look j (upd id o' h) = some y -> (j = id /\ y = o') \/ (j ≠ id /\ look j h = some y) := by
  intro j y hy
  by_cases e : j = id
  .subst e; rw [look_upd_same hx] at hy; cases hy; exact .inl ⟨rfl, rfl⟩
  .rw [look_upd_other e] at hy; exact .inr ⟨e, hy⟩
 have hmine : ∀ b, Mine μ (upd id o' h) b -> Mine μ h b := by
  rintro b ⟨j, y, lc, h1, h2, h3, h4⟩
  rcases hlook j y h1 with ⟨rfl, rfl⟩ | ⟨_, h1⟩
  .exact ⟨j, o, lc, hx, h2, h3, h4⟩
  .exact ⟨j, y, lc, h1, h2, h3, h4⟩
 have hown : ∀ b, Own A μ (upd id o' h) b -> Own A μ h b := fun b hb => hb.imp (fun h => h) (hmine b)
 have f : ∀ j y, look j (upd id o' h) = some y -> ∃ y, look j h = some y := by
  intro j y hy
  rcases hlook j y hy with ⟨rfl, rfl⟩ | ⟨_, hy⟩
  .exact ⟨_, hx⟩
  .exact ⟨_, hy⟩
 refine ⟨⟨?_, ?_, hh.fresh, ?_, hh.size, hh.block, hh.os, hh.tape, hh.output, hh.ext⟩, hown⟩
 .intro j y hy
  rcases hlook j y hy with ⟨rfl, rfl⟩ | ⟨e, hy⟩
  .obtain ⟨lc, h1, h2⟩ := hh.obj j o hx
   exact ⟨lc, h1, (hor lc h1 h2).mono (Kept.refl _ _) (fun b _ hb => hown b hb) (fun _ _ h => h) fun _ => rfl⟩
  .obtain ⟨lc, h1, h2⟩ := hh.obj j y hy
   exact ⟨lc, h1, h2.mono (Kept.refl _ _) (fun b _ hb => hown b hb) (fun _ _ h => h) fun _ => rfl⟩
 .intro j j' y y' lc lc' h1 h2 m1 m2 n1 n2 he
  obtain ⟨z, hz⟩ := f j y h1
  obtain ⟨z', hz'⟩ := f j' y' h2
  exact hh.inj _ _ _ _ _ _ hz hz' m1 m2 n1 n2 he
 .intro j y lc h1 m1 n1
  obtain ⟨z, hz⟩ := f j y h1
  exact hh.base _ _ _ hz m1 n1
end
section
variable {A : Amb} {nt : Nat} {sl : List (Nat × LV)} {h h' : Heap} {c : Nat}
theorem weak_swap {id : Nat} {o o' : HObj} (hx : look id h = some o) (hor : ∀ O μ w loc, ORel O μ w loc o -> ORel O μ w loc o') : Weak A ⟨nt, sl, h, c⟩ ⟨nt, sl, upd id o' h, c⟩ := fun a w ⟨⟨μ, hh, hr⟩, hnt, hdef⟩ => by
 obtain ⟨g1, g2⟩ := hh.swap hx (o' := o') fun loc _ => hor _ _ _ loc
 exact ⟨⟨μ, g1, fun t ht => (hr t ht).mono (Kept.refl _ _) (fun b _ hb => g2 b hb) fun _ _ h => h⟩, hnt, hdef⟩
theorem weak_cut {α : Type} {enc : α -> List DV} (id : Nat) {e sz : Nat} {l r : List α} {m : Int} (hr : slO l 0 m = some r) (hl : lookB id h = some (.row e sz (l.map enc)))
  (hu : updF id (.row e sz (r.map enc)) h some = some h') : Weak A ⟨nt, sl, h, c⟩ ⟨nt, sl, h', c⟩ := by
 rw [lookB_eq] at hl
 rw [updF_eq, Option.some.injEq] at hu
 subst hu
 refine weak_swap hl fun O μ w loc ⟨h1, h2, h3⟩ => ?_
 obtain ⟨-, hr⟩ := slO_sp hr
 have hk : r = l.take (m - 0).toNat := by rw [<- hr]; rfl
 generalize (m - 0).toNat = k at hk
 subst hk
 refine ⟨h1, fun x hx => h2 x ?_, ?_⟩
 .obtain ⟨a, ha, rfl⟩ := List.mem_map.1 hx
  exact List.mem_map.2 ⟨a, List.mem_of_mem_take ha, rfl⟩
 .rcases h3 with ⟨h3, h4⟩ | ⟨h3, cs, h4, h5, h6, h7, h8⟩
  .refine .inl ⟨h3, ?_⟩
   rw [List.map_take, h4]; simp
  .refine .inr ⟨h3, cs, h4, h5, ?_, h7, fun i j x d v hx => h8 i j x d v ?_⟩
   .rw [List.length_map] at h6 ⊢
    rw [List.length_take]; omega
   .rw [List.map_take, List.getElem?_take] at hx
    split at hx
    .exact hx
    .cases hx
theorem weak_ghostB (id j e sz : Nat) {cells cells' : List LV} (hl : lookB id h = some (.box cells)) (hj : cells[j]? = some (.p .nils)) (hc : cells.set j (.lsl c sz 0 0) = cells')
  (hu : updF id (.box cells') h some = some h') : Weak A ⟨nt, sl, h, c⟩ ⟨nt, sl, (c, .row e sz []) :: h', c + 1⟩ := fun a w ⟨⟨μ, hh, hr⟩, hnt, hdef⟩ => by
 rw [lookB_eq] at hl
 rw [updF_eq, Option.some.injEq] at hu
 subst hu hc
 have hno := hh.fresh c (Nat.le_refl _)
 let loc : Loc := ⟨true, 0, 0, sz, 0⟩
 have hsub : ∀ id x, look id ((c, HObj.row e sz []) :: h) = some x -> (id = c /\ x = .row e sz []) \/ look id h = some x := by
  intro id x hx
  simp only [look] at hx
  split at hx
  .cases hx; exact .inl ⟨‹_›, rfl⟩
  .exact .inr hx
 have hadd := hh.add hno loc (.row e sz []) ((c, .row e sz []) :: h) (fun hn => by cases hn) (fun hn => by cases hn) hsub (Kept.refl _ _) (fun _ _ _ _ _ _ _ => rfl) rfl rfl rfl ⟨rfl, by simp, .inl ⟨rfl, rfl⟩⟩
 have hown := hh.sub_add loc (.row e sz []) ((c, .row e sz []) :: h) (fun hn => by cases hn) hsub
 have hadd' := hadd.less (F' := Fr (c + 1)) fun id hid => by simp only [Fr] at hid ⊢; omega
 have hne : id ≠ c := hh.live_ne hno hl
 have hl' : look id ((c, HObj.row e sz []) :: h) = some (.box cells) := by simp only [look, if_neg hne]; exact hl
 obtain ⟨g1, g2⟩ := hadd'.swap hl' (o' := .box (cells.set j (.lsl c sz 0 0))) fun lc _ ⟨k1, cs, t, k2, k3, k4⟩ => by
  refine ⟨k1, cs, t, k2, by rw [List.length_set]; exact k3, fun i v l hv hl => ?_⟩
  rw [List.getElem?_set] at hl
  split at hl
  .split at hl
   .cases hl
    subst_vars
    have := k4 _ v _ hv hj
    rw [this.nils_inv]
    exact .lsln c loc (by simp [setμ]) rfl
   .cases hl
  .exact k4 i v l hv hl
 have hup : upd id (.box (cells.set j (.lsl c sz 0 0))) ((c, HObj.row e sz []) :: h) = (c, .row e sz []) :: upd id (.box (cells.set j (.lsl c sz 0 0))) h := by
  simp only [upd, if_neg hne]
 rw [hup] at g1 g2
 exact ⟨⟨_, g1, fun u hu => (hr u hu).mono (Kept.refl _ _) (fun b hb hb' => hown b hb (g2 b hb')) (keepμ hno loc)⟩, hnt, hdef⟩
end
section
variable {P : Program} {A : Amb} {env : Env} {α : Type} {enc : α -> List DV} {l r : List α} {nt : Nat} {sl : List (Nat × LV)} {h : Heap} {c d : Nat} {f : St -> Prop} {hf : Hid f} {x : Operand} {t sz : Nat}
theorem o_slB {hi : Option Operand} {m : Int} {id k : Nat} (hr : slO l 0 m = some r) (ht : slcSz env t sz = true) (hk : k = l.length) (hx : evC nt sl x = .lsl id sz 0 k)
  (hhi : bndI nt sl l.length hi = some m)
  (kk : f ⟨nt, (d, .lsl id sz 0 r.length) :: sl, h, c⟩) : opS P A env ⟨nt, sl, h, c⟩ (some d) (.slice t x none hi none) ⟨f, hf⟩ := by
 refine o_slO (lo := none) hr ht hk hx rfl hhi ?_
 have e : (m - 0).toNat = r.length := by
  obtain ⟨h1, h2⟩ := slO_sp hr
  rw [<- h2]
  simp at h1 ⊢; omega
 rw [e]
 exact kk
end
section
variable (id : Nat) (src d : LV)
mutual
inductive FrzV : LV -> LV -> Prop
 | same (v : LV) : FrzV v v
 | hit : FrzV src d
 | nil (z : Nat) : FrzV (.p .nils) (.p (.slice z []))
 | agg {a b : List LV} : FrzVs a b -> FrzV (.agg a) (.agg b)
inductive FrzVs : List LV -> List LV -> Prop
 | nil : FrzVs [] []
 | cons {x y : LV} {a b : List LV} : FrzV x y -> FrzVs a b -> FrzVs (x :: a) (y :: b)
end
inductive FrzS (sl : List (Nat × LV)) : List (Nat × LV) -> Prop
 | nil : FrzS sl []
 | cons (t : Nat) {v : LV} {r : List (Nat × LV)} : FrzV src d (getS sl t) v -> FrzS sl r -> FrzS sl ((t, v) :: r)
inductive FrzO : HObj -> HObj -> Prop
 | same (o : HObj) : FrzO o o
 | box {a b : List LV} : FrzVs src d a b -> FrzO (.box a) (.box b)
inductive FrzH (h : Heap) : Heap -> Prop
 | nil : FrzH h []
 | cons (i : Nat) {o o' : HObj} {r : Heap} (hne : Nat.beq i id = false) (hl : lookB i h = some o) : FrzO src d o o' -> FrzH h r -> FrzH h ((i, o') :: r)
end
section
variable {A : Amb} {nt : Nat} {sl sl' : List (Nat × LV)} {h h' : Heap} {c : Nat} {id : Nat} {src d : LV}
mutual
theorem frzV_rel {O O' : Nat -> Prop} {μ μ' : Nat -> Option Loc} {w : World} (hμ : ∀ id l, μ id = some l -> μ' id = some l) (hO : ∀ b, b < w.heap.size -> O' b -> O b) (hd : ∀ v, LRel O μ w v src -> LRel O' μ' w v d) : ∀ {x y : LV}, FrzV src d x y -> ∀ v, LRel O μ w v x -> LRel O' μ' w v y
 | _, _, .same _, v, h => h.mono (Kept.refl _ _) hO hμ
 | _, _, .hit, v, h => hd v h
 | _, _, .nil z, v, h => by
  rw [h.nils_inv]
  exact .p _ _ (.snil z)
 | _, _, .agg (a := ls) (b := b) q, v, h => by
  cases h with
  | agg vs _ hsz hr =>
   obtain ⟨g1, g2⟩ := frzVs_rel hμ hO hd q
   exact .agg vs _ (by omega) fun i v l hv hl => by
    have hi := (List.getElem?_eq_some_iff.1 hl).1
    obtain ⟨x, hx⟩ : ∃ x, ls[i]? = some x := ⟨ls[i]'(by omega), List.getElem?_eq_getElem _⟩
    exact g2 i x l hx hl v (hr i v x hv hx)
theorem frzVs_rel {O O' : Nat -> Prop} {μ μ' : Nat -> Option Loc} {w : World} (hμ : ∀ id l, μ id = some l -> μ' id = some l) (hO : ∀ b, b < w.heap.size -> O' b -> O b) (hd : ∀ v, LRel O μ w v src -> LRel O' μ' w v d) : ∀ {a b : List LV}, FrzVs src d a b -> a.length = b.length /\ ∀ (i : Nat) (x y : LV), a[i]? = some x -> b[i]? = some y -> ∀ v, LRel O μ w v x -> LRel O' μ' w v y
 | _, _, .nil => ⟨rfl, fun i x y h => by simp at h⟩
 | _, _, .cons q r => by
  obtain ⟨g1, g2⟩ := frzVs_rel hμ hO hd r
  refine ⟨by simp [g1], fun i x y hx hy => ?_⟩
  cases i with
  | zero => simp at hx hy; subst hx hy; exact frzV_rel hμ hO hd q
  | succ i => exact g2 i x y (by simpa using hx) (by simpa using hy)
end
theorem frzS_look : ∀ {sl' : List (Nat × LV)}, FrzS src d sl sl' -> ∀ t l, look t sl' = some l -> FrzV src d (getS sl t) l
 | _, .nil, t, l, h => by simp [look] at h
 | _, .cons u q r, t, l, h => by
  simp only [look] at h
  split at h
  .cases h; subst_vars; exact q
  .exact frzS_look r t l h
theorem frzH_look : ∀ {h' : Heap}, FrzH id src d h h' -> ∀ i o', look i h' = some o' -> i ≠ id /\ ∃ o, look i h = some o /\ FrzO src d o o'
 | _, .nil, i, o, h => by simp [look] at h
 | _, .cons u hne hl q r, i, o, h => by
  simp only [look] at h
  split at h
  .cases h; subst_vars
   rw [lookB_eq] at hl
   exact ⟨fun e => by subst e; simp at hne, _, hl, q⟩
  .exact frzH_look r i o h
theorem weak_frzC (id : Nat) {d0 : DV} (hd : ∀ μ w (O' : Nat -> Prop), HRel A μ h (Fr c) w -> (∀ b, O' b -> Own A μ (dels [id] h) b) -> ∀ v, LRel (Own A μ h) μ w v src -> PRel O' w v d0) (hs : FrzS src (.p d0) sl sl') (hh : FrzH id src (.p d0) h h') : Weak A ⟨nt, sl, h, c⟩ ⟨nt, sl', h', c⟩ := fun a w ⟨⟨μ, hR, hr⟩, hnt, hdef⟩ => by
 have hlk := fun i o' => frzH_look hh i o'
 have hmine : ∀ b, Mine μ h' b -> Mine μ (dels [id] h) b := by
  rintro b ⟨j, y, lc, h1, h2, h3, h4⟩
  obtain ⟨g1, o, g2, -⟩ := hlk j y h1
  refine ⟨j, o, lc, ?_, h2, h3, h4⟩
  show look j (del id h) = some o
  rw [look_del_other g1]; exact g2
 have hown1 : ∀ b, Own A μ h' b -> Own A μ (dels [id] h) b := fun b hb => hb.imp (fun h => h) (hmine b)
 have hown : ∀ b, Own A μ h' b -> Own A μ h b := fun b hb => own_dels b (hown1 b hb)
 have hp : ∀ v, LRel (Own A μ h) μ w v src -> LRel (Own A μ h') μ w v (.p d0) := fun v hv => .p _ _ (hd μ w _ hR hown1 v hv)
 refine ⟨⟨μ, ⟨?_, ?_, hR.fresh, ?_, hR.size, hR.block, hR.os, hR.tape, hR.output, hR.ext⟩, fun t ht => ?_⟩, hnt, hdef⟩
 .intro j o' hj
  obtain ⟨g1, o, g2, q⟩ := hlk j o' hj
  obtain ⟨lc, h1, h2⟩ := hR.obj j o g2
  refine ⟨lc, h1, ?_⟩
  cases q with
  | same _ => exact h2.mono (Kept.refl _ _) (fun b _ hb => hown b hb) (fun _ _ h => h) fun _ => rfl
  | box q =>
   obtain ⟨k1, cs, ty, k2, k3, k4⟩ := h2
   obtain ⟨q1, q2⟩ := frzVs_rel (O' := Own A μ h') (w := w) (fun _ _ h => h) (fun b _ hb => hown b hb) hp q
   refine ⟨k1, cs, ty, k2, by omega, fun i v l hv hl => ?_⟩
   have hi := (List.getElem?_eq_some_iff.1 hl).1
   rename_i a b
   have hx : a[i]? = some (a[i]'(by omega)) := List.getElem?_eq_getElem _
   exact q2 i _ l hx hl v (k4 i v _ hv hx)
 .intro j j' y y' lc lc' h1 h2 m1 m2 n1 n2 he
  obtain ⟨-, z, hz, -⟩ := hlk j y h1
  obtain ⟨-, z', hz', -⟩ := hlk j' y' h2
  exact hR.inj _ _ _ _ _ _ hz hz' m1 m2 n1 n2 he
 .intro j y lc h1 m1 n1
  obtain ⟨-, z, hz, -⟩ := hlk j y h1
  exact hR.base _ _ _ hz m1 n1
 .show LRel _ _ _ _ (match look t sl' with | some v => v | none => .any)
  cases hl : look t sl' with
  | none => exact .any _
  | some l => exact frzV_rel (fun _ _ h => h) (fun b _ hb => hown b hb) hp (frzS_look hs t l hl) _ (hr t ht)
theorem weak_frz (id : Nat) {d0 : DV} (hd : toDV1 h src = some d0 /\ ids1 src = [id]) (hs : FrzS src (.p d0) sl sl') (hh : FrzH id src (.p d0) h h') : Weak A ⟨nt, sl, h, c⟩ ⟨nt, sl', h', c⟩ :=
 weak_frzC id (fun μ w O' hR hown v hv => (toDV1_rel hR (l := [id]) hv hd.1 (by rw [hd.2]; simp)).mono (Kept.refl _ _) fun b _ hb => hown b hb) hs hh
theorem lsl_some {O : Nat -> Prop} {μ : Nat -> Option Loc} {w : World} {v : Value} {id sz off n : Nat} (h : LRel O μ w v (.lsl id sz off n)) : ∃ loc, μ id = some loc := by
 cases h with
 | lsln _ loc hm hn => exact ⟨loc, hm⟩
 | lsl _ _ _ cap a loc hm => exact ⟨loc, hm⟩
theorem weak_nil0 (hs : FrzS (.lsl c 0 0 0) (.p .nils) sl sl') (hh : FrzH c (.lsl c 0 0 0) (.p .nils) h h') : Weak A ⟨nt, sl, h, c⟩ ⟨nt, sl', h', c⟩ :=
 weak_frzC c (fun μ w O' hR hown v hv => by
  have hno := hR.fresh c (Nat.le_refl _)
  obtain ⟨loc, hm⟩ := lsl_some hv
  rw [hno] at hm; cases hm) hs hh
theorem own_dv {α : Type} {enc : α -> List DV} {l : List α} {e : Nat} {sz : Nat} (hl : lookB id h = some (.row e sz (l.map enc))) : toDV1 h (.lsl id sz 0 l.length) = some (.slice sz (l.map enc)) /\ ids1 (.lsl id sz 0 l.length) = [id] := by
 refine ⟨?_, rfl⟩
 rw [lookB_eq] at hl
 simp only [toDV1, hl, Nat.zero_add, List.length_map, Nat.le_refl, and_self, if_true, List.drop_zero]
 rw [List.take_of_length_le (by simp)]
theorem weak_win {α : Type} {enc : α -> List DV} {l y : List α} {e sz off n : Nat} (id : Nat) (hl : lookB id h = some (.row e sz (l.map enc))) (hy : off + n <= l.length /\ (l.drop off).take n = y)
  (hs : FrzS (.lsl id sz off n) (.lsl c sz 0 y.length) sl sl') (hh : FrzH id (.lsl id sz off n) (.lsl c sz 0 y.length) h h') : Weak A ⟨nt, sl, h, c⟩ ⟨nt, sl', (c, .row e sz (y.map enc)) :: h', c + 1⟩ := fun a w ⟨⟨μ, hR, hr⟩, hnt, hdef⟩ => by
 rw [lookB_eq] at hl
 obtain ⟨hfit, hy⟩ := hy
 have hlen : y.length = n := by rw [<- hy]; simp; omega
 have hno := hR.fresh c (Nat.le_refl _)
 have hlk := fun i o' => frzH_look hh i o'
 obtain ⟨loc, hm, hz, hel, hrow⟩ := hR.obj id _ hl
 have hidc : id ≠ c := fun e2 => by rw [e2, hno] at hm; cases hm
 let loc' : Loc := ⟨loc.nil, loc.b, loc.o + off * loc.sz, loc.sz, loc.cap - off⟩
 have hμ := keepμ hno loc'
 have hmine : ∀ b, Mine (setμ μ c loc') ((c, HObj.row e sz (y.map enc)) :: h') b -> Mine μ h b := by
  rintro b ⟨j, o, lc, h1, h2, h3, h4⟩
  simp only [look] at h1
  split at h1
  .rename_i e2
   subst e2
   simp [setμ] at h2
   subst h2
   exact ⟨id, _, loc, hl, hm, h3, h4⟩
  .rename_i e2
   obtain ⟨g1, o2, g2, -⟩ := hlk j o h1
   simp [setμ, e2] at h2
   exact ⟨j, o2, lc, g2, h2, h3, h4⟩
 have hown : ∀ b, b < w.heap.size -> Own A (setμ μ c loc') ((c, HObj.row e sz (y.map enc)) :: h') b -> Own A μ h b := fun b _ hb => hb.imp (fun h => h) (hmine b)
 have hp : ∀ v, LRel (Own A μ h) μ w v (.lsl id sz off n) -> LRel (Own A (setμ μ c loc') ((c, HObj.row e sz (y.map enc)) :: h')) (setμ μ c loc') w v (.lsl c sz 0 y.length) := by
  intro v hv
  rw [hlen]
  cases hv with
  | lsln _ lc hm2 hn =>
   rw [hm] at hm2; cases hm2
   exact .lsln c loc' (by simp [setμ]) hn
  | lsl _ _ _ cap ad lc hm2 hn hcap hl2 had hb hsp =>
   rw [hm] at hm2; cases hm2
   exact .lsl c 0 n cap ad loc' (by simp [setμ]) hn (by simp only [loc']; omega) hl2 (fun hc => by rw [had hc]; simp [loc']) hb hsp
 refine ⟨⟨setμ μ c loc', ⟨?_, ?_, ?_, ?_, hR.size, hR.block, hR.os, hR.tape, hR.output, fun j lc hj => hμ _ _ (hR.ext j lc hj)⟩, fun t ht => ?_⟩, hnt, hdef⟩
 .intro j o' hj
  simp only [look] at hj
  split at hj
  .rename_i e2
   subst e2
   cases hj
   refine ⟨loc', by simp [setμ], hz, fun x hx => ?_, ?_⟩
   .obtain ⟨z, hz2, rfl⟩ := List.mem_map.1 hx
    refine hel _ (List.mem_map.2 ⟨z, ?_, rfl⟩)
    rw [<- hy] at hz2
    exact List.mem_of_mem_drop (List.mem_of_mem_take hz2)
   .rcases hrow with ⟨hn, he0⟩ | ⟨hn, cs, hblk, hcs, hle, hcm, hrel⟩
    .refine .inl ⟨hn, ?_⟩
     have : l = [] := by simpa using he0
     subst this
     simp at hfit
     have : y = [] := by rw [<- hy]; simp
     rw [this]; rfl
    .refine .inr ⟨hn, cs, hblk, ?_, ?_, ?_, fun i k x d v hx hd hv => ?_⟩
     .simp only [loc']
      rw [List.length_map] at hle
      rw [hcs, Nat.add_assoc, hz, <- Nat.add_mul]
      congr 2; omega
     .simp only [loc', List.length_map] at hle ⊢; omega
     .simp only [loc']; omega
     .rw [List.getElem?_map] at hx
      cases hyi : y[i]? with
      | none => rw [hyi] at hx; cases hx
      | some z =>
       rw [hyi] at hx
       cases hx
       have hi : i < n := by have := (List.getElem?_eq_some_iff.1 hyi).1; omega
       have hli : l[off + i]? = some z := by
        rw [<- hy, List.getElem?_take, if_pos hi, List.getElem?_drop] at hyi
        exact hyi
       refine (hrel (off + i) k _ d v (by rw [List.getElem?_map, hli]; rfl) hd ?_).mono (Kept.refl _ _) hown
       rw [<- hv]
       simp only [loc', hz]
       congr 1
       rw [Nat.add_mul]; omega
  .obtain ⟨g1, o, g2, q⟩ := hlk j o' hj
   obtain ⟨lc, h1, h2⟩ := hR.obj j o g2
   refine ⟨lc, hμ _ _ h1, ?_⟩
   cases q with
   | same _ => exact h2.mono (Kept.refl _ _) hown hμ fun _ => rfl
   | box q =>
    obtain ⟨k1, cs, ty, k2, k3, k4⟩ := h2
    obtain ⟨q1, q2⟩ := frzVs_rel (w := w) hμ hown hp q
    refine ⟨k1, cs, ty, k2, by omega, fun i v l hv hl => ?_⟩
    have hi := (List.getElem?_eq_some_iff.1 hl).1
    rename_i a b
    have hx : a[i]? = some (a[i]'(by omega)) := List.getElem?_eq_getElem _
    exact q2 i _ l hx hl v (k4 i v _ hv hx)
 .intro j j' y1 y1' lc lc' h1 h2 m1 m2 n1 n2 he
  have back : ∀ j o lc, look j ((c, HObj.row e sz (y.map enc)) :: h') = some o -> setμ μ c loc' j = some lc -> (j = c /\ lc = loc') \/ (j ≠ c /\ j ≠ id /\ (∃ o2, look j h = some o2) /\ μ j = some lc) := by
   intro j o lc h1 m1
   simp only [look] at h1
   split at h1
   .rename_i e2; subst e2; simp [setμ] at m1; exact .inl ⟨rfl, m1.symm⟩
   .rename_i e2
    obtain ⟨g1, o2, g2, -⟩ := hlk j o h1
    simp [setμ, e2] at m1
    exact .inr ⟨e2, g1, ⟨o2, g2⟩, m1⟩
  rcases back j y1 lc h1 m1 with ⟨rfl, rfl⟩ | ⟨a1, a2, ⟨o1, a3⟩, a4⟩ <;> rcases back j' y1' lc' h2 m2 with ⟨rfl, rfl⟩ | ⟨b1, b2, ⟨o2, b3⟩, b4⟩
  .rfl
  .exact absurd (hR.inj _ _ _ _ _ _ hl b3 hm b4 n1 n2 he).symm b2
  .exact absurd (hR.inj _ _ _ _ _ _ a3 hl a4 hm n1 n2 he) a2
  .exact hR.inj _ _ _ _ _ _ a3 b3 a4 b4 n1 n2 he
 .intro j hj
  simp only [Fr] at hj
  simp only [setμ]
  rw [if_neg (by omega)]
  exact hR.fresh j (by simp only [Fr]; omega)
 .intro j o lc h1 m1 n1
  simp only [look] at h1
  split at h1
  .rename_i e2
   subst e2
   simp [setμ] at m1
   subst m1
   exact hR.base id _ loc hl hm n1
  .rename_i e2
   obtain ⟨g1, o2, g2, -⟩ := hlk j o h1
   simp [setμ, e2] at m1
   exact hR.base j o2 lc g2 m1 n1
 .show LRel _ _ _ _ (match look t sl' with | some v => v | none => .any)
  cases hl2 : look t sl' with
  | none => exact .any _
  | some l => exact frzV_rel hμ hown hp (frzS_look hs t l hl2) _ (hr t ht)
end
section
variable {P : Program} {A : Amb} {env : Env}
theorem CallW.ownF {h : Heap} {ctr k : Nat} {args : List LV} {ds : List DV} {e sz : Nat} {elems : List (List DV)} {K : LV -> Heap -> Nat -> Prop} (hds : toDVall h args = some ds) (hf : FunN P k ds e sz elems)
  (hfl : ∀ x ∈ elems, ∀ d ∈ x, d.flat = true) (hK : K (.lsl ctr sz 0 elems.length) ((ctr, .row e sz elems) :: h) (ctr + 1)) : CallW P A h ctr k args K := by
 refine ⟨hf.enters, fun μ w vs hh hsz hr => ?_⟩
 obtain ⟨g1, g2⟩ := toDVall_rel hh (l := args.flatMap (ids h)) hds (fun id hid => hid)
 generalize args.flatMap (ids h) = dl at g2
 have hO : ∀ b, Own A μ (dels dl h) b -> b < w.heap.size := by
  intro b hb
  rcases own_dels b hb with hb | ⟨id, x, lc, h1, h2, h3, rfl⟩
  .exact Nat.lt_of_lt_of_le (A.hO b hb).1 hh.size
  .exact (hh.base id x lc h1 h2 h3).1
 refine (hf.run (Own A μ (dels dl h)) w vs hO (by omega) fun i v d hv hd => ?_).mono fun en w' ⟨v, he, hn, hb⟩ => ?_
 .have hi := (List.getElem?_eq_some_iff.1 hd).1
  have hx : args[i]? = some (args[i]'(by omega)) := List.getElem?_eq_getElem _
  exact g2 i v _ d hx hd (hr i v _ hv hx)
 .have hno : μ ctr = none := hh.fresh ctr (Nat.le_refl _)
  obtain ⟨hlen, hn⟩ := hn
  have hkm : Kept (Mine μ h) w w' := ⟨hb.size, fun b hb' _ => hb.block b hb'⟩
  have hsub : ∀ id x, look id ((ctr, HObj.row e sz elems) :: h) = some x -> (id = ctr /\ x = .row e sz elems) \/ look id h = some x := by
   intro id x hx
   simp only [look] at hx
   split at hx
   .cases hx; exact .inl ⟨‹_›, rfl⟩
   .exact .inr hx
  have hold : ∀ id x lc, look id ((ctr, HObj.row e sz elems) :: h) = some x -> id ≠ ctr -> μ id = some lc -> lc.nil = false -> w'.heap[lc.b]? = w.heap[lc.b]? := by
   intro id x lc hx hne hm hnl
   rcases hsub id x hx with ⟨rfl, _⟩ | hx
   .exact absurd rfl hne
   .exact hb.block _ (hh.base id x lc hx hm hnl).1
  have fin : ∀ (loc : Loc), (loc.nil = false -> loc.b < w'.heap.size /\ w.heap.size <= loc.b) ->
    (∀ O' : Nat -> Prop, ORel O' (setμ μ ctr loc) w' loc (.row e sz elems)) ->
    (∀ O', LRel O' (setμ μ ctr loc) w' v (.lsl ctr sz 0 elems.length)) ->
    ∃ u l h' c' μ', en = .returned u /\ K l h' c' /\ HRel A μ' h' (Fr c') w' /\ LRel (Own A μ' h') μ' w' u l /\ ∀ v x, LRel (Own A μ h) μ w v x -> LRel (Own A μ' h') μ' w' v x := by
   intro loc hloc ho hu
   have hfr : Fresh μ h ((ctr, HObj.row e sz elems) :: h) w loc := fun hn => .inl (hloc hn).2
   have hown := hh.sub_add loc (.row e sz elems) ((ctr, .row e sz elems) :: h) hfr hsub
   have hadd := hh.add (w' := w') hno loc (.row e sz elems) ((ctr, .row e sz elems) :: h) (fun hn => (hloc hn).1) hfr hsub hkm hold hb.os hb.tape hb.output (ho _)
   exact ⟨v, _, _, _, _, he, hK, hadd.less (fun id hid => by simp only [Fr] at hid ⊢; omega), hu _, fun v x hv => hv.mono hkm.own hown (keepμ hno loc)⟩
  rcases hn with ⟨rfl, rfl⟩ | ⟨a, b, o, cap, c, rfl, h1, h2, h3, h4, h5, h6, h7, h8, h9, h10⟩
  .exact fin ⟨true, 0, 0, sz, 0⟩ (fun hn => by cases hn) (fun O' => ⟨rfl, hlen, .inl ⟨rfl, rfl⟩⟩) (fun O' => .lsln ctr ⟨true, 0, 0, sz, 0⟩ (by simp [setμ]) rfl)
  .refine fin ⟨false, b, o, sz, cap⟩ (fun _ => ⟨h2, h1⟩) (fun O' => ⟨rfl, hlen, .inr ⟨rfl, c, h6, h7, h8, h9, fun i j x d u hx hd hu => ?_⟩⟩) (fun O' => ?_)
   .exact (h10 i j x d u hx hd hu).flat (hfl x (List.mem_of_getElem? hx) d (List.mem_of_getElem? hd)) _ _
   .exact .lsl ctr 0 elems.length cap a ⟨false, b, o, sz, cap⟩ (by simp [setμ]) rfl (by simp) h8 (fun hc => by rw [h3 hc]; simp) h4 h5
end
section
variable {P : Program} {A : Amb} {env : Env} {α : Type} {enc : α -> List DV} {nt : Nat} {sl : List (Nat × LV)} {h : Heap} {c d : Nat} {f : St -> Prop} {hf : Hid f}
theorem o_callNF {fo : Operand} {args : Array Operand} {ts : Array TypeId} {k e sz : Nat} {caps ls : List LV} {ds : List DV} {r : List α} (hF : FunN P k ds e sz (r.map enc)) (hfl : ∀ x : α, (enc x).all (·.flat) = true)
  (hfn : evC nt sl fo = .fn k caps) (hl : mapOpF nt sl args.toList some = some ls) (hds : toDVall h (ls ++ caps) = some ds)
  (kk : f ⟨nt, (d, .lsl c sz 0 r.length) :: sl, (c, .row e sz (r.map enc)) :: h, c + 1⟩) : opS P A env ⟨nt, sl, h, c⟩ (some d) (.call ⟨.value fo, args, ts⟩) ⟨f, hf⟩ := by
 rw [evC_eq (h := h) (c := c)] at hfn
 show fnW _ _
 rw [hfn]
 show CallC P A h c k (args.toList.map _ ++ caps) _
 rw [args_eq hl]
 refine CallW.ownF hds hF (fun x hx d hd => ?_) ?_
 .obtain ⟨a, _, rfl⟩ := List.mem_map.1 hx
  exact List.all_eq_true.1 (hfl a) d hd
 .rw [List.length_map]
  exact kk
end
theorem weak_fnp {A : Amb} {nt : Nat} {sl : List (Nat × LV)} {h : Heap} {c : Nat} (t : Nat) {k : Nat} {ds : List DV} (ht : getS sl t = .p (.fn k ds)) : Weak A ⟨nt, sl, h, c⟩ ⟨nt, (t, .fn k (ds.map .p)) :: sl, h, c⟩ := fun a w ⟨⟨μ, hh, hr⟩, hnt, hdef⟩ => by
 refine ⟨⟨μ, hh, fun u hu => ?_⟩, hnt, hdef⟩
 show LRel _ _ _ _ (match look u ((t, LV.fn k (ds.map .p)) :: sl) with | some v => v | none => .any)
 simp only [look]
 by_cases hut : u = t
 .subst hut
  rw [if_pos rfl]
  have := hr u hu
  simp only at this
  rw [ht] at this
  have hp := this.p_inv
  generalize a.tmps.getD u undef = v at hp
  cases hp with
  | fn _ caps _ hsz q =>
   refine .fn k caps _ (by simpa using hsz) fun i v l hv hl => ?_
   simp only [List.getElem?_map, Option.map_eq_some_iff] at hl
   obtain ⟨d, hd, rfl⟩ := hl
   exact .p _ _ (q i v d hv hd)
 .rw [if_neg hut]
  exact hr u hu
noncomputable def recF {α β : Type} (F : (α -> Option β) -> α -> Option β) (n : Nat) : α -> Option β := Nat.rec (fun _ => none) (fun _ ih => F ih) n
theorem recF_holds {α β : Type} {F : (α -> Option β) -> α -> Option β} {C : α -> β -> Prop} (h : ∀ rec : α -> Option β, (∀ a r, rec a = some r -> C a r) -> ∀ a r, F rec a = some r -> C a r) : ∀ n a r, recF F n a = some r -> C a r
 | 0, a, r, e => by cases e
 | n + 1, a, r, e => h (recF F n) (recF_holds h n) a r e
end Go.E
/- Drawn regions of which the orders do not all come to one by waiting: a tree of orders. No condition. -/
namespace Go.E
open Go Go.RowKit
inductive OTree where
 | done
 | nil
 | picks (l : List Nat) (t : OTree)
 | alt (i : Nat) (l : List Nat) (t r : OTree)
def setAll (listed : Array Bool) : List Nat -> Array Bool
 | [] => listed
 | i :: l => setAll (listed.setIfInBounds i true) l
def picksOK (q w : Bool) (md : Region.Mode) (ops : Array Oper) : List Nat -> Array Bool -> Bool
 | [], _ => true
 | i :: rest, listed => (match ops[i]? with
  | none => false
  | some oi => (Region.ready md ops listed == [i]) || ((Region.ready md ops listed).contains i && firstOK q w md ops listed i oi (blockedB md ops listed i))) &&
  picksOK q w md ops rest (listed.setIfInBounds i true)
def OTree.heads : OTree -> List Nat
 | .alt i _ _ r => i :: r.heads
 | _ => []
def okT (q w : Bool) (md : Region.Mode) (ops : Array Oper) : OTree -> Bool -> Array Bool -> Nat -> Bool
 | .done, b, listed, n => !b && (Region.ready md ops listed).isEmpty && n == 0
 | .nil, b, _, _ => b
 | .picks l t, b, listed, n => !b && picksOK q w md ops l listed && decide (l.length <= n) && okT q w md ops t false (setAll listed l) (n - l.length)
 | .alt i l t r, b, listed, n => (b || decide (0 < n) && !(Region.ready md ops listed).isEmpty && (Region.ready md ops listed).all fun j => (i :: r.heads).contains j) &&
   (decide (i < ops.size) && picksOK q w md ops l (listed.setIfInBounds i true) && decide (l.length <= (bif b then n else n - 1)) &&
    okT q w md ops t false (setAll (listed.setIfInBounds i true) l) ((bif b then n else n - 1) - l.length) && okT q w md ops r true listed (bif b then n else n - 1))
section
variable (P : Program) (A : Amb) (env : Env) (base n : Nat) (K : St -> Prop) (ops : List Oper)
def drT : OTree -> St -> Prop
 | .done, st => K st
 | .nil, _ => True
 | .picks l t, st => drM P A env base n ⟨drT t, ⟨⟩⟩ (pairM ops l) st
 | .alt i l t r, st => drM P A env base n ⟨drT t, ⟨⟩⟩ (pairM ops (i :: l)) st /\ drT r st
end
section
variable {P : Program} {A : Amb} {env : Env} {md : Region.Mode} {base : Nat} {K : St -> Prop}
theorem drT_p {ops : List Oper} {n : Nat} {l : List Nat} {t : OTree} {st : St} (k : drM P A env base n ⟨drT P A env base n K ops t, ⟨⟩⟩ (pairM ops l) st) : drT P A env base n K ops (.picks l t) st := k
theorem drT_a {ops : List Oper} {n : Nat} {i : Nat} {l : List Nat} {t r : OTree} {st : St} (k : drM P A env base n ⟨drT P A env base n K ops t, ⟨⟩⟩ (pairM ops (i :: l)) st) (k' : drT P A env base n K ops r st) : drT P A env base n K ops (.alt i l t r) st := ⟨k, k'⟩
theorem drT_d {ops : List Oper} {n c c' nt : Nat} {sl : List (Nat × LV)} {h : Heap} {S : St} (k : Weak A ⟨nt, sl, h, c + n⟩ S) : drT P A env c n (fun st => Weak A { st with ctr := c + n } S) ops .done ⟨nt, sl, h, c'⟩ := k
theorem drT_n {ops : List Oper} {n : Nat} {st : St} : drT P A env base n K ops .nil st := trivial
theorem picks_lt {q w : Bool} {ops : Array Oper} : ∀ {l : List Nat} {listed : Array Bool}, picksOK q w md ops l listed = true -> ∀ i ∈ l, i < ops.size
 | [], _, _, i, hi => by simp at hi
 | j :: l, listed, h, i, hi => by
  simp only [picksOK, Bool.and_eq_true] at h
  rcases List.mem_cons.1 hi with rfl | hi
  .cases ho : ops[i]? with
   | none => rw [ho] at h; simp at h
   | some o => exact (Array.getElem?_eq_some_iff.1 ho).1
  .exact picks_lt h.2 i hi
theorem DAny_picks (q : Bool) (hq : q = true -> ∃ b, env.calm = some b) {ops : Array Oper} {T Q : St -> Prop} (fuel : Nat) : ∀ (l : List Nat) (listed : Array Bool) (st : St), picksOK q env.own md ops l listed = true -> (∀ k, listed.getD k true = false -> look (base + k) st.heap = none) ->
  (∀ st', (∀ k, (setAll listed l).getD k true = false -> look (base + k) st'.heap = none) -> T st' -> DAny P env md ops base Q fuel (setAll listed l) st') ->
  dpops P env ops base T l st -> DAny P env md ops base Q (l.length + fuel) listed st
 | [], listed, st, _, hfresh, hT, h => by
  rw [List.length_nil, Nat.zero_add]
  exact hT st hfresh h
 | i :: rest, listed, st, hok, hfresh, hT, h => by
  obtain ⟨o, l, e, ho, hd, hrest⟩ := dpops_step h
  simp only [picksOK, ho, Bool.and_eq_true, Bool.or_eq_true] at hok
  have hrec : DAny P env md ops base Q (rest.length + fuel) (listed.setIfInBounds i true) (apS st (base + i) o l e) := by
   refine DAny_picks q hq fuel rest _ _ hok.2 (fun k hk => ?_) hT hrest
   have hik : i ≠ k := by
    rintro rfl
    rcases Nat.lt_or_ge i listed.size with h' | h'
    .simp [h'] at hk
    .simp [Array.getElem?_eq_none h'] at hk
   rw [apS_heap]
   exact eff_fresh hd (by simp only [St.at]; omega) (hfresh k (by rw [getD_set_ne true hik] at hk; exact hk))
  rw [show (i :: rest).length + fuel = rest.length + fuel + 1 by simp; omega]
  rcases hok.1 with h1 | h1
  .have hr : Region.ready md ops listed = [i] := by simpa using h1
   refine ⟨fun h0 => (by rw [hr] at h0; cases h0), fun j hj => ?_⟩
   rw [hr] at hj
   simp at hj
   subst hj
   exact ⟨o, l, e, ho, hd, hrec⟩
  .obtain ⟨h1, h2⟩ := h1
   simp only [firstOK, Bool.and_eq_true, List.all_eq_true, List.mem_range] at h2
   obtain ⟨h2, h3⟩ := h2
   generalize hBe : blockedB md ops listed i = B at h2 h3
   refine DAny_first q hq ho (fun j => B.contains j) (fun j hj => ?_) (rest.length + fuel) listed st (fun j hj => ?_) (fun j oj hoj hji hun hBj => ?_) hfresh (by simpa using h1) hd hrec
   .have := h2 j (by simpa using hj)
    obtain ⟨⟨a1, a2⟩, a3⟩ := this
    refine ⟨by simpa using a1, fun oj hoj => ?_⟩
    rw [hoj] at a3
    obtain ⟨x, hx, hx2⟩ := Array.any_eq_true'.1 a3
    simp only [Bool.and_eq_true, Bool.or_eq_true, beq_iff_eq] at hx2
    exact ⟨x, hx, hx2.1, hx2.2⟩
   .have := (h2 j (by simpa using hj)).1.2
    simpa using this
   .have := h3 j (Array.getElem?_eq_some_iff.1 hoj).1
    simp only [Bool.or_eq_true, beq_iff_eq, hji, false_or, hun, Bool.false_eq_true] at this
    rw [hBj] at this
    simp only [Bool.false_eq_true, false_or, hoj, Bool.and_eq_true] at this
    refine ⟨this.1, this.2.1, fun ho => ?_⟩
    have := this.2.2
    rw [ho] at this; simpa using this
theorem DAny_tree (q : Bool) (hq : q = true -> ∃ b, env.calm = some b) {ops : List Oper} : ∀ (T : OTree) (listed : Array Bool) (st : St) (n : Nat), (∀ k, listed.getD k true = false -> look (base + k) st.heap = none) -> drT P A env base ops.length K ops T st ->
  (okT q env.own md ops.toArray T false listed n = true -> DAny P env md ops.toArray base K n listed st) /\
  (okT q env.own md ops.toArray T true listed n = true -> ∀ i ∈ T.heads, ∃ o l e, ops.toArray[i]? = some o /\ dgW P env ops.toArray (st.at (base + i)) o l e /\ DAny P env md ops.toArray base K n (listed.setIfInBounds i true) (apS st (base + i) o l e))
 | .done, listed, st, n, hfresh, h => by
  refine ⟨fun hok => ?_, fun hok => by simp [okT] at hok⟩
  simp only [okT, Bool.not_false, Bool.true_and, Bool.and_eq_true, beq_iff_eq, List.isEmpty_iff] at hok
  obtain ⟨h1, rfl⟩ := hok
  exact ⟨h1, st, Eqv.refl st, h⟩
 | .nil, listed, st, n, hfresh, h => ⟨fun hok => by simp [okT] at hok, fun _ i hi => by simp [OTree.heads] at hi⟩
 | .picks l t, listed, st, n, hfresh, h => by
  refine ⟨fun hok => ?_, fun hok => by simp [okT] at hok⟩
  simp only [okT, Bool.not_false, Bool.true_and, Bool.and_eq_true, decide_eq_true_eq] at hok
  obtain ⟨⟨h1, h2⟩, h3⟩ := hok
  have hb : (l.all fun i => decide (i < ops.length)) = true := List.all_eq_true.2 fun i hi => by simpa using picks_lt h1 i hi
  have := DAny_picks q hq (md := md) (Q := K) (n - l.length) l listed st h1 hfresh (fun st' hf' hT => ?_) (drM_sound l st hb h)
  .rwa [show l.length + (n - l.length) = n by omega] at this
  .refine DAny_eqv _ _ { st' with ctr := base + ops.length } _ ⟨rfl, fun _ => rfl, fun _ => rfl⟩ ?_
   exact (DAny_tree q hq t (setAll listed l) { st' with ctr := base + ops.length } (n - l.length) hf' hT).1 h3
 | .alt i l t r, listed, st, n, hfresh, ⟨h, h'⟩ => by
  have key : ∀ m, (decide (i < ops.toArray.size) && picksOK q env.own md ops.toArray l (listed.setIfInBounds i true) && decide (l.length <= m) && okT q env.own md ops.toArray t false (setAll (listed.setIfInBounds i true) l) (m - l.length) && okT q env.own md ops.toArray r true listed m) = true ->
    ∀ j ∈ i :: r.heads, ∃ o l e, ops.toArray[j]? = some o /\ dgW P env ops.toArray (st.at (base + j)) o l e /\ DAny P env md ops.toArray base K m (listed.setIfInBounds j true) (apS st (base + j) o l e) := by
   intro m hok j hj
   simp only [Bool.and_eq_true, decide_eq_true_eq] at hok
   obtain ⟨⟨⟨⟨h0, h1⟩, h2⟩, h3⟩, h4⟩ := hok
   rcases List.mem_cons.1 hj with rfl | hj
   .have hb : ((j :: l).all fun i => decide (i < ops.length)) = true := List.all_eq_true.2 fun i hi => by
     rcases List.mem_cons.1 hi with rfl | hi
     .simpa using h0
     .simpa using picks_lt h1 i hi
    obtain ⟨o, lv, e, ho, hd, hrest⟩ := dpops_step (drM_sound (j :: l) st hb h)
    refine ⟨o, lv, e, ho, hd, ?_⟩
    have := DAny_picks q hq (md := md) (Q := K) (m - l.length) l (listed.setIfInBounds j true) (apS st (base + j) o lv e) h1 (fun k hk => ?_) (fun st' hf' hT => ?_) hrest
    .rwa [show l.length + (m - l.length) = m by omega] at this
    .have hik : j ≠ k := by
      rintro rfl
      rcases Nat.lt_or_ge j listed.size with h' | h'
      .simp [h'] at hk
      .simp [Array.getElem?_eq_none h'] at hk
     rw [apS_heap]
     exact eff_fresh hd (by simp only [St.at]; omega) (hfresh k (by rw [getD_set_ne true hik] at hk; exact hk))
    .refine DAny_eqv _ _ { st' with ctr := base + ops.length } _ ⟨rfl, fun _ => rfl, fun _ => rfl⟩ ?_
     exact (DAny_tree q hq t _ { st' with ctr := base + ops.length } (m - l.length) hf' hT).1 h3
   .exact (DAny_tree q hq r listed st m hfresh h').2 h4 j hj
  refine ⟨fun hok => ?_, fun hok => ?_⟩
  .rw [okT, Bool.false_or] at hok
   obtain ⟨h1, h2⟩ := Bool.and_eq_true_iff.1 hok
   simp only [Bool.and_eq_true, decide_eq_true_eq, Bool.not_eq_true', List.all_eq_true] at h1
   obtain ⟨⟨h3, h4⟩, h5⟩ := h1
   obtain ⟨m, rfl⟩ : ∃ m, n = m + 1 := ⟨n - 1, by omega⟩
   refine ⟨fun h0 => by rw [h0] at h4; simp at h4, fun j hj => ?_⟩
   exact key m (by simpa using h2) j (by simpa using h5 j hj)
  .simp only [okT, Bool.true_or, Bool.true_and, cond_true] at hok
   exact key n hok
theorem rgdT (hE : EnvOK P env) (hm : P.follows .mixedOrders = true) {id : Nat} {ops : List Oper} {Q : Exit -> St -> Prop} {nt : Nat} {sl : List (Nat × LV)} {h : Heap} {c : Nat} (T : OTree) (n : Nat) (S : St)
  (hok : okT false env.own .any ops.toArray T false (Array.replicate ops.length false) ops.length = true) (hn : Nat.beq ops.length n = true)
  (k : drT P A env c n (fun st => Weak A { st with ctr := c + n } S) ops T ⟨nt, sl, h, c⟩) (kk : Q .normal S) : dwp P A (.region id ops.toArray true) Q ⟨nt, sl, h, c⟩ := fun a w hR => by
 have hn' := Nat.eq_of_beq_eq_true hn
 subst hn'
 refine wp_region_any hm ?_
 have hR' := (hR.drawn (w.drawn + 1)).toRF
 have hfr : ∀ k, look (c + k) h = none := by
  intro k
  cases hx : look (c + k) h with
  | none => rfl
  | some o =>
   obtain ⟨⟨μ, hh, _⟩, _, _⟩ := hR
   obtain ⟨loc, h1, _⟩ := hh.obj _ _ hx
   rw [hh.fresh _ (by simp [Fr])] at h1; cases h1
 have hD := (DAny_tree false (fun h => by cases h) (md := .any) T (Array.replicate ops.length false) ⟨nt, sl, h, c⟩ ops.length (fun k _ => hfr k) k).1 hok
 rw [show ops.toArray.size = ops.length by simp]
 refine wpAny_of_DAny (A := A) (n := ops.length) hE (by simp) (fun st' a' w' listed hk hR'' => ?_) ops.length _ ⟨nt, sl, h, c⟩ a _ (by simp) hD ?_
 .refine ⟨S, ?_, kk⟩
  obtain ⟨⟨μ, x1, x2⟩, x3, x4⟩ := hR''
  exact hk a' w' ⟨⟨μ, x1.less fun id hid => .inl hid, x2⟩, x3, x4⟩
 .obtain ⟨⟨μ, x1, x2⟩, x3, x4⟩ := hR'
  refine ⟨⟨μ, x1.less fun id hid => ?_, x2⟩, x3, x4⟩
  rcases hid with hid | ⟨k, _, _, rfl⟩
  .simp only [Fr]; omega
  .simp [Fr]
theorem rgdTC (hE : EnvOK P env) (hm : P.follows .mixedOrders = true) {id : Nat} {ops : List Oper} {Q : Exit -> St -> Prop} {nt : Nat} {sl : List (Nat × LV)} {h : Heap} {c : Nat} (T : OTree) (n : Nat) (S : St)
  (hq : env.calm.isSome = true) (hok : okT true env.own .any ops.toArray T false (Array.replicate ops.length false) ops.length = true) (hn : Nat.beq ops.length n = true)
  (k : drT P A env c n (fun st => Weak A { st with ctr := c + n } S) ops T ⟨nt, sl, h, c⟩) (kk : Q .normal S) : dwp P A (.region id ops.toArray true) Q ⟨nt, sl, h, c⟩ := fun a w hR => by
 have hn' := Nat.eq_of_beq_eq_true hn
 subst hn'
 refine wp_region_any hm ?_
 have hR' := (hR.drawn (w.drawn + 1)).toRF
 have hfr : ∀ k, look (c + k) h = none := by
  intro k
  cases hx : look (c + k) h with
  | none => rfl
  | some o =>
   obtain ⟨⟨μ, hh, _⟩, _, _⟩ := hR
   obtain ⟨loc, h1, _⟩ := hh.obj _ _ hx
   rw [hh.fresh _ (by simp [Fr])] at h1; cases h1
 have hD := (DAny_tree true (fun _ => Option.isSome_iff_exists.1 hq) (md := .any) T (Array.replicate ops.length false) ⟨nt, sl, h, c⟩ ops.length (fun k _ => hfr k) k).1 hok
 rw [show ops.toArray.size = ops.length by simp]
 refine wpAny_of_DAny (A := A) (n := ops.length) hE (by simp) (fun st' a' w' listed hk hR'' => ?_) ops.length _ ⟨nt, sl, h, c⟩ a _ (by simp) hD ?_
 .refine ⟨S, ?_, kk⟩
  obtain ⟨⟨μ, x1, x2⟩, x3, x4⟩ := hR''
  exact hk a' w' ⟨⟨μ, x1.less fun id hid => .inl hid, x2⟩, x3, x4⟩
 .obtain ⟨⟨μ, x1, x2⟩, x3, x4⟩ := hR'
  refine ⟨⟨μ, x1.less fun id hid => ?_, x2⟩, x3, x4⟩
  rcases hid with hid | ⟨k, _, _, rfl⟩
  .simp only [Fr]; omega
  .simp [Fr]
end
end Go.E
/- Own objects handed to a function that turns them: its contract (CallW of the objects alone), and its use among other objects (callW_M, o_callM). No condition. -/
namespace Go.E
open Go Go.RowKit
def mrV (ρ : Nat -> Nat) : LV -> LV
 | .lsl id sz off len => .lsl (ρ id) sz off len
 | .lpb id off => .lpb (ρ id) off
 | .lpe id i off => .lpe (ρ id) i off
 | .lmap id => .lmap (ρ id)
 | x => x
def miV : LV -> Option Nat
 | .lsl id _ _ _ => some id
 | .lpb id _ => some id
 | .lpe id _ _ => some id
 | .lmap id => some id
 | _ => none
def mfV : LV -> Bool
 | .p _ => true
 | .lsl _ _ _ _ => true
 | .lpb _ _ => true
 | .lpe _ _ _ => true
 | .lmap _ => true
 | .und => true
 | .any => true
 | _ => false
def mrO (ρ : Nat -> Nat) : HObj -> HObj
 | .box cs => .box (cs.map (mrV ρ))
 | o => o
def moV (gl : List (Nat × Nat)) (m : Nat) (l : LV) : Bool := mfV l && (match miV l with
 | none => true
 | some i => Nat.ble m i || (look i gl).isSome)
def moO (gl : List (Nat × Nat)) (m : Nat) : HObj -> Bool
 | .box cs => cs.all (moV gl m)
 | _ => true
def mrA (ρ : Nat -> Nat) : LV -> LV
 | .agg l => .agg (l.map (mrV ρ))
 | l => mrV ρ l
def moA (gl : List (Nat × Nat)) (m : Nat) : LV -> Bool
 | .agg l => l.all (moV gl m)
 | l => moV gl m l
def mrL (ρ : Nat -> Nat) : LV -> LV
 | .tup l => .tup (l.map (mrA ρ))
 | l => mrA ρ l
def moL (gl : List (Nat × Nat)) (m : Nat) : LV -> Bool
 | .tup l => l.all (moA gl m)
 | l => moA gl m l
def mrH (ρ : Nat -> Nat) : Heap -> Heap
 | [] => []
 | (i, o) :: h => (ρ i, mrO ρ o) :: mrH ρ h
def rho (gl : List (Nat × Nat)) (m c i : Nat) : Nat := match look i gl with
 | some j => j
 | none => c + (i - m)
def objsOK (ρ : Nat -> Nat) (h : Heap) : Heap -> Prop
 | [] => True
 | (i, o) :: r => look (ρ i) h = some (mrO ρ o) /\ objsOK ρ h r
def mutB (gl : List (Nat × Nat)) (m m1 : Nat) (H H1 : Heap) : Bool :=
 Nat.ble m m1 && H.all (fun p => Nat.ble (p.1 + 1) m && (look p.1 gl).isSome && moO gl m p.2) && gl.all (fun p => (look p.1 H).isSome && gl.all fun q => p.1 == q.1 || p.2 != q.2) && H1.all (fun p => (Nat.ble m p.1 || (look p.1 gl).isSome) && moO gl m p.2)
theorem look_memM {α : Type} {i : Nat} {o : α} : ∀ {l : List (Nat × α)}, look i l = some o -> (i, o) ∈ l
 | [], h => by simp [look] at h
 | (k, v) :: l, h => by
  unfold look at h
  split at h
  .rename_i e; cases h; subst e; simp
  .exact List.mem_cons_of_mem _ (look_memM h)
theorem objsOK_look {ρ : Nat -> Nat} {h : Heap} {i : Nat} {o : HObj} : ∀ {H : Heap}, objsOK ρ h H -> look i H = some o -> look (ρ i) h = some (mrO ρ o)
 | [], _, hl => by simp [look] at hl
 | (k, v) :: H, hk, hl => by
  unfold look at hl
  split at hl
  .rename_i e; cases hl; subst e; exact hk.1
  .exact objsOK_look hk.2 hl
theorem look_mrH {ρ : Nat -> Nat} {id : Nat} {o : HObj} : ∀ {H : Heap}, look id (mrH ρ H) = some o -> ∃ i o1, look i H = some o1 /\ ρ i = id /\ o = mrO ρ o1
 | [], h => by simp [mrH, look] at h
 | (k, v) :: H, h => by
  unfold mrH look at h
  split at h
  .rename_i e; cases h; exact ⟨k, v, by simp [look], e.symm, rfl⟩
  .rename_i e
   obtain ⟨i, o1, h1, h2, h3⟩ := look_mrH h
   refine ⟨i, o1, ?_, h2, h3⟩
   unfold look
   rw [if_neg (fun e2 => e (by rw [<- h2, e2]))]
   exact h1
theorem look_app {α : Type} {id : Nat} {o : α} : ∀ {a b : List (Nat × α)}, look id (a ++ b) = some o -> look id a = some o \/ look id b = some o
 | [], b, h => .inr h
 | (k, v) :: a, b, h => by
  rw [List.cons_append] at h
  have e1 : ∀ l : List (Nat × α), look id ((k, v) :: l) = if id = k then some v else look id l := fun _ => rfl
  rw [e1] at h
  by_cases e : id = k
  .rw [if_pos e] at h; rw [e1, if_pos e]; exact .inl h
  .rw [if_neg e] at h; rw [e1, if_neg e]; exact look_app h
section
variable {O : Nat -> Prop} {μ μ' : Nat -> Option Loc} {w : World} {ρ : Nat -> Nat}
theorem ren_rel {v : Value} {l : LV} (hf : mfV l = true) (hμ : ∀ i loc, miV l = some i -> μ (ρ i) = some loc -> μ' i = some loc) (h : LRel O μ w v (mrV ρ l)) : LRel O μ' w v l := by
 cases l with
 | p d => cases h with | p _ _ h => exact .p _ _ h
 | lsl id sz off len =>
  cases h with
  | lsln _ loc hm hn => exact .lsln id loc (hμ _ _ rfl hm) hn
  | lsl _ _ _ cap a loc hm hn hcap hl ha hb hs => exact .lsl id off len cap a loc (hμ _ _ rfl hm) hn hcap hl ha hb hs
 | lpb id off => cases h with | lpb _ _ loc hm hn => exact .lpb id off loc (hμ _ _ rfl hm) hn
 | lpe id i off => cases h with | lpe _ _ _ loc hm hn => exact .lpe id i off loc (hμ _ _ rfl hm) hn
 | lmap id => cases h with | lmap _ loc hm hn => exact .lmap id loc (hμ _ _ rfl hm) hn
 | und => cases h; exact .und
 | any => exact .any v
 | agg l => cases hf
 | tup l => cases hf
 | fn f l => cases hf
theorem ren_rel' {v : Value} {l : LV} (hf : mfV l = true) (hμ : ∀ i loc, miV l = some i -> μ' i = some loc -> μ (ρ i) = some loc) (h : LRel O μ' w v l) : LRel O μ w v (mrV ρ l) := by
 cases l with
 | p d => cases h with | p _ _ h => exact .p _ _ h
 | lsl id sz off len =>
  cases h with
  | lsln _ loc hm hn => exact .lsln _ loc (hμ _ _ rfl hm) hn
  | lsl _ _ _ cap a loc hm hn hcap hl ha hb hs => exact .lsl _ off len cap a loc (hμ _ _ rfl hm) hn hcap hl ha hb hs
 | lpb id off => cases h with | lpb _ _ loc hm hn => exact .lpb _ off loc (hμ _ _ rfl hm) hn
 | lpe id i off => cases h with | lpe _ _ _ loc hm hn => exact .lpe _ i off loc (hμ _ _ rfl hm) hn
 | lmap id => cases h with | lmap _ loc hm hn => exact .lmap _ loc (hμ _ _ rfl hm) hn
 | und => cases h; exact .und
 | any => exact .any v
 | agg l => cases hf
 | tup l => cases hf
 | fn f l => cases hf
theorem ren_obj {gl : List (Nat × Nat)} {m : Nat} {loc : Loc} {o : HObj} (hf : moO gl m o = true) (hμ : ∀ i lc, (m <= i \/ ∃ j, look i gl = some j) -> μ (ρ i) = some lc -> μ' i = some lc) (h : ORel O μ w loc (mrO ρ o)) : ORel O μ' w loc o := by
 cases o with
 | row e sz el => exact h
 | map mp => exact h
 | iter cur left => exact h
 | box cs =>
  obtain ⟨hn, c, t, h1, h2, h3⟩ := h
  refine ⟨hn, c, t, h1, by simpa using h2, fun i v l hv hl => ?_⟩
  have hok := List.all_eq_true.1 hf l (List.mem_of_getElem? hl)
  simp only [moV, Bool.and_eq_true] at hok
  refine ren_rel hok.1 (fun j lc hj hm => hμ j lc ?_ hm) (h3 i v _ hv (by rw [List.getElem?_map, hl]; rfl))
  have h4 := hok.2
  rw [hj] at h4
  simp only [Bool.or_eq_true, Nat.ble_eq] at h4
  exact h4.imp (fun x => x) fun h5 => Option.isSome_iff_exists.1 h5
theorem ren_obj' {gl : List (Nat × Nat)} {m : Nat} {loc : Loc} {o : HObj} (hf : moO gl m o = true) (hμ : ∀ i lc, (m <= i \/ ∃ j, look i gl = some j) -> μ' i = some lc -> μ (ρ i) = some lc) (h : ORel O μ' w loc o) : ORel O μ w loc (mrO ρ o) := by
 cases o with
 | row e sz el => exact h
 | map mp => exact h
 | iter cur left => exact h
 | box cs =>
  obtain ⟨hn, c, t, h1, h2, h3⟩ := h
  refine ⟨hn, c, t, h1, by simpa using h2, fun i v l hv hl => ?_⟩
  rw [List.getElem?_map] at hl
  cases hc : cs[i]? with
  | none => rw [hc] at hl; cases hl
  | some x =>
   rw [hc] at hl
   cases hl
   have hok := List.all_eq_true.1 hf x (List.mem_of_getElem? hc)
   simp only [moV, Bool.and_eq_true] at hok
   refine ren_rel' hok.1 (fun j lc hj hm => hμ j lc ?_ hm) (h3 i v x hv hc)
   have h4 := hok.2
   rw [hj] at h4
   simp only [Bool.or_eq_true, Nat.ble_eq] at h4
   exact h4.imp (fun x => x) fun h5 => Option.isSome_iff_exists.1 h5
end
section
variable {P : Program}
theorem callW_M {k : Nat} {H H1 : Heap} {m m1 : Nat} {ls : List LV} {L : LV} (hM : ∀ A : Amb, (∀ id, A.μ0 id ≠ none -> id < m) -> CallW P A H m k ls (fun l h c => l = L /\ h = H1 /\ c = m1))
  (gl : List (Nat × Nat)) {A : Amb} {h : Heap} {c : Nat} {K : LV -> Heap -> Nat -> Prop} (hB : mutB gl m m1 H H1 = true) (hobj : objsOK (rho gl m c) h H) (hls : ls.all (moV gl m) = true) (hL : moL gl m L = true)
  (hK : K (mrL (rho gl m c) L) (mrH (rho gl m c) H1 ++ dels (gl.map (·.2)) h) (c + (m1 - m))) : CallW P A h c k (ls.map (mrV (rho gl m c))) K := by
 simp only [mutB, Bool.and_eq_true, List.all_eq_true, Nat.ble_eq, Bool.or_eq_true, beq_iff_eq, bne_iff_ne] at hB
 obtain ⟨⟨⟨hm, hH⟩, hgl⟩, hH1⟩ := hB
 have key : ∀ i o, look i H = some o -> i < m /\ (∃ j, look i gl = some j) /\ moO gl m o = true := fun i o hl => by
  obtain ⟨⟨h1, h2⟩, h3⟩ := hH _ (look_memM hl)
  exact ⟨h1, Option.isSome_iff_exists.1 h2, h3⟩
 have gkey : ∀ i j, look i gl = some j -> ∃ o, look i H = some o := fun i j hl => Option.isSome_iff_exists.1 (hgl _ (look_memM hl)).1
 have ginj : ∀ i i' j, look i gl = some j -> look i' gl = some j -> i = i' := fun i i' j h1 h2 => by
  have := (hgl _ (look_memM h1)).2 _ (look_memM h2)
  rcases this with h | h
  .exact h
  .exact absurd rfl h
 have rg : ∀ i j, look i gl = some j -> rho gl m c i = j := fun i j hl => by unfold rho; rw [hl]
 have rn : ∀ i, m <= i -> rho gl m c i = c + (i - m) := fun i hi => by
  unfold rho
  cases hl : look i gl with
  | none => rfl
  | some j =>
   obtain ⟨o, ho⟩ := gkey i j hl
   have := (key i o ho).1
   omega
 refine ⟨(hM ⟨default, fun _ => False, fun _ => False, fun _ => none, fun _ h => h.elim⟩ (fun _ h => absurd rfl h)).1, fun μ w vs hh hsz hr => ?_⟩
 have hlt : ∀ id loc, μ id = some loc -> id < c := by
  intro id loc hm'
  by_cases hi : id < c
  .exact hi
  .rw [hh.fresh id (by simp only [Fr]; omega)] at hm'; cases hm'
 let μ' : Nat -> Option Loc := fun i => match look i gl with | some j => μ j | none => none
 have μg : ∀ i j, look i gl = some j -> μ' i = μ j := fun i j hl => by simp only [μ', hl]
 have μlt : ∀ i loc, μ' i = some loc -> ∃ j, look i gl = some j /\ μ j = some loc := by
  intro i loc hi
  cases hl : look i gl with
  | none => simp only [μ', hl] at hi; cases hi
  | some j => exact ⟨j, rfl, by rw [<- μg i j hl]; exact hi⟩
 have hobj' : ∀ i o, look i H = some o -> ∃ j, look i gl = some j /\ look j h = some (mrO (rho gl m c) o) := fun i o hl => by
  obtain ⟨_, ⟨j, hj⟩, _⟩ := key i o hl
  have := objsOK_look hobj hl
  rw [rg i j hj] at this
  exact ⟨j, hj, this⟩
 have mine : ∀ b, Mine μ' H b -> Mine μ h b /\ ∃ i j o loc, look i H = some o /\ look i gl = some j /\ look j h = some (mrO (rho gl m c) o) /\ μ j = some loc /\ loc.nil = false /\ loc.b = b := by
  rintro b ⟨i, o, loc, h1, h2, h3, h4⟩
  obtain ⟨j, hj, hj2⟩ := hobj' i o h1
  rw [μg i j hj] at h2
  exact ⟨⟨j, _, loc, hj2, h2, h3, h4⟩, i, j, o, loc, h1, hj, hj2, h2, h3, h4⟩
 have ownlt : ∀ b, Own A μ h b -> b < w.heap.size := by
  rintro b (hb | ⟨id, o, loc, h1, h2, h3, rfl⟩)
  .exact Nat.lt_of_lt_of_le (A.hO b hb).1 hh.size
  .exact (hh.base id o loc h1 h2 h3).1
 let A' : Amb := ⟨w, fun b => Own A μ h b /\ ¬ Mine μ' H b, Mine μ' H, μ', fun b hb => ⟨ownlt b hb.1, hb.2⟩⟩
 have own1 : ∀ b, Own A' μ' H b -> Own A μ h b := by
  rintro b (hb | hb)
  .exact hb.1
  .exact .inr (mine b hb).1
 have own2 : ∀ b, Own A μ h b -> Own A' μ' H b := fun b hb => by
  by_cases hc : Mine μ' H b
  .exact .inr hc
  .exact .inl ⟨hb, hc⟩
 have hh' : HRel A' μ' H (Fr m) w := by
  refine ⟨?_, ?_, ?_, ?_, Nat.le_refl _, fun _ _ _ => rfl, rfl, rfl, rfl, fun _ _ hm' => hm'⟩
  .intro i o hl
   obtain ⟨j, hj, hj2⟩ := hobj' i o hl
   obtain ⟨loc, h1, h2⟩ := hh.obj j _ hj2
   refine ⟨loc, by rw [μg i j hj]; exact h1, ?_⟩
   have h3 : ORel (Own A' μ' H) μ w loc (mrO (rho gl m c) o) := h2.mono (Kept.refl _ _) (fun b _ hb => own1 b hb) (fun _ _ h => h) (fun _ => rfl)
   refine ren_obj (key i o hl).2.2 (fun i' lc hi' hm' => ?_) h3
   rcases hi' with hi' | ⟨j', hj'⟩
   .rw [rn i' hi'] at hm'
    have := hlt _ _ hm'
    omega
   .rw [rg i' j' hj'] at hm'
    rw [μg i' j' hj']; exact hm'
  .intro i i' o o' loc loc' h1 h2 m1' m2' n1 n2 he
   obtain ⟨j, hj, hj2⟩ := hobj' i o h1
   obtain ⟨j', hj', hj2'⟩ := hobj' i' o' h2
   rw [μg i j hj] at m1'
   rw [μg i' j' hj'] at m2'
   have := hh.inj _ _ _ _ _ _ hj2 hj2' m1' m2' n1 n2 he
   subst this
   exact ginj _ _ _ hj hj'
  .intro i hi
   cases hm' : μ' i with
   | none => rfl
   | some loc =>
    obtain ⟨j, hj, _⟩ := μlt i loc hm'
    obtain ⟨o, ho⟩ := gkey i j hj
    have := (key i o ho).1
    simp only [Fr] at hi; omega
  .intro i o loc h1 h2 h3
   have hmine : Mine μ' H loc.b := ⟨i, o, loc, h1, h2, h3, rfl⟩
   exact ⟨ownlt _ (.inr (mine _ hmine).1), fun hb => hb.2 hmine, .inr hmine⟩
 have hargs : ∀ (i : Nat) (v : Value) (l : LV), vs[i]? = some v -> ls[i]? = some l -> LRel (Own A' μ' H) μ' w v l := by
  intro i v l hv hl
  have hok := List.all_eq_true.1 hls l (List.mem_of_getElem? hl)
  simp only [moV, Bool.and_eq_true] at hok
  have h1 := (hr i v _ hv (by rw [List.getElem?_map, hl]; rfl)).mono (O' := Own A' μ' H) (Kept.refl _ _) (fun b _ hb => own1 b hb) (fun _ _ h => h)
  refine ren_rel hok.1 (fun i' lc hi' hm' => ?_) h1
  have h4 := hok.2
  rw [hi'] at h4
  simp only [Bool.or_eq_true, Nat.ble_eq] at h4
  rcases h4 with h4 | h4
  .rw [rn i' h4] at hm'
   have := hlt _ _ hm'
   omega
  .obtain ⟨j', hj'⟩ := Option.isSome_iff_exists.1 h4
   rw [rg i' j' hj'] at hm'
   rw [μg i' j' hj']; exact hm'
 have hμ0 : ∀ id, A'.μ0 id ≠ none -> id < m := by
  intro id hid
  cases hm' : μ' id with
  | none => exact absurd hm' hid
  | some loc =>
   obtain ⟨j, hj, _⟩ := μlt id loc hm'
   obtain ⟨o, ho⟩ := gkey id j hj
   exact (key id o ho).1
 refine ((hM A' hμ0).2 μ' w vs hh' (by simpa using hsz) hargs).mono ?_
 rintro e w' ⟨u, l, h1, c1, μ'', he, ⟨rfl, rfl, rfl⟩, hh2, hu, -⟩
 let μ3 : Nat -> Option Loc := fun id => if id < c then μ id else μ'' (m + (id - c))
 have ext : ∀ i loc, μ' i = some loc -> μ'' i = some loc := fun i loc hi => hh2.ext i loc hi
 have μ3o : ∀ id loc, μ id = some loc -> μ3 id = some loc := fun id loc hm' => by simp only [μ3, if_pos (hlt id loc hm'), hm']
 have name : ∀ i lc, (m <= i \/ ∃ j, look i gl = some j) -> μ'' i = some lc -> μ3 (rho gl m c i) = some lc := by
  intro i lc hi hm'
  rcases hi with hi | ⟨j, hj⟩
  .rw [rn i hi]
   simp only [μ3]
   rw [if_neg (by omega), show m + (c + (i - m) - c) = i by omega]
   exact hm'
  .obtain ⟨o, ho⟩ := gkey i j hj
   obtain ⟨j', hj', hj2⟩ := hobj' i o ho
   rw [hj] at hj'
   cases hj'
   obtain ⟨loc, g1, _⟩ := hh.obj j _ hj2
   have := ext i loc (by rw [μg i j hj]; exact g1)
   rw [hm'] at this
   cases this
   rw [rg i j hj]
   exact μ3o j _ g1
 have new : ∀ id o, look id (mrH (rho gl m c) h1) = some o -> ∃ i o1, look i h1 = some o1 /\ rho gl m c i = id /\ o = mrO (rho gl m c) o1 /\ (m <= i \/ ∃ j, look i gl = some j) /\ moO gl m o1 = true := by
  intro id o hl
  obtain ⟨i, o1, g1, g2, g3⟩ := look_mrH hl
  obtain ⟨g4, g5⟩ := hH1 _ (look_memM g1)
  exact ⟨i, o1, g1, g2, g3, g4.imp (fun x => x) fun h5 => Option.isSome_iff_exists.1 h5, g5⟩
 have cases' : ∀ id o, look id (mrH (rho gl m c) h1 ++ dels (gl.map (·.2)) h) = some o -> (∃ i o1, look i h1 = some o1 /\ rho gl m c i = id /\ o = mrO (rho gl m c) o1 /\ (m <= i \/ ∃ j, look i gl = some j) /\ moO gl m o1 = true) \/ (id ∉ gl.map (·.2) /\ look id h = some o) := by
  intro id o hl
  rcases look_app hl with hl | hl
  .exact .inl (new id o hl)
  .exact .inr (look_dels hl)
 have other : ∀ id o loc, id ∉ gl.map (·.2) -> look id h = some o -> μ id = some loc -> loc.nil = false -> ¬ Mine μ' H loc.b := by
  intro id o loc hid hl hm' hn hmine
  obtain ⟨_, i, j, o', loc', g1, g2, g3, g4, g5, g6⟩ := mine _ hmine
  have := hh.inj _ _ _ _ _ _ g3 hl g4 hm' g5 hn g6
  subst this
  exact hid (List.mem_map.2 ⟨(i, j), look_memM g2, rfl⟩)
 have hkept : Kept (Own A μ h) w w' := ⟨hh2.size, fun b hb hO => hh2.block b hb fun hm' => hO (.inr (mine b hm').1)⟩
 have nmine : ∀ b, Mine μ3 (mrH (rho gl m c) h1 ++ dels (gl.map (·.2)) h) b -> Mine μ'' h1 b \/ (Own A μ h b /\ ¬ Mine μ' H b) := by
  rintro b ⟨id, o, loc, g1, g2, g3, g4⟩
  rcases cases' id o g1 with ⟨i, o1, k1, k2, k3, k4, k5⟩ | ⟨k1, k2⟩
  .left
   obtain ⟨lc, q1, _⟩ := hh2.obj i o1 k1
   have := name i lc k4 q1
   rw [k2, g2] at this
   cases this
   exact ⟨i, o1, loc, k1, q1, g3, g4⟩
  .right
   obtain ⟨lc, q1, _⟩ := hh.obj id o k2
   have := μ3o id lc q1
   rw [g2] at this
   cases this
   rw [<- g4]
   exact ⟨.inr ⟨id, o, loc, k2, q1, g3, rfl⟩, other id o loc k1 k2 q1 g3⟩
 have own3 : ∀ b, Own A μ3 (mrH (rho gl m c) h1 ++ dels (gl.map (·.2)) h) b -> Own A' μ'' h1 b := by
  rintro b (hb | hb)
  .refine .inl ⟨.inl hb, fun hm' => ?_⟩
   obtain ⟨_, i, j, o', loc', g1, g2, g3, g4, g5, rfl⟩ := mine _ hm'
   exact (hh.base j _ loc' g3 g4 g5).2.1 hb
  .rcases nmine b hb with hb | hb
   .exact .inr hb
   .exact .inl hb
 have own4 : ∀ b, b < w.heap.size -> Own A μ3 (mrH (rho gl m c) h1 ++ dels (gl.map (·.2)) h) b -> Own A μ h b := by
  rintro b hlt' (hb | hb)
  .exact .inl hb
  .rcases nmine b hb with ⟨i, o1, loc, k1, k2, k3, rfl⟩ | hb
   .rcases (hh2.base i o1 loc k1 k2 k3).2.2 with hx | hx
    .exact absurd hx (by show ¬ w.heap.size <= _; omega)
    .exact .inr (mine _ hx).1
   .exact hb.1
 have hu2 : LRel (Own A μ3 (mrH (rho gl m c) h1 ++ dels (gl.map (·.2)) h)) μ'' w' u l := hu.mono (Kept.refl _ _) (fun b _ hb => own3 b hb) (fun _ _ h => h)
 have one : ∀ v x, moV gl m x = true -> LRel (Own A μ3 (mrH (rho gl m c) h1 ++ dels (gl.map (·.2)) h)) μ'' w' v x -> LRel (Own A μ3 (mrH (rho gl m c) h1 ++ dels (gl.map (·.2)) h)) μ3 w' v (mrV (rho gl m c) x) := by
  intro v x hx hv
  simp only [moV, Bool.and_eq_true] at hx
  refine ren_rel' hx.1 (fun i' lc' hi' hm' => name i' lc' ?_ hm') hv
  have h4 := hx.2
  rw [hi'] at h4
  simp only [Bool.or_eq_true, Nat.ble_eq] at h4
  exact h4.imp (fun x => x) fun h5 => Option.isSome_iff_exists.1 h5
 refine ⟨u, _, _, _, μ3, he, hK, ⟨?_, ?_, ?_, ?_, Nat.le_trans hh.size hh2.size, ?_, hh2.os.trans hh.os, hh2.tape.trans hh.tape, hh2.output.trans hh.output, fun id loc hm' => μ3o id loc (hh.ext id loc hm')⟩, ?_, fun v x hv => hv.mono hkept own4 μ3o⟩
 .intro id o hl
  rcases cases' id o hl with ⟨i, o1, k1, k2, rfl, k4, k5⟩ | ⟨k1, k2⟩
  .obtain ⟨lc, q1, q2⟩ := hh2.obj i o1 k1
   refine ⟨lc, by rw [<- k2]; exact name i lc k4 q1, ?_⟩
   have q3 : ORel (Own A μ3 (mrH (rho gl m c) h1 ++ dels (gl.map (·.2)) h)) μ'' w' lc o1 := q2.mono (Kept.refl _ _) (fun b _ hb => own3 b hb) (fun _ _ h => h) (fun _ => rfl)
   exact ren_obj' k5 (fun i' lc' hi' hm' => name i' lc' hi' hm') q3
  .obtain ⟨lc, q1, q2⟩ := hh.obj id o k2
   refine ⟨lc, μ3o id lc q1, q2.mono hkept own4 μ3o fun hn => ?_⟩
   exact hh2.block _ (hh.base id o lc k2 q1 hn).1 (other id o lc k1 k2 q1 hn)
 .intro id id' o o' loc loc' g1 g2 m1' m2' n1 n2 hb
  rcases cases' id o g1 with ⟨i, o1, k1, k2, k3, k4, k5⟩ | ⟨k1, k2⟩
  .obtain ⟨lc, q1, _⟩ := hh2.obj i o1 k1
   have e1 := name i lc k4 q1
   rw [k2, m1'] at e1
   cases e1
   rcases cases' id' o' g2 with ⟨i', o1', k1', k2', k3', k4', k5'⟩ | ⟨k1', k2'⟩
   .obtain ⟨lc', q1', _⟩ := hh2.obj i' o1' k1'
    have e1' := name i' lc' k4' q1'
    rw [k2', m2'] at e1'
    cases e1'
    have := hh2.inj _ _ _ _ _ _ k1 k1' q1 q1' n1 n2 hb
    rw [<- k2, <- k2', this]
   .exfalso
    obtain ⟨lc', q1', _⟩ := hh.obj id' o' k2'
    have e1' := μ3o id' lc' q1'
    rw [m2'] at e1'
    cases e1'
    have hno := other id' o' loc' k1' k2' q1' n2
    have hsz' := (hh.base id' o' loc' k2' q1' n2).1
    rcases (hh2.base i o1 loc k1 q1 n1).2.2 with hx | hx
    .have : w.heap.size <= loc.b := hx
     omega
    .rw [hb] at hx; exact hno hx
  .obtain ⟨lc, q1, _⟩ := hh.obj id o k2
   have e1 := μ3o id lc q1
   rw [m1'] at e1
   cases e1
   rcases cases' id' o' g2 with ⟨i', o1', k1', k2', k3', k4', k5'⟩ | ⟨k1', k2'⟩
   .exfalso
    obtain ⟨lc', q1', _⟩ := hh2.obj i' o1' k1'
    have e1' := name i' lc' k4' q1'
    rw [k2', m2'] at e1'
    cases e1'
    have hno := other id o loc k1 k2 q1 n1
    have hsz' := (hh.base id o loc k2 q1 n1).1
    rcases (hh2.base i' o1' loc' k1' q1' n2).2.2 with hx | hx
    .have : w.heap.size <= loc'.b := hx
     omega
    .rw [<- hb] at hx; exact hno hx
   .obtain ⟨lc', q1', _⟩ := hh.obj id' o' k2'
    have e1' := μ3o id' lc' q1'
    rw [m2'] at e1'
    cases e1'
    exact hh.inj _ _ _ _ _ _ k2 k2' q1 q1' n1 n2 hb
 .intro id hid
  simp only [Fr] at hid
  simp only [μ3]
  rw [if_neg (by omega)]
  exact hh2.fresh _ (by simp only [Fr]; omega)
 .intro id o loc g1 g2 g3
  rcases cases' id o g1 with ⟨i, o1, k1, k2, k3, k4, k5⟩ | ⟨k1, k2⟩
  .obtain ⟨lc, q1, _⟩ := hh2.obj i o1 k1
   have e1 := name i lc k4 q1
   rw [k2, g2] at e1
   cases e1
   obtain ⟨b1, b2, b3⟩ := hh2.base i o1 loc k1 q1 g3
   refine ⟨b1, fun hO => b2 ⟨.inl hO, fun hm' => ?_⟩, ?_⟩
   .obtain ⟨_, i', j', o', loc', g1', g2', g3', g4', g5', g6'⟩ := mine _ hm'
    rw [<- g6'] at hO
    exact (hh.base j' _ loc' g3' g4' g5').2.1 hO
   .rcases b3 with hx | hx
    .exact .inl (Nat.le_trans hh.size hx)
    .obtain ⟨_, i', j', o', loc', g1', g2', g3', g4', g5', g6'⟩ := mine _ hx
     rw [<- g6']
     exact (hh.base j' _ loc' g3' g4' g5').2.2
  .obtain ⟨lc, q1, _⟩ := hh.obj id o k2
   have e1 := μ3o id lc q1
   rw [g2] at e1
   cases e1
   obtain ⟨b1, b2, b3⟩ := hh.base id o loc k2 q1 g3
   exact ⟨Nat.lt_of_lt_of_le b1 hh2.size, b2, b3⟩
 .intro b hb hnf
  have hnm : ¬ Mine μ' H b := by
   intro hm'
   obtain ⟨_, i', j', o', loc', g1', g2', g3', g4', g5', g6'⟩ := mine _ hm'
   have := (hh.base j' _ loc' g3' g4' g5').2.2
   rw [g6'] at this
   rcases this with hx | hx
   .omega
   .exact hnf hx
  rw [hh2.block b (Nat.lt_of_lt_of_le hb hh.size) hnm]
  exact hh.block b hb hnf
 .have oneA : ∀ v x, moA gl m x = true -> LRel (Own A μ3 (mrH (rho gl m c) h1 ++ dels (gl.map (·.2)) h)) μ'' w' v x -> LRel (Own A μ3 (mrH (rho gl m c) h1 ++ dels (gl.map (·.2)) h)) μ3 w' v (mrA (rho gl m c) x) := by
   intro v x hx hv
   cases x with
   | agg xs =>
    cases hv with
    | agg vs' _ hsz' hxs =>
     refine .agg vs' _ (by simpa using hsz') fun i v x hv hx' => ?_
     rw [List.getElem?_map] at hx'
     cases hc : xs[i]? with
     | none => rw [hc] at hx'; cases hx'
     | some y =>
      rw [hc] at hx'
      cases hx'
      exact one v y (List.all_eq_true.1 hx y (List.mem_of_getElem? hc)) (hxs i v y hv hc)
   | p d => exact one v _ hx hv
   | lsl id sz off len => exact one v _ hx hv
   | lpb id off => exact one v _ hx hv
   | lpe id i off => exact one v _ hx hv
   | lmap id => exact one v _ hx hv
   | und => exact one v _ hx hv
   | any => exact one v _ hx hv
   | tup l => exact one v _ hx hv
   | fn f l => exact one v _ hx hv
  cases l with
  | tup xs =>
   cases hu2 with
   | tup vs' _ hsz' hxs =>
    refine .tup vs' _ (by simpa using hsz') fun i v x hv hx => ?_
    rw [List.getElem?_map] at hx
    cases hc : xs[i]? with
    | none => rw [hc] at hx; cases hx
    | some y =>
     rw [hc] at hx
     cases hx
     exact oneA v y (List.all_eq_true.1 hL y (List.mem_of_getElem? hc)) (hxs i v y hv hc)
  | p d => exact oneA u (.p d) hL hu2
  | lsl id sz off len => exact oneA u (.lsl id sz off len) hL hu2
  | lpb id off => exact oneA u (.lpb id off) hL hu2
  | lpe id i off => exact oneA u (.lpe id i off) hL hu2
  | lmap id => exact oneA u (.lmap id) hL hu2
  | und => exact oneA u .und hL hu2
  | any => exact oneA u .any hL hu2
  | agg l => exact oneA u (.agg l) hL hu2
  | fn f l => exact oneA u (.fn f l) hL hu2
end
def MutC (P : Program) (k : Nat) (H : Heap) (c : Nat) (args : List LV) (L : LV) (H1 : Heap) (C : Nat) : Prop :=
 ∀ A : Amb, (∀ id, A.μ0 id ≠ none -> id < c) -> CallW P A H c k args fun l h c' => l = L /\ h = H1 /\ c' = C
section
variable {P : Program} {env : Env}
theorem fnM (hE : EnvOK P env) {k : Nat} {fn : Func} {cd : Code} (hfun : P.funcs[k]? = some fn) (nt' : Nat) (rs : List ResultVar) (sl' : List (Nat × LV)) (hb : fn.body = some cd) (hn : (fn.name == "runtime.NumGoroutine") = false) (hnt : Nat.beq fn.ntmps nt' = true) (hrs : fn.results.toList = rs)
  {H H1 : Heap} {c C : Nat} {ls : List LV} {L : LV} (hlen : Nat.ble ls.length nt' = true) (hsl : initL 0 ls = sl')
  (body : ∀ A : Amb, (∀ id, A.μ0 id ≠ none -> id < c) -> dwp P A cd (IP env.tt rs A L H1 C) ⟨nt', sl', H, c⟩) : MutC P k H c ls L H1 C := by
 intro A hA
 subst hsl
 refine callC_in hE hfun hb hn nt' (Nat.eq_of_beq_eq_true hnt) rs hrs (Nat.le_of_ble_eq_true hlen) fun A' hA' => ?_
 refine dwp_mono (dwp_end (body A' hA')) fun e s q => ?_
 have fin : (resLV env.tt rs s = some L /\ s.heap = H1 /\ s.ctr = C) -> ∃ l, resLV env.tt rs s = some l /\ l = L /\ s.heap = H1 /\ s.ctr = C := fun ⟨q1, q2, q3⟩ => ⟨_, q1, rfl, q2, q3⟩
 cases e <;> first | exact fin q | exact q.elim
section
variable {A : Amb} {f : St -> Prop} {hf : Hid f} {nt : Nat} {sl : List (Nat × LV)} {h : Heap} {c : Nat}
theorem o_callM {k : Nat} {H H1 : Heap} {m m1 : Nat} {ls : List LV} {L L' : LV} (hM : MutC P k H m ls L H1 m1) (gl : List (Nat × Nat)) {h' : Heap} {c' : Nat} {dst : Option Tmp} {fo : Operand} {args : Array Operand} {ts : Array TypeId}
  (hB : mutB gl m m1 H H1 = true) (hobj : objsOK (rho gl m c) h H) (hls : ls.all (moV gl m) = true) (hfn : evC nt sl fo = .fn k []) (hl : mapOpF nt sl args.toList some = some (ls.map (mrV (rho gl m c))))
  (hh : mrH (rho gl m c) H1 ++ dels (gl.map (·.2)) h = h') (hc : c + (m1 - m) = c') (hL : moL gl m L = true) (hL' : mrL (rho gl m c) L = L') (kk : f (match dst with | some d => ⟨nt, (d, L') :: sl, h', c'⟩ | none => ⟨nt, sl, h', c'⟩)) :
  opS P A env ⟨nt, sl, h, c⟩ dst (.call ⟨.value fo, args, ts⟩) ⟨f, hf⟩ := by
 rw [evC_eq (h := h) (c := c)] at hfn
 show fnW _ _
 rw [hfn]
 show CallC P A h c k (args.toList.map _ ++ []) _
 rw [args_eq hl, List.append_nil]
 refine callW_M hM gl hB hobj hls hL ?_
 rw [hh, hc, hL']
 show f (St.go ⟨nt, sl, h, c⟩ dst L' h' c')
 rw [go_go]
 cases dst <;> exact kk
end
end
end Go.E
/- Loops over maps, in whatever order (loopA); iterators. No condition. -/
namespace Go.E
open Go Go.RowKit
section
variable {σ α Ans : Type}
open Classical in
end
section
variable {P : Program} {A : Amb} {env : Env} {st : St} {σ α Ans : Type}
end
section
variable {P : Program} {A : Amb} {env : Env} {f : St -> Prop} {hf : Hid f} {nt : Nat} {sl : List (Nat × LV)} {h : Heap} {c : Nat} {d : Tmp} {κ υ : Type} {ke : κ -> DV} {ve : υ -> DV}
end
end Go.E
/- Drawn regions whose last operation waits for all others: it is run as in the text's order (a call that turns an object, a call that hands back an own row). Condition: the checks, by kernel. -/
namespace Go.E
open Go Go.RowKit
def nopOf (o : Oper) : Oper := { o with dst := none, op := .move (.tmp 0), guard := none }
def setLast : List Oper -> List Oper
 | [] => []
 | [o] => [nopOf o]
 | o :: o' :: r => o :: setLast (o' :: r)
theorem setLast_app (o : Oper) : ∀ l : List Oper, setLast (l ++ [o]) = l ++ [nopOf o]
 | [] => rfl
 | [a] => rfl
 | a :: b :: l => by
  have := setLast_app o (b :: l)
  simp only [List.cons_append] at this ⊢
  rw [setLast, this]
def topoB (md : Region.Mode) (ops : Array Oper) : List Nat -> List Nat -> Bool
 | _, [] => true
 | done, i :: r => (match ops[i]? with
  | some o => o.after.all fun x => !Region.binds md x || done.contains x.on
  | none => false) && topoB md ops (i :: done) r
def chainB (md : Region.Mode) (ops : Array Oper) : List Nat -> List Nat -> Bool
 | _, [] => true
 | later, j :: r => (later.any fun k => match ops[k]? with
  | some o => o.after.any fun x => Region.binds md x && x.on == j
  | none => false) && chainB md ops (j :: later) r
def guardsB (ops : Array Oper) (L : Nat) : Bool := ops.all fun o => match o.guard with
 | some (j, _) => !(j == L)
 | none => true
def Closed (md : Region.Mode) (ops : Array Oper) (listed : Array Bool) : Prop := ∀ i, listed.getD i false = true -> ∀ o, ops[i]? = some o -> ∀ x ∈ o.after, Region.binds md x = true -> listed.getD x.on false = true
section
variable {P : Program} {A : Amb} {env : Env} {md : Region.Mode} {ops : Array Oper} {base : Nat} {K : St -> Prop}
theorem topo_ready {listed : Array Bool} (hr : Region.ready md ops listed = []) : ∀ (order done : List Nat), (∀ i ∈ done, listed.getD i false = true) -> (∀ i ∈ order, i < listed.size) -> topoB md ops done order = true -> ∀ i ∈ order, listed.getD i false = true
 | [], _, _, _, _, i, hi => by simp at hi
 | k :: r, done, hd, hs, ht, i, hi => by
  simp only [topoB, Bool.and_eq_true] at ht
  have hk : listed.getD k false = true := by
   cases hl : listed.getD k false with
   | true => rfl
   | false =>
    exfalso
    cases ho : ops[k]? with
    | none => rw [ho] at ht; simp at ht
    | some o =>
     rw [ho] at ht
     have hks := hs k (by simp)
     have : k ∈ Region.ready md ops listed := mem_ready.2 ⟨by
      simp only [Array.getD_eq_getD_getElem?, Array.getElem?_eq_getElem hks, Option.getD_some] at hl ⊢; exact hl, o, ho, fun x hx hb => by
      have h1 := Array.all_eq_true'.1 ht.1 x hx
      simp only [hb, Bool.not_true, Bool.false_or, List.contains_iff_mem] at h1
      exact hd _ h1⟩
     rw [hr] at this
     cases this
  rcases List.mem_cons.1 hi with rfl | hi
  .exact hk
  .exact topo_ready hr r (k :: done) (fun j hj => by
   rcases List.mem_cons.1 hj with rfl | hj
   .exact hk
   .exact hd j hj) (fun j hj => hs j (by simp [hj])) ht.2 i hi
theorem chain_listed {listed : Array Bool} (hc : Closed md ops listed) : ∀ (others later : List Nat), (∀ k ∈ later, ∀ o, ops[k]? = some o -> ∀ x ∈ o.after, Region.binds md x = true -> listed.getD x.on false = true) -> chainB md ops later others = true -> ∀ j ∈ others, listed.getD j false = true
 | [], _, _, _, j, hj => by simp at hj
 | k :: r, later, hl, h, j, hj => by
  simp only [chainB, Bool.and_eq_true, List.any_eq_true] at h
  obtain ⟨⟨m, hm, h1⟩, h2⟩ := h
  have hk : listed.getD k false = true := by
   cases ho : ops[m]? with
   | none => rw [ho] at h1; cases h1
   | some o =>
    rw [ho] at h1
    obtain ⟨x, hx, hx2⟩ := Array.any_eq_true'.1 h1
    simp only [Bool.and_eq_true, beq_iff_eq] at hx2
    rw [<- hx2.2]
    exact hl m hm o ho x hx hx2.1
  rcases List.mem_cons.1 hj with rfl | hj
  .exact hk
  .exact chain_listed hc r (k :: later) (fun i hi => by
    rcases List.mem_cons.1 hi with rfl | hi
    .exact hc _ hk
    .exact hl i hi) h2 j hj
theorem wpAny_end {Q' : Exit -> Act -> World -> Prop} {listed : Array Bool} (hr : Region.ready md ops listed = []) {a : Act} {w : World} (h : Q' .normal a w) : ∀ fuel, wpAny P md ops Q' fuel listed a w
 | 0 => ⟨hr, h⟩
 | fuel + 1 => ⟨fun _ => h, fun i hi => by rw [hr] at hi; cases hi⟩
theorem wpAny_last (hE : EnvOK P env) {ops' : Array Oper} {n L : Nat} {oL : Oper} (hn : n = ops.size) (hn' : n = ops'.size) (hL : ops[L]? = some oL) (hL' : ops'[L]? = some (nopOf oL)) (hg : oL.guard = none) (heq : ∀ i, i ≠ L -> ops'[i]? = ops[i]?) (hgs : guardsB ops L = true)
  {others : List Nat} (hall : ∀ i, i < n -> i = L \/ i ∈ others) (hin : ∀ i ∈ others, i < n) (hLn : L < n) (ht : topoB md ops [] (others ++ [L]) = true) (hch : chainB md ops [L] others.reverse = true)
  {Q' : Exit -> Act -> World -> Prop} {F : St -> Prop} (hQ : ∀ st a w, F st -> R A st a w -> Q' .normal a w) (hK : ∀ st, K st -> opS P A env { st with ctr := base + n } oL.dst oL.op ⟨F, ⟨⟩⟩) :
  ∀ (fuel : Nat) (listed : Array Bool) (st : St) (a : Act) (w : World), listed.size = n -> Closed md ops listed -> listed.getD L true = false -> DAny P env md ops' base K fuel listed st -> RF A (Fl base n listed) st a w -> wpAny P md ops Q' fuel listed a w := by
 have hrd : ∀ listed i, i ∈ Region.ready md ops' listed ↔ i ∈ Region.ready md ops listed := fun listed i => by
  rw [mem_ready, mem_ready]
  by_cases e : i = L
  .subst e
   rw [hL, hL']
   constructor
   .rintro ⟨h1, o, h2, h3⟩; cases h2; exact ⟨h1, oL, rfl, h3⟩
   .rintro ⟨h1, o, h2, h3⟩; cases h2; exact ⟨h1, nopOf oL, rfl, h3⟩
  .rw [heq i e]
 have hrd0 : ∀ listed, Region.ready md ops' listed = [] ↔ Region.ready md ops listed = [] := fun listed => by
  simp only [List.eq_nil_iff_forall_not_mem, hrd]
 have hne : ∀ listed : Array Bool, listed.size = n -> listed.getD L true = false -> Region.ready md ops listed ≠ [] := fun listed hs hl h0 => by
  have := topo_ready h0 (others ++ [L]) [] (fun i hi => by simp at hi) (fun i hi => by
   rcases List.mem_append.1 hi with hi | hi
   .have := hin i hi; omega
   .simp at hi; omega) ht L (by simp)
  rw [Array.getD_eq_getD_getElem?, Array.getElem?_eq_getElem (by omega : L < listed.size)] at this hl
  simp only [Option.getD_some] at this hl
  rw [this] at hl; cases hl
 intro fuel
 induction fuel with
 | zero => intro listed st a w hs _ hl hD _; exact absurd ((hrd0 _).1 hD.1) (hne _ hs hl)
 | succ fuel ih =>
  intro listed st a w hs hc hl hD hR
  refine ⟨fun h0 => absurd h0 (hne _ hs hl), fun i hi => ?_⟩
  obtain ⟨o, l, e, ho, hd, hrec⟩ := hD.2 i ((hrd _ _).2 hi)
  obtain ⟨hun, o', ho', hdep⟩ := mem_ready.1 hi
  by_cases hiL : i = L
  .subst hiL
   rw [hL] at ho'; cases ho'
   rw [hL'] at ho; cases ho
   have hoth : ∀ j ∈ others, listed.getD j false = true := fun j hj => chain_listed hc others.reverse [i] (fun k hk o hok x hx hb => by
    simp at hk; subst hk
    rw [hL] at hok; cases hok
    exact hdep x hx hb) hch j (List.mem_reverse.2 hj)
   have hend : Region.ready md ops (listed.setIfInBounds i true) = [] := by
    rw [List.eq_nil_iff_forall_not_mem]
    intro j hj
    obtain ⟨g1, o2, g2, _⟩ := mem_ready.1 hj
    have hjn : j < n := by rw [hn]; exact (Array.getElem?_eq_some_iff.1 g2).1
    by_cases hji : i = j
    .subst hji
     simp [show i < listed.size by omega] at g1
    .rw [getD_set_ne true hji] at g1
     rcases hall j hjn with rfl | h
     .exact hji rfl
     .have := hoth j h
      rw [Array.getD_eq_getD_getElem?, Array.getElem?_eq_getElem (by omega : j < listed.size)] at this g1
      simp only [Option.getD_some] at this g1
      rw [this] at g1; cases g1
   obtain ⟨st', hev, hk⟩ : ∃ st', Eqv (apS st (base + i) (nopOf oL) l e) st' /\ K st' := by
    cases fuel with
    | zero => exact hrec.2
    | succ f => exact hrec.1 ((hrd0 _).2 hend)
   have he : e = .keep := by
    unfold dgW nopOf at hd
    simp only [dopW] at hd
    exact hd.1
   subst he
   have hap : apS st (base + i) (nopOf oL) l .keep = st := rfl
   rw [hap] at hev
   have hR2 := hR.eqv hev
   have hRR : R A { st' with ctr := base + n } a w := by
    obtain ⟨⟨μ, x1, x2⟩, x3, x4⟩ := hR2
    exact ⟨⟨μ, x1.less fun id hid => .inl hid, x2⟩, x3, x4⟩
   unfold wpOp
   rw [hL]
   have hw : Region.wanted oL (yielded ops a.tmps) = true := by unfold Region.wanted; rw [hg]
   simp only [hw, if_true]
   exact .inl (opW_sound hE (opS_imp (hK st' hk)) hRR fun st'' a' w' hF hR' => wpAny_end hend (hQ st'' a' w' hF hR') fuel)
  .rw [heq i hiL] at ho
   have hlt : i < n := by rw [hn]; exact (Array.getElem?_eq_some_iff.1 ho).1
   have hd' : dgW P env ops (st.at (base + i)) o l e := by
    unfold dgW at hd ⊢
    cases hgo : o.guard with
    | none => rw [hgo] at hd; exact hd
    | some g =>
     obtain ⟨j, want⟩ := g
     rw [hgo] at hd
     have hjL : j ≠ L := by
      have := Array.all_eq_true'.1 hgs o (Array.mem_of_getElem? ho)
      rw [hgo] at this
      simpa using this
     have hgl : guardLV (st.at (base + i)) ops' j = guardLV (st.at (base + i)) ops j := by unfold guardLV; rw [heq j hjL]
     simp only [hgl] at hd ⊢
     exact hd
   refine dg_sound (st := st.at (base + i)) hE ho ⟨hR.ex, hR.nt, hR.defers⟩ (.inr ⟨i, hlt, hun, rfl⟩) hd' fun a' w' hR' => ?_
   refine ih _ _ _ _ (by simpa using hs) (fun k hk o2 ho2 x hx hb => ?_) (by rw [getD_set_ne true hiL]; exact hl) hrec ?_
   .by_cases hki : i = k
    .subst hki
     rw [ho] at ho2; cases ho2
     rw [ho] at ho'; cases ho'
     exact getD_set_true (hdep x hx hb)
    .rw [getD_set_ne false hki] at hk
     exact getD_set_true (hc k hk o2 ho2 x hx hb)
   have hR'' : RF A (fun id => Fl base n listed id /\ id ≠ base + i) (apS st (base + i) o l e) a' w' := by
    obtain ⟨⟨μ, x1, x2⟩, x3, x4⟩ := hR'
    refine ⟨⟨μ, ?_, fun t ht => ?_⟩, ?_, x4⟩
    .rw [apS_heap] at x1 ⊢; exact x1
    .have := x2 t (by rw [apS_nt] at ht ⊢; exact ht)
     rw [apS_heap, apS_slots] at this
     rw [apS_heap, apS_slots]; exact this
    .rw [apS_nt] at x3 ⊢; exact x3
   obtain ⟨⟨μ, x1, x2⟩, x3, x4⟩ := hR''
   refine ⟨⟨μ, x1.less fun id hid => ?_, x2⟩, x3, x4⟩
   rcases hid with hid | ⟨k, hk1, hk2, rfl⟩
   .exact ⟨.inl hid, by omega⟩
   .have hik : i ≠ k := by
     rintro rfl
     simp [show i < listed.size by omega] at hk2
    exact ⟨.inr ⟨k, hk1, by rw [getD_set_ne true hik] at hk2; exact hk2, rfl⟩, by omega⟩
def pickLast : List Oper -> Option Oper
 | [] => none
 | [o] => some o
 | _ :: o :: r => pickLast (o :: r)
theorem pickLast_app {o : Oper} : ∀ {l : List Oper}, pickLast l = some o -> ∃ pre, l = pre ++ [o]
 | [a], h => by simp [pickLast] at h; subst h; exact ⟨[], rfl⟩
 | a :: b :: l, h => by
  obtain ⟨pre, e⟩ := pickLast_app (l := b :: l) (by simpa [pickLast] using h)
  exact ⟨a :: pre, by rw [e]; rfl⟩
def lastOK (ops : List Oper) (others : List Nat) : Bool :=
 match pickLast ops with
 | none => false
 | some o => o.guard.isNone && (guardsB ops.toArray (ops.length - 1) && ((List.range ops.length).all (fun i => Nat.beq i (ops.length - 1) || others.contains i) && ((others.all fun i => Nat.blt i ops.length) &&
   (topoB .any ops.toArray [] (others ++ [ops.length - 1]) && chainB .any ops.toArray [ops.length - 1] others.reverse))))
theorem rgdL (q : Bool) (hE : EnvOK P env) (hm : P.follows .mixedOrders = true) {id : Nat} {ops : List Oper} {Q : Exit -> St -> Prop} {nt : Nat} {sl : List (Nat × LV)} {h : Heap} {c : Nat} (others : List Nat) (n : Nat) {oL : Oper}
  (hq : (!q || env.calm.isSome) = true) (hlast : pickLast ops = some oL) (hcl : lastOK ops others = true) (hok : drawOK q env.own .any (setLast ops).toArray (others ++ [ops.length - 1]) (Array.replicate ops.length false) = true) (hl : Nat.beq (others.length + 1) ops.length = true) (hn : Nat.beq ops.length n = true)
  (k : drM P A env c n ⟨fun st => opS P A env st oL.dst oL.op ⟨Q .normal, ⟨⟩⟩, ⟨⟩⟩ (pairM (setLast ops) (others ++ [n - 1])) ⟨nt, sl, h, c⟩) : dwp P A (.region id ops.toArray true) Q ⟨nt, sl, h, c⟩ := fun a w hR => by
 have hn' := Nat.eq_of_beq_eq_true hn
 subst hn'
 have hq' : q = true -> ∃ b, env.calm = some b := fun e => by subst e; exact Option.isSome_iff_exists.1 (by simpa using hq)
 obtain ⟨pre, rfl⟩ := pickLast_app hlast
 unfold lastOK at hcl
 rw [hlast] at hcl
 simp only [Bool.and_eq_true, Option.isNone_iff_eq_none] at hcl
 obtain ⟨g0, g1, g2, g3, g4, g5⟩ := hcl
 have hlen : (pre ++ [oL]).length - 1 = pre.length := by simp
 rw [hlen] at g1 g2 g4 g5 hok k
 rw [setLast_app] at hok k
 have hsz : (pre ++ [nopOf oL]).length = (pre ++ [oL]).length := by simp
 have hb : ((others ++ [pre.length]).all fun i => decide (i < (pre ++ [nopOf oL]).length)) = true := by
  rw [List.all_eq_true] at g3 ⊢
  intro i hi
  rcases List.mem_append.1 hi with hi | hi
  .have := Nat.le_of_ble_eq_true (g3 i hi)
   simp only [List.length_append, List.length_cons, List.length_nil, decide_eq_true_eq] at this ⊢
   omega
  .simp at hi; subst hi; simp
 rw [<- hsz] at k hok
 have hd := drM_sound (others ++ [pre.length]) _ hb k
 refine wp_region_any hm ?_
 have hR' := (hR.drawn (w.drawn + 1)).toRF
 have hfr : ∀ k, look (c + k) h = none := by
  intro k
  cases hx : look (c + k) h with
  | none => rfl
  | some o =>
   obtain ⟨⟨μ, hh, _⟩, _, _⟩ := hR
   obtain ⟨loc, h1, _⟩ := hh.obj _ _ hx
   rw [hh.fresh _ (by simp [Fr])] at h1; cases h1
 have hD := DAny_of_dpops q hq' (others ++ [pre.length]) (Array.replicate (pre ++ [nopOf oL]).length false) ⟨nt, sl, h, c⟩ hok (fun k _ => hfr k) hd
 have hol : (others ++ [pre.length]).length = (pre ++ [oL]).length := by
  have := Nat.eq_of_beq_eq_true hl
  simpa using this
 rw [hol, hsz] at hD
 have hs2 : (pre ++ [oL]).toArray.size = (pre ++ [oL]).length := by simp
 rw [hs2]
 have hL0 : pre.length < (pre ++ [oL]).length := by simp
 refine wpAny_last (A := A) (n := (pre ++ [oL]).length) (L := pre.length) (oL := oL) (ops' := (pre ++ [nopOf oL]).toArray) (F := Q .normal) (base := c) hE (by simp) (by simp) (by simp) (by simp) g0 (fun i hi => ?_) g1 (others := others) (fun i hi => ?_) (fun i hi => ?_) hL0 g4 g5
  (fun st a w hF hRR => ⟨st, hRR, hF⟩) (fun st hK => hK) (pre ++ [oL]).length _ _ a _ (by simp) (fun i hi => ?_) ?_ hD ?_
 .simp only [List.getElem?_toArray]
  rcases Nat.lt_trichotomy i pre.length with h' | h' | h'
  .rw [List.getElem?_append_left h', List.getElem?_append_left h']
  .exact absurd h' hi
  .rw [List.getElem?_eq_none (by simp; omega), List.getElem?_eq_none (by simp; omega)]
 .have := List.all_eq_true.1 g2 i (List.mem_range.2 hi)
  simp only [Bool.or_eq_true, List.contains_iff_mem] at this
  exact this.imp (fun h => Nat.eq_of_beq_eq_true h) fun h => h
 .exact Nat.le_of_ble_eq_true (List.all_eq_true.1 g3 i hi)
 .exfalso
  rw [Array.getD_eq_getD_getElem?] at hi
  rcases Nat.lt_or_ge i (pre ++ [oL]).length with h' | h'
  .rw [Array.getElem?_eq_getElem (by simpa using h')] at hi; simp at hi
  .rw [Array.getElem?_eq_none (by simpa using h')] at hi; simp at hi
 .rw [Array.getD_eq_getD_getElem?, Array.getElem?_eq_getElem (by simp)]; simp
 .obtain ⟨⟨μ, x1, x2⟩, x3, x4⟩ := hR'
  refine ⟨⟨μ, x1.less fun id hid => ?_, x2⟩, x3, x4⟩
  rcases hid with hid | ⟨k, _, _, rfl⟩
  .simp only [Fr]; omega
  .simp [Fr]
end
end Go.E
/- The program's data in plain Lean, and how they stand in cells. Written by a program (gen.py). No condition. -/
namespace Go.E
open Go Go.RowKit Go.Proofs
instance : BEq ByteArray := ⟨fun a b => a.toList == b.toList⟩
def wi64 (n : Int) : Int := IntKind.wrap .i64 n
def xor64 (a b : Int) : Int := IntKind.wrap .i64 (BitVec.ofInt (IntKind.bits .i64) a ^^^ BitVec.ofInt (IntKind.bits .i64) b).toNat
def intC (n : Int) : List DV := [.int .i64 n]
def u8C (n : Int) : List DV := [.int .u8 n]
def boolC (b : Bool) : List DV := [.bool b]
def strC (s : ByteArray) : List DV := [.str s]
def rowC {α : Type} (sz : Nat) (enc : α -> List DV) (l : List α) : List DV := [.slice sz (l.map enc)]
def ptrD {α : Type} (enc : α -> List DV) (p : Option α) : DV := match p with
 | none => .nilp
 | some x => .place (enc x) 0
structure Port where
 elem : Int
 fin : Int
 deriving DecidableEq
def portC (x : Port) : List DV := [.int .i64 x.elem, .int .i64 x.fin]
theorem eqE_Port (x y : Port) : cellsEq (portC x) (portC y) = (x == y) := by
 rw [Bool.eq_iff_iff]
 rw [beq_iff_eq]
 simp only [portC, cellsEq, cellEq, Bool.and_eq_true, beq_iff_eq, Bool.and_true]
 constructor
 .intro h
  obtain ⟨a1, a2⟩ := x; obtain ⟨b1, b2⟩ := y; simp only at h; simp [h]
 .rintro rfl; simp
structure Join where
 a : Port
 b : Port
 deriving DecidableEq
def joinC (x : Join) : List DV := [.int .i64 x.a.elem, .int .i64 x.a.fin, .int .i64 x.b.elem, .int .i64 x.b.fin]
structure Elem where
 name : ByteArray
 kind : Int
 length : Int
 deriving DecidableEq
def elemC (x : Elem) : List DV := [.str x.name, .int .i64 x.kind, .int .i64 x.length]
structure Signal where
 name : ByteArray
 at_ : Port
 auto : Bool
 deriving DecidableEq
def signalC (x : Signal) : List DV := [.str x.name, .int .i64 x.at_.elem, .int .i64 x.at_.fin, .bool x.auto]
structure Line where
 name : ByteArray
 elems : (List Int)
 deriving DecidableEq
def lineC (x : Line) : List DV := [.str x.name, .slice 1 (x.elems.map intC)]
structure Plan where
 elems : (List Elem)
 joins : (List Join)
 signals : (List Signal)
 lines : (List Line)
 top : Int
 brake : Int
 margin : Int
 throw : Int
 hard : Bool
 deriving DecidableEq
def planC (x : Plan) : List DV := [.slice 3 (x.elems.map elemC), .slice 4 (x.joins.map joinC), .slice 4 (x.signals.map signalC), .slice 2 (x.lines.map lineC), .int .i64 x.top, .int .i64 x.brake, .int .i64 x.margin, .int .i64 x.throw, .bool x.hard]
structure Arr2Int where
 a0 : Int
 a1 : Int
 deriving DecidableEq
def arr2IntC (x : Arr2Int) : List DV := [.int .i64 x.a0, .int .i64 x.a1]
structure Net where
 p : Plan
 next : (List (Port × Port))
 reads : (List (Port × Int))
 line : (List (Int × Arr2Int))
 lead : (List (Int × Int))
 deriving DecidableEq
def netC (x : Net) : List DV := [.slice 3 (x.p.elems.map elemC), .slice 4 (x.p.joins.map joinC), .slice 4 (x.p.signals.map signalC), .slice 2 (x.p.lines.map lineC), .int .i64 x.p.top, .int .i64 x.p.brake, .int .i64 x.p.margin, .int .i64 x.p.throw, .bool x.p.hard, .map (mapD (fun x => .agg (portC x)) (fun x => .agg (portC x)) x.next), .map (mapD (fun x => .agg (portC x)) (.int .i64) x.reads), .map (mapD (.int .i64) (fun x => .agg (arr2IntC x)) x.line), .map (mapD (.int .i64) (.int .i64) x.lead)]
structure Step where
 elem : Int
 in_ : Int
 out : Int
 deriving DecidableEq
def stepC (x : Step) : List DV := [.int .i64 x.elem, .int .i64 x.in_, .int .i64 x.out]
theorem eqE_Step (x y : Step) : cellsEq (stepC x) (stepC y) = (x == y) := by
 rw [Bool.eq_iff_iff]
 rw [beq_iff_eq]
 simp only [stepC, cellsEq, cellEq, Bool.and_eq_true, beq_iff_eq, Bool.and_true]
 constructor
 .intro h
  obtain ⟨a1, a2, a3⟩ := x; obtain ⟨b1, b2, b3⟩ := y; simp only at h; simp [h]
 .rintro rfl; simp
structure Need where
 elem : Int
 pos : Int
 deriving DecidableEq
def needC (x : Need) : List DV := [.int .i64 x.elem, .int .i64 x.pos]
theorem eqE_Need (x y : Need) : cellsEq (needC x) (needC y) = (x == y) := by
 rw [Bool.eq_iff_iff]
 rw [beq_iff_eq]
 simp only [needC, cellsEq, cellEq, Bool.and_eq_true, beq_iff_eq, Bool.and_true]
 constructor
 .intro h
  obtain ⟨a1, a2⟩ := x; obtain ⟨b1, b2⟩ := y; simp only at h; simp [h]
 .rintro rfl; simp
structure Road where
 frm : Int
 to : Int
 fin : Int
 steps : (List Step)
 needs : (List Need)
 guards : (List Need)
 zone : (List Int)
 holds : (List Int)
 bare : Bool
 deriving DecidableEq
def roadC (x : Road) : List DV := [.int .i64 x.frm, .int .i64 x.to, .int .i64 x.fin, .slice 3 (x.steps.map stepC), .slice 2 (x.needs.map needC), .slice 2 (x.guards.map needC), .slice 1 (x.zone.map intC), .slice 1 (x.holds.map intC), .bool x.bare]
structure Way where
 out : Int
 pos : Int
 deriving DecidableEq
def wayC (x : Way) : List DV := [.int .i64 x.out, .int .i64 x.pos]
structure RoadPath where
 berth : Int
 steps : (List Step)
 pos : (List Int)
 left : (List (List Way))
 deriving DecidableEq
def roadPathC (x : RoadPath) : List DV := [.int .i64 x.berth, .slice 3 (x.steps.map stepC), .slice 1 (x.pos.map intC), .slice 1 (x.left.map (rowC 2 wayC))]
structure Chart where
 plan : Plan
 roads : (List Road)
 deriving DecidableEq
def chartC (x : Chart) : List DV := [.slice 3 (x.plan.elems.map elemC), .slice 4 (x.plan.joins.map joinC), .slice 4 (x.plan.signals.map signalC), .slice 2 (x.plan.lines.map lineC), .int .i64 x.plan.top, .int .i64 x.plan.brake, .int .i64 x.plan.margin, .int .i64 x.plan.throw, .bool x.plan.hard, .slice 9 (x.roads.map roadC)]
structure R12Search where
 p : Plan
 r : Road
 met : (List Port)
 deriving DecidableEq
theorem keyE_96 : KeyE env 96 (fun x => .agg (portC x)) := ⟨fun a b => (eqE_Port a b), fun _ => rfl⟩
theorem keyE_3 : KeyE env 3 (.int .i64) := ⟨fun _ _ => rfl, fun _ => rfl⟩
theorem keyE_9 : KeyE env 9 .str := ⟨fun _ _ => rfl, fun _ => rfl⟩
end Go.E
/- Plain functions, and walks in step with them. Written by a program (gen.py). No condition. -/
set_option maxRecDepth 100000
namespace Go.E
open Go Go.RowKit Go.Proofs
noncomputable def q_1b (a : Int) (b : Int) (c : Int) (d : Int) : Option Join :=
 some (⟨(⟨a, b⟩ : Port), (⟨c, d⟩ : Port)⟩ : Join)
theorem w_2c (a : Int) (b : Int) (c : Int) (d : Int) (r : Join) (h : q_1b a b c d = some r) : Fun Tryz.prog 103 [.int .i64 a, .int .i64 b, .int .i64 c, .int .i64 d] (· = .agg (joinC r)) := by
 refine fn env_ok Tryz.func103 rfl rfl 16 rfl [.cell 8 154] rfl [(0, .p (.int .i64 a)), (1, .p (.int .i64 b)), (2, .p (.int .i64 c)), (3, .p (.int .i64 d))] rfl rfl fun A hA => ?_
 unfold q_1b at h
 refine rs env_ok <| rl rfl <| rs env_ok <| rl rfl <| dwp_ret ?_
 cases h
 exact er rfl Le.rfl
noncomputable def q_67 : Option Plan :=
 (q_1b 0 0 1 0).bind fun a => (q_1b 1 1 2 0).bind fun b => (q_1b 2 1 3 0).bind fun c => (q_1b 3 1 5 0).bind fun d => (q_1b 2 2 4 0).bind fun e => some (⟨[(⟨(⟨#[87]⟩ : ByteArray), 4, 0⟩ : Elem), (⟨(⟨#[65]⟩ : ByteArray), 1, 20⟩ : Elem), (⟨(⟨#[80]⟩ : ByteArray), 2, 10⟩ : Elem), (⟨(⟨#[66]⟩ : ByteArray), 1, 20⟩ : Elem), (⟨(⟨#[67]⟩ : ByteArray), 1, 30⟩ : Elem), (⟨(⟨#[69]⟩ : ByteArray), 4, 0⟩ : Elem)], [a, b, c, d, e], [(⟨(⟨#[119]⟩ : ByteArray), (⟨0, 0⟩ : Port), false⟩ : Signal), (⟨(⟨#[97]⟩ : ByteArray), (⟨1, 1⟩ : Port), false⟩ : Signal), (⟨(⟨#[101]⟩ : ByteArray), (⟨5, 0⟩ : Port), false⟩ : Signal), (⟨(⟨#[98]⟩ : ByteArray), (⟨3, 0⟩ : Port), false⟩ : Signal), (⟨(⟨#[99]⟩ : ByteArray), (⟨4, 0⟩ : Port), false⟩ : Signal)], [], 10, 5, 15, 2, false⟩ : Plan)
theorem w_9v (r : Plan) (h : q_67 = some r) : Fun Tryz.prog 37 [] (· = .agg (planC r)) := by
 refine fn env_ok Tryz.func37 rfl rfl 31 rfl [.cell 0 27] rfl [] rfl rfl fun A hA => ?_
 unfold q_67 at h
 refine rs env_ok <| rl rfl <| rs env_ok <| rl rfl <| rs env_ok <| rl rfl <| rs env_ok ?_
 obtain ⟨l, e, a⟩ := bd h; clear h
 refine sx rfl (o_call (w_2c _ _ _ _ _ e) (.inl rfl) rfl rfl rfl ?_)
 obtain ⟨m, f, b⟩ := bd a; clear a
 refine sx rfl (o_call (w_2c _ _ _ _ _ f) (.inl rfl) rfl rfl rfl ?_)
 obtain ⟨n, g, c⟩ := bd b; clear b
 refine sx rfl (o_call (w_2c _ _ _ _ _ g) (.inl rfl) rfl rfl rfl ?_)
 obtain ⟨o, i, d⟩ := bd c; clear c
 refine sx rfl (o_call (w_2c _ _ _ _ _ i) (.inl rfl) rfl rfl rfl ?_)
 obtain ⟨q, j, k⟩ := bd d; clear d
 refine sx rfl (o_call (w_2c _ _ _ _ _ j) (.inl rfl) rfl rfl rfl ?_)
 refine rl rfl <| rs env_ok <| rl rfl <| rs env_ok <| rl rfl <| dwp_ret ?_
 cases k
 exact er (rd1 rfl (.agg (.cons (.own (enc := elemC) ([(⟨(⟨#[87]⟩ : ByteArray), 4, 0⟩ : Elem), (⟨(⟨#[65]⟩ : ByteArray), 1, 20⟩ : Elem), (⟨(⟨#[80]⟩ : ByteArray), 2, 10⟩ : Elem), (⟨(⟨#[66]⟩ : ByteArray), 1, 20⟩ : Elem), (⟨(⟨#[67]⟩ : ByteArray), 1, 30⟩ : Elem), (⟨(⟨#[69]⟩ : ByteArray), 4, 0⟩ : Elem)] : List Elem) rfl rfl) (.cons (.own (enc := joinC) ([l, m, n, o, q] : List Join) rfl rfl) (.cons (.own (enc := signalC) ([(⟨(⟨#[119]⟩ : ByteArray), (⟨0, 0⟩ : Port), false⟩ : Signal), (⟨(⟨#[97]⟩ : ByteArray), (⟨1, 1⟩ : Port), false⟩ : Signal), (⟨(⟨#[101]⟩ : ByteArray), (⟨5, 0⟩ : Port), false⟩ : Signal), (⟨(⟨#[98]⟩ : ByteArray), (⟨3, 0⟩ : Port), false⟩ : Signal), (⟨(⟨#[99]⟩ : ByteArray), (⟨4, 0⟩ : Port), false⟩ : Signal)] : List Signal) rfl rfl) (.cons (.p _) (.cons (.p _) (.cons (.p _) (.cons (.p _) (.cons (.p _) (.cons (.p _) .nil))))))))))) (Le.agg' (.cons Le.rfl (.cons Le.rfl (.cons Le.rfl (.cons (Le.nil _) (.cons Le.rfl (.cons Le.rfl (.cons Le.rfl (.cons Le.rfl (.cons Le.rfl .nil))))))))))
noncomputable def q_8a (b : Plan) (a : Int) : Option (Int ⊕ Bool) :=
 bif decide (a < (b.signals.length : Int)) then (idx b.signals a).bind fun c => bif decide (100 < (c.name.size : Int)) then some (.inr false) else some (.inl (wi64 (a + 1))) else some (.inr true)
noncomputable def q_8b (b : Plan) (a : Int) : Option (Int ⊕ Bool) :=
 bif decide (a < (b.elems.length : Int)) then (idx b.elems a).bind fun c => bif decide (100 < (c.name.size : Int)) then some (.inr false) else some (.inl (wi64 (a + 1))) else (loopR (q_8a b) 0).map .inr
noncomputable def q_8c (b : Plan) (a : Int) : Option (Int ⊕ Bool) :=
 bif decide (a < (b.lines.length : Int)) then (((idx b.lines a).bind fun d => bif decide (60 < (d.elems.length : Int)) then some true else (idx b.lines a).bind fun e => some (decide (100 < (e.name.size : Int))) : Option (Bool))).bind fun (c : Bool) => bif c then some (.inr false) else some (.inl (wi64 (a + 1))) else (loopR (q_8b b) 0).map .inr
noncomputable def q_8f (a : Plan) : Option Bool :=
 ((bif decide (60 < (a.elems.length : Int)) then some true else bif decide (120 < (a.joins.length : Int)) then some true else bif decide (60 < (a.signals.length : Int)) then some true else some (decide (20 < (a.lines.length : Int))) : Option (Bool))).bind fun (b : Bool) => bif b then some false else loopR (q_8c a) 0
theorem w_a9 (b : Plan) (r : Bool) (h : q_8f b = some r) : Fun Tryz.prog 41 [.agg (planC b)] (· = .bool r) := by
 refine fn env_ok Tryz.func41 rfl rfl 83 rfl [.tmp 2] rfl [(0, .p (.agg (planC b)))] rfl rfl fun A hA => ?_
 unfold q_8f at h
 refine rs env_ok <| rl rfl <| dwp_seq ?_
 refine jb (fun g : Bool => ⟨83, [(1, .lpb 0 0), (27, lb g)], [(0, .box [ls 3 elemC b.elems, ls 4 joinC b.joins, ls 4 signalC b.signals, ls 2 lineC b.lines, li b.top, li b.brake, li b.margin, li b.throw, lb b.hard])], 1⟩) h (fun g k => ?_) (fun g w => ?_) <;> clear h
 .refine rg env_ok <| rn 2 rfl ?_
  refine sx rfl (o_len rfl rfl ?_)
  refine rn 2 rfl ?_
  refine gs 10 k rfl rfl rfl (fun ap => ?_) (fun q => ?_) <;> clear k
  .refine rl rfl ?_
   cases ap
   exact npn (wf hA [(0, 0)] rfl rfl rfl)
  .refine rn 2 rfl ?_
   refine sx rfl (o_len rfl rfl ?_)
   refine rn 3 rfl ?_
   refine gs 16 q rfl rfl rfl (fun aw => ?_) (fun v => ?_) <;> clear q
   .refine rl rfl ?_
    cases aw
    exact npn (wf hA [(0, 0)] rfl rfl rfl)
   .refine rn 2 rfl ?_
    refine sx rfl (o_len rfl rfl ?_)
    refine rn 3 rfl ?_
    refine gs 22 v rfl rfl rfl (fun ax => ?_) (fun ay => ?_) <;> clear v
    .refine rl rfl ?_
     cases ax
     exact npn (wf hA [(0, 0)] rfl rfl rfl)
    .refine rn 2 rfl ?_
     refine sx rfl (o_len rfl rfl ?_)
     refine rl rfl ?_
     cases ay
     exact npn (wf hA [(0, 0)] rfl rfl rfl)
 .refine cd rfl w (fun az => ?_) (fun x => ?_) <;> clear w
  .refine rs env_ok <| rl rfl <| dwp_ret <| thenD_r ?_
   cases az
   exact er rfl Le.rfl
  .refine dwp_skip <| thenD_n <| dwp_seq <| rs env_ok <| rl rfl <| dwp_block ?_
   apply lp (a := r) (fun f : Int => ⟨83, [(1, .lpb 0 0), (3, li f)], [(0, .box [ls 3 elemC b.elems, ls 4 joinC b.joins, ls 4 signalC b.signals, ls 2 lineC b.lines, li b.top, li b.brake, li b.margin, li b.throw, lb b.hard])], 1⟩) x <;> clear x
   . exact wf hA [(0, 0)] rfl rfl rfl
   intro f a9 c
   unfold q_8c at c
   refine dwp_seq <| rs env_ok <| rn 3 rfl ?_
   refine sx rfl (o_len rfl rfl ?_)
   refine rl rfl ?_
   refine cd rfl c (fun j => ?_) (fun t => ?_) <;> clear c
   .refine dwp_skip <| thenD_n <| dwp_seq <| dwp_block ?_
    refine jb (fun i : Bool => ⟨83, [(1, .lpb 0 0), (3, li f), (52, lb i)], [(0, .box [ls 3 elemC b.elems, ls 4 joinC b.joins, ls 4 signalC b.signals, ls 2 lineC b.lines, li b.top, li b.brake, li b.margin, li b.throw, lb b.hard])], 1⟩) j (fun i l => ?_) (fun i o => ?_) <;> clear j
    .refine rg env_ok <| rn 3 rfl ?_
     obtain ⟨bc, al, m⟩ := bd l; clear l
     refine sx rfl (o_idx al rfl rfl rfl ?_)
     refine rn 2 rfl ?_
     refine sx rfl (o_len rfl rfl ?_)
     refine rn 2 rfl ?_
     refine gs 43 m rfl rfl rfl (fun aq => ?_) (fun n => ?_) <;> clear m
     .refine rl rfl ?_
      cases aq
      exact npn (wf hA [(0, 0)] rfl rfl rfl)
     .refine rn 3 rfl ?_
      obtain ⟨be, am, ar⟩ := bd n; clear n
      refine sx rfl (o_idx am rfl rfl rfl ?_)
      refine rl rfl ?_
      cases ar
      exact npn (wf hA [(0, 0)] rfl rfl rfl)
    .refine cd rfl o (fun s => ?_) (fun av => ?_) <;> clear o
     .refine rs env_ok <| rl rfl <| dwp_ret <| inB_r <| thenD_r ?_
      obtain ⟨a5, au, rfl⟩ := mps s; clear s
      refine lpt <| inB_r <| thenD_r ?_
      cases au
      exact er rfl Le.rfl
     .refine dwp_skip <| inB_n <| thenD_n <| rg env_ok <| rl rfl ?_
      cases av
      exact lpn (wf hA [(0, 0)] rfl rfl rfl)
   .refine dwp_exit <| thenD_x ?_
    obtain ⟨aj, u, rfl⟩ := mp t; clear t
    refine lpx <| inB_x <| thenD_n <| dwp_seq <| rs env_ok <| rl rfl <| dwp_block ?_
    apply lp (a := aj) (fun ah : Int => ⟨83, [(1, .lpb 0 0), (4, li ah)], [(0, .box [ls 3 elemC b.elems, ls 4 joinC b.joins, ls 4 signalC b.signals, ls 2 lineC b.lines, li b.top, li b.brake, li b.margin, li b.throw, lb b.hard])], 1⟩) u <;> clear u
    . exact wf hA [(0, 0)] rfl rfl rfl
    intro ah ba d
    unfold q_8b at d
    refine dwp_seq <| rs env_ok <| rn 3 rfl ?_
    refine sx rfl (o_len rfl rfl ?_)
    refine rl rfl ?_
    refine cd rfl d (fun y => ?_) (fun ab => ?_) <;> clear d
    .refine dwp_skip <| thenD_n <| dwp_seq <| dwp_block <| rs env_ok <| rn 3 rfl ?_
     obtain ⟨bf, an, z⟩ := bd y; clear y
     refine sx rfl (o_idx an rfl rfl rfl ?_)
     refine rl rfl ?_
     refine cd rfl z (fun aa => ?_) (fun a1 => ?_) <;> clear z
     .refine rs env_ok <| rl rfl <| dwp_ret <| inB_r <| thenD_r ?_
      obtain ⟨a6, a0, rfl⟩ := mps aa; clear aa
      refine lpt <| inB_r <| thenD_r ?_
      cases a0
      exact er rfl Le.rfl
     .refine dwp_skip <| inB_n <| thenD_n <| rg env_ok <| rl rfl ?_
      cases a1
      exact lpn (wf hA [(0, 0)] rfl rfl rfl)
    .refine dwp_exit <| thenD_x ?_
     obtain ⟨ak, ac, rfl⟩ := mp ab; clear ab
     refine lpx <| inB_x <| thenD_n <| dwp_seq <| rs env_ok <| rl rfl <| dwp_block ?_
     apply lp (a := ak) (fun ai : Int => ⟨83, [(1, .lpb 0 0), (5, li ai)], [(0, .box [ls 3 elemC b.elems, ls 4 joinC b.joins, ls 4 signalC b.signals, ls 2 lineC b.lines, li b.top, li b.brake, li b.margin, li b.throw, lb b.hard])], 1⟩) ac <;> clear ac
     . exact wf hA [(0, 0)] rfl rfl rfl
     intro ai bb e
     unfold q_8a at e
     refine dwp_seq <| rs env_ok <| rn 3 rfl ?_
     refine sx rfl (o_len rfl rfl ?_)
     refine rl rfl ?_
     refine cd rfl e (fun ad => ?_) (fun ag => ?_) <;> clear e
     .refine dwp_skip <| thenD_n <| dwp_seq <| dwp_block <| rs env_ok <| rn 3 rfl ?_
      obtain ⟨bg, ao, ae⟩ := bd ad; clear ad
      refine sx rfl (o_idx ao rfl rfl rfl ?_)
      refine rl rfl ?_
      refine cd rfl ae (fun af => ?_) (fun a3 => ?_) <;> clear ae
      .refine rs env_ok <| rl rfl <| dwp_ret <| inB_r <| thenD_r ?_
       obtain ⟨a7, a2, rfl⟩ := mps af; clear af
       refine lpt <| inB_r <| thenD_r ?_
       cases a2
       exact er rfl Le.rfl
      .refine dwp_skip <| inB_n <| thenD_n <| rg env_ok <| rl rfl ?_
       cases a3
       exact lpn (wf hA [(0, 0)] rfl rfl rfl)
     .refine dwp_exit <| thenD_x ?_
      obtain ⟨a8, a4, rfl⟩ := mps ag; clear ag
      refine lpx <| inB_x <| thenD_n <| rs env_ok <| rl rfl <| dwp_ret ?_
      cases a4
      exact er rfl Le.rfl
noncomputable def q_6h (b : Plan) (d : (Int × (List ByteArray))) (c : (Int × (List ByteArray))) (a : Int × (List ByteArray)) : Option ((Int × (List ByteArray)) ⊕ ((List ByteArray) × (List ByteArray) × (List ByteArray))) :=
 bif decide (a.1 < (b.lines.length : Int)) then (idx b.lines a.1).bind fun e => (appI a.2 [e.name]).bind fun f => some (.inl (wi64 (a.1 + 1), f)) else some (.inr (d.2, c.2, a.2))
noncomputable def q_6i (b : Plan) (c : (Int × (List ByteArray))) (a : Int × (List ByteArray)) : Option ((Int × (List ByteArray)) ⊕ ((List ByteArray) × (List ByteArray) × (List ByteArray))) :=
 bif decide (a.1 < (b.signals.length : Int)) then (idx b.signals a.1).bind fun d => (appI a.2 [d.name]).bind fun e => some (.inl (wi64 (a.1 + 1), e)) else (loopR (q_6h b c a) (0, ([] : List ByteArray))).map .inr
noncomputable def q_6j (b : Plan) (a : Int × (List ByteArray)) : Option ((Int × (List ByteArray)) ⊕ ((List ByteArray) × (List ByteArray) × (List ByteArray))) :=
 bif decide (a.1 < (b.elems.length : Int)) then (idx b.elems a.1).bind fun c => (appI a.2 [c.name]).bind fun d => some (.inl (wi64 (a.1 + 1), d)) else (loopR (q_6i b a) (0, ([] : List ByteArray))).map .inr
noncomputable def q_68 (a : Plan) : Option ((List ByteArray) × (List ByteArray) × (List ByteArray)) :=
 loopR (q_6j a) (0, ([] : List ByteArray))
theorem w_9w (b : Plan) (r : ((List ByteArray) × (List ByteArray) × (List ByteArray))) (h : q_68 b = some r) : Fun Tryz.prog 108 [.agg (planC b)] (· = .tup [.slice 1 (r.1.map strC), .slice 1 (r.2.1.map strC), .slice 1 (r.2.2.map strC)]) := by
 refine fn env_ok Tryz.func108 rfl rfl 62 rfl [.tmp 2, .tmp 3, .tmp 4] rfl [(0, .p (.agg (planC b)))] rfl rfl fun A hA => ?_
 unfold q_68 at h
 refine rs env_ok <| rl rfl <| rs env_ok <| rl rfl <| dwp_seq <| rs env_ok <| rl rfl <| dwp_block ?_
 apply lp (a := r) (fun c : (Int × (List ByteArray)) => ⟨62, [(1, .lpb 0 0), (5, .lsl 1 1 0 c.2.length), (6, .p (.nils)), (7, .p (.nils)), (8, li c.1)], [(0, .box [ls 3 elemC b.elems, ls 4 joinC b.joins, ls 4 signalC b.signals, ls 2 lineC b.lines, li b.top, li b.brake, li b.margin, li b.throw, lb b.hard]), (1, .row 9 1 (c.2.map strC))], 2⟩) h <;> clear h
 . exact Weak.trans (weak_ghost 5 9 1 rfl) (wf hA [(0, 0), (1, 1)] rfl rfl rfl)
 intro c aq i
 unfold q_6j at i
 refine dwp_seq <| rs env_ok <| rn 3 rfl ?_
 refine sx rfl (o_len rfl rfl ?_)
 refine rl rfl ?_
 refine cd rfl i (fun x => ?_) (fun k => ?_) <;> clear i
 .refine dwp_skip <| thenD_n <| dwp_seq <| dwp_block <| rg env_ok <| rn 4 rfl ?_
  obtain ⟨ak, aa, j⟩ := bd x; clear x
  refine sx rfl (o_idx aa rfl rfl rfl ?_)
  refine rn 3 rfl ?_
  obtain ⟨ar, ab, ag⟩ := bd j; clear j
  refine sx rfl (o_app1 (enc := strC) (l := c.2) (m := [ak.name]) ab (fun _ => ⟨rfl, rfl⟩) rfl rfl rfl rfl rfl rfl ?_)
  refine rl rfl <| inB_n <| thenD_n <| rg env_ok <| rl rfl ?_
  cases ag
  exact lpn (wf hA [(0, 0), (1, 3)] rfl rfl rfl)
 .refine dwp_exit <| thenD_x ?_
  obtain ⟨y, n, rfl⟩ := mp k; clear k
  refine lpx <| inB_x <| thenD_n <| dwp_seq <| rs env_ok <| rl rfl <| dwp_block ?_
  apply lp (a := y) (fun d : (Int × (List ByteArray)) => ⟨62, [(1, .lpb 0 0), (5, .lsl 1 1 0 c.2.length), (6, .lsl 2 1 0 d.2.length), (7, .p (.nils)), (9, li d.1)], [(0, .box [ls 3 elemC b.elems, ls 4 joinC b.joins, ls 4 signalC b.signals, ls 2 lineC b.lines, li b.top, li b.brake, li b.margin, li b.throw, lb b.hard]), (1, .row 9 1 (c.2.map strC)), (2, .row 9 1 (d.2.map strC))], 3⟩) n <;> clear n
  . exact Weak.trans (weak_ghost 6 9 1 rfl) (wf hA (gi 3 []) rfl rfl rfl)
  intro d ao f
  unfold q_6i at f
  refine dwp_seq <| rs env_ok <| rn 3 rfl ?_
  refine sx rfl (o_len rfl rfl ?_)
  refine rl rfl ?_
  refine cd rfl f (fun o => ?_) (fun s => ?_) <;> clear f
  .refine dwp_skip <| thenD_n <| dwp_seq <| dwp_block <| rg env_ok <| rn 4 rfl ?_
   obtain ⟨al, ac, q⟩ := bd o; clear o
   refine sx rfl (o_idx ac rfl rfl rfl ?_)
   refine rn 3 rfl ?_
   obtain ⟨au, ad, ah⟩ := bd q; clear q
   refine sx rfl (o_app1 (enc := strC) (l := d.2) (m := [al.name]) ad (fun _ => ⟨rfl, rfl⟩) rfl rfl rfl rfl rfl rfl ?_)
   refine rl rfl <| inB_n <| thenD_n <| rg env_ok <| rl rfl ?_
   cases ah
   exact lpn (wf hA [(0, 0), (1, 1), (2, 4)] rfl rfl rfl)
  .refine dwp_exit <| thenD_x ?_
   obtain ⟨z, t, rfl⟩ := mp s; clear s
   refine lpx <| inB_x <| thenD_n <| dwp_seq <| rs env_ok <| rl rfl <| dwp_block ?_
   apply lp (a := z) (fun e : (Int × (List ByteArray)) => ⟨62, [(1, .lpb 0 0), (5, .lsl 1 1 0 c.2.length), (6, .lsl 2 1 0 d.2.length), (7, .lsl 3 1 0 e.2.length), (10, li e.1)], [(0, .box [ls 3 elemC b.elems, ls 4 joinC b.joins, ls 4 signalC b.signals, ls 2 lineC b.lines, li b.top, li b.brake, li b.margin, li b.throw, lb b.hard]), (1, .row 9 1 (c.2.map strC)), (2, .row 9 1 (d.2.map strC)), (3, .row 9 1 (e.2.map strC))], 4⟩) t <;> clear t
   . exact Weak.trans (weak_ghost 7 9 1 rfl) (wf hA (gi 4 []) rfl rfl rfl)
   intro e ap g
   unfold q_6h at g
   refine dwp_seq <| rs env_ok <| rn 3 rfl ?_
   refine sx rfl (o_len rfl rfl ?_)
   refine rl rfl ?_
   refine cd rfl g (fun u => ?_) (fun w => ?_) <;> clear g
   .refine dwp_skip <| thenD_n <| dwp_seq <| dwp_block <| rg env_ok <| rn 4 rfl ?_
    obtain ⟨am, ae, v⟩ := bd u; clear u
    refine sx rfl (o_idx ae rfl rfl rfl ?_)
    refine rn 3 rfl ?_
    obtain ⟨av, af, ai⟩ := bd v; clear v
    refine sx rfl (o_app1 (enc := strC) (l := e.2) (m := [am.name]) af (fun _ => ⟨rfl, rfl⟩) rfl rfl rfl rfl rfl rfl ?_)
    refine rl rfl <| inB_n <| thenD_n <| rg env_ok <| rl rfl ?_
    cases ai
    exact lpn (wf hA (gi 3 [(3, 5)]) rfl rfl rfl)
   .refine dwp_exit <| thenD_x ?_
    obtain ⟨an, aj, rfl⟩ := mps w; clear w
    refine lpx <| inB_x <| thenD_n <| rs env_ok <| rl rfl <| dwp_ret ?_
    cases aj
    exact er (rdN rfl (.cons (.one (.own (enc := strC) c.2 rfl rfl)) (.cons (.one (.own (enc := strC) d.2 rfl rfl)) (.cons (.one (.own (enc := strC) e.2 rfl rfl)) .nil)))) Le.rfl
noncomputable def q_k (a : Int) (c : Int) (d : Int) : Option Bool :=
 ((bif decide (c <= a) then some (decide (a <= d)) else some false : Option (Bool))).bind fun (b : Bool) => some b
theorem w_14 (b : Int) (c : Int) (d : Int) (r : Bool) (h : q_k b c d = some r) : Fun Tryz.prog 154 [.int .i64 b, .int .i64 c, .int .i64 d] (· = .bool r) := by
 refine fn env_ok Tryz.func154 rfl rfl 15 rfl [.tmp 6] rfl [(0, .p (.int .i64 b)), (1, .p (.int .i64 c)), (2, .p (.int .i64 d))] rfl rfl fun A hA => ?_
 unfold q_k at h
 refine rs env_ok <| rl rfl ?_
 refine jb (fun a : Bool => ⟨15, [(6, lb a)], [], 0⟩) h (fun a e => ?_) (fun a i => ?_) <;> clear h
 .refine rg env_ok <| rn 4 rfl ?_
  refine gs 10 e rfl rfl rfl (fun f => ?_) (fun g => ?_) <;> clear e
  .refine rl rfl ?_
   cases f
   exact npn (wf hA [] rfl rfl rfl)
  .refine rl rfl ?_
   cases g
   exact npn (wf hA [] rfl rfl rfl)
 .refine dwp_ret ?_
  have hr := Option.some.inj i; subst hr
  exact er rfl Le.rfl
noncomputable def q_75 (c : ByteArray) (b : Int) : Option (Int ⊕ Bool) :=
 bif decide (b < (c.size : Int)) then (idxS c b).bind fun a => ((bif decide (97 <= (a.toNat : Int)) then bif decide ((a.toNat : Int) <= 122) then some true else bif decide (65 <= (a.toNat : Int)) then some (decide ((a.toNat : Int) <= 90)) else some false else bif decide (65 <= (a.toNat : Int)) then some (decide ((a.toNat : Int) <= 90)) else some false : Option (Bool))).bind fun (d : Bool) => ((bif (!d) then bif (b == 0) then some true else bif decide ((a.toNat : Int) < 48) then some true else some (decide (57 < (a.toNat : Int))) else some false : Option (Bool))).bind fun (e : Bool) => bif e then some (.inr false) else some (.inl (wi64 (b + 1))) else (((bif decide (1 <= (c.size : Int)) then some (decide ((c.size : Int) <= 8)) else some false : Option (Bool))).bind fun (f : Bool) => some f).map .inr
noncomputable def q_2d (a : ByteArray) : Option Bool :=
 loopR (q_75 a) 0
theorem w_76 (b : ByteArray) (r : Bool) (h : q_2d b = some r) : Fun Tryz.prog 155 [.str b] (· = .bool r) := by
 refine fn env_ok Tryz.func155 rfl rfl 51 rfl [.tmp 2] rfl [(0, .p (.str b))] rfl rfl fun A hA => ?_
 unfold q_2d at h
 refine rs env_ok <| rl rfl <| dwp_seq <| rs env_ok <| rl rfl <| dwp_block ?_
 apply lp (a := r) (fun c : Int => ⟨51, [(0, .p (.str b)), (3, li c)], [], 0⟩) h <;> clear h
 . exact wf hA [] rfl rfl rfl
 intro c ar d
 unfold q_75 at d
 refine dwp_seq <| rs env_ok <| rl rfl ?_
 refine cd rfl d (fun i => ?_) (fun w => ?_) <;> clear d
 .refine dwp_skip <| thenD_n <| dwp_seq <| dwp_block <| rs env_ok <| rn 2 rfl ?_
  obtain ⟨ao, z, j⟩ := bd i; clear i
  refine sx rfl (o_idxS z rfl rfl rfl ?_)
  refine rl rfl ?_
  refine jb (fun e : Bool => ⟨51, [(0, .p (.str b)), (3, li c), (4, .p (.int .u8 (ao.toNat : Int))), (5, lb e)], [], 0⟩) j (fun e k => ?_) (fun e o => ?_) <;> clear j
  .refine rg env_ok <| rn 3 rfl ?_
   refine gs 17 k rfl rfl rfl (fun l => ?_) (fun n => ?_) <;> clear k
   .refine rn 4 rfl ?_
    refine gs 21 l rfl rfl rfl (fun aa => ?_) (fun m => ?_) <;> clear l
    .refine rl rfl ?_
     cases aa
     exact npn (wf hA [] rfl rfl rfl)
    .refine rn 3 rfl ?_
     refine gs 24 m rfl rfl rfl (fun ab => ?_) (fun ac => ?_) <;> clear m
     .refine rl rfl ?_
      cases ab
      exact npn (wf hA [] rfl rfl rfl)
     .refine rl rfl ?_
      cases ac
      exact npn (wf hA [] rfl rfl rfl)
   .refine rn 7 rfl ?_
    refine gs 24 n rfl rfl rfl (fun ad => ?_) (fun ae => ?_) <;> clear n
    .refine rl rfl ?_
     cases ad
     exact npn (wf hA [] rfl rfl rfl)
    .refine rl rfl ?_
     cases ae
     exact npn (wf hA [] rfl rfl rfl)
  .refine jb (fun f : Bool => ⟨51, [(0, .p (.str b)), (3, li c), (42, lb f)], [], 0⟩) o (fun f q => ?_) (fun f u => ?_) <;> clear o
   .refine rg env_ok <| rn 3 rfl ?_
    refine gs 31 q rfl rfl rfl (fun s => ?_) (fun ai => ?_) <;> clear q
    .refine rn 3 rfl ?_
     refine gs 34 s rfl rfl rfl (fun af => ?_) (fun t => ?_) <;> clear s
     .refine rl rfl ?_
      cases af
      exact npn (wf hA [] rfl rfl rfl)
     .refine rn 4 rfl ?_
      refine gs 38 t rfl rfl rfl (fun ag => ?_) (fun ah => ?_) <;> clear t
      .refine rl rfl ?_
       cases ag
       exact npn (wf hA [] rfl rfl rfl)
      .refine rl rfl ?_
       cases ah
       exact npn (wf hA [] rfl rfl rfl)
    .refine rl rfl ?_
     cases ai
     exact npn (wf hA [] rfl rfl rfl)
   .refine cd rfl u (fun v => ?_) (fun ak => ?_) <;> clear u
    .refine rs env_ok <| rl rfl <| dwp_ret <| inB_r <| thenD_r ?_
     obtain ⟨ap, aj, rfl⟩ := mps v; clear v
     refine lpt <| inB_r <| thenD_r ?_
     cases aj
     exact er rfl Le.rfl
    .refine dwp_skip <| inB_n <| thenD_n <| rg env_ok <| rl rfl ?_
     cases ak
     exact lpn (wf hA [] rfl rfl rfl)
 .refine dwp_exit <| thenD_x ?_
  obtain ⟨aq, x, rfl⟩ := mp w; clear w
  refine lpx <| inB_x <| thenD_n ?_
  refine jb (fun g : Bool => ⟨51, [(2, lb g)], [], 0⟩) x (fun g y => ?_) (fun g an => ?_) <;> clear x
  .refine rg env_ok <| rn 4 rfl ?_
   refine gs 46 y rfl rfl rfl (fun al => ?_) (fun am => ?_) <;> clear y
   .refine rl rfl ?_
    cases al
    exact npn (wf hA [] rfl rfl rfl)
   .refine rl rfl ?_
    cases am
    exact npn (wf hA [] rfl rfl rfl)
  .refine dwp_ret ?_
   have hr := Option.some.inj an; subst hr
   exact er rfl Le.rfl
noncomputable def q_2e (a : Int) : Option Int :=
 bif (a == 1) then some 2 else bif (a == 2) then some 3 else bif (a == 3) then some 4 else bif (a == 4) then some 1 else some 0
theorem w_77 (a : Int) (r : Int) (h : q_2e a = some r) : Fun Tryz.prog 156 [.int .i64 a] (· = .int .i64 r) := by
 refine fn env_ok Tryz.func156 rfl rfl 12 rfl [.tmp 2] rfl [(0, .p (.int .i64 a))] rfl rfl fun A hA => ?_
 unfold q_2e at h
 refine rs env_ok <| rl rfl <| dwp_seq <| rs env_ok <| rl rfl <| dwp_block <| rs env_ok <| rl rfl ?_
 refine cd rfl h (fun j => ?_) (fun b => ?_) <;> clear h
 .refine rs env_ok <| rl rfl <| dwp_ret <| inB_r <| thenD_r ?_
  cases j
  exact er rfl Le.rfl
 .refine rs env_ok <| rl rfl ?_
  refine cd rfl b (fun e => ?_) (fun c => ?_) <;> clear b
  .refine rs env_ok <| rl rfl <| dwp_ret <| inB_r <| thenD_r ?_
   cases e
   exact er rfl Le.rfl
  .refine rs env_ok <| rl rfl ?_
   refine cd rfl c (fun f => ?_) (fun d => ?_) <;> clear c
   .refine rs env_ok <| rl rfl <| dwp_ret <| inB_r <| thenD_r ?_
    cases f
    exact er rfl Le.rfl
   .refine rs env_ok <| rl rfl ?_
    refine cd rfl d (fun g => ?_) (fun i => ?_) <;> clear d
    .refine rs env_ok <| rl rfl <| dwp_ret <| inB_r <| thenD_r ?_
     cases g
     exact er rfl Le.rfl
    .refine dwp_skip <| inB_n <| thenD_n <| rs env_ok <| rl rfl <| dwp_ret ?_
     cases i
     exact er rfl Le.rfl
noncomputable def q_78 (b : Plan) (a : Int) : Option (Int ⊕ Bool) :=
 bif decide (a < (b.lines.length : Int)) then (idx b.lines a).bind fun c => (q_2d c.name).bind fun d => bif (!d) then some (.inr false) else some (.inl (wi64 (a + 1))) else some (.inr true)
noncomputable def q_79 (b : Plan) (a : Int) : Option (Int ⊕ Bool) :=
 bif decide (a < (b.signals.length : Int)) then (idx b.signals a).bind fun c => (q_2d c.name).bind fun d => bif (!d) then some (.inr false) else some (.inl (wi64 (a + 1))) else (loopR (q_78 b) 0).map .inr
noncomputable def q_7a (c : Plan) (b : Int) : Option (Int ⊕ Bool) :=
 bif decide (b < (c.elems.length : Int)) then (idx c.elems b).bind fun a => (((q_2d a.name).bind fun e => bif (!e) then some true else (q_2e a.kind).bind fun f => bif (f == 0) then some true else bif (a.kind == 4) then bif (a.length != 0) then some true else bif (a.kind != 4) then (q_k a.length 1 4000).bind fun g => some (!g) else some false else bif (a.kind != 4) then (q_k a.length 1 4000).bind fun h => some (!h) else some false : Option (Bool))).bind fun (d : Bool) => bif d then some (.inr false) else some (.inl (wi64 (b + 1))) else (loopR (q_79 c) 0).map .inr
noncomputable def q_7b (a : Plan) : Option Bool :=
 (((q_k a.top 1 60).bind fun c => bif (!c) then some true else (q_k a.brake 1 10).bind fun d => bif (!d) then some true else (q_k a.margin 1 4000).bind fun e => bif (!e) then some true else (q_k a.throw 1 20).bind fun f => bif (!f) then some true else some ((a.elems.length : Int) == 0) : Option (Bool))).bind fun (b : Bool) => bif b then some false else loopR (q_7a a) 0
theorem w_a3 (b : Plan) (r : Bool) (h : q_7b b = some r) : Fun Tryz.prog 109 [.agg (planC b)] (· = .bool r) := by
 refine fn env_ok Tryz.func109 rfl rfl 108 rfl [.tmp 2] rfl [(0, .p (.agg (planC b)))] rfl rfl fun A hA => ?_
 unfold q_7b at h
 refine rs env_ok <| rl rfl <| dwp_seq ?_
 refine jb (fun g : Bool => ⟨108, [(1, .lpb 0 0), (34, lb g)], [(0, .box [ls 3 elemC b.elems, ls 4 joinC b.joins, ls 4 signalC b.signals, ls 2 lineC b.lines, li b.top, li b.brake, li b.margin, li b.throw, lb b.hard])], 1⟩) h (fun g n => ?_) (fun g an => ?_) <;> clear h
 .refine rg env_ok <| rn 2 rfl ?_
  obtain ⟨ca, a4, o⟩ := bd n; clear n
  refine sx rfl (o_call (w_14 _ _ _ _ a4) (.inl rfl) rfl rfl rfl ?_)
  refine rn 2 rfl ?_
  refine gs 11 o rfl rfl rfl (fun bj => ?_) (fun q => ?_) <;> clear o
  .refine rl rfl ?_
   cases bj
   exact npn (wf hA [(0, 0)] rfl rfl rfl)
  .refine rn 2 rfl ?_
   obtain ⟨cb, a5, t⟩ := bd q; clear q
   refine sx rfl (o_call (w_14 _ _ _ _ a5) (.inl rfl) rfl rfl rfl ?_)
   refine rn 3 rfl ?_
   refine gs 17 t rfl rfl rfl (fun bk => ?_) (fun u => ?_) <;> clear t
   .refine rl rfl ?_
    cases bk
    exact npn (wf hA [(0, 0)] rfl rfl rfl)
   .refine rn 2 rfl ?_
    obtain ⟨cc, a6, v⟩ := bd u; clear u
    refine sx rfl (o_call (w_14 _ _ _ _ a6) (.inl rfl) rfl rfl rfl ?_)
    refine rn 3 rfl ?_
    refine gs 23 v rfl rfl rfl (fun bl => ?_) (fun x => ?_) <;> clear v
    .refine rl rfl ?_
     cases bl
     exact npn (wf hA [(0, 0)] rfl rfl rfl)
    .refine rn 2 rfl ?_
     obtain ⟨ch, ba, ai⟩ := bd x; clear x
     refine sx rfl (o_call (w_14 _ _ _ _ ba) (.inl rfl) rfl rfl rfl ?_)
     refine rn 3 rfl ?_
     refine gs 29 ai rfl rfl rfl (fun bv => ?_) (fun bw => ?_) <;> clear ai
     .refine rl rfl ?_
      cases bv
      exact npn (wf hA [(0, 0)] rfl rfl rfl)
     .refine rn 2 rfl ?_
      refine sx rfl (o_len rfl rfl ?_)
      refine rl rfl ?_
      cases bw
      exact npn (wf hA [(0, 0)] rfl rfl rfl)
 .refine cd rfl an (fun bx => ?_) (fun ao => ?_) <;> clear an
  .refine rs env_ok <| rl rfl <| dwp_ret <| thenD_r ?_
   cases bx
   exact er rfl Le.rfl
  .refine dwp_skip <| thenD_n <| dwp_seq <| rs env_ok <| rl rfl <| dwp_block ?_
   apply lp (a := r) (fun f : Int => ⟨108, [(1, .lpb 0 0), (3, li f)], [(0, .box [ls 3 elemC b.elems, ls 4 joinC b.joins, ls 4 signalC b.signals, ls 2 lineC b.lines, li b.top, li b.brake, li b.margin, li b.throw, lb b.hard])], 1⟩) ao <;> clear ao
   . exact wf hA [(0, 0)] rfl rfl rfl
   intro f b5 c
   unfold q_7a at c
   refine dwp_seq <| rs env_ok <| rn 3 rfl ?_
   refine sx rfl (o_len rfl rfl ?_)
   refine rl rfl ?_
   refine cd rfl c (fun s => ?_) (fun al => ?_) <;> clear c
   .refine dwp_skip <| thenD_n <| dwp_seq <| dwp_block <| rs env_ok <| rn 3 rfl ?_
    obtain ⟨ce, a7, w⟩ := bd s; clear s
    refine sx rfl (o_idx a7 rfl rfl rfl ?_)
    refine rl rfl ?_
    refine jb (fun i : Bool => ⟨108, [(1, .lpb 0 0), (3, li f), (77, lb i)], [(0, .box [ls 3 elemC b.elems, ls 4 joinC b.joins, ls 4 signalC b.signals, ls 2 lineC b.lines, li b.top, li b.brake, li b.margin, li b.throw, lb b.hard])], 1⟩) w (fun i y => ?_) (fun i aj => ?_) <;> clear w
    .refine rg env_ok <| rn 2 rfl ?_
     obtain ⟨cf, a8, z⟩ := bd y; clear y
     refine sx rfl (o_call (w_76 _ _ a8) (.inl rfl) rfl rfl rfl ?_)
     refine rn 2 rfl ?_
     refine gs 51 z rfl rfl rfl (fun bm => ?_) (fun aa => ?_) <;> clear z
     .refine rl rfl ?_
      cases bm
      exact npn (wf hA [(0, 0)] rfl rfl rfl)
     .refine rn 2 rfl ?_
      obtain ⟨cg, a9, ab⟩ := bd aa; clear aa
      refine sx rfl (o_call (w_77 _ _ a9) (.inl rfl) rfl rfl rfl ?_)
      refine rn 3 rfl ?_
      refine gs 57 ab rfl rfl rfl (fun bn => ?_) (fun ac => ?_) <;> clear ab
      .refine rl rfl ?_
       cases bn
       exact npn (wf hA [(0, 0)] rfl rfl rfl)
      .refine rn 4 rfl ?_
       refine gs 61 ac rfl rfl rfl (fun ad => ?_) (fun ag => ?_) <;> clear ac
       .refine rn 6 rfl ?_
        refine gs 67 ad rfl rfl rfl (fun bo => ?_) (fun ae => ?_) <;> clear ad
        .refine rl rfl ?_
         cases bo
         exact npn (wf hA [(0, 0)] rfl rfl rfl)
        .refine rn 4 rfl ?_
         refine gs 71 ae rfl rfl rfl (fun af => ?_) (fun bq => ?_) <;> clear ae
         .refine rn 2 rfl ?_
          obtain ⟨ci, bb, bp⟩ := bd af; clear af
          refine sx rfl (o_call (w_14 _ _ _ _ bb) (.inl rfl) rfl rfl rfl ?_)
          refine rl rfl ?_
          cases bp
          exact npn (wf hA [(0, 0)] rfl rfl rfl)
         .refine rl rfl ?_
          cases bq
          exact npn (wf hA [(0, 0)] rfl rfl rfl)
       .refine rn 10 rfl ?_
        refine gs 71 ag rfl rfl rfl (fun ah => ?_) (fun bs => ?_) <;> clear ag
        .refine rn 2 rfl ?_
         obtain ⟨cj, bc, br⟩ := bd ah; clear ah
         refine sx rfl (o_call (w_14 _ _ _ _ bc) (.inl rfl) rfl rfl rfl ?_)
         refine rl rfl ?_
         cases br
         exact npn (wf hA [(0, 0)] rfl rfl rfl)
        .refine rl rfl ?_
         cases bs
         exact npn (wf hA [(0, 0)] rfl rfl rfl)
    .refine cd rfl aj (fun ak => ?_) (fun bu => ?_) <;> clear aj
     .refine rs env_ok <| rl rfl <| dwp_ret <| inB_r <| thenD_r ?_
      obtain ⟨b3, bt, rfl⟩ := mps ak; clear ak
      refine lpt <| inB_r <| thenD_r ?_
      cases bt
      exact er rfl Le.rfl
     .refine dwp_skip <| inB_n <| thenD_n <| rg env_ok <| rl rfl ?_
      cases bu
      exact lpn (wf hA [(0, 0)] rfl rfl rfl)
   .refine dwp_exit <| thenD_x ?_
    obtain ⟨a0, am, rfl⟩ := mp al; clear al
    refine lpx <| inB_x <| thenD_n <| dwp_seq <| rs env_ok <| rl rfl <| dwp_block ?_
    apply lp (a := a0) (fun ay : Int => ⟨108, [(1, .lpb 0 0), (5, li ay)], [(0, .box [ls 3 elemC b.elems, ls 4 joinC b.joins, ls 4 signalC b.signals, ls 2 lineC b.lines, li b.top, li b.brake, li b.margin, li b.throw, lb b.hard])], 1⟩) am <;> clear am
    . exact wf hA [(0, 0)] rfl rfl rfl
    intro ay b6 d
    unfold q_79 at d
    refine dwp_seq <| rs env_ok <| rn 3 rfl ?_
    refine sx rfl (o_len rfl rfl ?_)
    refine rl rfl ?_
    refine cd rfl d (fun ap => ?_) (fun av => ?_) <;> clear d
    .refine dwp_skip <| thenD_n <| dwp_seq <| dwp_block <| rs env_ok <| rn 3 rfl ?_
     obtain ⟨ck, be, aq⟩ := bd ap; clear ap
     refine sx rfl (o_idx be rfl rfl rfl ?_)
     refine rn 2 rfl ?_
     obtain ⟨cl, bf, ar⟩ := bd aq; clear aq
     refine sx rfl (o_call (w_76 _ _ bf) (.inl rfl) rfl rfl rfl ?_)
     refine rl rfl ?_
     refine cd rfl ar (fun au => ?_) (fun b0 => ?_) <;> clear ar
     .refine rs env_ok <| rl rfl <| dwp_ret <| inB_r <| thenD_r ?_
      obtain ⟨b4, bz, rfl⟩ := mps au; clear au
      refine lpt <| inB_r <| thenD_r ?_
      cases bz
      exact er rfl Le.rfl
     .refine dwp_skip <| inB_n <| thenD_n <| rg env_ok <| rl rfl ?_
      cases b0
      exact lpn (wf hA [(0, 0)] rfl rfl rfl)
    .refine dwp_exit <| thenD_x ?_
     obtain ⟨a1, aw, rfl⟩ := mp av; clear av
     refine lpx <| inB_x <| thenD_n <| dwp_seq <| rs env_ok <| rl rfl <| dwp_block ?_
     apply lp (a := a1) (fun az : Int => ⟨108, [(1, .lpb 0 0), (6, li az)], [(0, .box [ls 3 elemC b.elems, ls 4 joinC b.joins, ls 4 signalC b.signals, ls 2 lineC b.lines, li b.top, li b.brake, li b.margin, li b.throw, lb b.hard])], 1⟩) aw <;> clear aw
     . exact wf hA [(0, 0)] rfl rfl rfl
     intro az b7 e
     unfold q_78 at e
     refine dwp_seq <| rs env_ok <| rn 3 rfl ?_
     refine sx rfl (o_len rfl rfl ?_)
     refine rl rfl ?_
     refine cd rfl e (fun ax => ?_) (fun m => ?_) <;> clear e
     .refine dwp_skip <| thenD_n <| dwp_seq <| dwp_block <| rs env_ok <| rn 3 rfl ?_
      obtain ⟨b8, a2, j⟩ := bd ax; clear ax
      refine sx rfl (o_idx a2 rfl rfl rfl ?_)
      refine rn 2 rfl ?_
      obtain ⟨b9, a3, k⟩ := bd j; clear j
      refine sx rfl (o_call (w_76 _ _ a3) (.inl rfl) rfl rfl rfl ?_)
      refine rl rfl ?_
      refine cd rfl k (fun l => ?_) (fun bh => ?_) <;> clear k
      .refine rs env_ok <| rl rfl <| dwp_ret <| inB_r <| thenD_r ?_
       obtain ⟨b1, bg, rfl⟩ := mps l; clear l
       refine lpt <| inB_r <| thenD_r ?_
       cases bg
       exact er rfl Le.rfl
      .refine dwp_skip <| inB_n <| thenD_n <| rg env_ok <| rl rfl ?_
       cases bh
       exact lpn (wf hA [(0, 0)] rfl rfl rfl)
     .refine dwp_exit <| thenD_x ?_
      obtain ⟨b2, bi, rfl⟩ := mps m; clear m
      refine lpx <| inB_x <| thenD_n <| rs env_ok <| rl rfl <| dwp_ret ?_
      cases bi
      exact er rfl Le.rfl
noncomputable def q_6k (c : (List ByteArray)) (a : Int) (b : Int) : Option (Int ⊕ (Int ⊕ Bool)) :=
 bif decide (b < a) then (idx c a).bind fun d => (idx c b).bind fun e => bif (d.toList == e.toList) then some (.inr (.inr true)) else some (.inl (wi64 (b + 1))) else some (.inr (.inl (wi64 (a + 1))))
noncomputable def q_6l (b : (List ByteArray)) (a : Int) : Option (Int ⊕ Bool) :=
 bif decide (a < (b.length : Int)) then loopR (q_6k b a) 0 else some (.inr false)
noncomputable def q_1u (a : (List ByteArray)) : Option Bool :=
 loopR (q_6l a) 0
theorem w_69 (b : (List ByteArray)) (r : Bool) (h : q_1u b = some r) : Fun Tryz.prog 110 [.slice 1 (b.map strC)] (· = .bool r) := by
 refine fn env_ok Tryz.func110 rfl rfl 25 rfl [.tmp 2] rfl [(0, .p (.slice 1 (b.map strC)))] rfl rfl fun A hA => ?_
 unfold q_1u at h
 refine rs env_ok <| rl rfl <| dwp_seq <| rs env_ok <| rl rfl <| dwp_block ?_
 apply lp (a := r) (fun e : Int => ⟨25, [(0, ls 1 strC b), (3, li e)], [], 0⟩) h <;> clear h
 . exact wf hA [] rfl rfl rfl
 intro e q c
 unfold q_6l at c
 refine dwp_seq <| rs env_ok <| rn 2 rfl ?_
 refine sx rfl (o_len rfl rfl ?_)
 refine rl rfl ?_
 refine cd rfl c (fun f => ?_) (fun n => ?_) <;> clear c
 .refine dwp_skip <| thenD_n <| dwp_seq <| dwp_block <| rs env_ok <| rl rfl <| dwp_block ?_
  apply lp (a := q) (fun o : Int => ⟨25, [(0, ls 1 strC b), (3, li e), (4, li o)], [], 0⟩) f <;> clear f
  . exact wf hA [] rfl rfl rfl
  intro o ac d
  unfold q_6k at d
  refine dwp_seq <| rs env_ok <| rl rfl ?_
  refine cd rfl d (fun g => ?_) (fun m => ?_) <;> clear d
  .refine dwp_skip <| thenD_n <| dwp_seq <| dwp_block <| dwp_seq ?_
   refine rgd env_ok mixed [0, 1, 2, 3, 4, 5, 6, 7, 8] 9 (by kernel_rfl) rfl rfl rfl ?_
   refine rnD 2 rfl ?_
   obtain ⟨ad, s, i⟩ := bd g; clear g
   refine sxD rfl (opD_plain rfl (o_idx s rfl rfl rfl ?_))
   refine rnD 3 rfl ?_
   obtain ⟨ae, t, j⟩ := bd i; clear i
   refine sxD rfl (opD_plain rfl (o_idx t rfl rfl rfl ?_))
   refine rlD rfl <| thenD_n ?_
   refine cd rfl j (fun k => ?_) (fun v => ?_) <;> clear j
   .refine rs env_ok <| rl rfl <| dwp_ret <| inB_r <| thenD_r ?_
    obtain ⟨y, l, rfl⟩ := mps k; clear k
    refine lpt <| inB_r <| inB_r <| thenD_r ?_
    obtain ⟨z, u, rfl⟩ := mps l; clear l
    refine lpt <| inB_r <| thenD_r ?_
    cases u
    exact er rfl Le.rfl
   .refine dwp_skip <| inB_n <| thenD_n <| rg env_ok <| rl rfl ?_
    cases v
    exact lpn (wf hA [] rfl rfl rfl)
  .refine dwp_exit <| thenD_x ?_
   obtain ⟨aa, w, rfl⟩ := mps m; clear m
   refine lpx <| inB_x <| inB_n <| thenD_n <| rg env_ok <| rl rfl ?_
   cases w
   exact lpn (wf hA [] rfl rfl rfl)
 .refine dwp_exit <| thenD_x ?_
  obtain ⟨ab, x, rfl⟩ := mps n; clear n
  refine lpx <| inB_x <| thenD_n <| rs env_ok <| rl rfl <| dwp_ret ?_
  cases x
  exact er rfl Le.rfl
end Go.E
/- Plain functions, and walks in step with them. Written by a program (gen.py). No condition. -/
set_option maxRecDepth 100000
namespace Go.E
open Go Go.RowKit Go.Proofs
noncomputable def q_3z (b : Plan) (a : Port) : Option Bool :=
 ((bif decide (0 <= a.elem) then bif decide (a.elem < (b.elems.length : Int)) then bif decide (0 <= a.fin) then (idx b.elems a.elem).bind fun d => (q_2e d.kind).bind fun e => some (decide (a.fin < e)) else some false else some false else some false : Option (Bool))).bind fun (c : Bool) => some c
theorem w_8h (b : Plan) (c : Port) (r : Bool) (h : q_3z b c = some r) : Fun Tryz.prog 157 [.agg (planC b), .agg (portC c)] (· = .bool r) := by
 refine fn env_ok Tryz.func157 rfl rfl 34 rfl [.tmp 4] rfl [(0, .p (.agg (planC b))), (1, .p (.agg (portC c)))] rfl rfl fun A hA => ?_
 unfold q_3z at h
 refine rs env_ok <| rl rfl ?_
 refine jb (fun a : Bool => ⟨34, [(4, lb a)], [], 0⟩) h (fun a d => ?_) (fun a q => ?_) <;> clear h
 .refine rgd env_ok mixed [0, 1, 2, 3, 4, 5, 6, 7, 8, 9, 10, 11, 12, 13, 14, 15, 16, 17, 18, 19, 20, 21, 22, 23, 24, 25, 26, 27, 28, 29] 30 (by kernel_rfl) rfl rfl rfl ?_
  refine rnD 4 rfl ?_
  refine gsD 8 d rfl rfl rfl (fun e => ?_) (fun o => ?_) <;> clear d
  .refine rnD 4 rfl ?_
   refine sxD rfl (o_lenD rfl rfl ?_)
   refine rnD 3 rfl ?_
   refine gsD 16 e rfl rfl rfl (fun f => ?_) (fun n => ?_) <;> clear e
   .refine rnD 5 rfl ?_
    refine gsD 21 f rfl rfl rfl (fun g => ?_) (fun m => ?_) <;> clear f
    .refine rnD 6 rfl ?_
     obtain ⟨s, j, i⟩ := bd g; clear g
     refine sxD rfl (opD_plain rfl (o_idx j rfl rfl rfl ?_))
     refine rnD 2 rfl ?_
     obtain ⟨t, k, l⟩ := bd i; clear i
     refine sxD rfl (o_callD (w_77 _ _ k) (.inl rfl) rfl rfl rfl ?_)
     refine rlD rfl ?_
     cases l
     exact npn (wf hA [] rfl rfl rfl)
    .refine rlD rfl ?_
     cases m
     exact npn (wf hA [] rfl rfl rfl)
   .refine rlD rfl ?_
    cases n
    exact npn (wf hA [] rfl rfl rfl)
  .refine rlD rfl ?_
   cases o
   exact npn (wf hA [] rfl rfl rfl)
 .refine dwp_ret ?_
  have hr := Option.some.inj q; subst hr
  exact er rfl Le.rfl
noncomputable def q_7t (d : Plan) (e : Port) (c : Int) : Option (Int ⊕ (Port × Bool)) :=
 bif decide (c < (d.joins.length : Int)) then (idx d.joins c).bind fun f => bif (f.a == e) then (idx d.joins c).bind fun g => some (.inr (g.b, true)) else (idx d.joins c).bind fun h => bif (h.b == e) then (idx d.joins c).bind fun i => some (.inr (i.a, true)) else some (.inl (wi64 (c + 1))) else some (.inr ((⟨0, 0⟩ : Port), false))
noncomputable def q_4 (a : Plan) (b : Port) : Option (Port × Bool) :=
 loopR (q_7t a b) 0
theorem w_7 (c : Plan) (d : Port) (r : (Port × Bool)) (h : q_4 c d = some r) : Fun Tryz.prog 104 [.agg (planC c), .agg (portC d)] (· = .tup [.agg (portC r.1), .bool r.2]) := by
 refine fn env_ok Tryz.func104 rfl rfl 43 rfl [.cell 4 96, .tmp 5] rfl [(0, .p (.agg (planC c))), (1, .p (.agg (portC d)))] rfl rfl fun A hA => ?_
 unfold q_4 at h
 refine rs env_ok <| rl rfl <| dwp_seq <| rs env_ok <| rl rfl <| dwp_block ?_
 apply lp (a := r) (fun q : Int => ⟨43, [(2, .lpb 0 0), (3, .lpb 1 0), (4, .lpb 2 0), (6, li q)], [(0, .box [ls 3 elemC c.elems, ls 4 joinC c.joins, ls 4 signalC c.signals, ls 2 lineC c.lines, li c.top, li c.brake, li c.margin, li c.throw, lb c.hard]), (1, .box [li d.elem, li d.fin]), (2, .box [li 0, li 0])], 3⟩) h <;> clear h
 . exact wf hA (gi 3 []) rfl rfl rfl
 intro q af e
 unfold q_7t at e
 refine dwp_seq <| rs env_ok <| rn 3 rfl ?_
 refine sx rfl (o_len rfl rfl ?_)
 refine rl rfl ?_
 refine cd rfl e (fun f => ?_) (fun o => ?_) <;> clear e
 .refine dwp_skip <| thenD_n <| dwp_seq <| dwp_block <| dwp_seq <| dwp_seq ?_
  refine rgd env_ok mixed [0, 1, 2, 3, 4, 5, 6, 7] 8 (by kernel_rfl) rfl rfl rfl ?_
  refine rnD 3 rfl ?_
  obtain ⟨aa, s, g⟩ := bd f; clear f
  refine sxD rfl (opD_plain rfl (o_idx s rfl rfl rfl ?_))
  refine rnD 3 rfl ?_
  refine sxD rfl (o_eqAD (eqE_Port aa.a d) rfl rfl rfl rfl rfl ?_)
  refine rlD rfl <| thenD_n ?_
  refine cd rfl g (fun i => ?_) (fun k => ?_) <;> clear g
  .refine rs env_ok <| rn 3 rfl ?_
   obtain ⟨ag, t, j⟩ := bd i; clear i
   refine sx rfl (o_idx t rfl rfl rfl ?_)
   refine rl rfl <| dwp_ret <| thenD_r <| inB_r <| thenD_r ?_
   obtain ⟨ac, w, rfl⟩ := mps j; clear j
   refine lpt <| inB_r <| thenD_r ?_
   cases w
   exact er rfl Le.rfl
  .refine dwp_skip <| thenD_n <| dwp_seq ?_
   refine rgd env_ok mixed [0, 1, 2, 3, 4, 5, 6, 7] 8 (by kernel_rfl) rfl rfl rfl ?_
   refine rnD 3 rfl ?_
   obtain ⟨ab, u, l⟩ := bd k; clear k
   refine sxD rfl (opD_plain rfl (o_idx u rfl rfl rfl ?_))
   refine rnD 3 rfl ?_
   refine sxD rfl (o_eqAD (eqE_Port ab.b d) rfl rfl rfl rfl rfl ?_)
   refine rlD rfl <| thenD_n ?_
   refine cd rfl l (fun m => ?_) (fun y => ?_) <;> clear l
   .refine rs env_ok <| rn 3 rfl ?_
    obtain ⟨ah, v, n⟩ := bd m; clear m
    refine sx rfl (o_idx v rfl rfl rfl ?_)
    refine rl rfl <| dwp_ret <| inB_r <| thenD_r ?_
    obtain ⟨ad, x, rfl⟩ := mps n; clear n
    refine lpt <| inB_r <| thenD_r ?_
    cases x
    exact er rfl Le.rfl
   .refine dwp_skip <| inB_n <| thenD_n <| rg env_ok <| rl rfl ?_
    cases y
    exact lpn (wf hA (gi 3 []) rfl rfl rfl)
 .refine dwp_exit <| thenD_x ?_
  obtain ⟨ae, z, rfl⟩ := mps o; clear o
  refine lpx <| inB_x <| thenD_n <| rs env_ok <| rl rfl <| dwp_ret ?_
  cases z
  exact er rfl Le.rfl
noncomputable def q_l (b : Plan) (a : Int) : Option Int :=
 ((bif decide (a < 0) then some true else some (decide ((b.elems.length : Int) <= a)) : Option (Bool))).bind fun (c : Bool) => bif c then some 0 else (idx b.elems a).bind fun d => some d.kind
theorem w_10 (a : Plan) (b : Int) (r : Int) (h : q_l a b = some r) : Fun Tryz.prog 144 [.agg (planC a), .int .i64 b] (· = .int .i64 r) := by
 refine fn env_ok Tryz.func144 rfl rfl 20 rfl [.tmp 4] rfl [(0, .p (.agg (planC a))), (1, .p (.int .i64 b))] rfl rfl fun A hA => ?_
 unfold q_l at h
 refine rs env_ok <| rl rfl <| dwp_seq ?_
 refine jb (fun c : Bool => ⟨20, [(1, li b), (2, .lpb 0 0), (13, lb c)], [(0, .box [ls 3 elemC a.elems, ls 4 joinC a.joins, ls 4 signalC a.signals, ls 2 lineC a.lines, li a.top, li a.brake, li a.margin, li a.throw, lb a.hard])], 1⟩) h (fun c d => ?_) (fun c e => ?_) <;> clear h
 .refine rg env_ok <| rn 3 rfl ?_
  refine gs 7 d rfl rfl rfl (fun i => ?_) (fun j => ?_) <;> clear d
  .refine rl rfl ?_
   cases i
   exact npn (wf hA [(0, 0)] rfl rfl rfl)
  .refine rn 3 rfl ?_
   refine sx rfl (o_len rfl rfl ?_)
   refine rl rfl ?_
   cases j
   exact npn (wf hA [(0, 0)] rfl rfl rfl)
 .refine cd rfl e (fun k => ?_) (fun f => ?_) <;> clear e
  .refine rs env_ok <| rl rfl <| dwp_ret <| thenD_r ?_
   cases k
   exact er rfl Le.rfl
  .refine dwp_skip <| thenD_n <| rs env_ok <| rn 3 rfl ?_
   obtain ⟨m, g, l⟩ := bd f; clear f
   refine sx rfl (o_idx g rfl rfl rfl ?_)
   refine rl rfl <| dwp_ret ?_
   cases l
   exact er rfl Le.rfl
noncomputable def q_5t (c : (Int × (List Port))) (b : Int) (a : Int) : Option (Int ⊕ (Int ⊕ Bool)) :=
 bif decide (a < b) then (idx c.2 a).bind fun d => (idx c.2 b).bind fun e => bif (d == e) then some (.inr (.inr false)) else some (.inl (wi64 (a + 1))) else some (.inr (.inl (wi64 (b + 1))))
noncomputable def q_5u (b : Plan) (a : Int) : Option (Int ⊕ Bool) :=
 bif decide (a < (b.elems.length : Int)) then seqR (((idx b.elems a).bind fun e => bif (e.kind == 4) then (q_4 b (⟨a, 0⟩ : Port)).bind fun c => ((bif (!c.2) then some true else (q_l b c.1.elem).bind fun f => some (f == 4) : Option (Bool))).bind fun (d : Bool) => bif d then some (.inr (.inr false)) else some (.inl ()) else some (.inl ()) : Option (Unit ⊕ (Int ⊕ Bool)))) fun (g : Unit) => some (.inl (wi64 (a + 1))) else some (.inr true)
noncomputable def q_5v (c : Plan) (a : (Int × (List Port))) (b : Int) : Option (Int ⊕ Bool) :=
 bif decide (b < (a.2.length : Int)) then (idx a.2 b).bind fun d => (q_3z c d).bind fun e => bif (!e) then some (.inr false) else loopR (q_5t a b) 0 else (loopR (q_5u c) 0).map .inr
noncomputable def q_5w (d : Plan) (c : Int × (List Port)) : Option ((Int × (List Port)) ⊕ Bool) :=
 bif decide (c.1 < (d.joins.length : Int)) then (idx d.joins c.1).bind fun e => (idx d.joins c.1).bind fun f => (appI c.2 [e.a, f.b]).bind fun g => some (.inl (wi64 (c.1 + 1), g)) else (loopR (q_5v d c) 0).map .inr
noncomputable def q_53 (a : Plan) : Option Bool :=
 loopR (q_5w a) (0, ([] : List Port))
theorem w_9q (c : Plan) (r : Bool) (h : q_53 c = some r) : Fun Tryz.prog 111 [.agg (planC c)] (· = .bool r) := by
 refine fn env_ok Tryz.func111 rfl rfl 89 rfl [.tmp 2] rfl [(0, .p (.agg (planC c)))] rfl rfl fun A hA => ?_
 unfold q_53 at h
 refine rs env_ok <| rl rfl <| rs env_ok <| rl rfl <| dwp_seq <| rs env_ok <| rl rfl <| dwp_block ?_
 apply lp (a := r) (fun d : (Int × (List Port)) => ⟨89, [(1, .lpb 0 0), (3, .lsl 1 2 0 d.2.length), (4, li d.1)], [(0, .box [ls 3 elemC c.elems, ls 4 joinC c.joins, ls 4 signalC c.signals, ls 2 lineC c.lines, li c.top, li c.brake, li c.margin, li c.throw, lb c.hard]), (1, .row 96 2 (d.2.map portC))], 2⟩) h <;> clear h
 . exact Weak.trans (weak_ghost 3 96 2 rfl) (wf hA [(0, 0), (1, 1)] rfl rfl rfl)
 intro d b0 g
 unfold q_5w at g
 refine dwp_seq <| rs env_ok <| rn 3 rfl ?_
 refine sx rfl (o_len rfl rfl ?_)
 refine rl rfl ?_
 refine cd rfl g (fun u => ?_) (fun ag => ?_) <;> clear g
 .refine dwp_skip <| thenD_n <| dwp_seq <| dwp_block ?_
  refine rgd env_ok mixed [0, 1, 2, 3, 4, 5, 6, 7, 8, 9, 10, 11, 12, 13, 14, 15] 16 (by kernel_rfl) rfl rfl rfl ?_
  refine rnD 4 rfl ?_
  obtain ⟨bo, a4, z⟩ := bd u; clear u
  refine sxD rfl (opD_plain rfl (o_idx a4 rfl rfl rfl ?_))
  refine rnD 5 rfl ?_
  obtain ⟨bp, a5, aa⟩ := bd z; clear z
  refine sxD rfl (opD_plain rfl (o_idx a5 rfl rfl rfl ?_))
  refine rnD 3 rfl ?_
  obtain ⟨b5, a6, bb⟩ := bd aa; clear aa
  refine sxD rfl (opD_app (o_app1 (enc := portC) (l := d.2) (m := [bo.a, bp.b]) a6 (fun _ => ⟨rfl, rfl⟩) rfl rfl rfl rfl rfl rfl ?_))
  refine rlD rfl <| inB_n <| thenD_n <| rg env_ok <| rl rfl ?_
  cases bb
  exact lpn (wf hA [(0, 0), (1, 16)] rfl rfl rfl)
 .refine dwp_exit <| thenD_x ?_
  obtain ⟨a0, ak, rfl⟩ := mp ag; clear ag
  refine lpx <| inB_x <| thenD_n <| dwp_seq <| rs env_ok <| rl rfl <| dwp_block ?_
  apply lp (a := a0) (fun k : Int => ⟨89, [(1, .lpb 0 0), (3, .lsl 1 2 0 d.2.length), (5, li k)], [(0, .box [ls 3 elemC c.elems, ls 4 joinC c.joins, ls 4 signalC c.signals, ls 2 lineC c.lines, li c.top, li c.brake, li c.margin, li c.throw, lb c.hard]), (1, .row 96 2 (d.2.map portC))], 2⟩) ak <;> clear ak
  . exact wf hA [(0, 0), (1, 1)] rfl rfl rfl
  intro k a1 f
  unfold q_5v at f
  refine dwp_seq <| rs env_ok <| rl rfl ?_
  refine cd rfl f (fun t => ?_) (fun ai => ?_) <;> clear f
  .refine dwp_skip <| thenD_n <| dwp_seq <| dwp_block <| dwp_seq <| dwp_seq ?_
   refine rgd env_ok mixed [0, 1, 2, 3, 4, 5, 6] 7 (by kernel_rfl) rfl rfl rfl ?_
   refine rnD 3 rfl ?_
   obtain ⟨b3, o, v⟩ := bd t; clear t
   refine sxD rfl (opD_plain rfl (o_idxO o rfl rfl rfl rfl ?_))
   refine sxD rfl (opD_ld rfl (o_ldO o rfl rfl rfl ?_))
   obtain ⟨b4, a3, w⟩ := bd v; clear v
   refine sxD rfl (o_callD (w_8h _ _ _ a3) (.inl rfl) rfl rfl rfl ?_)
   refine rlD rfl <| thenD_n ?_
   refine cd rfl w (fun x => ?_) (fun y => ?_) <;> clear w
   .refine rs env_ok <| rl rfl <| dwp_ret <| thenD_r <| inB_r <| thenD_r ?_
    obtain ⟨bs, ba, rfl⟩ := mps x; clear x
    refine lpt <| inB_r <| thenD_r ?_
    cases ba
    exact er rfl Le.rfl
   .refine dwp_skip <| thenD_n <| rs env_ok <| rl rfl <| dwp_block ?_
    apply lp (a := a1) (fun ay : Int => ⟨89, [(1, .lpb 0 0), (3, .lsl 1 2 0 d.2.length), (5, li k), (6, li ay)], [(0, .box [ls 3 elemC c.elems, ls 4 joinC c.joins, ls 4 signalC c.signals, ls 2 lineC c.lines, li c.top, li c.brake, li c.margin, li c.throw, lb c.hard]), (1, .row 96 2 (d.2.map portC))], 2⟩) y <;> clear y
    . exact wf hA [(0, 0), (1, 1)] rfl rfl rfl
    intro ay b1 i
    unfold q_5t at i
    refine dwp_seq <| rs env_ok <| rl rfl ?_
    refine cd rfl i (fun ab => ?_) (fun ah => ?_) <;> clear i
    .refine dwp_skip <| thenD_n <| dwp_seq <| dwp_block <| dwp_seq ?_
     refine rgd env_ok mixed [0, 1, 2, 3, 4, 5, 6, 7, 8] 9 (by kernel_rfl) rfl rfl rfl ?_
     refine rnD 2 rfl ?_
     obtain ⟨bq, q, ac⟩ := bd ab; clear ab
     refine sxD rfl (opD_plain rfl (o_idxO q rfl rfl rfl rfl ?_))
     refine sxD rfl (opD_ld rfl (o_ldO q rfl rfl rfl ?_))
     refine rnD 2 rfl ?_
     obtain ⟨br, s, ad⟩ := bd ac; clear ac
     refine sxD rfl (opD_plain rfl (o_idxO s rfl rfl rfl rfl ?_))
     refine sxD rfl (opD_ld rfl (o_ldO s rfl rfl rfl ?_))
     refine sxD rfl (o_eqAD (eqE_Port bq br) rfl rfl rfl rfl rfl ?_)
     refine rlD rfl <| thenD_n ?_
     refine cd rfl ad (fun ae => ?_) (fun be => ?_) <;> clear ad
     .refine rs env_ok <| rl rfl <| dwp_ret <| inB_r <| thenD_r ?_
      obtain ⟨bt, af, rfl⟩ := mps ae; clear ae
      refine lpt <| inB_r <| inB_r <| thenD_r ?_
      obtain ⟨bu, bc, rfl⟩ := mps af; clear af
      refine lpt <| inB_r <| thenD_r ?_
      cases bc
      exact er rfl Le.rfl
     .refine dwp_skip <| inB_n <| thenD_n <| rg env_ok <| rl rfl ?_
      cases be
      exact lpn (wf hA [(0, 0), (1, 1)] rfl rfl rfl)
    .refine dwp_exit <| thenD_x ?_
     obtain ⟨bv, bf, rfl⟩ := mps ah; clear ah
     refine lpx <| inB_x <| inB_n <| thenD_n <| rg env_ok <| rl rfl ?_
     cases bf
     exact lpn (wf hA [(0, 0), (1, 1)] rfl rfl rfl)
  .refine dwp_exit <| thenD_x ?_
   obtain ⟨az, aj, rfl⟩ := mp ai; clear ai
   refine lpx <| inB_x <| thenD_n <| dwp_seq <| rs env_ok <| rl rfl <| dwp_block ?_
   apply lp (a := az) (fun e : Int => ⟨89, [(1, .lpb 0 0), (7, li e)], [(0, .box [ls 3 elemC c.elems, ls 4 joinC c.joins, ls 4 signalC c.signals, ls 2 lineC c.lines, li c.top, li c.brake, li c.margin, li c.throw, lb c.hard])], 1⟩) aj <;> clear aj
   . exact wf hA [(0, 0)] rfl rfl rfl
   intro e a2 j
   unfold q_5u at j
   refine dwp_seq <| rs env_ok <| rn 3 rfl ?_
   refine sx rfl (o_len rfl rfl ?_)
   refine rl rfl ?_
   refine cd rfl j (fun al => ?_) (fun ax => ?_) <;> clear j
   .refine dwp_skip <| thenD_n ?_
    apply jn (a := a2) (fun bn : Unit => ⟨89, [(1, .lpb 0 0), (7, li e)], [(0, .box [ls 3 elemC c.elems, ls 4 joinC c.joins, ls 4 signalC c.signals, ls 2 lineC c.lines, li c.top, li c.brake, li c.margin, li c.throw, lb c.hard])], 1⟩) al <;> clear al
    .intro b2 am
     refine dwp_block <| rs env_ok <| rn 3 rfl ?_
     obtain ⟨b6, a7, an⟩ := bd am; clear am
     refine sx rfl (o_idx a7 rfl rfl rfl ?_)
     refine rl rfl ?_
     refine cd rfl an (fun ao => ?_) (fun bk => ?_) <;> clear an
     .refine rs env_ok <| rn 3 rfl ?_
      obtain ⟨b7, a8, ap⟩ := bd ao; clear ao
      refine sx rfl (o_call (w_7 _ _ _ a8) (.inl rfl) rfl rfl rfl ?_)
      refine rl rfl ?_
      refine jb (fun n : Bool => ⟨89, [(1, .lpb 0 0), (7, li e), (88, lb n)], [(0, .box [ls 3 elemC c.elems, ls 4 joinC c.joins, ls 4 signalC c.signals, ls 2 lineC c.lines, li c.top, li c.brake, li c.margin, li c.throw, lb c.hard])], 1⟩) ap (fun n aq => ?_) (fun n au => ?_) <;> clear ap
      .refine rg env_ok <| rn 3 rfl ?_
       refine gs 82 aq rfl rfl rfl (fun bg => ?_) (fun ar => ?_) <;> clear aq
       .refine rl rfl ?_
        cases bg
        exact npn (wf hA [(0, 0)] rfl rfl rfl)
       .refine rn 3 rfl ?_
        obtain ⟨b8, a9, bh⟩ := bd ar; clear ar
        refine sx rfl (o_call (w_10 _ _ _ a9) (.inl rfl) rfl rfl rfl ?_)
        refine rl rfl ?_
        cases bh
        exact npn (wf hA [(0, 0)] rfl rfl rfl)
      .refine cd rfl au (fun av => ?_) (fun bj => ?_) <;> clear au
       .refine rs env_ok <| rl rfl <| dwp_ret <| inB_r ?_
        obtain ⟨bw, aw, rfl⟩ := mps av; clear av
        refine lpt ?_
        obtain ⟨bx, bi, rfl⟩ := mps aw; clear aw
        refine lpt <| inB_r <| thenD_r ?_
        cases bi
        exact er rfl Le.rfl
       .refine dwp_skip <| inB_n ?_
        cases bj
        exact lpn (wf hA [(0, 0)] rfl rfl rfl)
     .refine dwp_skip <| inB_n ?_
      cases bk
      exact lpn (wf hA [(0, 0)] rfl rfl rfl)
    .intro bn bl
     refine rg env_ok <| rl rfl ?_
     cases bl
     exact lpn (wf hA [(0, 0)] rfl rfl rfl)
   .refine dwp_exit <| thenD_x ?_
    obtain ⟨bz, bm, rfl⟩ := mps ax; clear ax
    refine lpx <| inB_x <| thenD_n <| rs env_ok <| rl rfl <| dwp_ret ?_
    cases bm
    exact er rfl Le.rfl
noncomputable def q_6t (b : Plan) (c : Port) (a : Int) : Option (Int ⊕ Int) :=
 bif decide (a < (b.signals.length : Int)) then (idx b.signals a).bind fun d => bif (d.at_ == c) then some (.inr a) else some (.inl (wi64 (a + 1))) else some (.inr (-1))
noncomputable def q_i (a : Plan) (b : Port) : Option Int :=
 loopR (q_6t a b) 0
theorem w_11 (b : Plan) (c : Port) (r : Int) (h : q_i b c = some r) : Fun Tryz.prog 146 [.agg (planC b), .agg (portC c)] (· = .int .i64 r) := by
 refine fn env_ok Tryz.func146 rfl rfl 22 rfl [.tmp 4] rfl [(0, .p (.agg (planC b))), (1, .p (.agg (portC c)))] rfl rfl fun A hA => ?_
 unfold q_i at h
 refine rs env_ok <| rl rfl <| dwp_seq <| rs env_ok <| rl rfl <| dwp_block ?_
 apply lp (a := r) (fun j : Int => ⟨22, [(2, .lpb 0 0), (3, .lpb 1 0), (5, li j)], [(0, .box [ls 3 elemC b.elems, ls 4 joinC b.joins, ls 4 signalC b.signals, ls 2 lineC b.lines, li b.top, li b.brake, li b.margin, li b.throw, lb b.hard]), (1, .box [li c.elem, li c.fin])], 2⟩) h <;> clear h
 . exact wf hA [(0, 0), (1, 1)] rfl rfl rfl
 intro j t d
 unfold q_6t at d
 refine dwp_seq <| rs env_ok <| rn 3 rfl ?_
 refine sx rfl (o_len rfl rfl ?_)
 refine rl rfl ?_
 refine cd rfl d (fun i => ?_) (fun g => ?_) <;> clear d
 .refine dwp_skip <| thenD_n <| dwp_seq <| dwp_block <| dwp_seq ?_
  refine rgd env_ok mixed [0, 1, 2, 3, 4, 5, 6, 7] 8 (by kernel_rfl) rfl rfl rfl ?_
  refine rnD 3 rfl ?_
  obtain ⟨o, k, e⟩ := bd i; clear i
  refine sxD rfl (opD_plain rfl (o_idx k rfl rfl rfl ?_))
  refine rnD 3 rfl ?_
  refine sxD rfl (o_eqAD (eqE_Port o.at_ c) rfl rfl rfl rfl rfl ?_)
  refine rlD rfl <| thenD_n ?_
  refine cd rfl e (fun f => ?_) (fun m => ?_) <;> clear e
  .refine rs env_ok <| rl rfl <| dwp_ret <| inB_r <| thenD_r ?_
   obtain ⟨q, l, rfl⟩ := mps f; clear f
   refine lpt <| inB_r <| thenD_r ?_
   have hr := Option.some.inj l; subst hr
   exact er rfl Le.rfl
  .refine dwp_skip <| inB_n <| thenD_n <| rg env_ok <| rl rfl ?_
   cases m
   exact lpn (wf hA [(0, 0), (1, 1)] rfl rfl rfl)
 .refine dwp_exit <| thenD_x ?_
  obtain ⟨s, n, rfl⟩ := mps g; clear g
  refine lpx <| inB_x <| thenD_n <| rs env_ok <| rl rfl <| dwp_ret ?_
  cases n
  exact er rfl Le.rfl
noncomputable def q_4h (b : Plan) (a : Int) : Option (Int ⊕ Bool) :=
 bif decide (a < (b.elems.length : Int)) then (((idx b.elems a).bind fun d => bif (d.kind == 4) then (q_i b (⟨a, 0⟩ : Port)).bind fun e => some (decide (e < 0)) else some false : Option (Bool))).bind fun (c : Bool) => bif c then some (.inr false) else some (.inl (wi64 (a + 1))) else some (.inr true)
noncomputable def q_4i (a : Plan) (b : Int) : Option (Int ⊕ Bool) :=
 bif decide (b < (a.signals.length : Int)) then (idx a.signals b).bind fun c => (q_l a c.at_.elem).bind fun d => (((q_3z a c.at_).bind fun h => bif (!h) then some true else bif (d != 1) then some (d != 4) else some false : Option (Bool))).bind fun (f : Bool) => bif f then some (.inr false) else (q_4 a c.at_).bind fun e => ((bif (!e.2) then some true else (q_l a e.1.elem).bind fun i => bif (i == 4) then some true else (q_i a c.at_).bind fun j => some (j != b) : Option (Bool))).bind fun (g : Bool) => bif g then some (.inr false) else some (.inl (wi64 (b + 1))) else (loopR (q_4h a) 0).map .inr
noncomputable def q_40 (a : Plan) : Option Bool :=
 loopR (q_4i a) 0
theorem w_9c (b : Plan) (r : Bool) (h : q_40 b = some r) : Fun Tryz.prog 112 [.agg (planC b)] (· = .bool r) := by
 refine fn env_ok Tryz.func112 rfl rfl 81 rfl [.tmp 2] rfl [(0, .p (.agg (planC b)))] rfl rfl fun A hA => ?_
 unfold q_40 at h
 refine rs env_ok <| rl rfl <| dwp_seq <| rs env_ok <| rl rfl <| dwp_block ?_
 apply lp (a := r) (fun c : Int => ⟨81, [(1, .lpb 0 0), (3, li c)], [(0, .box [ls 3 elemC b.elems, ls 4 joinC b.joins, ls 4 signalC b.signals, ls 2 lineC b.lines, li b.top, li b.brake, li b.margin, li b.throw, lb b.hard])], 1⟩) h <;> clear h
 . exact wf hA [(0, 0)] rfl rfl rfl
 intro c bh e
 unfold q_4i at e
 refine dwp_seq <| rs env_ok <| rn 3 rfl ?_
 refine sx rfl (o_len rfl rfl ?_)
 refine rl rfl ?_
 refine cd rfl e (fun t => ?_) (fun aj => ?_) <;> clear e
 .refine dwp_skip <| thenD_n <| dwp_seq <| dwp_block <| rs env_ok <| rn 3 rfl ?_
  obtain ⟨al, ap, u⟩ := bd t; clear t
  refine sx rfl (o_idx ap rfl rfl rfl ?_)
  refine rl rfl <| rs env_ok <| rn 3 rfl ?_
  obtain ⟨bk, aq, v⟩ := bd u; clear u
  refine sx rfl (o_call (w_10 _ _ _ aq) (.inl rfl) rfl rfl rfl ?_)
  refine rl rfl <| dwp_seq ?_
  refine jb (fun i : Bool => ⟨81, [(1, .lpb 0 0), (3, li c), (4, .lpb 1 0), (37, lb i)], [(0, .box [ls 3 elemC b.elems, ls 4 joinC b.joins, ls 4 signalC b.signals, ls 2 lineC b.lines, li b.top, li b.brake, li b.margin, li b.throw, lb b.hard]), (1, .box [li al.at_.elem, li al.at_.fin])], 2⟩) v (fun i w => ?_) (fun i z => ?_) <;> clear v
  .refine rg env_ok <| rn 2 rfl ?_
   obtain ⟨bl, ar, x⟩ := bd w; clear w
   refine sx rfl (o_call (w_8h _ _ _ ar) (.inl rfl) rfl rfl rfl ?_)
   refine rn 2 rfl ?_
   refine gs 30 x rfl rfl rfl (fun a2 => ?_) (fun y => ?_) <;> clear x
   .refine rl rfl ?_
    cases a2
    exact npn (wf hA [(0, 0), (1, 1)] rfl rfl rfl)
   .refine rn 3 rfl ?_
    refine gs 33 y rfl rfl rfl (fun a3 => ?_) (fun a4 => ?_) <;> clear y
    .refine rl rfl ?_
     cases a3
     exact npn (wf hA [(0, 0), (1, 1)] rfl rfl rfl)
    .refine rl rfl ?_
     cases a4
     exact npn (wf hA [(0, 0), (1, 1)] rfl rfl rfl)
  .refine cd rfl z (fun aa => ?_) (fun ab => ?_) <;> clear z
   .refine rs env_ok <| rl rfl <| dwp_ret <| thenD_r <| inB_r <| thenD_r ?_
    obtain ⟨be, a5, rfl⟩ := mps aa; clear aa
    refine lpt <| inB_r <| thenD_r ?_
    cases a5
    exact er rfl Le.rfl
   .refine dwp_skip <| thenD_n <| rs env_ok <| rn 2 rfl ?_
    obtain ⟨bm, au, ac⟩ := bd ab; clear ab
    refine sx rfl (o_call (w_7 _ _ _ au) (.inl rfl) rfl rfl rfl ?_)
    refine rl rfl ?_
    refine jb (fun j : Bool => ⟨81, [(1, .lpb 0 0), (3, li c), (59, lb j)], [(0, .box [ls 3 elemC b.elems, ls 4 joinC b.joins, ls 4 signalC b.signals, ls 2 lineC b.lines, li b.top, li b.brake, li b.margin, li b.throw, lb b.hard])], 1⟩) ac (fun j ad => ?_) (fun j ah => ?_) <;> clear ac
    .refine rg env_ok <| rn 3 rfl ?_
     refine gs 46 ad rfl rfl rfl (fun a6 => ?_) (fun ae => ?_) <;> clear ad
     .refine rl rfl ?_
      cases a6
      exact npn (wf hA [(0, 0)] rfl rfl rfl)
     .refine rn 3 rfl ?_
      obtain ⟨bn, av, af⟩ := bd ae; clear ae
      refine sx rfl (o_call (w_10 _ _ _ av) (.inl rfl) rfl rfl rfl ?_)
      refine rn 3 rfl ?_
      refine gs 53 af rfl rfl rfl (fun a7 => ?_) (fun ag => ?_) <;> clear af
      .refine rl rfl ?_
       cases a7
       exact npn (wf hA [(0, 0)] rfl rfl rfl)
      .refine rn 2 rfl ?_
       obtain ⟨bo, aw, a8⟩ := bd ag; clear ag
       refine sx rfl (o_call (w_11 _ _ _ aw) (.inl rfl) rfl rfl rfl ?_)
       refine rl rfl ?_
       cases a8
       exact npn (wf hA [(0, 0)] rfl rfl rfl)
    .refine cd rfl ah (fun ai => ?_) (fun ba => ?_) <;> clear ah
     .refine rs env_ok <| rl rfl <| dwp_ret <| inB_r <| thenD_r ?_
      obtain ⟨bf, a9, rfl⟩ := mps ai; clear ai
      refine lpt <| inB_r <| thenD_r ?_
      cases a9
      exact er rfl Le.rfl
     .refine dwp_skip <| inB_n <| thenD_n <| rg env_ok <| rl rfl ?_
      cases ba
      exact lpn (wf hA [(0, 0)] rfl rfl rfl)
 .refine dwp_exit <| thenD_x ?_
  obtain ⟨am, ak, rfl⟩ := mp aj; clear aj
  refine lpx <| inB_x <| thenD_n <| dwp_seq <| rs env_ok <| rl rfl <| dwp_block ?_
  apply lp (a := am) (fun f : Int => ⟨81, [(1, .lpb 0 0), (8, li f)], [(0, .box [ls 3 elemC b.elems, ls 4 joinC b.joins, ls 4 signalC b.signals, ls 2 lineC b.lines, li b.top, li b.brake, li b.margin, li b.throw, lb b.hard])], 1⟩) ak <;> clear ak
  . exact wf hA [(0, 0)] rfl rfl rfl
  intro f bg d
  unfold q_4h at d
  refine dwp_seq <| rs env_ok <| rn 3 rfl ?_
  refine sx rfl (o_len rfl rfl ?_)
  refine rl rfl ?_
  refine cd rfl d (fun k => ?_) (fun s => ?_) <;> clear d
  .refine dwp_skip <| thenD_n <| dwp_seq <| dwp_block ?_
   refine jb (fun g : Bool => ⟨81, [(1, .lpb 0 0), (8, li f), (80, lb g)], [(0, .box [ls 3 elemC b.elems, ls 4 joinC b.joins, ls 4 signalC b.signals, ls 2 lineC b.lines, li b.top, li b.brake, li b.margin, li b.throw, lb b.hard])], 1⟩) k (fun g l => ?_) (fun g o => ?_) <;> clear k
   .refine rg env_ok <| rn 3 rfl ?_
    obtain ⟨bi, an, m⟩ := bd l; clear l
    refine sx rfl (o_idx an rfl rfl rfl ?_)
    refine rn 4 rfl ?_
    refine gs 74 m rfl rfl rfl (fun n => ?_) (fun ay => ?_) <;> clear m
    .refine rn 3 rfl ?_
     obtain ⟨bj, ao, ax⟩ := bd n; clear n
     refine sx rfl (o_call (w_11 _ _ _ ao) (.inl rfl) rfl rfl rfl ?_)
     refine rl rfl ?_
     cases ax
     exact npn (wf hA [(0, 0)] rfl rfl rfl)
    .refine rl rfl ?_
     cases ay
     exact npn (wf hA [(0, 0)] rfl rfl rfl)
   .refine cd rfl o (fun q => ?_) (fun a0 => ?_) <;> clear o
    .refine rs env_ok <| rl rfl <| dwp_ret <| inB_r <| thenD_r ?_
     obtain ⟨bb, az, rfl⟩ := mps q; clear q
     refine lpt <| inB_r <| thenD_r ?_
     cases az
     exact er rfl Le.rfl
    .refine dwp_skip <| inB_n <| thenD_n <| rg env_ok <| rl rfl ?_
     cases a0
     exact lpn (wf hA [(0, 0)] rfl rfl rfl)
  .refine dwp_exit <| thenD_x ?_
   obtain ⟨bc, a1, rfl⟩ := mps s; clear s
   refine lpx <| inB_x <| thenD_n <| rs env_ok <| rl rfl <| dwp_ret ?_
   cases a1
   exact er rfl Le.rfl
noncomputable def q_8p (b : (List Int)) (c : Int) (a : Int) : Option (Int ⊕ Bool) :=
 bif decide (a < (b.length : Int)) then (idx b a).bind fun d => bif (d == c) then some (.inr true) else some (.inl (wi64 (a + 1))) else some (.inr false)
noncomputable def q_p (a : (List Int)) (b : Int) : Option Bool :=
 loopR (q_8p a b) 0
theorem w_15 (b : (List Int)) (c : Int) (r : Bool) (h : q_p b c = some r) : Fun Tryz.prog 16 [.slice 1 (b.map intC), .int .i64 c] (· = .bool r) := by
 refine fn env_ok Tryz.func16 rfl rfl 18 rfl [.tmp 4] rfl [(0, .p (.slice 1 (b.map intC))), (1, .p (.int .i64 c))] rfl rfl fun A hA => ?_
 unfold q_p at h
 refine rs env_ok <| rl rfl <| dwp_seq <| rs env_ok <| rl rfl <| dwp_block ?_
 apply lp (a := r) (fun j : Int => ⟨18, [(0, ls 1 intC b), (1, li c), (5, li j)], [], 0⟩) h <;> clear h
 . exact wf hA [] rfl rfl rfl
 intro j s d
 unfold q_8p at d
 refine dwp_seq <| rs env_ok <| rn 2 rfl ?_
 refine sx rfl (o_len rfl rfl ?_)
 refine rl rfl ?_
 refine cd rfl d (fun i => ?_) (fun g => ?_) <;> clear d
 .refine dwp_skip <| thenD_n <| dwp_seq <| dwp_block <| rs env_ok <| rn 2 rfl ?_
  obtain ⟨t, k, e⟩ := bd i; clear i
  refine sx rfl (o_idx k rfl rfl rfl ?_)
  refine rl rfl ?_
  refine cd rfl e (fun f => ?_) (fun m => ?_) <;> clear e
  .refine rs env_ok <| rl rfl <| dwp_ret <| inB_r <| thenD_r ?_
   obtain ⟨o, l, rfl⟩ := mps f; clear f
   refine lpt <| inB_r <| thenD_r ?_
   cases l
   exact er rfl Le.rfl
  .refine dwp_skip <| inB_n <| thenD_n <| rg env_ok <| rl rfl ?_
   cases m
   exact lpn (wf hA [] rfl rfl rfl)
 .refine dwp_exit <| thenD_x ?_
  obtain ⟨q, n, rfl⟩ := mps g; clear g
  refine lpx <| inB_x <| thenD_n <| rs env_ok <| rl rfl <| dwp_ret ?_
  cases n
  exact er rfl Le.rfl
noncomputable def q_5x (e : Plan) (c : (List Int)) (a : Int × Int × (List Int)) : Option ((Int × Int × (List Int)) ⊕ ((List Int) × Bool)) :=
 bif decide (a.2.1 < (c.length : Int)) then (idx c (wi64 (a.2.1 - 1))).bind fun f => (q_4 e (⟨f, a.1⟩ : Port)).bind fun b => ((bif (!b.2) then some true else (idx c a.2.1).bind fun g => some (b.1.elem != g) : Option (Bool))).bind fun (d : Bool) => bif d then some (.inr ([], false)) else (appI a.2.2 [b.1.fin]).bind fun h => some (.inl (wi64 (1 - b.1.fin), wi64 (a.2.1 + 1), h)) else some (.inr (a.2.2, true))
noncomputable def q_5y (c : Plan) (b : (List Int)) (a : Int × Int) : Option ((Int × Int) ⊕ ((List Int) × Bool)) :=
 bif decide (0 <= a.2) then (((idx b 0).bind fun g => (q_4 c (⟨g, a.2⟩ : Port)).bind fun d => ((bif d.2 then (idx b 1).bind fun h => some (d.1.elem == h) else some false : Option (Bool))).bind fun (f : Bool) => bif f then some a.2 else some a.1 : Option (Int))).bind fun (e : Int) => some (.inl (e, wi64 (a.2 - 1))) else (bif decide (a.1 < 0) then some ([], false) else loopR (q_5x c b) (a.1, 1, [wi64 (1 - a.1)])).map .inr
noncomputable def q_5z (c : Plan) (a : (List Int)) (b : Int) : Option (Int ⊕ ((List Int) × Bool)) :=
 bif decide (b < (a.length : Int)) then (idx a b).bind fun d => (q_l c d).bind fun e => bif (e != 1) then some (.inr ([], false)) else some (.inl (wi64 (b + 1))) else (bif ((a.length : Int) == 1) then some ([0], true) else loopR (q_5y c a) ((-1), 1)).map .inr
noncomputable def q_54 (b : Plan) (a : (List Int)) : Option ((List Int) × Bool) :=
 bif ((a.length : Int) == 0) then some ([], false) else loopR (q_5z b a) 0
theorem w_9r (b : Plan) (d : (List Int)) (r : ((List Int) × Bool)) (h : q_54 b d = some r) : Fun Tryz.prog 158 [.agg (planC b), .slice 1 (d.map intC)] (· = .tup [.slice 1 (r.1.map intC), .bool r.2]) := by
 refine fn env_ok Tryz.func158 rfl rfl 102 rfl [.tmp 4, .tmp 5] rfl [(0, .p (.agg (planC b))), (1, .p (.slice 1 (d.map intC)))] rfl rfl fun A hA => ?_
 unfold q_54 at h
 refine rs env_ok <| rl rfl <| dwp_seq <| rs env_ok <| rn 1 rfl ?_
 refine sx rfl (o_len rfl rfl ?_)
 refine rl rfl ?_
 refine cd rfl h (fun a9 => ?_) (fun y => ?_) <;> clear h
 .refine rs env_ok <| rl rfl <| dwp_ret <| thenD_r ?_
  cases a9
  exact er rfl (Le.tup' (.cons (Le.nil _) (.cons Le.rfl .nil)))
 .refine dwp_skip <| thenD_n <| dwp_seq <| rs env_ok <| rl rfl <| dwp_block ?_
  apply lp (a := r) (fun au : Int => ⟨102, [(1, ls 1 intC d), (2, .lpb 0 0), (6, li au)], [(0, .box [ls 3 elemC b.elems, ls 4 joinC b.joins, ls 4 signalC b.signals, ls 2 lineC b.lines, li b.top, li b.brake, li b.margin, li b.throw, lb b.hard])], 1⟩) y <;> clear y
  . exact wf hA [(0, 0)] rfl rfl rfl
  intro au bp f
  unfold q_5z at f
  refine dwp_seq <| rs env_ok <| rn 2 rfl ?_
  refine sx rfl (o_len rfl rfl ?_)
  refine rl rfl ?_
  refine cd rfl f (fun q => ?_) (fun v => ?_) <;> clear f
  .refine dwp_skip <| thenD_n <| dwp_seq <| dwp_block <| dwp_seq ?_
   refine rgd env_ok mixed [0, 1, 2, 3, 4, 5, 6] 7 (by kernel_rfl) rfl rfl rfl ?_
   refine rnD 3 rfl ?_
   obtain ⟨bs, ax, s⟩ := bd q; clear q
   refine sxD rfl (opD_plain rfl (o_idx ax rfl rfl rfl ?_))
   refine rnD 1 rfl ?_
   obtain ⟨bt, ay, t⟩ := bd s; clear s
   refine sxD rfl (o_callD (w_10 _ _ _ ay) (.inl rfl) rfl rfl rfl ?_)
   refine rlD rfl <| thenD_n ?_
   refine cd rfl t (fun u => ?_) (fun a7 => ?_) <;> clear t
   .refine rs env_ok <| rl rfl <| dwp_ret <| inB_r <| thenD_r ?_
    obtain ⟨bm, a6, rfl⟩ := mps u; clear u
    refine lpt <| inB_r <| thenD_r ?_
    cases a6
    exact er rfl (Le.tup' (.cons (Le.nil _) (.cons Le.rfl .nil)))
   .refine dwp_skip <| inB_n <| thenD_n <| rg env_ok <| rl rfl ?_
    cases a7
    exact lpn (wf hA [(0, 0)] rfl rfl rfl)
  .refine dwp_exit <| thenD_x ?_
   obtain ⟨av, w, rfl⟩ := mp v; clear v
   refine lpx <| inB_x <| thenD_n <| dwp_seq <| rs env_ok <| rn 1 rfl ?_
   refine sx rfl (o_len rfl rfl ?_)
   refine rl rfl ?_
   refine cd rfl w (fun a8 => ?_) (fun x => ?_) <;> clear w
   .refine rs env_ok <| rl rfl <| dwp_ret <| thenD_r ?_
    cases a8
    exact er (rdN rfl (.cons (.one (.own (enc := intC) ([0] : List Int) rfl rfl)) (.cons (.one (.p _)) .nil))) Le.rfl
   .refine dwp_skip <| thenD_n <| rs env_ok <| rl rfl <| dwp_seq <| rs env_ok <| rl rfl <| dwp_block ?_
    apply lp (a := av) (fun e : (Int × Int) => ⟨102, [(1, ls 1 intC d), (2, .lpb 0 0), (7, li e.1), (8, li e.2)], [(0, .box [ls 3 elemC b.elems, ls 4 joinC b.joins, ls 4 signalC b.signals, ls 2 lineC b.lines, li b.top, li b.brake, li b.margin, li b.throw, lb b.hard])], 1⟩) x <;> clear x
    . exact wf hA [(0, 0)] rfl rfl rfl
    intro e bq g
    unfold q_5y at g
    refine dwp_seq <| rs env_ok <| rl rfl ?_
    refine cd rfl g (fun z => ?_) (fun ag => ?_) <;> clear g
    .refine dwp_skip <| thenD_n ?_
     refine jb (fun j : Int => ⟨102, [(1, ls 1 intC d), (2, .lpb 0 0), (7, li j), (8, li e.2)], [(0, .box [ls 3 elemC b.elems, ls 4 joinC b.joins, ls 4 signalC b.signals, ls 2 lineC b.lines, li b.top, li b.brake, li b.margin, li b.throw, lb b.hard])], 1⟩) z (fun j aa => ?_) (fun j bf => ?_) <;> clear z
     .refine dwp_block <| dwp_seq ?_
      refine rgd env_ok mixed [0, 1, 2, 3, 4, 5, 6, 7, 8, 9, 10, 11, 12] 13 (by kernel_rfl) rfl rfl rfl ?_
      refine rnD 2 rfl ?_
      obtain ⟨bu, az, ab⟩ := bd aa; clear aa
      refine sxD rfl (opD_plain rfl (o_idx az rfl rfl rfl ?_))
      refine rnD 3 rfl ?_
      obtain ⟨bv, a0, ac⟩ := bd ab; clear ab
      refine sxD rfl (o_callD (w_7 _ _ _ a0) (.inl rfl) rfl rfl rfl ?_)
      refine rlD rfl <| thenD_n ?_
      refine jb (fun k : Bool => ⟨102, [(1, ls 1 intC d), (2, .lpb 0 0), (7, li e.1), (8, li e.2), (57, lb k)], [(0, .box [ls 3 elemC b.elems, ls 4 joinC b.joins, ls 4 signalC b.signals, ls 2 lineC b.lines, li b.top, li b.brake, li b.margin, li b.throw, lb b.hard])], 1⟩) ac (fun k ad => ?_) (fun k af => ?_) <;> clear ac
      .refine rgd env_ok mixed [0, 1, 2, 3, 4, 5, 6, 7, 8] 9 (by kernel_rfl) rfl rfl rfl ?_
       refine rnD 2 rfl ?_
       refine gsD 50 ad rfl rfl rfl (fun ae => ?_) (fun bb => ?_) <;> clear ad
       .refine rnD 3 rfl ?_
        obtain ⟨bw, a1, ba⟩ := bd ae; clear ae
        refine sxD rfl (opD_plain rfl (o_idx a1 rfl rfl rfl ?_))
        refine rlD rfl ?_
        cases ba
        exact npn (wf hA [(0, 0)] rfl rfl rfl)
       .refine rlD rfl ?_
        cases bb
        exact npn (wf hA [(0, 0)] rfl rfl rfl)
      .refine cd rfl af (fun bc => ?_) (fun be => ?_) <;> clear af
       .refine rg env_ok <| rl rfl <| inB_n ?_
        cases bc
        exact npn (wf hA [(0, 0)] rfl rfl rfl)
       .refine dwp_skip <| inB_n ?_
        cases be
        exact npn (wf hA [(0, 0)] rfl rfl rfl)
     .refine rg env_ok <| rl rfl ?_
      cases bf
      exact lpn (wf hA [(0, 0)] rfl rfl rfl)
    .refine dwp_exit <| thenD_x ?_
     obtain ⟨aw, ah, rfl⟩ := mp ag; clear ag
     refine lpx <| inB_x <| thenD_n <| dwp_seq <| rs env_ok <| rl rfl ?_
     refine cd rfl ah (fun bg => ?_) (fun ai => ?_) <;> clear ah
     .refine rs env_ok <| rl rfl <| dwp_ret <| thenD_r ?_
      cases bg
      exact er rfl (Le.tup' (.cons (Le.nil _) (.cons Le.rfl .nil)))
     .refine dwp_skip <| thenD_n <| rs env_ok <| rl rfl <| dwp_seq <| rs env_ok <| rl rfl <| dwp_block ?_
      apply lp (a := aw) (fun c : (Int × Int × (List Int)) => ⟨102, [(1, ls 1 intC d), (2, .lpb 0 0), (7, li c.1), (11, .lsl 1 1 0 c.2.2.length), (12, li c.2.1)], [(0, .box [ls 3 elemC b.elems, ls 4 joinC b.joins, ls 4 signalC b.signals, ls 2 lineC b.lines, li b.top, li b.brake, li b.margin, li b.throw, lb b.hard]), (1, .row 3 1 (c.2.2.map intC))], 2⟩) ai <;> clear ai
      . exact wf hA [(0, 0), (1, 1)] rfl rfl rfl
      intro c br i
      unfold q_5x at i
      refine dwp_seq <| rs env_ok <| rn 2 rfl ?_
      refine sx rfl (o_len rfl rfl ?_)
      refine rl rfl ?_
      refine cd rfl i (fun aj => ?_) (fun ar => ?_) <;> clear i
      .refine dwp_skip <| thenD_n <| dwp_seq <| dwp_block <| dwp_seq ?_
       refine rgd env_ok mixed [0, 1, 2, 3, 4, 5, 6, 7, 8, 9, 10, 11, 12, 13, 14] 15 (by kernel_rfl) rfl rfl rfl ?_
       refine rnD 4 rfl ?_
       obtain ⟨bx, a2, ak⟩ := bd aj; clear aj
       refine sxD rfl (opD_plain rfl (o_idx a2 rfl rfl rfl ?_))
       refine rnD 3 rfl ?_
       obtain ⟨o, a3, al⟩ := bd ak; clear ak
       refine sxD rfl (o_callD (w_7 _ _ _ a3) (.inl rfl) rfl rfl rfl ?_)
       refine rlD rfl <| thenD_n <| dwp_seq ?_
       refine jb (fun n : Bool => ⟨102, [(1, ls 1 intC d), (2, .lpb 0 0), (11, .lsl 1 1 0 c.2.2.length), (12, li c.2.1), (13, .lpb 2 0), (92, lb n)], [(0, .box [ls 3 elemC b.elems, ls 4 joinC b.joins, ls 4 signalC b.signals, ls 2 lineC b.lines, li b.top, li b.brake, li b.margin, li b.throw, lb b.hard]), (1, .row 3 1 (c.2.2.map intC)), (2, .box [li o.1.elem, li o.1.fin])], 3⟩) al (fun n am => ?_) (fun n ao => ?_) <;> clear al
       .refine rgd env_ok mixed [0, 1, 2, 3, 4, 5, 6, 7, 8, 9, 10] 11 (by kernel_rfl) rfl rfl rfl ?_
        refine rnD 3 rfl ?_
        refine gsD 84 am rfl rfl rfl (fun bh => ?_) (fun an => ?_) <;> clear am
        .refine rlD rfl ?_
         cases bh
         exact npn (wf hA [(0, 0), (1, 1), (2, 14)] rfl rfl rfl)
        .refine rnD 4 rfl ?_
         obtain ⟨bz, a4, bi⟩ := bd an; clear an
         refine sxD rfl (opD_plain rfl (o_idx a4 rfl rfl rfl ?_))
         refine rlD rfl ?_
         cases bi
         exact npn (wf hA [(0, 0), (1, 1), (2, 14)] rfl rfl rfl)
       .refine cd rfl ao (fun ap => ?_) (fun aq => ?_) <;> clear ao
        .refine rs env_ok <| rl rfl <| dwp_ret <| thenD_r <| inB_r <| thenD_r ?_
         obtain ⟨bn, bj, rfl⟩ := mps ap; clear ap
         refine lpt <| inB_r <| thenD_r ?_
         cases bj
         exact er rfl (Le.tup' (.cons (Le.nil _) (.cons Le.rfl .nil)))
        .refine dwp_skip <| thenD_n <| rs env_ok <| rn 4 rfl ?_
         obtain ⟨b0, a5, bk⟩ := bd aq; clear aq
         refine sx rfl (o_app1 (enc := intC) (l := c.2.2) (m := [o.1.fin]) a5 (fun _ => ⟨rfl, rfl⟩) rfl rfl rfl rfl rfl rfl ?_)
         refine rl rfl <| rg env_ok <| rl rfl <| inB_n <| thenD_n <| rg env_ok <| rl rfl ?_
         cases bk
         exact lpn (wf hA [(0, 0), (1, 4)] rfl rfl rfl)
      .refine dwp_exit <| thenD_x ?_
       obtain ⟨bo, bl, rfl⟩ := mps ar; clear ar
       refine lpx <| inB_x <| thenD_n <| rs env_ok <| rl rfl <| dwp_ret ?_
       cases bl
       exact er (rdN rfl (.cons (.one (.own (enc := intC) c.2.2 rfl rfl)) (.cons (.one (.p _)) .nil))) Le.rfl
end Go.E
/- Plain functions, and walks in step with them. Written by a program (gen.py). No condition. -/
set_option maxRecDepth 100000
namespace Go.E
open Go Go.RowKit Go.Proofs
noncomputable def q_6u (d : Plan) (c : (Int × (List Int))) (b : Line) (a : Int × (List Int)) : Option ((Int × (List Int)) ⊕ ((Int × (List Int)) ⊕ Bool)) :=
 bif decide (a.1 < (b.elems.length : Int)) then (idx b.elems a.1).bind fun e => (q_p a.2 e).bind fun f => bif f then some (.inr (.inr false)) else (idx b.elems a.1).bind fun g => (appI a.2 [g]).bind fun h => some (.inl (wi64 (a.1 + 1), h)) else ((q_54 d b.elems).bind fun i => bif (!i.2) then some (.inr false) else some (.inl (wi64 (c.1 + 1), a.2))).map .inr
noncomputable def q_6v (b : Plan) (a : Int × (List Int)) : Option ((Int × (List Int)) ⊕ Bool) :=
 bif decide (a.1 < (b.lines.length : Int)) then (idx b.lines a.1).bind fun c => loopR (q_6u b a c) (0, a.2) else some (.inr true)
noncomputable def q_6f (a : Plan) : Option Bool :=
 loopR (q_6v a) (0, ([] : List Int))
theorem w_a0 (b : Plan) (r : Bool) (h : q_6f b = some r) : Fun Tryz.prog 113 [.agg (planC b)] (· = .bool r) := by
 refine fn env_ok Tryz.func113 rfl rfl 49 rfl [.tmp 2] rfl [(0, .p (.agg (planC b)))] rfl rfl fun A hA => ?_
 unfold q_6f at h
 refine rs env_ok <| rl rfl <| rs env_ok <| rl rfl <| dwp_seq <| rs env_ok <| rl rfl <| dwp_block ?_
 apply lp (a := r) (fun d : (Int × (List Int)) => ⟨49, [(1, .lpb 0 0), (3, .lsl 1 1 0 d.2.length), (4, li d.1)], [(0, .box [ls 3 elemC b.elems, ls 4 joinC b.joins, ls 4 signalC b.signals, ls 2 lineC b.lines, li b.top, li b.brake, li b.margin, li b.throw, lb b.hard]), (1, .row 3 1 (d.2.map intC))], 2⟩) h <;> clear h
 . exact Weak.trans (weak_ghost 3 3 1 rfl) (wf hA [(0, 0), (1, 1)] rfl rfl rfl)
 intro d z e
 unfold q_6v at e
 refine dwp_seq <| rs env_ok <| rn 3 rfl ?_
 refine sx rfl (o_len rfl rfl ?_)
 refine rl rfl ?_
 refine cd rfl e (fun g => ?_) (fun y => ?_) <;> clear e
 .refine dwp_skip <| thenD_n <| dwp_seq <| dwp_block <| rs env_ok <| rn 3 rfl ?_
  obtain ⟨al, aa, i⟩ := bd g; clear g
  refine sx rfl (o_idx aa rfl rfl rfl ?_)
  refine rl rfl <| dwp_seq <| rs env_ok <| rl rfl <| dwp_block ?_
  apply lp (a := z) (fun c : (Int × (List Int)) => ⟨49, [(1, .lpb 0 0), (3, .lsl 1 1 0 c.2.length), (4, li d.1), (5, ls 1 intC al.elems), (6, li c.1)], [(0, .box [ls 3 elemC b.elems, ls 4 joinC b.joins, ls 4 signalC b.signals, ls 2 lineC b.lines, li b.top, li b.brake, li b.margin, li b.throw, lb b.hard]), (1, .row 3 1 (c.2.map intC))], 2⟩) i <;> clear i
  . exact wf hA [(0, 0), (1, 1)] rfl rfl rfl
  intro c au f
  unfold q_6u at f
  refine dwp_seq <| rs env_ok <| rn 2 rfl ?_
  refine sx rfl (o_len rfl rfl ?_)
  refine rl rfl ?_
  refine cd rfl f (fun j => ?_) (fun u => ?_) <;> clear f
  .refine dwp_skip <| thenD_n <| dwp_seq <| dwp_block <| dwp_seq <| rs env_ok <| rn 3 rfl ?_
   obtain ⟨av, ab, k⟩ := bd j; clear j
   refine sx rfl (o_idx ab rfl rfl rfl ?_)
   refine rn 1 rfl ?_
   obtain ⟨aw, ac, n⟩ := bd k; clear k
   refine sx rfl (o_call (w_15 _ _ _ ac) (.inl rfl) rfl rfl (LdA.eq (.cons (.one (.own (enc := intC) c.2 rfl rfl)) (.cons (.one (.p _)) .nil))) ?_)
   refine rl rfl ?_
   refine cd rfl n (fun o => ?_) (fun s => ?_) <;> clear n
   .refine rs env_ok <| rl rfl <| dwp_ret <| thenD_r <| inB_r <| thenD_r ?_
    obtain ⟨an, q, rfl⟩ := mps o; clear o
    refine lpt <| inB_r <| thenD_r <| inB_r <| thenD_r ?_
    obtain ⟨ao, ag, rfl⟩ := mps q; clear q
    refine lpt <| inB_r <| thenD_r ?_
    cases ag
    exact er rfl Le.rfl
   .refine dwp_skip <| thenD_n <| rg env_ok <| rn 3 rfl ?_
    obtain ⟨am, ad, t⟩ := bd s; clear s
    refine sx rfl (o_idx ad rfl rfl rfl ?_)
    refine rn 2 rfl ?_
    obtain ⟨ax, ae, ah⟩ := bd t; clear t
    refine sx rfl (o_app1 (enc := intC) (l := c.2) (m := [am]) ae (fun _ => ⟨rfl, rfl⟩) rfl rfl rfl rfl rfl rfl ?_)
    refine rl rfl <| inB_n <| thenD_n <| rg env_ok <| rl rfl ?_
    cases ah
    exact lpn (wf hA [(0, 0), (1, 3)] rfl rfl rfl)
  .refine dwp_exit <| thenD_x ?_
   obtain ⟨ap, v, rfl⟩ := mp u; clear u
   refine lpx <| inB_x <| thenD_n <| rs env_ok <| rn 2 rfl ?_
   obtain ⟨ay, af, w⟩ := bd v; clear v
   refine sx rfl (o_call (w_9r _ _ _ af) (.inr rfl) rfl rfl rfl ?_)
   refine rl rfl <| rs env_ok <| rl rfl ?_
   refine cd rfl w (fun x => ?_) (fun aj => ?_) <;> clear w
   .refine rs env_ok <| rl rfl <| dwp_ret <| inB_r <| thenD_r ?_
    obtain ⟨aq, ai, rfl⟩ := mps x; clear x
    refine lpt <| inB_r <| thenD_r ?_
    cases ai
    exact er rfl Le.rfl
   .refine dwp_skip <| inB_n <| thenD_n <| rg env_ok <| rl rfl ?_
    cases aj
    exact lpn (wf hA [(0, 0), (1, 1)] rfl rfl rfl)
 .refine dwp_exit <| thenD_x ?_
  obtain ⟨ar, ak, rfl⟩ := mps y; clear y
  refine lpx <| inB_x <| thenD_n <| rs env_ok <| rl rfl <| dwp_ret ?_
  cases ak
  exact er rfl Le.rfl
noncomputable def q_7u (b : Int) (a : Int × Int) : Option ((Int × Int) ⊕ Int) :=
 bif decide (0 < a.1) then some (.inl (wi64 (a.1 - b), wi64 (a.2 + a.1))) else some (.inr a.2)
noncomputable def q_4j (b : Int) (a : Int) : Option Int :=
 ((bif decide (b < 0) then some true else bif decide (60 < b) then some true else bif decide (a < 1) then some true else some (decide (10 < a)) : Option (Bool))).bind fun (c : Bool) => bif c then some 0 else loopR (q_7u a) (wi64 (b - a), 0)
theorem w_a7 (c : Int) (b : Int) (r : Int) (h : q_4j c b = some r) : Fun Tryz.prog 159 [.int .i64 c, .int .i64 b] (· = .int .i64 r) := by
 refine fn env_ok Tryz.func159 rfl rfl 32 rfl [.tmp 4] rfl [(0, .p (.int .i64 c)), (1, .p (.int .i64 b))] rfl rfl fun A hA => ?_
 unfold q_4j at h
 refine rs env_ok <| rl rfl <| dwp_seq ?_
 refine jb (fun f : Bool => ⟨32, [(0, li c), (1, li b), (19, lb f)], [], 0⟩) h (fun f g => ?_) (fun f k => ?_) <;> clear h
 .refine rg env_ok <| rn 3 rfl ?_
  refine gs 8 g rfl rfl rfl (fun n => ?_) (fun i => ?_) <;> clear g
  .refine rl rfl ?_
   cases n
   exact npn (wf hA [] rfl rfl rfl)
  .refine rn 4 rfl ?_
   refine gs 12 i rfl rfl rfl (fun o => ?_) (fun j => ?_) <;> clear i
   .refine rl rfl ?_
    cases o
    exact npn (wf hA [] rfl rfl rfl)
   .refine rn 4 rfl ?_
    refine gs 16 j rfl rfl rfl (fun q => ?_) (fun s => ?_) <;> clear j
    .refine rl rfl ?_
     cases q
     exact npn (wf hA [] rfl rfl rfl)
    .refine rl rfl ?_
     cases s
     exact npn (wf hA [] rfl rfl rfl)
 .refine cd rfl k (fun t => ?_) (fun l => ?_) <;> clear k
  .refine rs env_ok <| rl rfl <| dwp_ret <| thenD_r ?_
   cases t
   exact er rfl Le.rfl
  .refine dwp_skip <| thenD_n <| rs env_ok <| rl rfl <| dwp_seq <| rs env_ok <| rl rfl <| dwp_block ?_
   apply lp (a := r) (fun e : (Int × Int) => ⟨32, [(0, li e.1), (1, li b), (5, li e.2)], [], 0⟩) l <;> clear l
   . exact wf hA [] rfl rfl rfl
   intro e x d
   unfold q_7u at d
   refine dwp_seq <| rs env_ok <| rl rfl ?_
   refine cd rfl d (fun u => ?_) (fun m => ?_) <;> clear d
   .refine dwp_skip <| thenD_n <| dwp_seq <| dwp_block <| rg env_ok <| rl rfl <| inB_n <| thenD_n <| rg env_ok <| rl rfl ?_
    cases u
    exact lpn (wf hA [] rfl rfl rfl)
   .refine dwp_exit <| thenD_x ?_
    obtain ⟨w, v, rfl⟩ := mps m; clear m
    refine lpx <| inB_x <| thenD_n <| rs env_ok <| rl rfl <| dwp_ret ?_
    cases v
    exact er rfl Le.rfl
noncomputable def q_55 (b : Plan) (a : Int) : Option Int :=
 ((bif decide (a < 0) then some true else some (decide ((b.elems.length : Int) <= a)) : Option (Bool))).bind fun (c : Bool) => bif c then some 0 else (idx b.elems a).bind fun d => some d.length
theorem w_9s (a : Plan) (b : Int) (r : Int) (h : q_55 a b = some r) : Fun Tryz.prog 160 [.agg (planC a), .int .i64 b] (· = .int .i64 r) := by
 refine fn env_ok Tryz.func160 rfl rfl 20 rfl [.tmp 4] rfl [(0, .p (.agg (planC a))), (1, .p (.int .i64 b))] rfl rfl fun A hA => ?_
 unfold q_55 at h
 refine rs env_ok <| rl rfl <| dwp_seq ?_
 refine jb (fun c : Bool => ⟨20, [(1, li b), (2, .lpb 0 0), (13, lb c)], [(0, .box [ls 3 elemC a.elems, ls 4 joinC a.joins, ls 4 signalC a.signals, ls 2 lineC a.lines, li a.top, li a.brake, li a.margin, li a.throw, lb a.hard])], 1⟩) h (fun c d => ?_) (fun c e => ?_) <;> clear h
 .refine rg env_ok <| rn 3 rfl ?_
  refine gs 7 d rfl rfl rfl (fun i => ?_) (fun j => ?_) <;> clear d
  .refine rl rfl ?_
   cases i
   exact npn (wf hA [(0, 0)] rfl rfl rfl)
  .refine rn 3 rfl ?_
   refine sx rfl (o_len rfl rfl ?_)
   refine rl rfl ?_
   cases j
   exact npn (wf hA [(0, 0)] rfl rfl rfl)
 .refine cd rfl e (fun k => ?_) (fun f => ?_) <;> clear e
  .refine rs env_ok <| rl rfl <| dwp_ret <| thenD_r ?_
   cases k
   exact er rfl Le.rfl
  .refine dwp_skip <| thenD_n <| rs env_ok <| rn 3 rfl ?_
   obtain ⟨m, g, l⟩ := bd f; clear f
   refine sx rfl (o_idx g rfl rfl rfl ?_)
   refine rl rfl <| dwp_ret ?_
   cases l
   exact er rfl Le.rfl
noncomputable def q_7v (b : Plan) (a : Int) : Option (Int ⊕ Bool) :=
 bif decide (a < (b.elems.length : Int)) then (((idx b.elems a).bind fun d => bif (d.kind != 4) then (idx b.elems a).bind fun e => some (decide (e.length < b.top)) else some false : Option (Bool))).bind fun (c : Bool) => bif c then some (.inr false) else some (.inl (wi64 (a + 1))) else some (.inr true)
noncomputable def q_7w (a : Plan) (b : Int) : Option (Int ⊕ Bool) :=
 bif decide (b < (a.signals.length : Int)) then (idx a.signals b).bind fun c => (((q_l a c.at_.elem).bind fun e => bif (e == 1) then (q_55 a c.at_.elem).bind fun f => some (decide (f < a.margin)) else some false : Option (Bool))).bind fun (d : Bool) => bif d then some (.inr false) else some (.inl (wi64 (b + 1))) else (loopR (q_7v a) 0).map .inr
noncomputable def q_7x (a : Plan) : Option Bool :=
 (q_4j a.top a.brake).bind fun b => bif decide (a.margin < wi64 (a.top + b)) then some false else loopR (q_7w a) 0
theorem w_a8 (b : Plan) (r : Bool) (h : q_7x b = some r) : Fun Tryz.prog 114 [.agg (planC b)] (· = .bool r) := by
 refine fn env_ok Tryz.func114 rfl rfl 68 rfl [.tmp 2] rfl [(0, .p (.agg (planC b)))] rfl rfl fun A hA => ?_
 unfold q_7x at h
 refine rs env_ok <| rl rfl <| dwp_seq <| dwp_seq ?_
 refine rgd env_ok mixed [0, 1, 2, 3, 4, 5, 6, 7, 8, 9, 10] 11 (by kernel_rfl) rfl rfl rfl ?_
 refine rnD 8 rfl ?_
 obtain ⟨a6, aj, j⟩ := bd h; clear h
 refine sxD rfl (o_callD (w_a7 _ _ _ aj) (.inl rfl) rfl rfl rfl ?_)
 refine rlD rfl <| thenD_n ?_
 refine cd rfl j (fun ak => ?_) (fun k => ?_) <;> clear j
 .refine rs env_ok <| rl rfl <| dwp_ret <| thenD_r ?_
  cases ak
  exact er rfl Le.rfl
 .refine dwp_skip <| thenD_n <| dwp_seq <| rs env_ok <| rl rfl <| dwp_block ?_
  apply lp (a := r) (fun e : Int => ⟨68, [(1, .lpb 0 0), (3, li e)], [(0, .box [ls 3 elemC b.elems, ls 4 joinC b.joins, ls 4 signalC b.signals, ls 2 lineC b.lines, li b.top, li b.brake, li b.margin, li b.throw, lb b.hard])], 1⟩) k <;> clear k
  . exact wf hA [(0, 0)] rfl rfl rfl
  intro e az c
  unfold q_7w at c
  refine dwp_seq <| rs env_ok <| rn 3 rfl ?_
  refine sx rfl (o_len rfl rfl ?_)
  refine rl rfl ?_
  refine cd rfl c (fun l => ?_) (fun u => ?_) <;> clear c
  .refine dwp_skip <| thenD_n <| dwp_seq <| dwp_block <| rs env_ok <| rn 3 rfl ?_
   obtain ⟨a1, ae, m⟩ := bd l; clear l
   refine sx rfl (o_idx ae rfl rfl rfl ?_)
   refine rl rfl ?_
   refine jb (fun g : Bool => ⟨68, [(1, .lpb 0 0), (3, li e), (42, lb g)], [(0, .box [ls 3 elemC b.elems, ls 4 joinC b.joins, ls 4 signalC b.signals, ls 2 lineC b.lines, li b.top, li b.brake, li b.margin, li b.throw, lb b.hard])], 1⟩) m (fun g n => ?_) (fun g s => ?_) <;> clear m
   .refine rgd env_ok mixed [0, 1, 2, 3, 4, 5, 6, 7, 8, 9, 10, 11] 12 (by kernel_rfl) rfl rfl rfl ?_
    refine rnD 2 rfl ?_
    obtain ⟨a2, af, o⟩ := bd n; clear n
    refine sxD rfl (o_callD (w_10 _ _ _ af) (.inl rfl) rfl rfl rfl ?_)
    refine rnD 2 rfl ?_
    refine gsD 35 o rfl rfl rfl (fun q => ?_) (fun am => ?_) <;> clear o
    .refine rnD 2 rfl ?_
     obtain ⟨a3, ag, al⟩ := bd q; clear q
     refine sxD rfl (o_callD (w_9s _ _ _ ag) (.inl rfl) rfl rfl rfl ?_)
     refine rlD rfl ?_
     cases al
     exact npn (wf hA [(0, 0)] rfl rfl rfl)
    .refine rlD rfl ?_
     cases am
     exact npn (wf hA [(0, 0)] rfl rfl rfl)
   .refine cd rfl s (fun t => ?_) (fun ao => ?_) <;> clear s
    .refine rs env_ok <| rl rfl <| dwp_ret <| inB_r <| thenD_r ?_
     obtain ⟨aw, an, rfl⟩ := mps t; clear t
     refine lpt <| inB_r <| thenD_r ?_
     cases an
     exact er rfl Le.rfl
    .refine dwp_skip <| inB_n <| thenD_n <| rg env_ok <| rl rfl ?_
     cases ao
     exact lpn (wf hA [(0, 0)] rfl rfl rfl)
  .refine dwp_exit <| thenD_x ?_
   obtain ⟨ad, v, rfl⟩ := mp u; clear u
   refine lpx <| inB_x <| thenD_n <| dwp_seq <| rs env_ok <| rl rfl <| dwp_block ?_
   apply lp (a := ad) (fun f : Int => ⟨68, [(1, .lpb 0 0), (5, li f)], [(0, .box [ls 3 elemC b.elems, ls 4 joinC b.joins, ls 4 signalC b.signals, ls 2 lineC b.lines, li b.top, li b.brake, li b.margin, li b.throw, lb b.hard])], 1⟩) v <;> clear v
   . exact wf hA [(0, 0)] rfl rfl rfl
   intro f a0 d
   unfold q_7v at d
   refine dwp_seq <| rs env_ok <| rn 3 rfl ?_
   refine sx rfl (o_len rfl rfl ?_)
   refine rl rfl ?_
   refine cd rfl d (fun w => ?_) (fun ac => ?_) <;> clear d
   .refine dwp_skip <| thenD_n <| dwp_seq <| dwp_block ?_
    refine jb (fun i : Bool => ⟨68, [(1, .lpb 0 0), (5, li f), (67, lb i)], [(0, .box [ls 3 elemC b.elems, ls 4 joinC b.joins, ls 4 signalC b.signals, ls 2 lineC b.lines, li b.top, li b.brake, li b.margin, li b.throw, lb b.hard])], 1⟩) w (fun i x => ?_) (fun i aa => ?_) <;> clear w
    .refine rgd env_ok mixed [0, 1, 2, 3, 4, 5, 6, 7, 8, 9, 10, 11, 12, 13, 14, 15, 16, 17] 18 (by kernel_rfl) rfl rfl rfl ?_
     refine rnD 3 rfl ?_
     obtain ⟨a4, ah, y⟩ := bd x; clear x
     refine sxD rfl (opD_plain rfl (o_idx ah rfl rfl rfl ?_))
     refine rnD 4 rfl ?_
     refine gsD 57 y rfl rfl rfl (fun z => ?_) (fun aq => ?_) <;> clear y
     .refine rnD 3 rfl ?_
      obtain ⟨a5, ai, ap⟩ := bd z; clear z
      refine sxD rfl (opD_plain rfl (o_idx ai rfl rfl rfl ?_))
      refine rlD rfl ?_
      cases ap
      exact npn (wf hA [(0, 0)] rfl rfl rfl)
     .refine rlD rfl ?_
      cases aq
      exact npn (wf hA [(0, 0)] rfl rfl rfl)
    .refine cd rfl aa (fun ab => ?_) (fun au => ?_) <;> clear aa
     .refine rs env_ok <| rl rfl <| dwp_ret <| inB_r <| thenD_r ?_
      obtain ⟨ax, ar, rfl⟩ := mps ab; clear ab
      refine lpt <| inB_r <| thenD_r ?_
      cases ar
      exact er rfl Le.rfl
     .refine dwp_skip <| inB_n <| thenD_n <| rg env_ok <| rl rfl ?_
      cases au
      exact lpn (wf hA [(0, 0)] rfl rfl rfl)
   .refine dwp_exit <| thenD_x ?_
    obtain ⟨ay, av, rfl⟩ := mps ac; clear ac
    refine lpx <| inB_x <| thenD_n <| rs env_ok <| rl rfl <| dwp_ret ?_
    cases av
    exact er rfl Le.rfl
noncomputable def q_23 (a : Plan) : Option Int :=
 ((bif decide (40 < (a.elems.length : Int)) then some true else bif decide (24 < (a.signals.length : Int)) then some true else bif decide (4 < (a.lines.length : Int)) then some true else some (decide (80 < (a.joins.length : Int))) : Option (Bool))).bind fun (d : Bool) => bif d then some 3 else (q_68 a).bind fun b => (q_7b a).bind fun l => bif (!l) then some 1 else (((q_1u b.1).bind fun e => bif e then some true else (q_1u b.2.1).bind fun f => bif f then some true else (q_1u b.2.2).bind fun g => some g : Option (Bool))).bind fun (c : Bool) => bif c then some 4 else (q_53 a).bind fun h => bif (!h) then some 6 else (q_40 a).bind fun i => bif (!i) then some 7 else (q_6f a).bind fun j => bif (!j) then some 8 else (q_7x a).bind fun k => bif (!k) then some 9 else some 0
theorem w_6e (a : Plan) (r : Int) (h : q_23 a = some r) : Fun Tryz.prog 42 [.agg (planC a)] (· = .int .i64 r) := by
 refine fn env_ok Tryz.func42 rfl rfl 65 rfl [.tmp 2] rfl [(0, .p (.agg (planC a)))] rfl rfl fun A hA => ?_
 unfold q_23 at h
 refine rs env_ok <| rl rfl <| dwp_seq ?_
 refine jb (fun c : Bool => ⟨65, [(1, .lpb 0 0), (27, lb c)], [(0, .box [ls 3 elemC a.elems, ls 4 joinC a.joins, ls 4 signalC a.signals, ls 2 lineC a.lines, li a.top, li a.brake, li a.margin, li a.throw, lb a.hard])], 1⟩) h (fun c u => ?_) (fun c x => ?_) <;> clear h
 .refine rg env_ok <| rn 2 rfl ?_
  refine sx rfl (o_len rfl rfl ?_)
  refine rn 2 rfl ?_
  refine gs 10 u rfl rfl rfl (fun aw => ?_) (fun v => ?_) <;> clear u
  .refine rl rfl ?_
   cases aw
   exact npn (wf hA [(0, 0)] rfl rfl rfl)
  .refine rn 2 rfl ?_
   refine sx rfl (o_len rfl rfl ?_)
   refine rn 3 rfl ?_
   refine gs 16 v rfl rfl rfl (fun ax => ?_) (fun w => ?_) <;> clear v
   .refine rl rfl ?_
    cases ax
    exact npn (wf hA [(0, 0)] rfl rfl rfl)
   .refine rn 2 rfl ?_
    refine sx rfl (o_len rfl rfl ?_)
    refine rn 3 rfl ?_
    refine gs 22 w rfl rfl rfl (fun ay => ?_) (fun az => ?_) <;> clear w
    .refine rl rfl ?_
     cases ay
     exact npn (wf hA [(0, 0)] rfl rfl rfl)
    .refine rn 2 rfl ?_
     refine sx rfl (o_len rfl rfl ?_)
     refine rl rfl ?_
     cases az
     exact npn (wf hA [(0, 0)] rfl rfl rfl)
 .refine cd rfl x (fun a0 => ?_) (fun y => ?_) <;> clear x
  .refine rs env_ok <| rl rfl <| dwp_ret <| thenD_r ?_
   cases a0
   exact er rfl Le.rfl
  .refine dwp_skip <| thenD_n <| rs env_ok <| rn 1 rfl ?_
   obtain ⟨a9, aj, z⟩ := bd y; clear y
   refine sx rfl (o_call (w_9w _ _ aj) (.inr rfl) rfl rfl rfl ?_)
   refine rl rfl <| dwp_seq <| dwp_block <| rs env_ok <| rn 1 rfl ?_
   obtain ⟨ba, ak, aa⟩ := bd z; clear z
   refine sx rfl (o_call (w_a3 _ _ ak) (.inl rfl) rfl rfl rfl ?_)
   refine rl rfl ?_
   refine cd rfl aa (fun a1 => ?_) (fun ab => ?_) <;> clear aa
   .refine rs env_ok <| rl rfl <| dwp_ret <| inB_r <| thenD_r ?_
    cases a1
    exact er rfl Le.rfl
   .refine jb (fun b : Bool => ⟨65, [(1, .lpb 0 0), (38, lb b)], [(0, .box [ls 3 elemC a.elems, ls 4 joinC a.joins, ls 4 signalC a.signals, ls 2 lineC a.lines, li a.top, li a.brake, li a.margin, li a.throw, lb a.hard])], 1⟩) ab (fun b d => ?_) (fun b j => ?_) <;> clear ab
    .refine rg env_ok <| rn 1 rfl ?_
     obtain ⟨a2, ac, e⟩ := bd d; clear d
     refine sx rfl (o_call (w_69 _ _ ac) (.inl rfl) rfl rfl rfl ?_)
     refine rn 1 rfl ?_
     refine gs 41 e rfl rfl rfl (fun al => ?_) (fun f => ?_) <;> clear e
     .refine rl rfl ?_
      cases al
      exact npn (wf hA [(0, 0)] rfl rfl rfl)
     .refine rn 1 rfl ?_
      obtain ⟨a3, ad, g⟩ := bd f; clear f
      refine sx rfl (o_call (w_69 _ _ ad) (.inl rfl) rfl rfl rfl ?_)
      refine rn 2 rfl ?_
      refine gs 45 g rfl rfl rfl (fun am => ?_) (fun i => ?_) <;> clear g
      .refine rl rfl ?_
       cases am
       exact npn (wf hA [(0, 0)] rfl rfl rfl)
      .refine rn 1 rfl ?_
       obtain ⟨a4, ae, an⟩ := bd i; clear i
       refine sx rfl (o_call (w_69 _ _ ae) (.inl rfl) rfl rfl rfl ?_)
       refine rl rfl ?_
       have hr := Option.some.inj an; subst hr
       exact npn (wf hA [(0, 0)] rfl rfl rfl)
    .refine cd rfl j (fun ao => ?_) (fun k => ?_) <;> clear j
     .refine rs env_ok <| rl rfl <| dwp_ret <| inB_r <| thenD_r ?_
      cases ao
      exact er rfl Le.rfl
     .refine rs env_ok <| rn 1 rfl ?_
      obtain ⟨a5, af, l⟩ := bd k; clear k
      refine sx rfl (o_call (w_9q _ _ af) (.inl rfl) rfl rfl rfl ?_)
      refine rl rfl ?_
      refine cd rfl l (fun ap => ?_) (fun m => ?_) <;> clear l
      .refine rs env_ok <| rl rfl <| dwp_ret <| inB_r <| thenD_r ?_
       cases ap
       exact er rfl Le.rfl
      .refine rs env_ok <| rn 1 rfl ?_
       obtain ⟨a6, ag, n⟩ := bd m; clear m
       refine sx rfl (o_call (w_9c _ _ ag) (.inl rfl) rfl rfl rfl ?_)
       refine rl rfl ?_
       refine cd rfl n (fun aq => ?_) (fun o => ?_) <;> clear n
       .refine rs env_ok <| rl rfl <| dwp_ret <| inB_r <| thenD_r ?_
        cases aq
        exact er rfl Le.rfl
       .refine rs env_ok <| rn 1 rfl ?_
        obtain ⟨a7, ah, q⟩ := bd o; clear o
        refine sx rfl (o_call (w_a0 _ _ ah) (.inl rfl) rfl rfl rfl ?_)
        refine rl rfl ?_
        refine cd rfl q (fun ar => ?_) (fun s => ?_) <;> clear q
        .refine rs env_ok <| rl rfl <| dwp_ret <| inB_r <| thenD_r ?_
         cases ar
         exact er rfl Le.rfl
        .refine rs env_ok <| rn 1 rfl ?_
         obtain ⟨a8, ai, t⟩ := bd s; clear s
         refine sx rfl (o_call (w_a8 _ _ ai) (.inl rfl) rfl rfl rfl ?_)
         refine rl rfl ?_
         refine cd rfl t (fun au => ?_) (fun av => ?_) <;> clear t
         .refine rs env_ok <| rl rfl <| dwp_ret <| inB_r <| thenD_r ?_
          cases au
          exact er rfl Le.rfl
         .refine dwp_skip <| inB_n <| thenD_n <| rs env_ok <| rl rfl <| dwp_ret ?_
          cases av
          exact er rfl Le.rfl
noncomputable def q_7s (a : Plan) : Option Bool :=
 (((q_8f a).bind fun d => bif d then (q_23 a).bind fun c => some (c == 0) else some false : Option (Bool))).bind fun (b : Bool) => some b
theorem w_a6 (b : Plan) (r : Bool) (h : q_7s b = some r) : Fun Tryz.prog 11 [.agg (planC b)] (· = .bool r) := by
 refine fn env_ok Tryz.func11 rfl rfl 10 rfl [.tmp 2] rfl [(0, .p (.agg (planC b)))] rfl rfl fun A hA => ?_
 unfold q_7s at h
 refine rs env_ok <| rl rfl ?_
 refine jb (fun a : Bool => ⟨10, [(2, lb a)], [], 0⟩) h (fun a e => ?_) (fun a k => ?_) <;> clear h
 .refine rg env_ok <| rn 1 rfl ?_
  obtain ⟨m, g, c⟩ := bd e; clear e
  refine sx rfl (o_call (w_a9 _ _ g) (.inl rfl) rfl rfl rfl ?_)
  refine rn 1 rfl ?_
  refine gs 5 c rfl rfl rfl (fun d => ?_) (fun j => ?_) <;> clear c
  .refine rn 1 rfl ?_
   obtain ⟨l, f, i⟩ := bd d; clear d
   refine sx rfl (o_call (w_6e _ _ f) (.inl rfl) rfl rfl rfl ?_)
   refine rl rfl ?_
   cases i
   exact npn (wf hA [] rfl rfl rfl)
  .refine rl rfl ?_
   cases j
   exact npn (wf hA [] rfl rfl rfl)
 .refine dwp_ret ?_
  have hr := Option.some.inj k; subst hr
  exact er rfl Le.rfl
noncomputable def q_1s (a : Int) : Option Bool :=
 ((bif decide (97 <= a) then bif decide (a <= 122) then some true else bif decide (65 <= a) then some (decide (a <= 90)) else some false else bif decide (65 <= a) then some (decide (a <= 90)) else some false : Option (Bool))).bind fun (b : Bool) => some b
theorem w_6w (b : Int) (r : Bool) (h : q_1s b = some r) : Fun Tryz.prog 212 [.int .u8 b] (· = .bool r) := by
 refine fn env_ok Tryz.func212 rfl rfl 17 rfl [.tmp 2] rfl [(0, .p (.int .u8 b))] rfl rfl fun A hA => ?_
 unfold q_1s at h
 refine rs env_ok <| rl rfl ?_
 refine jb (fun a : Bool => ⟨17, [(2, lb a)], [], 0⟩) h (fun a c => ?_) (fun a m => ?_) <;> clear h
 .refine rg env_ok <| rn 3 rfl ?_
  refine gs 5 c rfl rfl rfl (fun d => ?_) (fun f => ?_) <;> clear c
  .refine rn 4 rfl ?_
   refine gs 9 d rfl rfl rfl (fun g => ?_) (fun e => ?_) <;> clear d
   .refine rl rfl ?_
    cases g
    exact npn (wf hA [] rfl rfl rfl)
   .refine rn 3 rfl ?_
    refine gs 12 e rfl rfl rfl (fun i => ?_) (fun j => ?_) <;> clear e
    .refine rl rfl ?_
     cases i
     exact npn (wf hA [] rfl rfl rfl)
    .refine rl rfl ?_
     cases j
     exact npn (wf hA [] rfl rfl rfl)
  .refine rn 7 rfl ?_
   refine gs 12 f rfl rfl rfl (fun k => ?_) (fun l => ?_) <;> clear f
   .refine rl rfl ?_
    cases k
    exact npn (wf hA [] rfl rfl rfl)
   .refine rl rfl ?_
    cases l
    exact npn (wf hA [] rfl rfl rfl)
 .refine dwp_ret ?_
  have hr := Option.some.inj m; subst hr
  exact er rfl Le.rfl
noncomputable def q_60 (b : ByteArray) (a : Int) : Option (Int ⊕ Bool) :=
 bif decide (a < (b.size : Int)) then (((idxS b a).bind fun d => (q_1s (d.toNat : Int)).bind fun e => bif (!e) then (idxS b a).bind fun f => bif decide ((f.toNat : Int) < 48) then some true else (idxS b a).bind fun g => some (decide (57 < (g.toNat : Int))) else some false : Option (Bool))).bind fun (c : Bool) => bif c then some (.inr false) else some (.inl (wi64 (a + 1))) else some (.inr true)
noncomputable def q_1n (a : ByteArray) : Option Bool :=
 ((bif (a.toList == ByteArray.empty.toList) then some true else bif decide (8 < (a.size : Int)) then some true else (idxS a 0).bind fun c => (q_1s (c.toNat : Int)).bind fun d => some (!d) : Option (Bool))).bind fun (b : Bool) => bif b then some false else loopR (q_60 a) 1
theorem w_56 (b : ByteArray) (r : Bool) (h : q_1n b = some r) : Fun Tryz.prog 198 [.str b] (· = .bool r) := by
 refine fn env_ok Tryz.func198 rfl rfl 40 rfl [.tmp 2] rfl [(0, .p (.str b))] rfl rfl fun A hA => ?_
 unfold q_1n at h
 refine rs env_ok <| rl rfl <| dwp_seq ?_
 refine jb (fun e : Bool => ⟨40, [(0, .p (.str b)), (16, lb e)], [], 0⟩) h (fun e g => ?_) (fun e m => ?_) <;> clear h
 .refine rg env_ok <| rn 3 rfl ?_
  refine gs 6 g rfl rfl rfl (fun af => ?_) (fun i => ?_) <;> clear g
  .refine rl rfl ?_
   cases af
   exact npn (wf hA [] rfl rfl rfl)
  .refine rn 5 rfl ?_
   refine gs 11 i rfl rfl rfl (fun ag => ?_) (fun j => ?_) <;> clear i
   .refine rl rfl ?_
    cases ag
    exact npn (wf hA [] rfl rfl rfl)
   .refine rn 1 rfl ?_
    obtain ⟨au, z, l⟩ := bd j; clear j
    refine sx rfl (o_idxS z rfl rfl rfl ?_)
    obtain ⟨av, aa, ah⟩ := bd l; clear l
    refine sx rfl (o_call (w_6w _ _ aa) (.inl rfl) rfl rfl rfl ?_)
    refine rl rfl ?_
    cases ah
    exact npn (wf hA [] rfl rfl rfl)
 .refine cd rfl m (fun ai => ?_) (fun v => ?_) <;> clear m
  .refine rs env_ok <| rl rfl <| dwp_ret <| thenD_r ?_
   cases ai
   exact er rfl Le.rfl
  .refine dwp_skip <| thenD_n <| dwp_seq <| rs env_ok <| rl rfl <| dwp_block ?_
   apply lp (a := r) (fun d : Int => ⟨40, [(0, .p (.str b)), (3, li d)], [], 0⟩) v <;> clear v
   . exact wf hA [] rfl rfl rfl
   intro d ar c
   unfold q_60 at c
   refine dwp_seq <| rs env_ok <| rl rfl ?_
   refine cd rfl c (fun k => ?_) (fun y => ?_) <;> clear c
   .refine dwp_skip <| thenD_n <| dwp_seq <| dwp_block ?_
    refine jb (fun f : Bool => ⟨40, [(0, .p (.str b)), (3, li d), (39, lb f)], [], 0⟩) k (fun f n => ?_) (fun f w => ?_) <;> clear k
    .refine rg env_ok <| rn 2 rfl ?_
     obtain ⟨aw, ab, o⟩ := bd n; clear n
     refine sx rfl (o_idxS ab rfl rfl rfl ?_)
     obtain ⟨ax, ac, q⟩ := bd o; clear o
     refine sx rfl (o_call (w_6w _ _ ac) (.inl rfl) rfl rfl rfl ?_)
     refine rn 2 rfl ?_
     refine gs 28 q rfl rfl rfl (fun s => ?_) (fun al => ?_) <;> clear q
     .refine rn 2 rfl ?_
      obtain ⟨ay, ad, t⟩ := bd s; clear s
      refine sx rfl (o_idxS ad rfl rfl rfl ?_)
      refine rn 2 rfl ?_
      refine gs 33 t rfl rfl rfl (fun aj => ?_) (fun u => ?_) <;> clear t
      .refine rl rfl ?_
       cases aj
       exact npn (wf hA [] rfl rfl rfl)
      .refine rn 2 rfl ?_
       obtain ⟨az, ae, ak⟩ := bd u; clear u
       refine sx rfl (o_idxS ae rfl rfl rfl ?_)
       refine rl rfl ?_
       cases ak
       exact npn (wf hA [] rfl rfl rfl)
     .refine rl rfl ?_
      cases al
      exact npn (wf hA [] rfl rfl rfl)
    .refine cd rfl w (fun x => ?_) (fun an => ?_) <;> clear w
     .refine rs env_ok <| rl rfl <| dwp_ret <| inB_r <| thenD_r ?_
      obtain ⟨ap, am, rfl⟩ := mps x; clear x
      refine lpt <| inB_r <| thenD_r ?_
      cases am
      exact er rfl Le.rfl
     .refine dwp_skip <| inB_n <| thenD_n <| rg env_ok <| rl rfl ?_
      cases an
      exact lpn (wf hA [] rfl rfl rfl)
   .refine dwp_exit <| thenD_x ?_
    obtain ⟨aq, ao, rfl⟩ := mps y; clear y
    refine lpx <| inB_x <| thenD_n <| rs env_ok <| rl rfl <| dwp_ret ?_
    cases ao
    exact er rfl Le.rfl
noncomputable def q_1o (a : Int) : Option Int :=
 bif (a == 1) then some 2 else bif (a == 2) then some 3 else bif (a == 3) then some 4 else bif (a == 4) then some 1 else some 0
theorem w_57 (a : Int) (r : Int) (h : q_1o a = some r) : Fun Tryz.prog 150 [.int .i64 a] (· = .int .i64 r) := by
 refine fn env_ok Tryz.func150 rfl rfl 12 rfl [.tmp 2] rfl [(0, .p (.int .i64 a))] rfl rfl fun A hA => ?_
 unfold q_1o at h
 refine rs env_ok <| rl rfl <| dwp_seq <| rs env_ok <| rl rfl <| dwp_block <| rs env_ok <| rl rfl ?_
 refine cd rfl h (fun j => ?_) (fun b => ?_) <;> clear h
 .refine rs env_ok <| rl rfl <| dwp_ret <| inB_r <| thenD_r ?_
  cases j
  exact er rfl Le.rfl
 .refine rs env_ok <| rl rfl ?_
  refine cd rfl b (fun e => ?_) (fun c => ?_) <;> clear b
  .refine rs env_ok <| rl rfl <| dwp_ret <| inB_r <| thenD_r ?_
   cases e
   exact er rfl Le.rfl
  .refine rs env_ok <| rl rfl ?_
   refine cd rfl c (fun f => ?_) (fun d => ?_) <;> clear c
   .refine rs env_ok <| rl rfl <| dwp_ret <| inB_r <| thenD_r ?_
    cases f
    exact er rfl Le.rfl
   .refine rs env_ok <| rl rfl ?_
    refine cd rfl d (fun g => ?_) (fun i => ?_) <;> clear d
    .refine rs env_ok <| rl rfl <| dwp_ret <| inB_r <| thenD_r ?_
     cases g
     exact er rfl Le.rfl
    .refine dwp_skip <| inB_n <| thenD_n <| rs env_ok <| rl rfl <| dwp_ret ?_
     cases i
     exact er rfl Le.rfl
noncomputable def q_32 (b : Plan) (a : Int) : Option (Int ⊕ Bool) :=
 bif decide (a < (b.lines.length : Int)) then (idx b.lines a).bind fun c => (q_1n c.name).bind fun d => bif (!d) then some (.inr false) else some (.inl (wi64 (a + 1))) else some (.inr true)
noncomputable def q_33 (b : Plan) (a : Int) : Option (Int ⊕ Bool) :=
 bif decide (a < (b.signals.length : Int)) then (idx b.signals a).bind fun c => (q_1n c.name).bind fun d => bif (!d) then some (.inr false) else some (.inl (wi64 (a + 1))) else (loopR (q_32 b) 0).map .inr
noncomputable def q_34 (c : Plan) (b : Int) : Option (Int ⊕ Bool) :=
 bif decide (b < (c.elems.length : Int)) then seqR (((idx c.elems b).bind fun a => (((q_1n a.name).bind fun f => bif (!f) then some true else (q_1o a.kind).bind fun g => some (g == 0) : Option (Bool))).bind fun (d : Bool) => bif d then some (.inr (.inr false)) else bif (a.kind == 4) then bif (a.length != 0) then some (.inr (.inr false)) else some (.inl ()) else ((bif decide (a.length < 1) then some true else some (decide (4000 < a.length)) : Option (Bool))).bind fun (e : Bool) => bif e then some (.inr (.inr false)) else some (.inl ()) : Option (Unit ⊕ (Int ⊕ Bool)))) fun (h : Unit) => some (.inl (wi64 (b + 1))) else (loopR (q_33 c) 0).map .inr
noncomputable def q_26 (a : Plan) : Option Bool :=
 ((bif decide (a.top < 1) then some true else bif decide (60 < a.top) then some true else bif decide (a.brake < 1) then some true else bif decide (10 < a.brake) then some true else bif decide (a.margin < 1) then some true else bif decide (4000 < a.margin) then some true else bif decide (a.throw < 1) then some true else bif decide (20 < a.throw) then some true else some ((a.elems.length : Int) == 0) : Option (Bool))).bind fun (b : Bool) => bif b then some false else loopR (q_34 a) 0
theorem w_8s (b : Plan) (r : Bool) (h : q_26 b = some r) : Fun Tryz.prog 161 [.agg (planC b)] (· = .bool r) := by
 refine fn env_ok Tryz.func161 rfl rfl 112 rfl [.tmp 2] rfl [(0, .p (.agg (planC b)))] rfl rfl fun A hA => ?_
 unfold q_26 at h
 refine rs env_ok <| rl rfl <| sc <| dwp_seq ?_
 refine jb (fun g : Bool => ⟨112, [(1, .lpb 0 0), (52, lb g)], [(0, .box [ls 3 elemC b.elems, ls 4 joinC b.joins, ls 4 signalC b.signals, ls 2 lineC b.lines, li b.top, li b.brake, li b.margin, li b.throw, lb b.hard])], 1⟩) h (fun g m => ?_) (fun g ap => ?_) <;> clear h
 .refine rg env_ok <| rn 4 rfl ?_
  refine gs 12 m rfl rfl rfl (fun bh => ?_) (fun q => ?_) <;> clear m
  .refine rl rfl ?_
   cases bh
   exact npn (wf hA [(0, 0)] rfl rfl rfl)
  .refine rn 5 rfl ?_
   refine gs 17 q rfl rfl rfl (fun bk => ?_) (fun ab => ?_) <;> clear q
   .refine rl rfl ?_
    cases bk
    exact npn (wf hA [(0, 0)] rfl rfl rfl)
   .refine rn 5 rfl ?_
    refine gs 22 ab rfl rfl rfl (fun bo => ?_) (fun ai => ?_) <;> clear ab
    .refine rl rfl ?_
     cases bo
     exact npn (wf hA [(0, 0)] rfl rfl rfl)
    .refine rn 5 rfl ?_
     refine gs 27 ai rfl rfl rfl (fun bu => ?_) (fun al => ?_) <;> clear ai
     .refine rl rfl ?_
      cases bu
      exact npn (wf hA [(0, 0)] rfl rfl rfl)
     .refine rn 5 rfl ?_
      refine gs 32 al rfl rfl rfl (fun bv => ?_) (fun am => ?_) <;> clear al
      .refine rl rfl ?_
       cases bv
       exact npn (wf hA [(0, 0)] rfl rfl rfl)
      .refine rn 5 rfl ?_
       refine gs 37 am rfl rfl rfl (fun bw => ?_) (fun an => ?_) <;> clear am
       .refine rl rfl ?_
        cases bw
        exact npn (wf hA [(0, 0)] rfl rfl rfl)
       .refine rn 5 rfl ?_
        refine gs 42 an rfl rfl rfl (fun bx => ?_) (fun ao => ?_) <;> clear an
        .refine rl rfl ?_
         cases bx
         exact npn (wf hA [(0, 0)] rfl rfl rfl)
        .refine rn 5 rfl ?_
         refine gs 47 ao rfl rfl rfl (fun bz => ?_) (fun b0 => ?_) <;> clear ao
         .refine rl rfl ?_
          cases bz
          exact npn (wf hA [(0, 0)] rfl rfl rfl)
         .refine rn 2 rfl ?_
          refine sx rfl (o_len rfl rfl ?_)
          refine rl rfl ?_
          cases b0
          exact npn (wf hA [(0, 0)] rfl rfl rfl)
 .refine cd rfl ap (fun b1 => ?_) (fun aq => ?_) <;> clear ap
  .refine rs env_ok <| rl rfl <| dwp_ret <| thenD_r <| sc_r ?_
   cases b1
   exact er rfl Le.rfl
  .refine dwp_skip <| thenD_n <| dwp_seq <| dwp_label <| thenD_n <| dwp_seq <| rs env_ok <| rn 2 rfl ?_
   refine sx rfl (o_len rfl rfl ?_)
   refine rl rfl <| dwp_block ?_
   apply lp (a := r) (fun c : Int => ⟨112, [(1, .lpb 0 0), (54, ls 3 elemC b.elems), (55, li (b.elems.length : Int)), (56, li c)], [(0, .box [ls 3 elemC b.elems, ls 4 joinC b.joins, ls 4 signalC b.signals, ls 2 lineC b.lines, li b.top, li b.brake, li b.margin, li b.throw, lb b.hard])], 1⟩) aq <;> clear aq
   . exact wf hA [(0, 0)] rfl rfl rfl
   intro c a8 d
   unfold q_34 at d
   refine rs env_ok <| rl rfl <| dwp_seq ?_
   refine cd rfl d (fun l => ?_) (fun aj => ?_) <;> clear d
   .refine dwp_skip <| thenD_n ?_
    apply jn (a := a8) (fun b7 : Unit => ⟨112, [(1, .lpb 0 0), (54, ls 3 elemC b.elems), (55, li (b.elems.length : Int)), (56, li c)], [(0, .box [ls 3 elemC b.elems, ls 4 joinC b.joins, ls 4 signalC b.signals, ls 2 lineC b.lines, li b.top, li b.brake, li b.margin, li b.throw, lb b.hard])], 1⟩) l <;> clear l
    .intro ci n
     refine dwp_block <| rs env_ok ?_
     obtain ⟨k, a9, o⟩ := bd n; clear n
     refine sx rfl (o_idx a9 rfl rfl rfl ?_)
     refine rl rfl <| dwp_block ?_
     refine jb (fun i : Bool => ⟨112, [(1, .lpb 0 0), (4, .lpb 1 0), (54, ls 3 elemC b.elems), (55, li (b.elems.length : Int)), (56, li c), (60, lb i)], [(0, .box [ls 3 elemC b.elems, ls 4 joinC b.joins, ls 4 signalC b.signals, ls 2 lineC b.lines, li b.top, li b.brake, li b.margin, li b.throw, lb b.hard]), (1, .box [.p (.str k.name), li k.kind, li k.length])], 2⟩) o (fun i s => ?_) (fun i v => ?_) <;> clear o
     .refine rg env_ok <| rn 2 rfl ?_
      obtain ⟨cl, ba, t⟩ := bd s; clear s
      refine sx rfl (o_call (w_56 _ _ ba) (.inl rfl) rfl rfl rfl ?_)
      refine rn 2 rfl ?_
      refine gs 65 t rfl rfl rfl (fun bi => ?_) (fun u => ?_) <;> clear t
      .refine rl rfl ?_
       cases bi
       exact npn (wf hA [(0, 0), (1, 1)] rfl rfl rfl)
      .refine rn 2 rfl ?_
       obtain ⟨cm, bb, bj⟩ := bd u; clear u
       refine sx rfl (o_call (w_57 _ _ bb) (.inl rfl) rfl rfl rfl ?_)
       refine rl rfl ?_
       cases bj
       exact npn (wf hA [(0, 0), (1, 1)] rfl rfl rfl)
     .refine cd rfl v (fun w => ?_) (fun y => ?_) <;> clear v
      .refine rs env_ok <| rl rfl <| dwp_ret <| inB_r <| inB_r ?_
       obtain ⟨b8, x, rfl⟩ := mps w; clear w
       refine lpt ?_
       obtain ⟨b9, bl, rfl⟩ := mps x; clear x
       refine lpt <| inB_r <| thenD_r <| sc_r ?_
       cases bl
       exact er rfl Le.rfl
      .refine rs env_ok <| rl rfl ?_
       refine cd rfl y (fun z => ?_) (fun ad => ?_) <;> clear y
       .refine dwp_seq <| rs env_ok <| rl rfl ?_
        refine cd rfl z (fun aa => ?_) (fun bn => ?_) <;> clear z
        .refine rs env_ok <| rl rfl <| dwp_ret <| thenD_r <| inB_r <| inB_r ?_
         obtain ⟨ca, ac, rfl⟩ := mps aa; clear aa
         refine lpt ?_
         obtain ⟨cb, bm, rfl⟩ := mps ac; clear ac
         refine lpt <| inB_r <| thenD_r <| sc_r ?_
         cases bm
         exact er rfl Le.rfl
        .refine dwp_skip <| thenD_n <| dwp_exit <| inB_y rfl <| inB_x ?_
         cases bn
         exact lpn (wf hA [(0, 0)] rfl rfl rfl)
       .refine jb (fun j : Bool => ⟨112, [(1, .lpb 0 0), (54, ls 3 elemC b.elems), (55, li (b.elems.length : Int)), (56, li c), (78, lb j)], [(0, .box [ls 3 elemC b.elems, ls 4 joinC b.joins, ls 4 signalC b.signals, ls 2 lineC b.lines, li b.top, li b.brake, li b.margin, li b.throw, lb b.hard])], 1⟩) ad (fun j ae => ?_) (fun j af => ?_) <;> clear ad
        .refine rg env_ok <| rn 4 rfl ?_
         refine gs 82 ae rfl rfl rfl (fun bp => ?_) (fun bq => ?_) <;> clear ae
         .refine rl rfl ?_
          cases bp
          exact npn (wf hA [(0, 0)] rfl rfl rfl)
         .refine rl rfl ?_
          cases bq
          exact npn (wf hA [(0, 0)] rfl rfl rfl)
        .refine cd rfl af (fun ag => ?_) (fun bs => ?_) <;> clear af
         .refine rs env_ok <| rl rfl <| dwp_ret <| inB_r <| inB_r ?_
          obtain ⟨cc, ah, rfl⟩ := mps ag; clear ag
          refine lpt ?_
          obtain ⟨ce, br, rfl⟩ := mps ah; clear ah
          refine lpt <| inB_r <| thenD_r <| sc_r ?_
          cases br
          exact er rfl Le.rfl
         .refine dwp_skip <| inB_n <| inB_n ?_
          cases bs
          exact lpn (wf hA [(0, 0)] rfl rfl rfl)
    .intro b7 bt
     refine rg env_ok <| rl rfl ?_
     cases bt
     exact lpn (wf hA [(0, 0)] rfl rfl rfl)
   .refine dwp_exit <| thenD_x ?_
    obtain ⟨a6, ak, rfl⟩ := mp aj; clear aj
    refine lpx <| inB_x <| thenD_n <| dwp_seq <| rs env_ok <| rn 2 rfl ?_
    refine sx rfl (o_len rfl rfl ?_)
    refine rl rfl <| dwp_block ?_
    apply lp (a := a6) (fun a4 : Int => ⟨112, [(1, .lpb 0 0), (89, ls 4 signalC b.signals), (90, li (b.signals.length : Int)), (91, li a4)], [(0, .box [ls 3 elemC b.elems, ls 4 joinC b.joins, ls 4 signalC b.signals, ls 2 lineC b.lines, li b.top, li b.brake, li b.margin, li b.throw, lb b.hard])], 1⟩) ak <;> clear ak
    . exact wf hA [(0, 0)] rfl rfl rfl
    intro a4 cj e
    unfold q_33 at e
    refine rs env_ok <| rl rfl <| dwp_seq ?_
    refine cd rfl e (fun ar => ?_) (fun ax => ?_) <;> clear e
    .refine dwp_skip <| thenD_n <| dwp_seq <| dwp_block <| rs env_ok ?_
     obtain ⟨cn, bc, au⟩ := bd ar; clear ar
     refine sx rfl (o_idx bc rfl rfl rfl ?_)
     refine rl rfl <| rs env_ok <| rn 2 rfl ?_
     obtain ⟨co, be, av⟩ := bd au; clear au
     refine sx rfl (o_call (w_56 _ _ be) (.inl rfl) rfl rfl rfl ?_)
     refine rl rfl ?_
     refine cd rfl av (fun aw => ?_) (fun b3 => ?_) <;> clear av
     .refine rs env_ok <| rl rfl <| dwp_ret <| inB_r <| thenD_r ?_
      obtain ⟨cf, b2, rfl⟩ := mps aw; clear aw
      refine lpt <| inB_r <| thenD_r <| sc_r ?_
      cases b2
      exact er rfl Le.rfl
     .refine dwp_skip <| inB_n <| thenD_n <| rg env_ok <| rl rfl ?_
      cases b3
      exact lpn (wf hA [(0, 0)] rfl rfl rfl)
    .refine dwp_exit <| thenD_x ?_
     obtain ⟨a7, ay, rfl⟩ := mp ax; clear ax
     refine lpx <| inB_x <| thenD_n <| dwp_seq <| rs env_ok <| rn 2 rfl ?_
     refine sx rfl (o_len rfl rfl ?_)
     refine rl rfl <| dwp_block ?_
     apply lp (a := a7) (fun a5 : Int => ⟨112, [(101, ls 2 lineC b.lines), (102, li (b.lines.length : Int)), (103, li a5)], [], 0⟩) ay <;> clear ay
     . exact wf hA [] rfl rfl rfl
     intro a5 ck f
     unfold q_32 at f
     refine rs env_ok <| rl rfl <| dwp_seq ?_
     refine cd rfl f (fun az => ?_) (fun a3 => ?_) <;> clear f
     .refine dwp_skip <| thenD_n <| dwp_seq <| dwp_block <| rs env_ok ?_
      obtain ⟨cp, bf, a0⟩ := bd az; clear az
      refine sx rfl (o_idx bf rfl rfl rfl ?_)
      refine rl rfl <| rs env_ok <| rn 2 rfl ?_
      obtain ⟨cq, bg, a1⟩ := bd a0; clear a0
      refine sx rfl (o_call (w_56 _ _ bg) (.inl rfl) rfl rfl rfl ?_)
      refine rl rfl ?_
      refine cd rfl a1 (fun a2 => ?_) (fun b5 => ?_) <;> clear a1
      .refine rs env_ok <| rl rfl <| dwp_ret <| inB_r <| thenD_r ?_
       obtain ⟨cg, b4, rfl⟩ := mps a2; clear a2
       refine lpt <| inB_r <| thenD_r <| sc_r ?_
       cases b4
       exact er rfl Le.rfl
      .refine dwp_skip <| inB_n <| thenD_n <| rg env_ok <| rl rfl ?_
       cases b5
       exact lpn (wf hA [] rfl rfl rfl)
     .refine dwp_exit <| thenD_x ?_
      obtain ⟨ch, b6, rfl⟩ := mps a3; clear a3
      refine lpx <| inB_x <| thenD_n <| rs env_ok <| rl rfl <| dwp_ret <| sc_r ?_
      cases b6
      exact er rfl Le.rfl
end Go.E
/- Plain functions, and walks in step with them. Written by a program (gen.py). No condition. -/
set_option maxRecDepth 100000
namespace Go.E
open Go Go.RowKit Go.Proofs
noncomputable def q_1f (a : Int) (b : Plan) : Option ByteArray :=
 (idx b.elems a).bind fun c => some c.name
theorem w_61 (a : Int) (b : Plan) (r : ByteArray) (h : q_1f a b = some r) : Fun Tryz.prog 163 [.int .i64 a, .place (planC b) 0] (· = .str r) := by
 refine fn env_ok Tryz.func163 rfl rfl 10 rfl [.tmp 3] rfl [(0, .p (.int .i64 a)), (1, .p (.place (planC b) 0))] rfl rfl fun A hA => ?_
 unfold q_1f at h
 refine rs env_ok <| rl rfl <| rs env_ok <| rn 3 rfl ?_
 obtain ⟨e, c, d⟩ := bd h; clear h
 refine sx rfl (o_idx c rfl rfl rfl ?_)
 refine rl rfl <| dwp_ret ?_
 cases d
 exact er rfl Le.rfl
noncomputable def q_1g (a : Int) (b : Plan) : Option ByteArray :=
 (idx b.signals a).bind fun c => some c.name
theorem w_62 (a : Int) (b : Plan) (r : ByteArray) (h : q_1g a b = some r) : Fun Tryz.prog 164 [.int .i64 a, .place (planC b) 0] (· = .str r) := by
 refine fn env_ok Tryz.func164 rfl rfl 10 rfl [.tmp 3] rfl [(0, .p (.int .i64 a)), (1, .p (.place (planC b) 0))] rfl rfl fun A hA => ?_
 unfold q_1g at h
 refine rs env_ok <| rl rfl <| rs env_ok <| rn 3 rfl ?_
 obtain ⟨e, c, d⟩ := bd h; clear h
 refine sx rfl (o_idx c rfl rfl rfl ?_)
 refine rl rfl <| dwp_ret ?_
 cases d
 exact er rfl Le.rfl
noncomputable def q_1h (a : Int) (b : Plan) : Option ByteArray :=
 (idx b.lines a).bind fun c => some c.name
theorem w_63 (a : Int) (b : Plan) (r : ByteArray) (h : q_1h a b = some r) : Fun Tryz.prog 165 [.int .i64 a, .place (planC b) 0] (· = .str r) := by
 refine fn env_ok Tryz.func165 rfl rfl 10 rfl [.tmp 3] rfl [(0, .p (.int .i64 a)), (1, .p (.place (planC b) 0))] rfl rfl fun A hA => ?_
 unfold q_1h at h
 refine rs env_ok <| rl rfl <| rs env_ok <| rn 3 rfl ?_
 obtain ⟨e, c, d⟩ := bd h; clear h
 refine sx rfl (o_idx c rfl rfl rfl ?_)
 refine rl rfl <| dwp_ret ?_
 cases d
 exact er rfl Le.rfl
noncomputable def q_1p (b : Plan) (a : Port) : Option Bool :=
 ((bif decide (0 <= a.elem) then bif decide (a.elem < (b.elems.length : Int)) then bif decide (0 <= a.fin) then (idx b.elems a.elem).bind fun d => (q_1o d.kind).bind fun e => some (decide (a.fin < e)) else some false else some false else some false : Option (Bool))).bind fun (c : Bool) => some c
theorem w_58 (b : Plan) (c : Port) (r : Bool) (h : q_1p b c = some r) : Fun Tryz.prog 199 [.agg (planC b), .agg (portC c)] (· = .bool r) := by
 refine fn env_ok Tryz.func199 rfl rfl 34 rfl [.tmp 4] rfl [(0, .p (.agg (planC b))), (1, .p (.agg (portC c)))] rfl rfl fun A hA => ?_
 unfold q_1p at h
 refine rs env_ok <| rl rfl ?_
 refine jb (fun a : Bool => ⟨34, [(4, lb a)], [], 0⟩) h (fun a d => ?_) (fun a q => ?_) <;> clear h
 .refine rgd env_ok mixed [0, 1, 2, 3, 4, 5, 6, 7, 8, 9, 10, 11, 12, 13, 14, 15, 16, 17, 18, 19, 20, 21, 22, 23, 24, 25, 26, 27, 28, 29] 30 (by kernel_rfl) rfl rfl rfl ?_
  refine rnD 4 rfl ?_
  refine gsD 8 d rfl rfl rfl (fun e => ?_) (fun o => ?_) <;> clear d
  .refine rnD 4 rfl ?_
   refine sxD rfl (o_lenD rfl rfl ?_)
   refine rnD 3 rfl ?_
   refine gsD 16 e rfl rfl rfl (fun f => ?_) (fun n => ?_) <;> clear e
   .refine rnD 5 rfl ?_
    refine gsD 21 f rfl rfl rfl (fun g => ?_) (fun m => ?_) <;> clear f
    .refine rnD 6 rfl ?_
     obtain ⟨s, j, i⟩ := bd g; clear g
     refine sxD rfl (opD_plain rfl (o_idx j rfl rfl rfl ?_))
     refine rnD 2 rfl ?_
     obtain ⟨t, k, l⟩ := bd i; clear i
     refine sxD rfl (o_callD (w_57 _ _ k) (.inl rfl) rfl rfl rfl ?_)
     refine rlD rfl ?_
     cases l
     exact npn (wf hA [] rfl rfl rfl)
    .refine rlD rfl ?_
     cases m
     exact npn (wf hA [] rfl rfl rfl)
   .refine rlD rfl ?_
    cases n
    exact npn (wf hA [] rfl rfl rfl)
  .refine rlD rfl ?_
   cases o
   exact npn (wf hA [] rfl rfl rfl)
 .refine dwp_ret ?_
  have hr := Option.some.inj q; subst hr
  exact er rfl Le.rfl
noncomputable def q_41 (c : Plan) (b : (Int × (List (Port × Port)))) (a : Int) : Option (Int ⊕ ((List (Port × Port)) × Bool)) :=
 bif decide (a < (c.elems.length : Int)) then seqR (((idx c.elems a).bind fun e => bif (e.kind != 4) then some (.inl ()) else ((bif (!(assoc b.2 (⟨a, 0⟩ : Port)).isSome) then some true else (idx c.elems (((assoc b.2 (⟨a, 0⟩ : Port)).getD (⟨0, 0⟩ : Port)).elem)).bind fun f => some (f.kind == 4) : Option (Bool))).bind fun (d : Bool) => bif d then some (.inr (.inr ([], false))) else some (.inl ()) : Option (Unit ⊕ (Int ⊕ ((List (Port × Port)) × Bool))))) fun (g : Unit) => some (.inl (wi64 (a + 1))) else some (.inr (b.2, true))
noncomputable def q_42 (e : Plan) (d : Int × (List (Port × Port))) : Option ((Int × (List (Port × Port))) ⊕ ((List (Port × Port)) × Bool)) :=
 bif decide (d.1 < (e.joins.length : Int)) then (idx e.joins d.1).bind fun c => ((bif (assoc d.2 c.a).isSome then some true else bif (assoc d.2 c.b).isSome then some true else bif (c.a == c.b) then some true else (q_1p e c.a).bind fun g => bif (!g) then some true else (q_1p e c.b).bind fun h => some (!h) : Option (Bool))).bind fun (f : Bool) => bif f then some (.inr ([], false)) else some (.inl (wi64 (d.1 + 1), aput c.b c.a (aput c.a c.b d.2))) else (loopR (q_41 e d) 0).map .inr
noncomputable def q_2z (a : Plan) : Option ((List (Port × Port)) × Bool) :=
 loopR (q_42 a) (0, [])
theorem w_96 (c : Plan) (r : ((List (Port × Port)) × Bool)) (h : q_2z c = some r) : Fun Tryz.prog 166 [.agg (planC c)] (· = .tup [.map (mapD (fun x => .agg (portC x)) (fun x => .agg (portC x)) r.1), .bool r.2]) := by
 refine fn env_ok Tryz.func166 rfl rfl 105 rfl [.tmp 2, .tmp 3] rfl [(0, .p (.agg (planC c)))] rfl rfl fun A hA => ?_
 unfold q_2z at h
 refine rs env_ok <| rl rfl <| rs env_ok <| rl rfl <| dwp_seq <| rs env_ok <| rn 2 rfl ?_
 refine sx rfl (o_len rfl rfl ?_)
 refine rl rfl <| dwp_block ?_
 apply lp (a := r) (fun e : (Int × (List (Port × Port))) => ⟨105, [(1, .lpb 0 0), (4, .lmap 1), (17, ls 4 joinC c.joins), (18, li (c.joins.length : Int)), (19, li e.1)], [(0, .box [ls 3 elemC c.elems, ls 4 joinC c.joins, ls 4 signalC c.signals, ls 2 lineC c.lines, li c.top, li c.brake, li c.margin, li c.throw, lb c.hard]), (1, .map (mapD (fun x => .agg (portC x)) (fun x => .agg (portC x)) e.2))], 2⟩) h <;> clear h
 . exact wf hA [(0, 0), (1, 1)] rfl rfl rfl
 intro e bg i
 unfold q_42 at i
 refine rs env_ok <| rl rfl <| dwp_seq ?_
 refine cd rfl i (fun aa => ?_) (fun ak => ?_) <;> clear i
 .refine dwp_skip <| thenD_n <| dwp_seq <| dwp_block <| rs env_ok ?_
  obtain ⟨d, aq, ab⟩ := bd aa; clear aa
  refine sx rfl (o_idx aq rfl rfl rfl ?_)
  refine rl rfl <| rs env_ok <| rn 3 rfl ?_
  refine sx rfl (o_lk2 (et := 96) (ke := (fun x => .agg (portC x))) (ve := (fun x => .agg (portC x))) (mp := e.2) (y := d.a) (⟨0, 0⟩ : Port) keyE_96 rfl rfl rfl rfl ?_)
  refine rl rfl <| rs env_ok <| rn 3 rfl ?_
  refine sx rfl (o_lk2 (et := 96) (ke := (fun x => .agg (portC x))) (ve := (fun x => .agg (portC x))) (mp := e.2) (y := d.b) (⟨0, 0⟩ : Port) keyE_96 rfl rfl rfl rfl ?_)
  refine rl rfl <| dwp_seq ?_
  refine jb (fun k : Bool => ⟨105, [(1, .lpb 0 0), (4, .lmap 1), (6, .lpb 2 0), (17, ls 4 joinC c.joins), (18, li (c.joins.length : Int)), (19, li e.1), (61, lb k)], [(0, .box [ls 3 elemC c.elems, ls 4 joinC c.joins, ls 4 signalC c.signals, ls 2 lineC c.lines, li c.top, li c.brake, li c.margin, li c.throw, lb c.hard]), (1, .map (mapD (fun x => .agg (portC x)) (fun x => .agg (portC x)) e.2)), (2, .box [li d.a.elem, li d.a.fin, li d.b.elem, li d.b.fin])], 3⟩) ab (fun k ac => ?_) (fun k ai => ?_) <;> clear ab
  .refine rg env_ok <| rn 2 rfl ?_
   refine gs 38 ac rfl rfl rfl (fun a2 => ?_) (fun ad => ?_) <;> clear ac
   .refine rl rfl ?_
    cases a2
    exact npn (wf hA (gi 3 []) rfl rfl rfl)
   .refine rn 3 rfl ?_
    refine gs 41 ad rfl rfl rfl (fun a3 => ?_) (fun ae => ?_) <;> clear ad
    .refine rl rfl ?_
     cases a3
     exact npn (wf hA (gi 3 []) rfl rfl rfl)
    .refine rn 4 rfl ?_
     refine sx rfl (o_eqA (eqE_Port d.a d.b) rfl rfl rfl rfl rfl ?_)
     refine rn 2 rfl ?_
     refine gs 48 ae rfl rfl rfl (fun a4 => ?_) (fun af => ?_) <;> clear ae
     .refine rl rfl ?_
      cases a4
      exact npn (wf hA (gi 3 []) rfl rfl rfl)
     .refine rn 3 rfl ?_
      obtain ⟨bj, ar, ag⟩ := bd af; clear af
      refine sx rfl (o_call (w_58 _ _ _ ar) (.inl rfl) rfl rfl rfl ?_)
      refine rn 3 rfl ?_
      refine gs 55 ag rfl rfl rfl (fun a5 => ?_) (fun ah => ?_) <;> clear ag
      .refine rl rfl ?_
       cases a5
       exact npn (wf hA (gi 3 []) rfl rfl rfl)
      .refine rn 3 rfl ?_
       obtain ⟨bk, au, a6⟩ := bd ah; clear ah
       refine sx rfl (o_call (w_58 _ _ _ au) (.inl rfl) rfl rfl rfl ?_)
       refine rl rfl ?_
       cases a6
       exact npn (wf hA (gi 3 []) rfl rfl rfl)
  .refine cd rfl ai (fun aj => ?_) (fun a8 => ?_) <;> clear ai
   .refine rs env_ok <| rl rfl <| dwp_ret <| thenD_r <| inB_r <| thenD_r ?_
    obtain ⟨be, a7, rfl⟩ := mps aj; clear aj
    refine lpt <| inB_r <| thenD_r ?_
    cases a7
    exact er rfl (Le.tup' (.cons Le.nilm (.cons Le.rfl .nil)))
   .refine dwp_skip <| thenD_n ?_
    refine rgd env_ok mixed [0, 1, 2, 3, 4, 5, 6, 7, 8, 9, 10, 11] 12 (by kernel_rfl) rfl rfl rfl ?_
    refine rnD 10 rfl ?_
    refine sxD rfl (opD_plain rfl (o_mup (et := 96) (ke := (fun x => .agg (portC x))) (ve := (fun x => .agg (portC x))) (mp := e.2) (y := d.a) (z := d.b) keyE_96 rfl rfl rfl rfl rfl rfl ?_))
    refine sxD rfl (opD_plain rfl (o_mup (et := 96) (ke := (fun x => .agg (portC x))) (ve := (fun x => .agg (portC x))) (mp := aput d.a d.b e.2) (y := d.b) (z := d.a) keyE_96 rfl rfl rfl rfl rfl rfl ?_))
    refine rlD rfl <| inB_n <| thenD_n <| rg env_ok <| rl rfl ?_
    cases a8
    exact lpn (wf hA [(0, 0), (1, 1)] rfl rfl rfl)
 .refine dwp_exit <| thenD_x ?_
  obtain ⟨am, al, rfl⟩ := mp ak; clear ak
  refine lpx <| inB_x <| thenD_n <| dwp_seq <| rs env_ok <| rn 2 rfl ?_
  refine sx rfl (o_len rfl rfl ?_)
  refine rl rfl <| dwp_block ?_
  apply lp (a := am) (fun f : Int => ⟨105, [(1, .lpb 0 0), (4, .lmap 1), (74, ls 3 elemC c.elems), (75, li (c.elems.length : Int)), (76, li f)], [(0, .box [ls 3 elemC c.elems, ls 4 joinC c.joins, ls 4 signalC c.signals, ls 2 lineC c.lines, li c.top, li c.brake, li c.margin, li c.throw, lb c.hard]), (1, .map (mapD (fun x => .agg (portC x)) (fun x => .agg (portC x)) e.2))], 2⟩) al <;> clear al
  . exact wf hA [(0, 0), (1, 1)] rfl rfl rfl
  intro f an g
  unfold q_41 at g
  refine rs env_ok <| rl rfl <| dwp_seq ?_
  refine cd rfl g (fun l => ?_) (fun w => ?_) <;> clear g
  .refine dwp_skip <| thenD_n ?_
   apply jn (a := an) (fun a9 : Unit => ⟨105, [(1, .lpb 0 0), (4, .lmap 1), (74, ls 3 elemC c.elems), (75, li (c.elems.length : Int)), (76, li f)], [(0, .box [ls 3 elemC c.elems, ls 4 joinC c.joins, ls 4 signalC c.signals, ls 2 lineC c.lines, li c.top, li c.brake, li c.margin, li c.throw, lb c.hard]), (1, .map (mapD (fun x => .agg (portC x)) (fun x => .agg (portC x)) e.2))], 2⟩) l <;> clear l
   .intro bf m
    refine dwp_block <| rs env_ok <| rn 1 rfl ?_
    obtain ⟨bh, ao, n⟩ := bd m; clear m
    refine sx rfl (o_idx ao rfl rfl rfl ?_)
    refine rl rfl <| dwp_seq <| rs env_ok <| rl rfl ?_
    refine cd rfl n (fun av => ?_) (fun o => ?_) <;> clear n
    .refine dwp_exit <| thenD_x <| inB_x ?_
     cases av
     exact lpn (wf hA [(0, 0), (1, 1)] rfl rfl rfl)
    .refine dwp_skip <| thenD_n <| rs env_ok <| rn 3 rfl ?_
     refine sx rfl (o_lk2 (et := 96) (ke := (fun x => .agg (portC x))) (ve := (fun x => .agg (portC x))) (mp := e.2) (y := (⟨f, 0⟩ : Port)) (⟨0, 0⟩ : Port) keyE_96 rfl rfl rfl rfl ?_)
     refine rl rfl ?_
     refine jb (fun j : Bool => ⟨105, [(1, .lpb 0 0), (4, .lmap 1), (74, ls 3 elemC c.elems), (75, li (c.elems.length : Int)), (76, li f), (102, lb j)], [(0, .box [ls 3 elemC c.elems, ls 4 joinC c.joins, ls 4 signalC c.signals, ls 2 lineC c.lines, li c.top, li c.brake, li c.margin, li c.throw, lb c.hard]), (1, .map (mapD (fun x => .agg (portC x)) (fun x => .agg (portC x)) e.2))], 2⟩) o (fun j q => ?_) (fun j t => ?_) <;> clear o
     .refine rg env_ok <| rn 3 rfl ?_
      refine gs 93 q rfl rfl rfl (fun aw => ?_) (fun s => ?_) <;> clear q
      .refine rl rfl ?_
       cases aw
       exact npn (wf hA [(0, 0), (1, 1)] rfl rfl rfl)
      .refine rn 4 rfl ?_
       obtain ⟨bi, ap, ax⟩ := bd s; clear s
       refine sx rfl (o_idx ap rfl rfl rfl ?_)
       refine rl rfl ?_
       cases ax
       exact npn (wf hA [(0, 0), (1, 1)] rfl rfl rfl)
     .refine cd rfl t (fun u => ?_) (fun az => ?_) <;> clear t
      .refine rs env_ok <| rl rfl <| dwp_ret <| inB_r ?_
       obtain ⟨ba, v, rfl⟩ := mps u; clear u
       refine lpt ?_
       obtain ⟨bb, ay, rfl⟩ := mps v; clear v
       refine lpt <| inB_r <| thenD_r ?_
       cases ay
       exact er rfl (Le.tup' (.cons Le.nilm (.cons Le.rfl .nil)))
      .refine dwp_skip <| inB_n ?_
       cases az
       exact lpn (wf hA [(0, 0), (1, 1)] rfl rfl rfl)
   .intro a9 a0
    refine rg env_ok <| rl rfl ?_
    cases a0
    exact lpn (wf hA [(0, 0), (1, 1)] rfl rfl rfl)
  .refine dwp_exit <| thenD_x ?_
   obtain ⟨bc, a1, rfl⟩ := mps w; clear w
   refine lpx <| inB_x <| thenD_n <| rs env_ok <| rl rfl <| dwp_ret ?_
   cases a1
   exact er (rdN rfl (.cons (.one (.map rfl)) (.cons (.one (.p _)) .nil))) Le.rfl
noncomputable def q_35 (b : Plan) (c : (Int × (List (Port × Bool)))) (a : Int) : Option (Int ⊕ Bool) :=
 bif decide (a < (b.elems.length : Int)) then (idx b.elems a).bind fun e => ((bif (e.kind == 4) then some (!((assoc c.2 (⟨a, 0⟩ : Port)).getD false)) else some false : Option (Bool))).bind fun (d : Bool) => bif d then some (.inr false) else some (.inl (wi64 (a + 1))) else some (.inr true)
noncomputable def q_36 (b : Plan) (d : (List (Port × Port))) (a : Int × (List (Port × Bool))) : Option ((Int × (List (Port × Bool))) ⊕ Bool) :=
 bif decide (a.1 < (b.signals.length : Int)) then (idx b.signals a.1).bind fun c => (((q_1p b c.at_).bind fun j => bif (!j) then some true else some ((assoc a.2 c.at_).getD false) : Option (Bool))).bind fun (g : Bool) => bif g then some (.inr false) else (idx b.elems c.at_.elem).bind fun e => ((bif (e.kind != 1) then some (e.kind != 4) else some false : Option (Bool))).bind fun (h : Bool) => bif h then some (.inr false) else ((bif (!(assoc d c.at_).isSome) then some true else (idx b.elems (((assoc d c.at_).getD (⟨0, 0⟩ : Port)).elem)).bind fun i => some (i.kind == 4) : Option (Bool))).bind fun (f : Bool) => bif f then some (.inr false) else some (.inl (wi64 (a.1 + 1), aput c.at_ true a.2)) else (loopR (q_35 b a) 0).map .inr
noncomputable def q_27 (a : Plan) (b : (List (Port × Port))) : Option Bool :=
 loopR (q_36 a b) (0, [])
theorem w_8t (b : Plan) (e : (List (Port × Port))) (r : Bool) (h : q_27 b e = some r) : Fun Tryz.prog 167 [.agg (planC b), .map (mapD (fun x => .agg (portC x)) (fun x => .agg (portC x)) e)] (· = .bool r) := by
 refine fn env_ok Tryz.func167 rfl rfl 88 rfl [.tmp 4] rfl [(0, .p (.agg (planC b))), (1, .p (.map (mapD (fun x => .agg (portC x)) (fun x => .agg (portC x)) e)))] rfl rfl fun A hA => ?_
 unfold q_27 at h
 refine rs env_ok <| rl rfl <| rs env_ok <| rl rfl <| dwp_seq <| rs env_ok <| rn 2 rfl ?_
 refine sx rfl (o_len rfl rfl ?_)
 refine rl rfl <| dwp_block ?_
 apply lp (a := r) (fun d : (Int × (List (Port × Bool))) => ⟨88, [(1, .p (.map (mapD (fun x => .agg (portC x)) (fun x => .agg (portC x)) e))), (2, .lpb 0 0), (5, .lmap 1), (15, ls 4 signalC b.signals), (16, li (b.signals.length : Int)), (17, li d.1)], [(0, .box [ls 3 elemC b.elems, ls 4 joinC b.joins, ls 4 signalC b.signals, ls 2 lineC b.lines, li b.top, li b.brake, li b.margin, li b.throw, lb b.hard]), (1, .map (mapD (fun x => .agg (portC x)) .bool d.2))], 2⟩) h <;> clear h
 . exact wf hA [(0, 0), (1, 1)] rfl rfl rfl
 intro d bk i
 unfold q_36 at i
 refine rs env_ok <| rl rfl <| dwp_seq ?_
 refine cd rfl i (fun ae => ?_) (fun t => ?_) <;> clear i
 .refine dwp_skip <| thenD_n <| dwp_seq <| dwp_block <| rs env_ok ?_
  obtain ⟨c, av, af⟩ := bd ae; clear ae
  refine sx rfl (o_idx av rfl rfl rfl ?_)
  refine rl rfl <| dwp_seq ?_
  refine jb (fun l : Bool => ⟨88, [(1, .p (.map (mapD (fun x => .agg (portC x)) (fun x => .agg (portC x)) e))), (2, .lpb 0 0), (5, .lmap 1), (7, .lpb 2 0), (15, ls 4 signalC b.signals), (16, li (b.signals.length : Int)), (17, li d.1), (31, lb l)], [(0, .box [ls 3 elemC b.elems, ls 4 joinC b.joins, ls 4 signalC b.signals, ls 2 lineC b.lines, li b.top, li b.brake, li b.margin, li b.throw, lb b.hard]), (1, .map (mapD (fun x => .agg (portC x)) .bool d.2)), (2, .box [.p (.str c.name), li c.at_.elem, li c.at_.fin, lb c.auto])], 3⟩) af (fun l ag => ?_) (fun l ai => ?_) <;> clear af
  .refine rg env_ok <| rn 3 rfl ?_
   obtain ⟨bn, aw, ah⟩ := bd ag; clear ag
   refine sx rfl (o_call (w_58 _ _ _ aw) (.inl rfl) rfl rfl rfl ?_)
   refine rn 2 rfl ?_
   refine gs 26 ah rfl rfl rfl (fun a7 => ?_) (fun a8 => ?_) <;> clear ah
   .refine rl rfl ?_
    cases a7
    exact npn (wf hA (gi 3 []) rfl rfl rfl)
   .refine rn 3 rfl ?_
    refine sx rfl (o_lk1 (et := 4) (ke := (fun x => .agg (portC x))) (ve := .bool) (mp := d.2) (y := c.at_) false keyE_96 rfl rfl rfl rfl ?_)
    refine rl rfl ?_
    cases a8
    exact npn (wf hA (gi 3 []) rfl rfl rfl)
  .refine cd rfl ai (fun aj => ?_) (fun ak => ?_) <;> clear ai
   .refine rs env_ok <| rl rfl <| dwp_ret <| thenD_r <| inB_r <| thenD_r ?_
    obtain ⟨bh, a9, rfl⟩ := mps aj; clear aj
    refine lpt <| inB_r <| thenD_r ?_
    cases a9
    exact er rfl Le.rfl
   .refine dwp_skip <| thenD_n <| dwp_seq <| rs env_ok <| rn 5 rfl ?_
    obtain ⟨bo, ax, al⟩ := bd ak; clear ak
    refine sx rfl (o_idx ax rfl rfl rfl ?_)
    refine rl rfl ?_
    refine jb (fun m : Bool => ⟨88, [(1, .p (.map (mapD (fun x => .agg (portC x)) (fun x => .agg (portC x)) e))), (2, .lpb 0 0), (5, .lmap 1), (7, .lpb 2 0), (15, ls 4 signalC b.signals), (16, li (b.signals.length : Int)), (17, li d.1), (45, lb m)], [(0, .box [ls 3 elemC b.elems, ls 4 joinC b.joins, ls 4 signalC b.signals, ls 2 lineC b.lines, li b.top, li b.brake, li b.margin, li b.throw, lb b.hard]), (1, .map (mapD (fun x => .agg (portC x)) .bool d.2)), (2, .box [.p (.str c.name), li c.at_.elem, li c.at_.fin, lb c.auto])], 3⟩) al (fun m am => ?_) (fun m an => ?_) <;> clear al
    .refine rg env_ok <| rn 3 rfl ?_
     refine gs 42 am rfl rfl rfl (fun ba => ?_) (fun bb => ?_) <;> clear am
     .refine rl rfl ?_
      cases ba
      exact npn (wf hA (gi 3 []) rfl rfl rfl)
     .refine rl rfl ?_
      cases bb
      exact npn (wf hA (gi 3 []) rfl rfl rfl)
    .refine cd rfl an (fun ao => ?_) (fun ap => ?_) <;> clear an
     .refine rs env_ok <| rl rfl <| dwp_ret <| thenD_r <| inB_r <| thenD_r ?_
      obtain ⟨bi, bc, rfl⟩ := mps ao; clear ao
      refine lpt <| inB_r <| thenD_r ?_
      cases bc
      exact er rfl Le.rfl
     .refine dwp_skip <| thenD_n <| rs env_ok <| rn 3 rfl ?_
      refine sx rfl (o_lk2 (et := 96) (ke := (fun x => .agg (portC x))) (ve := (fun x => .agg (portC x))) (mp := e) (y := c.at_) (⟨0, 0⟩ : Port) keyE_96 rfl rfl rfl rfl ?_)
      refine rl rfl <| dwp_seq ?_
      refine jb (fun j : Bool => ⟨88, [(1, .p (.map (mapD (fun x => .agg (portC x)) (fun x => .agg (portC x)) e))), (2, .lpb 0 0), (5, .lmap 1), (7, .lpb 2 0), (15, ls 4 signalC b.signals), (16, li (b.signals.length : Int)), (17, li d.1), (64, lb j)], [(0, .box [ls 3 elemC b.elems, ls 4 joinC b.joins, ls 4 signalC b.signals, ls 2 lineC b.lines, li b.top, li b.brake, li b.margin, li b.throw, lb b.hard]), (1, .map (mapD (fun x => .agg (portC x)) .bool d.2)), (2, .box [.p (.str c.name), li c.at_.elem, li c.at_.fin, lb c.auto])], 3⟩) ap (fun j n => ?_) (fun j q => ?_) <;> clear ap
      .refine rg env_ok <| rn 3 rfl ?_
       refine gs 55 n rfl rfl rfl (fun ay => ?_) (fun o => ?_) <;> clear n
       .refine rl rfl ?_
        cases ay
        exact npn (wf hA (gi 3 []) rfl rfl rfl)
       .refine rn 4 rfl ?_
        obtain ⟨bl, ar, az⟩ := bd o; clear o
        refine sx rfl (o_idx ar rfl rfl rfl ?_)
        refine rl rfl ?_
        cases az
        exact npn (wf hA (gi 3 []) rfl rfl rfl)
      .refine cd rfl q (fun s => ?_) (fun a1 => ?_) <;> clear q
       .refine rs env_ok <| rl rfl <| dwp_ret <| thenD_r <| inB_r <| thenD_r ?_
        obtain ⟨be, a0, rfl⟩ := mps s; clear s
        refine lpt <| inB_r <| thenD_r ?_
        cases a0
        exact er rfl Le.rfl
       .refine dwp_skip <| thenD_n <| rg env_ok <| rn 3 rfl ?_
        refine sx rfl (o_mup (et := 4) (ke := (fun x => .agg (portC x))) (ve := .bool) (mp := d.2) (y := c.at_) (z := true) keyE_96 rfl rfl rfl rfl rfl rfl ?_)
        refine rl rfl <| inB_n <| thenD_n <| rg env_ok <| rl rfl ?_
        cases a1
        exact lpn (wf hA [(0, 0), (1, 1)] rfl rfl rfl)
 .refine dwp_exit <| thenD_x ?_
  obtain ⟨aq, u, rfl⟩ := mp t; clear t
  refine lpx <| inB_x <| thenD_n <| dwp_seq <| rs env_ok <| rn 2 rfl ?_
  refine sx rfl (o_len rfl rfl ?_)
  refine rl rfl <| dwp_block ?_
  apply lp (a := aq) (fun f : Int => ⟨88, [(5, .lmap 0), (70, ls 3 elemC b.elems), (71, li (b.elems.length : Int)), (72, li f)], [(0, .map (mapD (fun x => .agg (portC x)) .bool d.2))], 1⟩) u <;> clear u
  . exact wf hA [(0, 1)] rfl rfl rfl
  intro f bj g
  unfold q_35 at g
  refine rs env_ok <| rl rfl <| dwp_seq ?_
  refine cd rfl g (fun v => ?_) (fun ad => ?_) <;> clear g
  .refine dwp_skip <| thenD_n <| dwp_seq <| dwp_block <| rs env_ok <| rn 1 rfl ?_
   obtain ⟨bm, au, w⟩ := bd v; clear v
   refine sx rfl (o_idx au rfl rfl rfl ?_)
   refine rl rfl ?_
   refine jb (fun k : Bool => ⟨88, [(5, .lmap 0), (70, ls 3 elemC b.elems), (71, li (b.elems.length : Int)), (72, li f), (86, lb k)], [(0, .map (mapD (fun x => .agg (portC x)) .bool d.2))], 1⟩) w (fun k aa => ?_) (fun k ab => ?_) <;> clear w
   .refine rg env_ok <| rn 4 rfl ?_
    refine gs 80 aa rfl rfl rfl (fun a2 => ?_) (fun a3 => ?_) <;> clear aa
    .refine rn 3 rfl ?_
     refine sx rfl (o_lk1 (et := 4) (ke := (fun x => .agg (portC x))) (ve := .bool) (mp := d.2) (y := (⟨f, 0⟩ : Port)) false keyE_96 rfl rfl rfl rfl ?_)
     refine rl rfl ?_
     cases a2
     exact npn (wf hA [(0, 0)] rfl rfl rfl)
    .refine rl rfl ?_
     cases a3
     exact npn (wf hA [(0, 0)] rfl rfl rfl)
   .refine cd rfl ab (fun ac => ?_) (fun a5 => ?_) <;> clear ab
    .refine rs env_ok <| rl rfl <| dwp_ret <| inB_r <| thenD_r ?_
     obtain ⟨bf, a4, rfl⟩ := mps ac; clear ac
     refine lpt <| inB_r <| thenD_r ?_
     cases a4
     exact er rfl Le.rfl
    .refine dwp_skip <| inB_n <| thenD_n <| rg env_ok <| rl rfl ?_
     cases a5
     exact lpn (wf hA [(0, 0)] rfl rfl rfl)
  .refine dwp_exit <| thenD_x ?_
   obtain ⟨bg, a6, rfl⟩ := mps ad; clear ad
   refine lpx <| inB_x <| thenD_n <| rs env_ok <| rl rfl <| dwp_ret ?_
   cases a6
   exact er rfl Le.rfl
noncomputable def q_6x (b : (List Int)) (c : (List (Port × Port))) (a : Int × Int) : Option ((Int × Int) ⊕ Bool) :=
 bif decide (a.2 < (b.length : Int)) then (idx b (wi64 (a.2 - 1))).bind fun d => ((bif (!(assoc c (⟨d, a.1⟩ : Port)).isSome) then some true else (idx b a.2).bind fun f => some ((((assoc c (⟨d, a.1⟩ : Port)).getD (⟨0, 0⟩ : Port)).elem) != f) : Option (Bool))).bind fun (e : Bool) => bif e then some (.inr false) else some (.inl (wi64 (1 - (((assoc c (⟨d, a.1⟩ : Port)).getD (⟨0, 0⟩ : Port)).fin)), wi64 (a.2 + 1))) else some (.inr true)
noncomputable def q_6y (b : (List Int)) (c : (List (Port × Port))) (a : Int × Int) : Option ((Int × Int) ⊕ Bool) :=
 bif decide (0 <= a.2) then (((idx b 0).bind fun d => ((bif (assoc c (⟨d, a.2⟩ : Port)).isSome then (idx b 1).bind fun g => some ((((assoc c (⟨d, a.2⟩ : Port)).getD (⟨0, 0⟩ : Port)).elem) == g) else some false : Option (Bool))).bind fun (f : Bool) => bif f then some a.2 else some a.1 : Option (Int))).bind fun (e : Int) => some (.inl (e, wi64 (a.2 - 1))) else (bif decide (a.1 < 0) then some false else loopR (q_6x b c) (a.1, 1)).map .inr
noncomputable def q_6g (a : (List Int)) (b : (List (Port × Port))) : Option Bool :=
 bif decide ((a.length : Int) < 2) then some true else loopR (q_6y a b) ((-1), 1)
theorem w_a1 (c : (List Int)) (b : (List (Port × Port))) (r : Bool) (h : q_6g c b = some r) : Fun Tryz.prog 200 [.slice 1 (c.map intC), .map (mapD (fun x => .agg (portC x)) (fun x => .agg (portC x)) b)] (· = .bool r) := by
 refine fn env_ok Tryz.func200 rfl rfl 73 rfl [.tmp 4] rfl [(0, .p (.slice 1 (c.map intC))), (1, .p (.map (mapD (fun x => .agg (portC x)) (fun x => .agg (portC x)) b)))] rfl rfl fun A hA => ?_
 unfold q_6g at h
 refine rs env_ok <| rl rfl <| dwp_seq <| rs env_ok <| rn 1 rfl ?_
 refine sx rfl (o_len rfl rfl ?_)
 refine rl rfl ?_
 refine cd rfl h (fun au => ?_) (fun z => ?_) <;> clear h
 .refine rs env_ok <| rl rfl <| dwp_ret <| thenD_r ?_
  cases au
  exact er rfl Le.rfl
 .refine dwp_skip <| thenD_n <| rs env_ok <| rl rfl <| dwp_seq <| rs env_ok <| rl rfl <| dwp_block ?_
  apply lp (a := r) (fun d : (Int × Int) => ⟨73, [(0, ls 1 intC c), (1, .p (.map (mapD (fun x => .agg (portC x)) (fun x => .agg (portC x)) b))), (5, li d.1), (6, li d.2)], [], 0⟩) z <;> clear z
  . exact wf hA [] rfl rfl rfl
  intro d a3 f
  unfold q_6y at f
  refine dwp_seq <| rs env_ok <| rl rfl ?_
  refine cd rfl f (fun m => ?_) (fun u => ?_) <;> clear f
  .refine dwp_skip <| thenD_n ?_
   refine jb (fun i : Int => ⟨73, [(0, ls 1 intC c), (1, .p (.map (mapD (fun x => .agg (portC x)) (fun x => .agg (portC x)) b))), (5, li i), (6, li d.2)], [], 0⟩) m (fun i n => ?_) (fun i aq => ?_) <;> clear m
   .refine dwp_block <| rs env_ok <| rn 2 rfl ?_
    obtain ⟨a0, ai, o⟩ := bd n; clear n
    refine sx rfl (o_idx ai rfl rfl rfl ?_)
    refine rn 3 rfl ?_
    refine sx rfl (o_lk2 (et := 96) (ke := (fun x => .agg (portC x))) (ve := (fun x => .agg (portC x))) (mp := b) (y := (⟨a0, d.2⟩ : Port)) (⟨0, 0⟩ : Port) keyE_96 rfl rfl rfl rfl ?_)
    refine rl rfl ?_
    refine jb (fun j : Bool => ⟨73, [(0, ls 1 intC c), (1, .p (.map (mapD (fun x => .agg (portC x)) (fun x => .agg (portC x)) b))), (5, li d.1), (6, li d.2), (37, lb j)], [], 0⟩) o (fun j q => ?_) (fun j t => ?_) <;> clear o
    .refine rgd env_ok mixed [0, 1, 2, 3, 4, 5, 6, 7, 8] 9 (by kernel_rfl) rfl rfl rfl ?_
     refine rnD 2 rfl ?_
     refine gsD 30 q rfl rfl rfl (fun s => ?_) (fun an => ?_) <;> clear q
     .refine rnD 3 rfl ?_
      obtain ⟨a5, aj, am⟩ := bd s; clear s
      refine sxD rfl (opD_plain rfl (o_idx aj rfl rfl rfl ?_))
      refine rlD rfl ?_
      cases am
      exact npn (wf hA [] rfl rfl rfl)
     .refine rlD rfl ?_
      cases an
      exact npn (wf hA [] rfl rfl rfl)
    .refine cd rfl t (fun ao => ?_) (fun ap => ?_) <;> clear t
     .refine rg env_ok <| rl rfl <| inB_n ?_
      cases ao
      exact npn (wf hA [] rfl rfl rfl)
     .refine dwp_skip <| inB_n ?_
      cases ap
      exact npn (wf hA [] rfl rfl rfl)
   .refine rg env_ok <| rl rfl ?_
    cases aq
    exact lpn (wf hA [] rfl rfl rfl)
  .refine dwp_exit <| thenD_x ?_
   obtain ⟨ah, v, rfl⟩ := mp u; clear u
   refine lpx <| inB_x <| thenD_n <| dwp_seq <| rs env_ok <| rl rfl ?_
   refine cd rfl v (fun ar => ?_) (fun w => ?_) <;> clear v
   .refine rs env_ok <| rl rfl <| dwp_ret <| thenD_r ?_
    cases ar
    exact er rfl Le.rfl
   .refine dwp_skip <| thenD_n <| dwp_seq <| rs env_ok <| rl rfl <| dwp_block ?_
    apply lp (a := ah) (fun e : (Int × Int) => ⟨73, [(0, ls 1 intC c), (1, .p (.map (mapD (fun x => .agg (portC x)) (fun x => .agg (portC x)) b))), (5, li e.1), (9, li e.2)], [], 0⟩) w <;> clear w
    . exact wf hA [] rfl rfl rfl
    intro e a4 g
    unfold q_6x at g
    refine dwp_seq <| rs env_ok <| rn 2 rfl ?_
    refine sx rfl (o_len rfl rfl ?_)
    refine rl rfl ?_
    refine cd rfl g (fun aa => ?_) (fun ag => ?_) <;> clear g
    .refine dwp_skip <| thenD_n <| dwp_seq <| dwp_block <| rs env_ok <| rn 4 rfl ?_
     obtain ⟨l, ak, ab⟩ := bd aa; clear aa
     refine sx rfl (o_idx ak rfl rfl rfl ?_)
     refine rn 3 rfl ?_
     refine sx rfl (o_lk2 (et := 96) (ke := (fun x => .agg (portC x))) (ve := (fun x => .agg (portC x))) (mp := b) (y := (⟨l, e.1⟩ : Port)) (⟨0, 0⟩ : Port) keyE_96 rfl rfl rfl rfl ?_)
     refine rl rfl <| dwp_seq ?_
     refine jb (fun k : Bool => ⟨73, [(0, ls 1 intC c), (1, .p (.map (mapD (fun x => .agg (portC x)) (fun x => .agg (portC x)) b))), (9, li e.2), (10, .lpb 0 0), (69, lb k)], [(0, .box [li (((assoc b (⟨l, e.1⟩ : Port)).getD (⟨0, 0⟩ : Port)).elem), li (((assoc b (⟨l, e.1⟩ : Port)).getD (⟨0, 0⟩ : Port)).fin)])], 1⟩) ab (fun k ac => ?_) (fun k ae => ?_) <;> clear ab
     .refine rgd env_ok mixed [0, 1, 2, 3, 4, 5, 6, 7, 8, 9, 10] 11 (by kernel_rfl) rfl rfl rfl ?_
      refine rnD 3 rfl ?_
      refine gsD 61 ac rfl rfl rfl (fun av => ?_) (fun ad => ?_) <;> clear ac
      .refine rlD rfl ?_
       cases av
       exact npn (wf hA [(0, 0)] rfl rfl rfl)
      .refine rnD 4 rfl ?_
       obtain ⟨a6, al, aw⟩ := bd ad; clear ad
       refine sxD rfl (opD_plain rfl (o_idx al rfl rfl rfl ?_))
       refine rlD rfl ?_
       cases aw
       exact npn (wf hA [(0, 0)] rfl rfl rfl)
     .refine cd rfl ae (fun af => ?_) (fun ay => ?_) <;> clear ae
      .refine rs env_ok <| rl rfl <| dwp_ret <| thenD_r <| inB_r <| thenD_r ?_
       obtain ⟨a1, ax, rfl⟩ := mps af; clear af
       refine lpt <| inB_r <| thenD_r ?_
       cases ax
       exact er rfl Le.rfl
      .refine dwp_skip <| thenD_n <| rg env_ok <| rl rfl <| inB_n <| thenD_n <| rg env_ok <| rl rfl ?_
       cases ay
       exact lpn (wf hA [] rfl rfl rfl)
    .refine dwp_exit <| thenD_x ?_
     obtain ⟨a2, az, rfl⟩ := mps ag; clear ag
     refine lpx <| inB_x <| thenD_n <| rs env_ok <| rl rfl <| dwp_ret ?_
     cases az
     exact er rfl Le.rfl
noncomputable def q_4k (d : Plan) (g : (List (Port × Port))) (e : (Int × (List (Int × Bool)))) (c : Line) (a : Int × (List (Int × Bool))) : Option ((Int × (List (Int × Bool))) ⊕ ((Int × (List (Int × Bool))) ⊕ Bool)) :=
 bif decide (a.1 < (c.elems.length : Int)) then (idx c.elems a.1).bind fun b => ((bif decide (b < 0) then some true else bif decide ((d.elems.length : Int) <= b) then some true else (idx d.elems b).bind fun h => bif (h.kind != 1) then some true else some ((assoc a.2 b).getD false) : Option (Bool))).bind fun (f : Bool) => bif f then some (.inr (.inr false)) else some (.inl (wi64 (a.1 + 1), aput b true a.2)) else ((q_6g c.elems g).bind fun i => bif (!i) then some (.inr false) else some (.inl (wi64 (e.1 + 1), a.2))).map .inr
noncomputable def q_4l (b : Plan) (d : (List (Port × Port))) (a : Int × (List (Int × Bool))) : Option ((Int × (List (Int × Bool))) ⊕ Bool) :=
 bif decide (a.1 < (b.lines.length : Int)) then (idx b.lines a.1).bind fun c => bif ((c.elems.length : Int) == 0) then some (.inr false) else loopR (q_4k b d a c) (0, a.2) else some (.inr true)
noncomputable def q_43 (a : Plan) (b : (List (Port × Port))) : Option Bool :=
 loopR (q_4l a b) (0, [])
theorem w_9d (b : Plan) (e : (List (Port × Port))) (r : Bool) (h : q_43 b e = some r) : Fun Tryz.prog 168 [.agg (planC b), .map (mapD (fun x => .agg (portC x)) (fun x => .agg (portC x)) e)] (· = .bool r) := by
 refine fn env_ok Tryz.func168 rfl rfl 61 rfl [.tmp 4] rfl [(0, .p (.agg (planC b))), (1, .p (.map (mapD (fun x => .agg (portC x)) (fun x => .agg (portC x)) e)))] rfl rfl fun A hA => ?_
 unfold q_43 at h
 refine rs env_ok <| rl rfl <| rs env_ok <| rl rfl <| dwp_seq <| rs env_ok <| rn 2 rfl ?_
 refine sx rfl (o_len rfl rfl ?_)
 refine rl rfl <| dwp_block ?_
 apply lp (a := r) (fun f : (Int × (List (Int × Bool))) => ⟨61, [(1, .p (.map (mapD (fun x => .agg (portC x)) (fun x => .agg (portC x)) e))), (2, .lpb 0 0), (5, .lmap 1), (12, ls 2 lineC b.lines), (13, li (b.lines.length : Int)), (14, li f.1)], [(0, .box [ls 3 elemC b.elems, ls 4 joinC b.joins, ls 4 signalC b.signals, ls 2 lineC b.lines, li b.top, li b.brake, li b.margin, li b.throw, lb b.hard]), (1, .map (mapD (.int .i64) .bool f.2))], 2⟩) h <;> clear h
 . exact wf hA [(0, 0), (1, 1)] rfl rfl rfl
 intro f ai g
 unfold q_4l at g
 refine rs env_ok <| rl rfl <| dwp_seq ?_
 refine cd rfl g (fun l => ?_) (fun ah => ?_) <;> clear g
 .refine dwp_skip <| thenD_n <| dwp_seq <| dwp_block <| rs env_ok ?_
  obtain ⟨c, aj, m⟩ := bd l; clear l
  refine sx rfl (o_idx aj rfl rfl rfl ?_)
  refine rl rfl <| dwp_seq <| rs env_ok <| rn 2 rfl ?_
  refine sx rfl (o_len rfl rfl ?_)
  refine rl rfl ?_
  refine cd rfl m (fun n => ?_) (fun o => ?_) <;> clear m
  .refine rs env_ok <| rl rfl <| dwp_ret <| thenD_r <| inB_r <| thenD_r ?_
   obtain ⟨az, an, rfl⟩ := mps n; clear n
   refine lpt <| inB_r <| thenD_r ?_
   cases an
   exact er rfl Le.rfl
  .refine dwp_skip <| thenD_n <| dwp_seq <| rs env_ok <| rn 2 rfl ?_
   refine sx rfl (o_len rfl rfl ?_)
   refine rl rfl <| dwp_block ?_
   apply lp (a := ai) (fun d : (Int × (List (Int × Bool))) => ⟨61, [(1, .p (.map (mapD (fun x => .agg (portC x)) (fun x => .agg (portC x)) e))), (2, .lpb 0 0), (5, .lmap 1), (7, .lpb 2 0), (12, ls 2 lineC b.lines), (13, li (b.lines.length : Int)), (14, li f.1), (23, ls 1 intC c.elems), (24, li (c.elems.length : Int)), (25, li d.1)], [(0, .box [ls 3 elemC b.elems, ls 4 joinC b.joins, ls 4 signalC b.signals, ls 2 lineC b.lines, li b.top, li b.brake, li b.margin, li b.throw, lb b.hard]), (1, .map (mapD (.int .i64) .bool d.2)), (2, .box [.p (.str c.name), ls 1 intC c.elems])], 3⟩) o <;> clear o
   . exact wf hA (gi 3 []) rfl rfl rfl
   intro d a5 i
   unfold q_4k at i
   refine rs env_ok <| rl rfl <| dwp_seq ?_
   refine cd rfl i (fun q => ?_) (fun ad => ?_) <;> clear i
   .refine dwp_skip <| thenD_n <| dwp_seq <| dwp_block <| rs env_ok ?_
    obtain ⟨k, ak, s⟩ := bd q; clear q
    refine sx rfl (o_idx ak rfl rfl rfl ?_)
    refine rl rfl <| dwp_seq ?_
    refine jb (fun j : Bool => ⟨61, [(1, .p (.map (mapD (fun x => .agg (portC x)) (fun x => .agg (portC x)) e))), (2, .lpb 0 0), (5, .lmap 1), (7, .lpb 2 0), (9, li k), (12, ls 2 lineC b.lines), (13, li (b.lines.length : Int)), (14, li f.1), (23, ls 1 intC c.elems), (24, li (c.elems.length : Int)), (25, li d.1), (51, lb j)], [(0, .box [ls 3 elemC b.elems, ls 4 joinC b.joins, ls 4 signalC b.signals, ls 2 lineC b.lines, li b.top, li b.brake, li b.margin, li b.throw, lb b.hard]), (1, .map (mapD (.int .i64) .bool d.2)), (2, .box [.p (.str c.name), ls 1 intC c.elems])], 3⟩) s (fun j t => ?_) (fun j aa => ?_) <;> clear s
    .refine rg env_ok <| rn 3 rfl ?_
     refine gs 31 t rfl rfl rfl (fun ao => ?_) (fun u => ?_) <;> clear t
     .refine rl rfl ?_
      cases ao
      exact npn (wf hA (gi 3 []) rfl rfl rfl)
     .refine rn 3 rfl ?_
      refine sx rfl (o_len rfl rfl ?_)
      refine rn 3 rfl ?_
      refine gs 38 u rfl rfl rfl (fun ap => ?_) (fun v => ?_) <;> clear u
      .refine rl rfl ?_
       cases ap
       exact npn (wf hA (gi 3 []) rfl rfl rfl)
      .refine rn 3 rfl ?_
       obtain ⟨a6, al, w⟩ := bd v; clear v
       refine sx rfl (o_idx al rfl rfl rfl ?_)
       refine rn 5 rfl ?_
       refine gs 47 w rfl rfl rfl (fun aq => ?_) (fun ar => ?_) <;> clear w
       .refine rl rfl ?_
        cases aq
        exact npn (wf hA (gi 3 []) rfl rfl rfl)
       .refine rn 2 rfl ?_
        refine sx rfl (o_lk1 (et := 4) (ke := (.int .i64)) (ve := .bool) (mp := d.2) (y := k) false keyE_3 rfl rfl rfl rfl ?_)
        refine rl rfl ?_
        cases ar
        exact npn (wf hA (gi 3 []) rfl rfl rfl)
    .refine cd rfl aa (fun ab => ?_) (fun av => ?_) <;> clear aa
     .refine rs env_ok <| rl rfl <| dwp_ret <| thenD_r <| inB_r <| thenD_r ?_
      obtain ⟨a0, ac, rfl⟩ := mps ab; clear ab
      refine lpt <| inB_r <| thenD_r <| inB_r <| thenD_r ?_
      obtain ⟨a1, au, rfl⟩ := mps ac; clear ac
      refine lpt <| inB_r <| thenD_r ?_
      cases au
      exact er rfl Le.rfl
     .refine dwp_skip <| thenD_n <| rg env_ok <| rn 2 rfl ?_
      refine sx rfl (o_mup (et := 4) (ke := (.int .i64)) (ve := .bool) (mp := d.2) (y := k) (z := true) keyE_3 rfl rfl rfl rfl rfl rfl ?_)
      refine rl rfl <| inB_n <| thenD_n <| rg env_ok <| rl rfl ?_
      cases av
      exact lpn (wf hA (gi 3 []) rfl rfl rfl)
   .refine dwp_exit <| thenD_x ?_
    obtain ⟨a2, ae, rfl⟩ := mp ad; clear ad
    refine lpx <| inB_x <| thenD_n <| rs env_ok <| rn 3 rfl ?_
    obtain ⟨a7, am, af⟩ := bd ae; clear ae
    refine sx rfl (o_call (w_a1 _ _ _ am) (.inl rfl) rfl rfl rfl ?_)
    refine rl rfl ?_
    refine cd rfl af (fun ag => ?_) (fun ax => ?_) <;> clear af
    .refine rs env_ok <| rl rfl <| dwp_ret <| inB_r <| thenD_r ?_
     obtain ⟨a3, aw, rfl⟩ := mps ag; clear ag
     refine lpt <| inB_r <| thenD_r ?_
     cases aw
     exact er rfl Le.rfl
    .refine dwp_skip <| inB_n <| thenD_n <| rg env_ok <| rl rfl ?_
     cases ax
     exact lpn (wf hA [(0, 0), (1, 1)] rfl rfl rfl)
 .refine dwp_exit <| thenD_x ?_
  obtain ⟨a4, ay, rfl⟩ := mps ah; clear ah
  refine lpx <| inB_x <| thenD_n <| rs env_ok <| rl rfl <| dwp_ret ?_
  cases ay
  exact er rfl Le.rfl
end Go.E
/- Plain functions, and walks in step with them. Written by a program (gen.py). No condition. -/
set_option maxRecDepth 100000
namespace Go.E
open Go Go.RowKit Go.Proofs
noncomputable def q_64 (b : Int) (a : Int × Int) : Option ((Int × Int) ⊕ Int) :=
 bif decide (0 < a.1) then some (.inl (wi64 (a.1 - b), wi64 (a.2 + a.1))) else some (.inr a.2)
noncomputable def q_59 (b : Int) (a : Int) : Option Int :=
 ((bif decide (b < 0) then some true else bif decide (60 < b) then some true else bif decide (a < 1) then some true else some (decide (10 < a)) : Option (Bool))).bind fun (c : Bool) => bif c then some 0 else loopR (q_64 a) (wi64 (b - a), 0)
theorem w_9t (c : Int) (b : Int) (r : Int) (h : q_59 c b = some r) : Fun Tryz.prog 201 [.int .i64 c, .int .i64 b] (· = .int .i64 r) := by
 refine fn env_ok Tryz.func201 rfl rfl 32 rfl [.tmp 4] rfl [(0, .p (.int .i64 c)), (1, .p (.int .i64 b))] rfl rfl fun A hA => ?_
 unfold q_59 at h
 refine rs env_ok <| rl rfl <| dwp_seq ?_
 refine jb (fun f : Bool => ⟨32, [(0, li c), (1, li b), (19, lb f)], [], 0⟩) h (fun f g => ?_) (fun f k => ?_) <;> clear h
 .refine rg env_ok <| rn 3 rfl ?_
  refine gs 8 g rfl rfl rfl (fun n => ?_) (fun i => ?_) <;> clear g
  .refine rl rfl ?_
   cases n
   exact npn (wf hA [] rfl rfl rfl)
  .refine rn 4 rfl ?_
   refine gs 12 i rfl rfl rfl (fun o => ?_) (fun j => ?_) <;> clear i
   .refine rl rfl ?_
    cases o
    exact npn (wf hA [] rfl rfl rfl)
   .refine rn 4 rfl ?_
    refine gs 16 j rfl rfl rfl (fun q => ?_) (fun s => ?_) <;> clear j
    .refine rl rfl ?_
     cases q
     exact npn (wf hA [] rfl rfl rfl)
    .refine rl rfl ?_
     cases s
     exact npn (wf hA [] rfl rfl rfl)
 .refine cd rfl k (fun t => ?_) (fun l => ?_) <;> clear k
  .refine rs env_ok <| rl rfl <| dwp_ret <| thenD_r ?_
   cases t
   exact er rfl Le.rfl
  .refine dwp_skip <| thenD_n <| rs env_ok <| rl rfl <| dwp_seq <| rs env_ok <| rl rfl <| dwp_block ?_
   apply lp (a := r) (fun e : (Int × Int) => ⟨32, [(0, li e.1), (1, li b), (5, li e.2)], [], 0⟩) l <;> clear l
   . exact wf hA [] rfl rfl rfl
   intro e x d
   unfold q_64 at d
   refine dwp_seq <| rs env_ok <| rl rfl ?_
   refine cd rfl d (fun u => ?_) (fun m => ?_) <;> clear d
   .refine dwp_skip <| thenD_n <| dwp_seq <| dwp_block <| rg env_ok <| rl rfl <| inB_n <| thenD_n <| rg env_ok <| rl rfl ?_
    cases u
    exact lpn (wf hA [] rfl rfl rfl)
   .refine dwp_exit <| thenD_x ?_
    obtain ⟨w, v, rfl⟩ := mps m; clear m
    refine lpx <| inB_x <| thenD_n <| rs env_ok <| rl rfl <| dwp_ret ?_
    cases v
    exact er rfl Le.rfl
noncomputable def q_65 (b : Plan) (a : Int) : Option (Int ⊕ Bool) :=
 bif decide (a < (b.elems.length : Int)) then (idx b.elems a).bind fun c => ((bif (c.kind != 4) then some (decide (c.length < b.top)) else some false : Option (Bool))).bind fun (d : Bool) => bif d then some (.inr false) else some (.inl (wi64 (a + 1))) else some (.inr true)
noncomputable def q_66 (a : Plan) (b : Int) : Option (Int ⊕ Bool) :=
 bif decide (b < (a.signals.length : Int)) then (idx a.signals b).bind fun e => (idx a.elems e.at_.elem).bind fun c => ((bif (c.kind == 1) then some (decide (c.length < a.margin)) else some false : Option (Bool))).bind fun (d : Bool) => bif d then some (.inr false) else some (.inl (wi64 (b + 1))) else (loopR (q_65 a) 0).map .inr
noncomputable def q_5a (a : Plan) : Option Bool :=
 (q_59 a.top a.brake).bind fun b => bif decide (a.margin < wi64 (a.top + b)) then some false else loopR (q_66 a) 0
theorem w_9u (b : Plan) (r : Bool) (h : q_5a b = some r) : Fun Tryz.prog 169 [.agg (planC b)] (· = .bool r) := by
 refine fn env_ok Tryz.func169 rfl rfl 62 rfl [.tmp 2] rfl [(0, .p (.agg (planC b)))] rfl rfl fun A hA => ?_
 unfold q_5a at h
 refine rs env_ok <| rl rfl <| dwp_seq <| dwp_seq ?_
 refine rgd env_ok mixed [0, 1, 2, 3, 4, 5, 6, 7, 8, 9, 10] 11 (by kernel_rfl) rfl rfl rfl ?_
 refine rnD 8 rfl ?_
 obtain ⟨a0, af, j⟩ := bd h; clear h
 refine sxD rfl (o_callD (w_9t _ _ _ af) (.inl rfl) rfl rfl rfl ?_)
 refine rlD rfl <| thenD_n ?_
 refine cd rfl j (fun ag => ?_) (fun k => ?_) <;> clear j
 .refine rs env_ok <| rl rfl <| dwp_ret <| thenD_r ?_
  cases ag
  exact er rfl Le.rfl
 .refine dwp_skip <| thenD_n <| dwp_seq <| rs env_ok <| rn 2 rfl ?_
  refine sx rfl (o_len rfl rfl ?_)
  refine rl rfl <| dwp_block ?_
  apply lp (a := r) (fun e : Int => ⟨62, [(1, .lpb 0 0), (20, ls 4 signalC b.signals), (21, li (b.signals.length : Int)), (22, li e)], [(0, .box [ls 3 elemC b.elems, ls 4 joinC b.joins, ls 4 signalC b.signals, ls 2 lineC b.lines, li b.top, li b.brake, li b.margin, li b.throw, lb b.hard])], 1⟩) k <;> clear k
  . exact wf hA [(0, 0)] rfl rfl rfl
  intro e av c
  unfold q_66 at c
  refine rs env_ok <| rl rfl <| dwp_seq ?_
  refine cd rfl c (fun l => ?_) (fun t => ?_) <;> clear c
  .refine dwp_skip <| thenD_n <| dwp_seq <| dwp_block <| rs env_ok ?_
   obtain ⟨ax, ac, m⟩ := bd l; clear l
   refine sx rfl (o_idx ac rfl rfl rfl ?_)
   refine rl rfl <| rs env_ok <| rn 5 rfl ?_
   obtain ⟨ay, ad, n⟩ := bd m; clear m
   refine sx rfl (o_idx ad rfl rfl rfl ?_)
   refine rl rfl ?_
   refine jb (fun g : Bool => ⟨62, [(1, .lpb 0 0), (20, ls 4 signalC b.signals), (21, li (b.signals.length : Int)), (22, li e), (42, lb g)], [(0, .box [ls 3 elemC b.elems, ls 4 joinC b.joins, ls 4 signalC b.signals, ls 2 lineC b.lines, li b.top, li b.brake, li b.margin, li b.throw, lb b.hard])], 1⟩) n (fun g o => ?_) (fun g q => ?_) <;> clear n
   .refine rg env_ok <| rn 4 rfl ?_
    refine gs 36 o rfl rfl rfl (fun ah => ?_) (fun ai => ?_) <;> clear o
    .refine rl rfl ?_
     cases ah
     exact npn (wf hA [(0, 0)] rfl rfl rfl)
    .refine rl rfl ?_
     cases ai
     exact npn (wf hA [(0, 0)] rfl rfl rfl)
   .refine cd rfl q (fun s => ?_) (fun ak => ?_) <;> clear q
    .refine rs env_ok <| rl rfl <| dwp_ret <| inB_r <| thenD_r ?_
     obtain ⟨aq, aj, rfl⟩ := mps s; clear s
     refine lpt <| inB_r <| thenD_r ?_
     cases aj
     exact er rfl Le.rfl
    .refine dwp_skip <| inB_n <| thenD_n <| rg env_ok <| rl rfl ?_
     cases ak
     exact lpn (wf hA [(0, 0)] rfl rfl rfl)
  .refine dwp_exit <| thenD_x ?_
   obtain ⟨ab, u, rfl⟩ := mp t; clear t
   refine lpx <| inB_x <| thenD_n <| dwp_seq <| rs env_ok <| rn 2 rfl ?_
   refine sx rfl (o_len rfl rfl ?_)
   refine rl rfl <| dwp_block ?_
   apply lp (a := ab) (fun f : Int => ⟨62, [(1, .lpb 0 0), (45, ls 3 elemC b.elems), (46, li (b.elems.length : Int)), (47, li f)], [(0, .box [ls 3 elemC b.elems, ls 4 joinC b.joins, ls 4 signalC b.signals, ls 2 lineC b.lines, li b.top, li b.brake, li b.margin, li b.throw, lb b.hard])], 1⟩) u <;> clear u
   . exact wf hA [(0, 0)] rfl rfl rfl
   intro f aw d
   unfold q_65 at d
   refine rs env_ok <| rl rfl <| dwp_seq ?_
   refine cd rfl d (fun v => ?_) (fun aa => ?_) <;> clear d
   .refine dwp_skip <| thenD_n <| dwp_seq <| dwp_block <| rs env_ok ?_
    obtain ⟨az, ae, w⟩ := bd v; clear v
    refine sx rfl (o_idx ae rfl rfl rfl ?_)
    refine rl rfl ?_
    refine jb (fun i : Bool => ⟨62, [(1, .lpb 0 0), (45, ls 3 elemC b.elems), (46, li (b.elems.length : Int)), (47, li f), (60, lb i)], [(0, .box [ls 3 elemC b.elems, ls 4 joinC b.joins, ls 4 signalC b.signals, ls 2 lineC b.lines, li b.top, li b.brake, li b.margin, li b.throw, lb b.hard])], 1⟩) w (fun i x => ?_) (fun i y => ?_) <;> clear w
    .refine rg env_ok <| rn 4 rfl ?_
     refine gs 54 x rfl rfl rfl (fun al => ?_) (fun am => ?_) <;> clear x
     .refine rl rfl ?_
      cases al
      exact npn (wf hA [(0, 0)] rfl rfl rfl)
     .refine rl rfl ?_
      cases am
      exact npn (wf hA [(0, 0)] rfl rfl rfl)
    .refine cd rfl y (fun z => ?_) (fun ao => ?_) <;> clear y
     .refine rs env_ok <| rl rfl <| dwp_ret <| inB_r <| thenD_r ?_
      obtain ⟨ar, an, rfl⟩ := mps z; clear z
      refine lpt <| inB_r <| thenD_r ?_
      cases an
      exact er rfl Le.rfl
     .refine dwp_skip <| inB_n <| thenD_n <| rg env_ok <| rl rfl ?_
      cases ao
      exact lpn (wf hA [(0, 0)] rfl rfl rfl)
   .refine dwp_exit <| thenD_x ?_
    obtain ⟨au, ap, rfl⟩ := mps aa; clear aa
    refine lpx <| inB_x <| thenD_n <| rs env_ok <| rl rfl <| dwp_ret ?_
    cases ap
    exact er rfl Le.rfl
noncomputable def q_4m (b : Plan) (a : Int × (List (ByteArray × Bool))) : Option ((Int × (List (ByteArray × Bool))) ⊕ Bool) :=
 bif decide (a.1 < (b.elems.length : Int)) then (q_1f a.1 b).bind fun c => bif ((assoc a.2 c).getD false) then some (.inr true) else (q_1f a.1 b).bind fun d => some (.inl (wi64 (a.1 + 1), aput d true a.2)) else some (.inr false)
noncomputable def q_4n (b : Plan) (a : Int × (List (ByteArray × Bool))) : Option ((Int × (List (ByteArray × Bool))) ⊕ Bool) :=
 bif decide (a.1 < (b.signals.length : Int)) then (q_1g a.1 b).bind fun c => bif ((assoc a.2 c).getD false) then some (.inr true) else (q_1g a.1 b).bind fun d => some (.inl (wi64 (a.1 + 1), aput d true a.2)) else some (.inr false)
noncomputable def q_4o (b : Plan) (a : Int × (List (ByteArray × Bool))) : Option ((Int × (List (ByteArray × Bool))) ⊕ Bool) :=
 bif decide (a.1 < (b.lines.length : Int)) then (q_1h a.1 b).bind fun c => bif ((assoc a.2 c).getD false) then some (.inr true) else (q_1h a.1 b).bind fun d => some (.inl (wi64 (a.1 + 1), aput d true a.2)) else some (.inr false)
noncomputable def q_44 (a : Plan) : Option Int :=
 ((bif decide (40 < (a.elems.length : Int)) then some true else bif decide (24 < (a.signals.length : Int)) then some true else bif decide (4 < (a.lines.length : Int)) then some true else some (decide (80 < (a.joins.length : Int))) : Option (Bool))).bind fun (c : Bool) => bif c then some 3 else (q_26 a).bind fun h => bif (!h) then some 1 else ((((loopR (q_4m a) (0, []) : Option (Bool))).bind fun (e : Bool) => bif e then some true else ((loopR (q_4n a) (0, []) : Option (Bool))).bind fun (f : Bool) => bif f then some true else ((loopR (q_4o a) (0, []) : Option (Bool))).bind fun (g : Bool) => some g : Option (Bool))).bind fun (d : Bool) => bif d then some 4 else (q_2z a).bind fun b => bif (!b.2) then some 6 else (q_27 a b.1).bind fun i => bif (!i) then some 7 else (q_43 a b.1).bind fun j => bif (!j) then some 8 else (q_5a a).bind fun k => bif (!k) then some 9 else some 0
theorem w_9e (b : Plan) (r : Int) (h : q_44 b = some r) : Fun Tryz.prog 115 [.agg (planC b)] (· = .int .i64 r) := by
 refine fn env_ok Tryz.func115 rfl rfl 71 rfl [.tmp 2] rfl [(0, .p (.agg (planC b)))] rfl rfl fun A hA => ?_
 unfold q_44 at h
 refine rs env_ok <| rl rfl <| dwp_seq ?_
 refine jb (fun m : Bool => ⟨71, [(1, .lpb 0 0), (26, lb m)], [(0, .box [ls 3 elemC b.elems, ls 4 joinC b.joins, ls 4 signalC b.signals, ls 2 lineC b.lines, li b.top, li b.brake, li b.margin, li b.throw, lb b.hard])], 1⟩) h (fun m o => ?_) (fun m t => ?_) <;> clear h
 .refine rg env_ok <| rn 2 rfl ?_
  refine sx rfl (o_len rfl rfl ?_)
  refine rn 2 rfl ?_
  refine gs 9 o rfl rfl rfl (fun bj => ?_) (fun q => ?_) <;> clear o
  .refine rl rfl ?_
   cases bj
   exact npn (wf hA [(0, 0)] rfl rfl rfl)
  .refine rn 2 rfl ?_
   refine sx rfl (o_len rfl rfl ?_)
   refine rn 3 rfl ?_
   refine gs 15 q rfl rfl rfl (fun bk => ?_) (fun s => ?_) <;> clear q
   .refine rl rfl ?_
    cases bk
    exact npn (wf hA [(0, 0)] rfl rfl rfl)
   .refine rn 2 rfl ?_
    refine sx rfl (o_len rfl rfl ?_)
    refine rn 3 rfl ?_
    refine gs 21 s rfl rfl rfl (fun bl => ?_) (fun bm => ?_) <;> clear s
    .refine rl rfl ?_
     cases bl
     exact npn (wf hA [(0, 0)] rfl rfl rfl)
    .refine rn 2 rfl ?_
     refine sx rfl (o_len rfl rfl ?_)
     refine rl rfl ?_
     cases bm
     exact npn (wf hA [(0, 0)] rfl rfl rfl)
 .refine cd rfl t (fun bn => ?_) (fun u => ?_) <;> clear t
  .refine rs env_ok <| rl rfl <| dwp_ret <| thenD_r ?_
   cases bn
   exact er rfl Le.rfl
  .refine dwp_skip <| thenD_n <| dwp_seq <| rs env_ok <| rn 1 rfl ?_
   obtain ⟨co, a9, ag⟩ := bd u; clear u
   refine sx rfl (o_call (w_8s _ _ a9) (.inl rfl) rfl rfl rfl ?_)
   refine rl rfl ?_
   refine cd rfl ag (fun bs => ?_) (fun aj => ?_) <;> clear ag
   .refine rs env_ok <| rl rfl <| dwp_ret <| thenD_r ?_
    cases bs
    exact er rfl Le.rfl
   .refine dwp_skip <| thenD_n <| dwp_seq ?_
    refine jb (fun n : Bool => ⟨71, [(1, .lpb 0 0), (48, lb n)], [(0, .box [ls 3 elemC b.elems, ls 4 joinC b.joins, ls 4 signalC b.signals, ls 2 lineC b.lines, li b.top, li b.brake, li b.margin, li b.throw, lb b.hard])], 1⟩) aj (fun n v => ?_) (fun n ay => ?_) <;> clear aj
    .refine rg env_ok <| rn 2 rfl ?_
     refine sx rfl (o_len rfl rfl ?_)
     refine rn 1 rfl ?_
     refine sx rfl (o_in env_ok (fun f : Bool => lb f) (fun f : Bool => [(0, .box [ls 3 elemC b.elems, ls 4 joinC b.joins, ls 4 signalC b.signals, ls 2 lineC b.lines, li b.top, li b.brake, li b.margin, li b.throw, lb b.hard])]) 1 v Tryz.func162 22 [.tmp 4] [(0, li (b.elems.length : Int)), (1, .fn 163 [.lpb 0 0])] rfl rfl rfl rfl rfl rfl rfl rfl (fun A hA f w => ?_) (fun f ae => ?_)) <;> clear v
     .refine rs env_ok <| rl rfl <| rs env_ok <| rl rfl <| dwp_seq <| rs env_ok <| rl rfl <| dwp_block ?_
      apply lp (a := f) (fun c : (Int × (List (ByteArray × Bool))) => ⟨22, [(1, .fn 163 [.lpb 0 0]), (5, .lmap 1), (8, li (b.elems.length : Int)), (9, li c.1)], [(0, .box [ls 3 elemC b.elems, ls 4 joinC b.joins, ls 4 signalC b.signals, ls 2 lineC b.lines, li b.top, li b.brake, li b.margin, li b.throw, lb b.hard]), (1, .map (mapD .str .bool c.2))], 2⟩) w <;> clear w
      . exact wj hA [(0, 0), (1, 1)] rfl rfl rfl rfl
      intro c cl j
      unfold q_4m at j
      refine rs env_ok <| rl rfl <| dwp_seq ?_
      refine cd rfl j (fun x => ?_) (fun ad => ?_) <;> clear j
      .refine dwp_skip <| thenD_n <| dwp_seq <| dwp_block <| rs env_ok <| rl rfl <| dwp_seq <| rs env_ok <| rn 3 rfl ?_
       obtain ⟨b8, a7, aa⟩ := bd x; clear x
       refine sx rfl (o_call (w_61 _ _ _ a7) (.inl rfl) rfl rfl (LdA.eq (.cons (.one (.p _)) (.cons (.box rfl (.cons (.p _) (.cons (.p _) (.cons (.p _) (.cons (.p _) (.cons (.p _) (.cons (.p _) (.cons (.p _) (.cons (.p _) (.cons (.p _) .nil)))))))))) .nil))) ?_)
       refine sx rfl (o_lk1 (et := 4) (ke := .str) (ve := .bool) (mp := c.2) (y := b8) false keyE_9 rfl rfl rfl rfl ?_)
       refine rl rfl ?_
       refine cd rfl aa (fun ab => ?_) (fun ac => ?_) <;> clear aa
       .refine rs env_ok <| rl rfl <| dwp_ret <| thenD_r <| inB_r <| thenD_r ?_
        obtain ⟨cf, bo, rfl⟩ := mps ab; clear ab
        refine lpt <| inB_r <| thenD_r ?_
        cases bo
        exact ipr (nt := 22) (sl := [(4, lb true)]) (wj hA [(0, 0)] rfl rfl rfl rfl) rfl
       .refine dwp_skip <| thenD_n <| rg env_ok <| rn 3 rfl ?_
        obtain ⟨b9, a8, bp⟩ := bd ac; clear ac
        refine sx rfl (o_call (w_61 _ _ _ a8) (.inl rfl) rfl rfl (LdA.eq (.cons (.one (.p _)) (.cons (.box rfl (.cons (.p _) (.cons (.p _) (.cons (.p _) (.cons (.p _) (.cons (.p _) (.cons (.p _) (.cons (.p _) (.cons (.p _) (.cons (.p _) .nil)))))))))) .nil))) ?_)
        refine sx rfl (o_mup (et := 4) (ke := .str) (ve := .bool) (mp := c.2) (y := b9) (z := true) keyE_9 rfl rfl rfl rfl rfl rfl ?_)
        refine rl rfl <| inB_n <| thenD_n <| rg env_ok <| rl rfl ?_
        cases bp
        exact lpn (wj hA [(0, 0), (1, 1)] rfl rfl rfl rfl)
      .refine dwp_exit <| thenD_x ?_
       obtain ⟨cg, bq, rfl⟩ := mps ad; clear ad
       refine lpx <| inB_x <| thenD_n <| rs env_ok <| rl rfl <| dwp_ret ?_
       cases bq
       exact ipr (nt := 22) (sl := [(4, lb false)]) (wj hA [(0, 0)] rfl rfl rfl rfl) rfl
     .refine rn 1 rfl ?_
      refine gs 35 ae rfl rfl rfl (fun br => ?_) (fun af => ?_) <;> clear ae
      .refine rl rfl ?_
       cases br
       exact npn (wf hA [(0, 0)] rfl rfl rfl)
      .refine rn 2 rfl ?_
       refine sx rfl (o_len rfl rfl ?_)
       refine rn 1 rfl ?_
       refine sx rfl (o_in env_ok (fun g : Bool => lb g) (fun g : Bool => [(0, .box [ls 3 elemC b.elems, ls 4 joinC b.joins, ls 4 signalC b.signals, ls 2 lineC b.lines, li b.top, li b.brake, li b.margin, li b.throw, lb b.hard])]) 1 af Tryz.func162 22 [.tmp 4] [(0, li (b.signals.length : Int)), (1, .fn 164 [.lpb 0 0])] rfl rfl rfl rfl rfl rfl rfl rfl (fun A hA g ah => ?_) (fun g ao => ?_)) <;> clear af
       .refine rs env_ok <| rl rfl <| rs env_ok <| rl rfl <| dwp_seq <| rs env_ok <| rl rfl <| dwp_block ?_
        apply lp (a := g) (fun d : (Int × (List (ByteArray × Bool))) => ⟨22, [(1, .fn 164 [.lpb 0 0]), (5, .lmap 1), (8, li (b.signals.length : Int)), (9, li d.1)], [(0, .box [ls 3 elemC b.elems, ls 4 joinC b.joins, ls 4 signalC b.signals, ls 2 lineC b.lines, li b.top, li b.brake, li b.margin, li b.throw, lb b.hard]), (1, .map (mapD .str .bool d.2))], 2⟩) ah <;> clear ah
        . exact wj hA [(0, 0), (1, 1)] rfl rfl rfl rfl
        intro d cm k
        unfold q_4n at k
        refine rs env_ok <| rl rfl <| dwp_seq ?_
        refine cd rfl k (fun ai => ?_) (fun an => ?_) <;> clear k
        .refine dwp_skip <| thenD_n <| dwp_seq <| dwp_block <| rs env_ok <| rl rfl <| dwp_seq <| rs env_ok <| rn 3 rfl ?_
         obtain ⟨ca, ba, ak⟩ := bd ai; clear ai
         refine sx rfl (o_call (w_62 _ _ _ ba) (.inl rfl) rfl rfl (LdA.eq (.cons (.one (.p _)) (.cons (.box rfl (.cons (.p _) (.cons (.p _) (.cons (.p _) (.cons (.p _) (.cons (.p _) (.cons (.p _) (.cons (.p _) (.cons (.p _) (.cons (.p _) .nil)))))))))) .nil))) ?_)
         refine sx rfl (o_lk1 (et := 4) (ke := .str) (ve := .bool) (mp := d.2) (y := ca) false keyE_9 rfl rfl rfl rfl ?_)
         refine rl rfl ?_
         refine cd rfl ak (fun al => ?_) (fun am => ?_) <;> clear ak
         .refine rs env_ok <| rl rfl <| dwp_ret <| thenD_r <| inB_r <| thenD_r ?_
          obtain ⟨ch, bt, rfl⟩ := mps al; clear al
          refine lpt <| inB_r <| thenD_r ?_
          cases bt
          exact ipr (nt := 22) (sl := [(4, lb true)]) (wj hA [(0, 0)] rfl rfl rfl rfl) rfl
         .refine dwp_skip <| thenD_n <| rg env_ok <| rn 3 rfl ?_
          obtain ⟨cb, bb, bu⟩ := bd am; clear am
          refine sx rfl (o_call (w_62 _ _ _ bb) (.inl rfl) rfl rfl (LdA.eq (.cons (.one (.p _)) (.cons (.box rfl (.cons (.p _) (.cons (.p _) (.cons (.p _) (.cons (.p _) (.cons (.p _) (.cons (.p _) (.cons (.p _) (.cons (.p _) (.cons (.p _) .nil)))))))))) .nil))) ?_)
          refine sx rfl (o_mup (et := 4) (ke := .str) (ve := .bool) (mp := d.2) (y := cb) (z := true) keyE_9 rfl rfl rfl rfl rfl rfl ?_)
          refine rl rfl <| inB_n <| thenD_n <| rg env_ok <| rl rfl ?_
          cases bu
          exact lpn (wj hA [(0, 0), (1, 1)] rfl rfl rfl rfl)
        .refine dwp_exit <| thenD_x ?_
         obtain ⟨ci, bv, rfl⟩ := mps an; clear an
         refine lpx <| inB_x <| thenD_n <| rs env_ok <| rl rfl <| dwp_ret ?_
         cases bv
         exact ipr (nt := 22) (sl := [(4, lb false)]) (wj hA [(0, 0)] rfl rfl rfl rfl) rfl
       .refine rn 2 rfl ?_
        refine gs 42 ao rfl rfl rfl (fun bw => ?_) (fun ap => ?_) <;> clear ao
        .refine rl rfl ?_
         cases bw
         exact npn (wf hA [(0, 0)] rfl rfl rfl)
        .refine rn 2 rfl ?_
         refine sx rfl (o_len rfl rfl ?_)
         refine rn 1 rfl ?_
         refine sx rfl (o_in env_ok (fun i : Bool => lb i) (fun i : Bool => [(0, .box [ls 3 elemC b.elems, ls 4 joinC b.joins, ls 4 signalC b.signals, ls 2 lineC b.lines, li b.top, li b.brake, li b.margin, li b.throw, lb b.hard])]) 1 ap Tryz.func162 22 [.tmp 4] [(0, li (b.lines.length : Int)), (1, .fn 165 [.lpb 0 0])] rfl rfl rfl rfl rfl rfl rfl rfl (fun A hA i aq => ?_) (fun i b1 => ?_)) <;> clear ap
         .refine rs env_ok <| rl rfl <| rs env_ok <| rl rfl <| dwp_seq <| rs env_ok <| rl rfl <| dwp_block ?_
          apply lp (a := i) (fun e : (Int × (List (ByteArray × Bool))) => ⟨22, [(1, .fn 165 [.lpb 0 0]), (5, .lmap 1), (8, li (b.lines.length : Int)), (9, li e.1)], [(0, .box [ls 3 elemC b.elems, ls 4 joinC b.joins, ls 4 signalC b.signals, ls 2 lineC b.lines, li b.top, li b.brake, li b.margin, li b.throw, lb b.hard]), (1, .map (mapD .str .bool e.2))], 2⟩) aq <;> clear aq
          . exact wj hA [(0, 0), (1, 1)] rfl rfl rfl rfl
          intro e cn l
          unfold q_4o at l
          refine rs env_ok <| rl rfl <| dwp_seq ?_
          refine cd rfl l (fun ar => ?_) (fun ax => ?_) <;> clear l
          .refine dwp_skip <| thenD_n <| dwp_seq <| dwp_block <| rs env_ok <| rl rfl <| dwp_seq <| rs env_ok <| rn 3 rfl ?_
           obtain ⟨cc, bc, au⟩ := bd ar; clear ar
           refine sx rfl (o_call (w_63 _ _ _ bc) (.inl rfl) rfl rfl (LdA.eq (.cons (.one (.p _)) (.cons (.box rfl (.cons (.p _) (.cons (.p _) (.cons (.p _) (.cons (.p _) (.cons (.p _) (.cons (.p _) (.cons (.p _) (.cons (.p _) (.cons (.p _) .nil)))))))))) .nil))) ?_)
           refine sx rfl (o_lk1 (et := 4) (ke := .str) (ve := .bool) (mp := e.2) (y := cc) false keyE_9 rfl rfl rfl rfl ?_)
           refine rl rfl ?_
           refine cd rfl au (fun av => ?_) (fun aw => ?_) <;> clear au
           .refine rs env_ok <| rl rfl <| dwp_ret <| thenD_r <| inB_r <| thenD_r ?_
            obtain ⟨cj, bx, rfl⟩ := mps av; clear av
            refine lpt <| inB_r <| thenD_r ?_
            cases bx
            exact ipr (nt := 22) (sl := [(4, lb true)]) (wj hA [(0, 0)] rfl rfl rfl rfl) rfl
           .refine dwp_skip <| thenD_n <| rg env_ok <| rn 3 rfl ?_
            obtain ⟨ce, be, bz⟩ := bd aw; clear aw
            refine sx rfl (o_call (w_63 _ _ _ be) (.inl rfl) rfl rfl (LdA.eq (.cons (.one (.p _)) (.cons (.box rfl (.cons (.p _) (.cons (.p _) (.cons (.p _) (.cons (.p _) (.cons (.p _) (.cons (.p _) (.cons (.p _) (.cons (.p _) (.cons (.p _) .nil)))))))))) .nil))) ?_)
            refine sx rfl (o_mup (et := 4) (ke := .str) (ve := .bool) (mp := e.2) (y := ce) (z := true) keyE_9 rfl rfl rfl rfl rfl rfl ?_)
            refine rl rfl <| inB_n <| thenD_n <| rg env_ok <| rl rfl ?_
            cases bz
            exact lpn (wj hA [(0, 0), (1, 1)] rfl rfl rfl rfl)
          .refine dwp_exit <| thenD_x ?_
           obtain ⟨ck, b0, rfl⟩ := mps ax; clear ax
           refine lpx <| inB_x <| thenD_n <| rs env_ok <| rl rfl <| dwp_ret ?_
           cases b0
           exact ipr (nt := 22) (sl := [(4, lb false)]) (wj hA [(0, 0)] rfl rfl rfl rfl) rfl
         .refine rl rfl ?_
          have hr := Option.some.inj b1; subst hr
          exact npn (wf hA [(0, 0)] rfl rfl rfl)
    .refine cd rfl ay (fun b2 => ?_) (fun az => ?_) <;> clear ay
     .refine rs env_ok <| rl rfl <| dwp_ret <| thenD_r ?_
      cases b2
      exact er rfl Le.rfl
     .refine dwp_skip <| thenD_n <| rs env_ok <| rn 1 rfl ?_
      obtain ⟨cp, bf, a0⟩ := bd az; clear az
      refine sx rfl (o_call (w_96 _ _ bf) (.inr rfl) rfl rfl rfl ?_)
      refine rl rfl <| dwp_seq <| dwp_block <| rs env_ok <| rl rfl ?_
      refine cd rfl a0 (fun b3 => ?_) (fun a1 => ?_) <;> clear a0
      .refine rs env_ok <| rl rfl <| dwp_ret <| inB_r <| thenD_r ?_
       cases b3
       exact er rfl Le.rfl
      .refine rs env_ok <| rn 2 rfl ?_
       obtain ⟨cq, bg, a2⟩ := bd a1; clear a1
       refine sx rfl (o_call (w_8t _ _ _ bg) (.inl rfl) rfl rfl rfl ?_)
       refine rl rfl ?_
       refine cd rfl a2 (fun b4 => ?_) (fun a3 => ?_) <;> clear a2
       .refine rs env_ok <| rl rfl <| dwp_ret <| inB_r <| thenD_r ?_
        cases b4
        exact er rfl Le.rfl
       .refine rs env_ok <| rn 2 rfl ?_
        obtain ⟨cr, bh, a4⟩ := bd a3; clear a3
        refine sx rfl (o_call (w_9d _ _ _ bh) (.inl rfl) rfl rfl rfl ?_)
        refine rl rfl ?_
        refine cd rfl a4 (fun b5 => ?_) (fun a5 => ?_) <;> clear a4
        .refine rs env_ok <| rl rfl <| dwp_ret <| inB_r <| thenD_r ?_
         cases b5
         exact er rfl Le.rfl
        .refine rs env_ok <| rn 1 rfl ?_
         obtain ⟨cs, bi, a6⟩ := bd a5; clear a5
         refine sx rfl (o_call (w_9u _ _ bi) (.inl rfl) rfl rfl rfl ?_)
         refine rl rfl ?_
         refine cd rfl a6 (fun b6 => ?_) (fun b7 => ?_) <;> clear a6
         .refine rs env_ok <| rl rfl <| dwp_ret <| inB_r <| thenD_r ?_
          cases b6
          exact er rfl Le.rfl
         .refine dwp_skip <| inB_n <| thenD_n <| rs env_ok <| rl rfl <| dwp_ret ?_
          cases b7
          exact er rfl Le.rfl
noncomputable def q_t (a : (List Elem)) : Option (List Elem) :=
 nilS a (some []) ((appI ([] : List Elem) a).bind fun b => some b)
theorem w_5b (a : (List Elem)) (r : (List Elem)) (h : q_t a = some r) : Fun Tryz.prog 170 [.slice 3 (a.map elemC)] (· = .slice 3 (r.map elemC)) := by
 refine fn env_ok Tryz.func170 rfl rfl 8 rfl [.tmp 2] rfl [(0, .p (.slice 3 (a.map elemC)))] rfl rfl fun A hA => ?_
 unfold q_t at h
 refine rs env_ok <| rl rfl <| dwp_seq <| rs env_ok <| rn 1 rfl ?_
 refine sx rfl (o_nilE h rfl rfl rfl (fun e => ?_) (fun b => ?_)) <;> clear h
 .refine rl rfl <| cdt rfl <| rs env_ok <| rl rfl <| dwp_ret <| thenD_r ?_
  cases e
  exact er rfl (Le.nil _)
 .refine rl rfl <| cdf rfl <| dwp_skip <| thenD_n <| rs env_ok <| rn 2 rfl ?_
  obtain ⟨f, c, d⟩ := bd b; clear b
  refine sx rfl (o_app1 (enc := elemC) (l := ([] : List Elem)) (m := a) c (fun _ => ⟨rfl, rfl⟩) rfl rfl rfl rfl rfl rfl ?_)
  refine rl rfl <| dwp_ret ?_
  have hr := Option.some.inj d; subst hr
  exact er (rd1 rfl (.one (.own (enc := elemC) f rfl rfl))) Le.rfl
noncomputable def q_u (a : (List Join)) : Option (List Join) :=
 nilS a (some []) ((appI ([] : List Join) a).bind fun b => some b)
theorem w_5c (a : (List Join)) (r : (List Join)) (h : q_u a = some r) : Fun Tryz.prog 171 [.slice 4 (a.map joinC)] (· = .slice 4 (r.map joinC)) := by
 refine fn env_ok Tryz.func171 rfl rfl 8 rfl [.tmp 2] rfl [(0, .p (.slice 4 (a.map joinC)))] rfl rfl fun A hA => ?_
 unfold q_u at h
 refine rs env_ok <| rl rfl <| dwp_seq <| rs env_ok <| rn 1 rfl ?_
 refine sx rfl (o_nilE h rfl rfl rfl (fun e => ?_) (fun b => ?_)) <;> clear h
 .refine rl rfl <| cdt rfl <| rs env_ok <| rl rfl <| dwp_ret <| thenD_r ?_
  cases e
  exact er rfl (Le.nil _)
 .refine rl rfl <| cdf rfl <| dwp_skip <| thenD_n <| rs env_ok <| rn 2 rfl ?_
  obtain ⟨f, c, d⟩ := bd b; clear b
  refine sx rfl (o_app1 (enc := joinC) (l := ([] : List Join)) (m := a) c (fun _ => ⟨rfl, rfl⟩) rfl rfl rfl rfl rfl rfl ?_)
  refine rl rfl <| dwp_ret ?_
  have hr := Option.some.inj d; subst hr
  exact er (rd1 rfl (.one (.own (enc := joinC) f rfl rfl))) Le.rfl
noncomputable def q_m (a : (List Signal)) : Option (List Signal) :=
 nilS a (some []) ((appI ([] : List Signal) a).bind fun b => some b)
theorem w_45 (a : (List Signal)) (r : (List Signal)) (h : q_m a = some r) : Fun Tryz.prog 172 [.slice 4 (a.map signalC)] (· = .slice 4 (r.map signalC)) := by
 refine fn env_ok Tryz.func172 rfl rfl 8 rfl [.tmp 2] rfl [(0, .p (.slice 4 (a.map signalC)))] rfl rfl fun A hA => ?_
 unfold q_m at h
 refine rs env_ok <| rl rfl <| dwp_seq <| rs env_ok <| rn 1 rfl ?_
 refine sx rfl (o_nilE h rfl rfl rfl (fun e => ?_) (fun b => ?_)) <;> clear h
 .refine rl rfl <| cdt rfl <| rs env_ok <| rl rfl <| dwp_ret <| thenD_r ?_
  cases e
  exact er rfl (Le.nil _)
 .refine rl rfl <| cdf rfl <| dwp_skip <| thenD_n <| rs env_ok <| rn 2 rfl ?_
  obtain ⟨f, c, d⟩ := bd b; clear b
  refine sx rfl (o_app1 (enc := signalC) (l := ([] : List Signal)) (m := a) c (fun _ => ⟨rfl, rfl⟩) rfl rfl rfl rfl rfl rfl ?_)
  refine rl rfl <| dwp_ret ?_
  have hr := Option.some.inj d; subst hr
  exact er (rd1 rfl (.one (.own (enc := signalC) f rfl rfl))) Le.rfl
noncomputable def q_v (a : (List Line)) : Option (List Line) :=
 nilS a (some []) ((appI ([] : List Line) a).bind fun b => some b)
theorem w_48 (a : (List Line)) (r : (List Line)) (h : q_v a = some r) : FunN Tryz.prog 173 [.slice 2 (a.map lineC)] 163 2 (r.map lineC) := by
 refine fnN (enc := lineC) (fun _ => ⟨rfl, rfl⟩) Tryz.func173 rfl rfl 8 rfl 2 rfl [(0, .p (.slice 2 (a.map lineC)))] rfl rfl fun A hA => ?_
 unfold q_v at h
 refine rs env_ok <| rl rfl <| dwp_seq <| rs env_ok <| rn 1 rfl ?_
 refine sx rfl (o_nilE h rfl rfl rfl (fun e => ?_) (fun b => ?_)) <;> clear h
 .refine rl rfl <| cdt rfl <| rs env_ok <| rl rfl <| dwp_ret <| thenD_r ?_
  cases e
  exact erNn rfl
 .refine rl rfl <| cdf rfl <| dwp_skip <| thenD_n <| rs env_ok <| rn 2 rfl ?_
  obtain ⟨f, c, d⟩ := bd b; clear b
  refine sx rfl (o_app1 (enc := lineC) (l := ([] : List Line)) (m := a) c (fun _ => ⟨rfl, rfl⟩) rfl rfl rfl rfl rfl rfl ?_)
  refine rl rfl <| dwp_ret ?_
  have hr := Option.some.inj d; subst hr
  exact erN rfl rfl rfl
noncomputable def q_1d (a : (List Int)) : Option (List Int) :=
 nilS a (some []) ((appI ([] : List Int) a).bind fun b => some b)
theorem w_7y (a : (List Int)) (r : (List Int)) (h : q_1d a = some r) : Fun Tryz.prog 124 [.slice 1 (a.map intC)] (· = .slice 1 (r.map intC)) := by
 refine fn env_ok Tryz.func124 rfl rfl 8 rfl [.tmp 2] rfl [(0, .p (.slice 1 (a.map intC)))] rfl rfl fun A hA => ?_
 unfold q_1d at h
 refine rs env_ok <| rl rfl <| dwp_seq <| rs env_ok <| rn 1 rfl ?_
 refine sx rfl (o_nilE h rfl rfl rfl (fun e => ?_) (fun b => ?_)) <;> clear h
 .refine rl rfl <| cdt rfl <| rs env_ok <| rl rfl <| dwp_ret <| thenD_r ?_
  cases e
  exact er rfl (Le.nil _)
 .refine rl rfl <| cdf rfl <| dwp_skip <| thenD_n <| rs env_ok <| rn 2 rfl ?_
  obtain ⟨f, c, d⟩ := bd b; clear b
  refine sx rfl (o_app1 (enc := intC) (l := ([] : List Int)) (m := a) c (fun _ => ⟨rfl, rfl⟩) rfl rfl rfl rfl rfl rfl ?_)
  refine rl rfl <| dwp_ret ?_
  have hr := Option.some.inj d; subst hr
  exact er (rd1 rfl (.one (.own (enc := intC) f rfl rfl))) Le.rfl
end Go.E
