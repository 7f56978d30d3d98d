/- The types that the functions of this seat use, as plain data. Written by a program (mkenv.py). No condition. -/
import Derived.Test.YtilbadmonidmhaaGreatProg
import Derived.Test.YtilbadmonidmhaaGreatDel
import Derived.Shelf.Sort.Plain
import Derived.Shelf.Slices.In.SortNone
import Derived.Shelf.Slices.CompactI
import Derived.Lib.RowBridge
import Derived.ScopeJumps
import Derived.Test.YtilbadmonidmhaaGreatJ2
set_option linter.unusedVariables false
set_option linter.unusedSimpArgs false
namespace Go.E
open Go Go.RowKit Go.Proofs
def ttL : List (Nat × TI) := [
 (3, ⟨.int .i64, 1, 8, [.int .i64 0]⟩),
 (4, ⟨.bool, 1, 1, [.bool false]⟩),
 (5, ⟨.int .u8, 1, 1, [.int .u8 0]⟩),
 (9, ⟨.str, 1, 16, [.str .empty]⟩),
 (22, ⟨.slc 152, 1, 24, [.nils]⟩),
 (23, ⟨.slc 154, 1, 24, [.nils]⟩),
 (24, ⟨.slc 157, 1, 24, [.nils]⟩),
 (25, ⟨.slc 163, 1, 24, [.nils]⟩),
 (27, ⟨.struct [(0, 22), (1, 23), (2, 24), (3, 25), (4, 3), (5, 3), (6, 3), (7, 3), (8, 4)], 9, 136, [.nils, .nils, .nils, .nils, .int .i64 0, .int .i64 0, .int .i64 0, .int .i64 0, .bool false]⟩),
 (28, ⟨.slc 3, 1, 24, [.nils]⟩),
 (31, ⟨.other, 1, 8, [.nilp]⟩),
 (33, ⟨.slc 65, 1, 24, [.nils]⟩),
 (34, ⟨.slc 91, 1, 24, [.nils]⟩),
 (36, ⟨.struct [(0, 3), (1, 3), (2, 3), (3, 33), (4, 34), (5, 34), (6, 28), (7, 28), (8, 4)], 9, 152, [.int .i64 0, .int .i64 0, .int .i64 0, .nils, .nils, .nils, .nils, .nils, .bool false]⟩),
 (41, ⟨.slc 4, 1, 24, [.nils]⟩),
 (46, ⟨.slc 55, 1, 24, [.nils]⟩),
 (48, ⟨.other, 1, 8, [.nilp]⟩),
 (50, ⟨.other, 1, 8, [.nilp]⟩),
 (55, ⟨.struct [(0, 3), (1, 3), (2, 3), (3, 36)], 12, 176, [.int .i64 0, .int .i64 0, .int .i64 0, .int .i64 0, .int .i64 0, .int .i64 0, .nils, .nils, .nils, .nils, .nils, .bool false]⟩),
 (60, ⟨.slc 5, 1, 24, [.nils]⟩),
 (61, ⟨.slc 36, 1, 24, [.nils]⟩),
 (65, ⟨.struct [(0, 3), (1, 3), (2, 3)], 3, 24, [.int .i64 0, .int .i64 0, .int .i64 0]⟩),
 (68, ⟨.struct [(0, 27), (9, 61)], 10, 160, [.nils, .nils, .nils, .nils, .int .i64 0, .int .i64 0, .int .i64 0, .int .i64 0, .bool false, .nils]⟩),
 (72, ⟨.int .i64, 1, 8, [.int .i64 0]⟩),
 (91, ⟨.struct [(0, 3), (1, 3)], 2, 16, [.int .i64 0, .int .i64 0]⟩),
 (92, ⟨.mp 96 4, 1, 8, [.nilm]⟩),
 (93, ⟨.slc 96, 1, 24, [.nils]⟩),
 (96, ⟨.struct [(0, 3), (1, 3)], 2, 16, [.int .i64 0, .int .i64 0]⟩),
 (104, ⟨.other, 1, 8, [.nilp]⟩),
 (108, ⟨.mp 3 4, 1, 8, [.nilm]⟩),
 (115, ⟨.mp 3 28, 1, 8, [.nilm]⟩),
 (116, ⟨.mp 3 34, 1, 8, [.nilm]⟩),
 (118, ⟨.struct [(0, 3), (1, 115), (2, 115), (3, 116), (4, 116)], 5, 40, [.int .i64 0, .nilm, .nilm, .nilm, .nilm]⟩),
 (119, ⟨.slc 124, 1, 24, [.nils]⟩),
 (121, ⟨.struct [(0, 3), (1, 119)], 2, 32, [.int .i64 0, .nils]⟩),
 (124, ⟨.struct [(0, 3), (1, 28), (2, 28), (3, 34), (4, 34)], 5, 104, [.int .i64 0, .nils, .nils, .nils, .nils]⟩),
 (131, ⟨.mp 3 3, 1, 8, [.nilm]⟩),
 (145, ⟨.slc 147, 1, 24, [.nils]⟩),
 (147, ⟨.struct [(0, 3), (1, 3)], 2, 16, [.int .i64 0, .int .i64 0]⟩),
 (152, ⟨.struct [(0, 9), (1, 3), (2, 3)], 3, 32, [.str .empty, .int .i64 0, .int .i64 0]⟩),
 (154, ⟨.struct [(0, 96), (2, 96)], 4, 32, [.int .i64 0, .int .i64 0, .int .i64 0, .int .i64 0]⟩),
 (157, ⟨.struct [(0, 9), (1, 96), (3, 4)], 4, 40, [.str .empty, .int .i64 0, .int .i64 0, .bool false]⟩),
 (160, ⟨.slc 34, 1, 24, [.nils]⟩),
 (163, ⟨.struct [(0, 9), (1, 28)], 2, 40, [.str .empty, .nils]⟩),
 (164, ⟨.slc 9, 1, 24, [.nils]⟩),
 (169, ⟨.mp 96 96, 1, 8, [.nilm]⟩),
 (170, ⟨.mp 96 3, 1, 8, [.nilm]⟩),
 (171, ⟨.mp 3 174, 1, 8, [.nilm]⟩),
 (173, ⟨.struct [(0, 27), (9, 169), (10, 170), (11, 171), (12, 131)], 13, 168, [.nils, .nils, .nils, .nils, .int .i64 0, .int .i64 0, .int .i64 0, .int .i64 0, .bool false, .nilm, .nilm, .nilm, .nilm]⟩),
 (174, ⟨.arr 2 3, 2, 16, [.int .i64 0, .int .i64 0]⟩),
 (180, ⟨.int .u64, 1, 8, [.int .u64 0]⟩),
 (193, ⟨.other, 1, 8, [.nilp]⟩),
 (195, ⟨.struct [(0, 27), (9, 36), (18, 93)], 19, 312, [.nils, .nils, .nils, .nils, .int .i64 0, .int .i64 0, .int .i64 0, .int .i64 0, .bool false, .int .i64 0, .int .i64 0, .int .i64 0, .nils, .nils, .nils, .nils, .nils, .bool false, .nils]⟩),
 (201, ⟨.arr 4 3, 4, 32, [.int .i64 0, .int .i64 0, .int .i64 0, .int .i64 0]⟩),
 (202, ⟨.arr 3 3, 3, 24, [.int .i64 0, .int .i64 0, .int .i64 0]⟩),
 (222, ⟨.int .i64, 1, 8, [.int .i64 0]⟩),
 (229, ⟨.int .u32, 1, 4, [.int .u32 0]⟩),
 (231, ⟨.int .u64, 1, 8, [.int .u64 0]⟩),
 (233, ⟨.other, 1, 8, [.nilp]⟩),
 (234, ⟨.slc 145, 1, 24, [.nils]⟩),
 (236, ⟨.struct [(0, 3), (1, 33), (2, 28), (3, 234)], 4, 80, [.int .i64 0, .nils, .nils, .nils]⟩),
 (243, ⟨.mp 9 4, 1, 8, [.nilm]⟩),
 (245, ⟨.int .u64, 1, 8, [.int .u64 0]⟩),
 (249, ⟨.other, 1, 8, [.nilp]⟩)]
def eqL : List (Nat × List Sh) := [(65, [.int .i64, .int .i64, .int .i64]), (91, [.int .i64, .int .i64]), (96, [.int .i64, .int .i64])]
def keyL : List (Nat × List Sh) := [(96, [.int .i64, .int .i64])]
def ptrL : List Nat := [31, 48]
def env : Env := ⟨fun t => lookB t ttL, fun t => lookB t eqL, fun t => lookB t keyL, memB ptrL, none, false⟩
def envCO (b : Nat) (l : List Nat) : Env := ⟨fun t => lookB t ttL, fun t => lookB t eqL, fun t => lookB t keyL, memB ptrL, some fun id => Nat.ble b id || memB l id, true⟩
theorem ptr_31 : ∃ e, Tryz.prog.underlying 31 = some (.pointer e) := ⟨173, by kernel_rfl⟩
theorem ptr_48 : ∃ e, Tryz.prog.underlying 48 = some (.pointer e) := ⟨118, by kernel_rfl⟩
theorem tts_ok : TTOK Tryz.prog env.tt := ttok_ofB (by kernel_rfl)
theorem eq_65 : EqOK Tryz.prog 65 [.int .i64, .int .i64, .int .i64] := eqok_flat (by kernel_rfl) (by kernel_rfl) (by kernel_rfl) (by kernel_rfl)
theorem eq_91 : EqOK Tryz.prog 91 [.int .i64, .int .i64] := eqok_flat (by kernel_rfl) (by kernel_rfl) (by kernel_rfl) (by kernel_rfl)
theorem eq_96 : EqOK Tryz.prog 96 [.int .i64, .int .i64] := eqok_flat (by kernel_rfl) (by kernel_rfl) (by kernel_rfl) (by kernel_rfl)
theorem key_96 : KeyOK Tryz.prog 96 [.int .i64, .int .i64] := keyok_flat (by kernel_rfl) eq_96 (by kernel_rfl)
theorem env_ok : EnvOK Tryz.prog env := by
 refine ⟨tts_ok, fun t ks h => ?_, fun t ks h => ?_, fun t h => ?_⟩
 ·simp only [env, lookB_eq, eqL, look] at h
  split at h
  ·subst_vars; cases h; exact eq_65
  split at h
  ·subst_vars; cases h; exact eq_91
  split at h
  ·subst_vars; cases h; exact eq_96
  cases h
 ·simp only [env, lookB_eq, keyL, look] at h
  split at h
  ·subst_vars; cases h; exact key_96
  cases h
 ·simp only [env, ptrL, memB_eq, List.mem_cons, List.not_mem_nil, or_false] at h
  rcases h with rfl | rfl
  ·exact ptr_31
  ·exact ptr_48
theorem env_okCO (b : Nat) (l : List Nat) : EnvOK Tryz.prog (envCO b l) := ⟨env_ok.tt, env_ok.eqk, env_ok.keyk, env_ok.ptr⟩
theorem mixed : Tryz.prog.follows .mixedOrders = true := by kernel_rfl
end Go.E
/- slices.Delete as a call out of a data state: the row goes on under a new name. For an own slice, i up to j up to its length. -/
namespace Go.E
open Go Go.RowKit Go.Shelf Go.Proofs
theorem cellsAt_setCells (b : Nat) : ∀ (vs : List Value) (o : Nat) (w : World) (c : Array Value) (e : TypeId), w.heap[b]? = some (.cells c e (0, 0)) → o + vs.length ≤ c.size →
  ∃ c', (w.setCells b o vs).heap[b]? = some (.cells c' e (0, 0)) ∧ c'.size = c.size ∧ ∀ t, c'[t]? = if o ≤ t ∧ t < o + vs.length then vs[t - o]? else c[t]?
 | [], o, w, c, e, h, _ => ⟨c, h, rfl, fun t => by rw [if_neg (by simp)]⟩
 | v :: r, o, w, c, e, h, hl => by
  simp only [List.length_cons] at hl
  have hb : (w.setCell ⟨b, o, none⟩ v).heap[b]? = some (.cells (c.setIfInBounds o v) e (0, 0)) := by
   simp [World.setCell, Array.getElem?_modify, h]
  obtain ⟨c', h1, h2, h3⟩ := cellsAt_setCells b r (o + 1) _ _ e hb (by simp; omega)
  refine ⟨c', h1, by rw [h2]; simp, fun t => ?_⟩
  rw [h3 t]
  simp only [List.length_cons]
  by_cases h4 : t = o
  ·subst h4
   rw [if_neg (by omega), if_pos (by omega), Array.getElem?_setIfInBounds, if_pos rfl, if_pos (by omega)]
   simp
  ·by_cases h5 : o + 1 ≤ t ∧ t < o + 1 + r.length
   ·rw [if_pos h5, if_pos (by omega)]
    rw [show t - o = t - (o + 1) + 1 by omega, List.getElem?_cons_succ]
   ·rw [if_neg h5, if_neg (by omega), Array.getElem?_setIfInBounds, if_neg (fun e => h4 e.symm)]
theorem setCells_size (b : Nat) : ∀ (vs : List Value) (o : Nat) (w : World), (w.setCells b o vs).heap.size = w.heap.size
 | [], _, _ => rfl
 | v :: r, o, w => by rw [World.setCells, setCells_size b r]; simp [World.setCell]
theorem setCells_os (b : Nat) : ∀ (vs : List Value) (o : Nat) (w : World), (w.setCells b o vs).os = w.os
 | [], _, _ => rfl
 | v :: r, o, w => by rw [World.setCells, setCells_os b r]; rfl
theorem setCells_tape (b : Nat) : ∀ (vs : List Value) (o : Nat) (w : World), (w.setCells b o vs).tape = w.tape
 | [], _, _ => rfl
 | v :: r, o, w => by rw [World.setCells, setCells_tape b r]; rfl
theorem setCells_output (b : Nat) : ∀ (vs : List Value) (o : Nat) (w : World), (w.setCells b o vs).output = w.output
 | [], _, _ => rfl
 | v :: r, o, w => by rw [World.setCells, setCells_output b r]; rfl
theorem setCells_other (b : Nat) : ∀ (vs : List Value) (o : Nat) (w : World) (q : Nat), q ≠ b → (w.setCells b o vs).heap[q]? = w.heap[q]?
 | [], _, _, _, _ => rfl
 | v :: r, o, w, q, h => by
  rw [World.setCells, setCells_other b r _ _ q h]
  simp only [World.setCell, Array.getElem?_modify]
  rw [if_neg (fun e => h e.symm)]
variable {P : Program} {ρ : Ren} {env : Env} {A : Amb}
section
variable {α : Type} {enc : α → List DV} {l r : List α} {i j : Int} {nt : Nat} {sl : List (Nat × LV)} {h h' : Heap} {c d : Nat} {f : St → Prop} {hf : Hid f}
end
end Go.E
/- slices.Sort and slices.Compact of an own row of whole numbers, as calls out of a data state. For rows of fewer than 2^62 numbers. -/
namespace Go.E
open Go Go.RowKit Go.Shelf Go.Proofs Go.Sort
def i64C (n : Int) : List DV := [.int .i64 n]
def insI (x : Int) : List Int → List Int
 | [] => [x]
 | y :: l => if x ≤ y then x :: y :: l else y :: insI x l
def isort : List Int → List Int
 | [] => []
 | x :: l => insI x (isort l)
theorem insI_perm (x : Int) : ∀ l, (insI x l).Perm (x :: l)
 | [] => .refl _
 | y :: l => by
  unfold insI
  split
  ·exact .refl _
  ·exact ((insI_perm x l).cons y).trans (.swap x y l)
theorem isort_perm : ∀ l, (isort l).Perm l
 | [] => .refl _
 | x :: l => (insI_perm x (isort l)).trans ((isort_perm l).cons x)
theorem insI_rise (x : Int) : ∀ l, l.Pairwise (· ≤ ·) → (insI x l).Pairwise (· ≤ ·)
 | [], _ => by simp [insI]
 | y :: l, h => by
  unfold insI
  rw [List.pairwise_cons] at h
  split
  ·rename_i hxy
   refine List.pairwise_cons.2 ⟨fun z hz => ?_, List.pairwise_cons.2 h⟩
   rcases List.mem_cons.1 hz with rfl | hz
   ·exact hxy
   ·exact Int.le_trans hxy (h.1 z hz)
  ·rename_i hxy
   refine List.pairwise_cons.2 ⟨fun z hz => ?_, insI_rise x l h.2⟩
   rcases List.mem_cons.1 ((insI_perm x l).mem_iff.1 hz) with rfl | hz
   ·omega
   ·exact h.1 z hz
theorem isort_rise : ∀ l, (isort l).Pairwise (· ≤ ·)
 | [] => by simp [isort]
 | x :: l => insI_rise x _ (isort_rise l)
theorem isort_eq (l : List Int) : l.mergeSort (fun x y => decide (x ≤ y)) = isort l := by
 refine List.Perm.eq_of_pairwise (le := fun a b : Int => a ≤ b) (fun a b _ _ h1 h2 => Int.le_antisymm h1 h2) ?_ (isort_rise l) ((List.mergeSort_perm _ _).trans (isort_perm l).symm)
 have := List.pairwise_mergeSort (le := fun x y : Int => decide (x ≤ y)) (by simp; intro a b c; omega) (by simp; omega) l
 simpa using this
def sortI (l : List Int) : Option (List Int) := if l.length < 4611686018427387904 then some (isort l) else none
theorem sortI_len {l r : List Int} (h : sortI l = some r) : l.length = r.length := by
 unfold sortI at h
 split at h
 ·cases h; exact (isort_perm l).length_eq.symm
 ·cases h
section
variable {P : Program} {ρ : Ren} {env : Env} {A : Amb}
theorem row_holds {O : Nat → Prop} {w : World} {b o : Nat} {c : Array Value} {e : TypeId} {zs : List Int} {n : Nat} (hb : w.heap[b]? = some (.cells c e (0, 0))) (hc : c.size = o + n) (hn : zs.length ≤ n)
  (hrel : ∀ (i j : Nat) (x : List DV) (d : DV) (v : Value), (zs.map i64C)[i]? = some x → x[j]? = some d → c[o + i * 1 + j]? = some v → PRel O w v d) : Holds (Value.int .i64) w b o zs.toArray := by
 intro j hj
 have hj' : j < zs.length := by simpa using hj
 have hlt : o + j < c.size := by omega
 have hz : (zs.map i64C)[j]? = some (i64C zs[j]) := by simp [hj']
 have := hrel j 0 _ (.int .i64 zs[j]) c[o + j] hz rfl (by simp [hlt])
 have key : ∀ u, PRel O w u (.int .i64 zs[j]) → u = .int .i64 zs[j] := fun u h => by cases h; rfl
 refine ⟨?_, by simp [World.frozen?, hb]⟩
 rw [cell_of_block hb (Array.getElem?_eq_getElem hlt), key _ this]
 simp [hj']
theorem callW_sort (hE : EnvOK P env) (L : Lays.n189 P ρ) {e : Nat} {te : TI} (h3 : env.tt e = some te) (h1 : te.size = 1) {h : Heap} {ctr id : Nat} {zs ys : List Int}
  (hl : look id h = some (.row e 1 (zs.map i64C))) (hs : sortI zs = some ys) {K : LV → Heap → Nat → Prop} (hK : K (.p (.tup [])) (upd id (.row e 1 (ys.map i64C)) h) ctr) :
  CallW P A h ctr (ρ.f 189) [.lsl id 1 0 zs.length] K := by
 unfold sortI at hs
 rw [← isort_eq] at hs
 split at hs
 ·rename_i hlen
  cases hs
  refine ⟨enters_of L.f189 rfl rfl, fun μ w vs hh hsz hr => ?_⟩
  have hvs : ∃ a, vs = #[a] := by
   obtain ⟨l⟩ := vs
   match l, hsz with
   | [a], _ => exact ⟨a, rfl⟩
  obtain ⟨v0, rfl⟩ := hvs
  have h0 := hr 0 v0 _ rfl rfl
  have htup : ∀ w', LRel (Own A μ (upd id (.row e 1 ((zs.mergeSort fun x y => decide (x ≤ y)).map i64C)) h)) μ w' (.tuple #[]) (.p (.tup [])) := fun w' => .p _ _ (.tup #[] [] rfl (by simp))
  obtain ⟨loc, hm, hz, hel, hrow⟩ := hh.obj id _ hl
  have empty : zs = [] → ∀ p cap, v0 = .slice p 0 cap → Calls P (ρ.f 189) #[v0] w fun en w' => ∃ u l h' c' μ', en = .returned u ∧ K l h' c' ∧ HRel A μ' h' (Fr c') w' ∧ LRel (Own A μ' h') μ' w' u l ∧ ∀ v x, LRel (Own A μ h) μ w v x → LRel (Own A μ' h') μ' w' v x := by
   rintro rfl p cap rfl
   refine (Any.slices_Sort_int_none L p cap w).mono ?_
   rintro en w' ⟨rfl, rfl⟩
   have hu : ∀ q, look q (upd id (.row e 1 ((([] : List Int).mergeSort fun x y => decide (x ≤ y)).map i64C)) h) = look q h := fun q => by
    by_cases hq : q = id
    ·subst hq; rw [look_upd_same hl, hl]; simp
    ·rw [look_upd_other hq]
   have hmine : Mine μ (upd id (.row e 1 ((([] : List Int).mergeSort fun x y => decide (x ≤ y)).map i64C)) h) = Mine μ h := by
    funext b; simp only [Mine, hu]
   have hown : Own A μ (upd id (.row e 1 ((([] : List Int).mergeSort fun x y => decide (x ≤ y)).map i64C)) h) = Own A μ h := by funext b; simp only [Own, hmine]
   refine ⟨_, _, _, _, μ, rfl, hK, ?_, htup _, fun v x hv => by rw [hown]; exact hv⟩
   refine ⟨fun q o hq => ?_, fun q q' o o' l l' hq hq' => ?_, hh.fresh, fun q o l hq => ?_, hh.size, hh.block, hh.os, hh.tape, hh.output, hh.ext⟩
   ·rw [hu] at hq; rw [hown]; exact hh.obj q o hq
   ·rw [hu] at hq hq'; exact hh.inj q q' o o' l l' hq hq'
   ·rw [hu] at hq; exact hh.base q o l hq
  rcases hrow with ⟨hn, hz0⟩ | ⟨hn, c, hblk, hcs, hle, hcm, hrel⟩
  ·have hzs : zs = [] := by simpa using hz0
   subst hzs
   generalize hgen : (LV.lsl id 1 0 ([] : List Int).length) = lv at h0
   cases h0 with
   | lsln => exact empty rfl _ _ rfl
   | lsl _ _ _ cap ad loc' hm' hn' hcap hlc had hbk hsp =>
    simp only [LV.lsl.injEq, List.length_nil] at hgen
    obtain ⟨-, -, -, e4⟩ := hgen
    subst e4
    exact empty rfl _ _ rfl
   | _ => cases hgen
  ·by_cases hne : zs = []
   ·subst hne
    generalize hgen : (LV.lsl id 1 0 ([] : List Int).length) = lv at h0
    cases h0 with
    | lsln => exact empty rfl _ _ rfl
    | lsl _ _ _ cap ad loc' hm' hn' hcap hlc had hbk hsp =>
     simp only [LV.lsl.injEq, List.length_nil] at hgen
     obtain ⟨-, -, -, e4⟩ := hgen
     subst e4
     exact empty rfl _ _ rfl
    | _ => cases hgen
   ·have hpos : 0 < zs.length := List.length_pos_iff.2 hne
    generalize hgen : (LV.lsl id 1 0 zs.length) = lv at h0
    cases h0 with
    | lsl id' off len cap ad loc' hm' hn' hcap hlc had hbk hsp =>
     simp only [LV.lsl.injEq] at hgen
     obtain ⟨e1, e2, e3, e4⟩ := hgen
     subst e1 e3 e4
     rw [hm] at hm'; cases hm'
     have had' := had (by omega)
     simp only [Nat.zero_mul, Nat.add_zero] at had'
     subst had'
     have hlt := (hh.base id _ loc hl hm hn).1
     simp only [List.length_map] at hle
     have hH := row_holds (zs := zs) (o := loc.o) (n := loc.cap) hblk (by rw [hcs]; omega) hle (by rw [← hz] at hrel ⊢; exact hrel)
     refine (Any.slices_Sort_int L loc.b loc.o cap zs w hH hlt hlen).mono ?_
     rintro en w' ⟨rfl, q, os, rfl⟩
     have hsl : (zs.mergeSort fun x y => decide (x ≤ y)).length = zs.length := List.length_mergeSort _
     rw [Lib.putRow_eq_setCells (Value.int .i64) w loc.b loc.o zs.toArray (zs.mergeSort fun x y => decide (x ≤ y)) q hH (by simp [hsl])]
     obtain ⟨c1, k1, k2, k3⟩ := cellsAt_setCells loc.b ((zs.mergeSort fun x y => decide (x ≤ y)).map (Value.int .i64)) loc.o (w.drewN q) c e hblk (by simp [hsl]; omega)
     have hw := hh.write (w' := (w.drewN q).setCells loc.b loc.o ((zs.mergeSort fun x y => decide (x ≤ y)).map (Value.int .i64))) (o := .row e 1 ((zs.mergeSort fun x y => decide (x ≤ y)).map i64C)) hl hm hn
      (by rw [setCells_size]; rfl) (fun b hb => by rw [setCells_other _ _ _ _ _ hb]; rfl) (by rw [setCells_os]; rfl) (by rw [setCells_tape]; rfl) (by rw [setCells_output]; rfl)
      ⟨hz, fun y hy => by obtain ⟨n, _, rfl⟩ := List.mem_map.1 hy; rfl, .inr ⟨hn, c1, k1, by rw [k2]; exact hcs, by simpa [hsl] using hle, hcm, fun i j x d v hx hd hv => by
       simp only [List.getElem?_map, Option.map_eq_some_iff] at hx
       obtain ⟨n, hn', rfl⟩ := hx
       have hj : j = 0 := by
        have := (List.getElem?_eq_some_iff.1 hd).1
        simp [i64C] at this; omega
       subst hj
       simp only [i64C, List.getElem?_cons_zero, Option.some.injEq] at hd
       subst hd
       have hi := (List.getElem?_eq_some_iff.1 hn').1
       rw [k3, if_pos (by simp; omega)] at hv
       rw [show loc.o + i * 1 + 0 - loc.o = i by omega, List.getElem?_map, hn'] at hv
       cases hv
       exact .int _ _⟩⟩
     obtain ⟨w1, w2, w3⟩ := hw
     have hk := w1.keep (w' := grow ((w.drewN q).setCells loc.b loc.o ((zs.mergeSort fun x y => decide (x ≤ y)).map (Value.int .i64))) os) (h' := upd id (.row e 1 ((zs.mergeSort fun x y => decide (x ≤ y)).map i64C)) h) (μ' := μ) (F' := Fr ctr) (fun _ _ h => h) w1.fresh (fun _ _ h => h)
      (fun b hb => by show (_ ++ os)[b]? = _; rw [Array.getElem?_append_left hb]) (by show _ ≤ (_ ++ os).size; simp) rfl rfl rfl
     refine ⟨_, _, _, _, μ, rfl, hK, hk.1, htup _, fun v x hv => ?_⟩
     have hv1 := hv.mono w2.own (fun b _ => w3 b) (fun _ _ h => h)
     refine hv1.mono (Kept.mk ?_ ?_) (fun b _ hb => hb) (fun _ _ h => h)
     ·show _ ≤ (_ ++ os).size; simp
     ·intro b hb _; show (_ ++ os)[b]? = _; rw [Array.getElem?_append_left hb]
    | lsln =>
     simp only [LV.lsl.injEq] at hgen
     obtain ⟨-, -, -, e4⟩ := hgen
     omega
    | _ => cases hgen
 ·cases hs
end
section
variable {P : Program} {ρ : Ren} {env : Env} {A : Amb} {l r : List Int} {nt : Nat} {sl : List (Nat × LV)} {h h' : Heap} {c d : Nat} {f : St → Prop} {hf : Hid f}
theorem o_sort (hE : EnvOK P env) {k : Nat} (L : Lays.n189 P ρ) (hk : ρ.f 189 = k) {t e : Nat} {fo : Operand} {args : Array Operand} {ts : Array TypeId} {id n : Nat} {enc : Int → List DV} (henc : enc = i64C)
  (hr : sortI l = some r) (hl : lookB id h = some (.row e 1 (l.map enc))) (hn : n = l.length) (hd : upd id (.row e 1 (r.map enc)) h = h') (ht : slcT env t e 1 = true)
  (hfn : evC nt sl fo = .fn k []) (ha : mapOpF nt sl args.toList some = some [.lsl id 1 0 n])
  (kk : f ⟨nt, (d, .p (.tup [])) :: sl, h', c⟩) : opS P A env ⟨nt, sl, h, c⟩ (some d) (.call ⟨.value fo, args, ts⟩) ⟨f, hf⟩ := by
 obtain ⟨ti, te, h1, h2, h3, h4, h5, h6⟩ := slcT_eq ht
 rw [evC_eq (h := h) (c := c)] at hfn
 rw [lookB_eq] at hl
 subst henc hn hd hk
 show fnW _ _
 rw [hfn]
 show CallC P A h c _ (args.toList.map _ ++ []) _
 rw [args_eq ha, List.append_nil]
 exact callW_sort hE L h3 h4 hl hr kk
end
end Go.E
/- A scope in which the run jumps back to one label, and on to another. No condition. -/
namespace Go.E
open Go Go.RowKit
section
variable {P : Program} {A : Amb} {st : St} {σ Ans : Type}
end
def slO {α : Type} (l : List α) (lo hi : Int) : Option (List α) := match l with
 | [] => none
 | x :: r => slI (x :: r) lo hi
theorem slO_eq {α : Type} {l r : List α} {lo hi : Int} (h : slO l lo hi = some r) : l ≠ [] ∧ slI l lo hi = some r := by
 cases l with
 | nil => cases h
 | cons x l => exact ⟨by simp, h⟩
theorem slO_sp {α : Type} {l r : List α} {lo hi : Int} (h : slO l lo hi = some r) : lo.toNat + (hi - lo).toNat ≤ l.length ∧ (l.drop lo.toNat).take (hi - lo).toNat = r := by
 obtain ⟨-, h⟩ := slO_eq h
 unfold slI at h
 split at h
 ·rename_i hb
  cases h
  refine ⟨by omega, ?_⟩
  rw [List.drop_take]
  congr 1
  omega
 ·cases h
section
variable {P : Program} {A : Amb} {env : Env} {α : Type} {enc : α → List DV} {l r : List α} {nt : Nat} {sl : List (Nat × LV)} {h : Heap} {c d : Nat} {f : St → Prop} {hf : Hid f} {x : Operand} {t sz : Nat}
theorem o_slO {lo hi : Option Operand} {n m : Int} {id k : Nat} (hr : slO l n m = some r) (ht : slcSz env t sz = true) (hk : k = l.length) (hx : evC nt sl x = .lsl id sz 0 k)
  (hlo : bndI nt sl 0 lo = some n) (hhi : bndI nt sl l.length hi = some m)
  (kk : f ⟨nt, (d, .lsl id sz n.toNat (m - n).toNat) :: sl, h, c⟩) : opS P A env ⟨nt, sl, h, c⟩ (some d) (.slice t x lo hi none) ⟨f, hf⟩ := by
 obtain ⟨ti, e, te, h1, h2, h3, h4⟩ := slcSz_eq ht
 obtain ⟨hne, hs⟩ := slO_eq hr
 have hpos := List.length_pos_iff.2 hne
 subst hk
 rw [evC_eq (h := h) (c := c)] at hx
 simp only [slI] at hs
 split at hs
 ·rename_i hb
  show sliceS env t _ _ _ _
  rw [hx]
  refine tiW_iff.2 ⟨ti, h1, slcW_iff.2 ⟨e, h2, tiW_iff.2 ⟨te, h3, h4, by omega, ?_⟩⟩⟩
  refine bndI_eq hhi (bndI_eq hlo ⟨hb, ?_⟩)
  rw [Nat.zero_add]; exact kk
 ·cases hs
end
end Go.E
/- Own rows cut short; nil cells of own boxes; functions that call themselves. No condition. -/
namespace Go.E
open Go Go.RowKit
section
variable {A : Amb} {μ : Nat → Option Loc} {h : List (Nat × HObj)} {F : Nat → Prop} {w : World}
theorem HRel.swap (hh : HRel A μ h F w) {id : Nat} {o o' : HObj} (hx : look id h = some o) (hor : ∀ loc, μ id = some loc → ORel (Own A μ h) μ w loc o → ORel (Own A μ h) μ w loc o') :
  HRel A μ (upd id o' h) F w ∧ ∀ b, Own A μ (upd id o' h) b → Own A μ h b := by
 have hlook : ∀ j y, look j (upd id o' h) = some y → (j = id ∧ y = o') ∨ (j ≠ id ∧ look j h = some y) := by
  intro j y hy
  by_cases e : j = id
  ·subst e; rw [look_upd_same hx] at hy; cases hy; exact .inl ⟨rfl, rfl⟩
  ·rw [look_upd_other e] at hy; exact .inr ⟨e, hy⟩
 have hmine : ∀ b, Mine μ (upd id o' h) b → Mine μ h b := by
  rintro b ⟨j, y, lc, h1, h2, h3, h4⟩
  rcases hlook j y h1 with ⟨rfl, rfl⟩ | ⟨_, h1⟩
  ·exact ⟨j, o, lc, hx, h2, h3, h4⟩
  ·exact ⟨j, y, lc, h1, h2, h3, h4⟩
 have hown : ∀ b, Own A μ (upd id o' h) b → Own A μ h b := fun b hb => hb.imp (fun h => h) (hmine b)
 have f : ∀ j y, look j (upd id o' h) = some y → ∃ y, look j h = some y := by
  intro j y hy
  rcases hlook j y hy with ⟨rfl, rfl⟩ | ⟨_, hy⟩
  ·exact ⟨_, hx⟩
  ·exact ⟨_, hy⟩
 refine ⟨⟨?_, ?_, hh.fresh, ?_, hh.size, hh.block, hh.os, hh.tape, hh.output, hh.ext⟩, hown⟩
 ·intro j y hy
  rcases hlook j y hy with ⟨rfl, rfl⟩ | ⟨e, hy⟩
  ·obtain ⟨lc, h1, h2⟩ := hh.obj j o hx
   exact ⟨lc, h1, (hor lc h1 h2).mono (Kept.refl _ _) (fun b _ hb => hown b hb) (fun _ _ h => h) fun _ => rfl⟩
  ·obtain ⟨lc, h1, h2⟩ := hh.obj j y hy
   exact ⟨lc, h1, h2.mono (Kept.refl _ _) (fun b _ hb => hown b hb) (fun _ _ h => h) fun _ => rfl⟩
 ·intro j j' y y' lc lc' h1 h2 m1 m2 n1 n2 he
  obtain ⟨z, hz⟩ := f j y h1
  obtain ⟨z', hz'⟩ := f j' y' h2
  exact hh.inj _ _ _ _ _ _ hz hz' m1 m2 n1 n2 he
 ·intro j y lc h1 m1 n1
  obtain ⟨z, hz⟩ := f j y h1
  exact hh.base _ _ _ hz m1 n1
end
section
variable {A : Amb} {nt : Nat} {sl : List (Nat × LV)} {h h' : Heap} {c : Nat}
theorem weak_swap {id : Nat} {o o' : HObj} (hx : look id h = some o) (hor : ∀ O μ w loc, ORel O μ w loc o → ORel O μ w loc o') : Weak A ⟨nt, sl, h, c⟩ ⟨nt, sl, upd id o' h, c⟩ := fun a w ⟨⟨μ, hh, hr⟩, hnt, hdef⟩ => by
 obtain ⟨g1, g2⟩ := hh.swap hx (o' := o') fun loc _ => hor _ _ _ loc
 exact ⟨⟨μ, g1, fun t ht => (hr t ht).mono (Kept.refl _ _) (fun b _ hb => g2 b hb) fun _ _ h => h⟩, hnt, hdef⟩
theorem weak_cut {α : Type} {enc : α → List DV} (id : Nat) {e sz : Nat} {l r : List α} {m : Int} (hr : slO l 0 m = some r) (hl : lookB id h = some (.row e sz (l.map enc)))
  (hu : updF id (.row e sz (r.map enc)) h some = some h') : Weak A ⟨nt, sl, h, c⟩ ⟨nt, sl, h', c⟩ := by
 rw [lookB_eq] at hl
 rw [updF_eq, Option.some.injEq] at hu
 subst hu
 refine weak_swap hl fun O μ w loc ⟨h1, h2, h3⟩ => ?_
 obtain ⟨-, hr⟩ := slO_sp hr
 have hk : r = l.take (m - 0).toNat := by rw [← hr]; rfl
 generalize (m - 0).toNat = k at hk
 subst hk
 refine ⟨h1, fun x hx => h2 x ?_, ?_⟩
 ·obtain ⟨a, ha, rfl⟩ := List.mem_map.1 hx
  exact List.mem_map.2 ⟨a, List.mem_of_mem_take ha, rfl⟩
 ·rcases h3 with ⟨h3, h4⟩ | ⟨h3, cs, h4, h5, h6, h7, h8⟩
  ·refine .inl ⟨h3, ?_⟩
   rw [List.map_take, h4]; simp
  ·refine .inr ⟨h3, cs, h4, h5, ?_, h7, fun i j x d v hx => h8 i j x d v ?_⟩
   ·rw [List.length_map] at h6 ⊢
    rw [List.length_take]; omega
   ·rw [List.map_take, List.getElem?_take] at hx
    split at hx
    ·exact hx
    ·cases hx
theorem weak_ghostB (id j e sz : Nat) {cells cells' : List LV} (hl : lookB id h = some (.box cells)) (hj : cells[j]? = some (.p .nils)) (hc : cells.set j (.lsl c sz 0 0) = cells')
  (hu : updF id (.box cells') h some = some h') : Weak A ⟨nt, sl, h, c⟩ ⟨nt, sl, (c, .row e sz []) :: h', c + 1⟩ := fun a w ⟨⟨μ, hh, hr⟩, hnt, hdef⟩ => by
 rw [lookB_eq] at hl
 rw [updF_eq, Option.some.injEq] at hu
 subst hu hc
 have hno := hh.fresh c (Nat.le_refl _)
 let loc : Loc := ⟨true, 0, 0, sz, 0⟩
 have hsub : ∀ id x, look id ((c, HObj.row e sz []) :: h) = some x → (id = c ∧ x = .row e sz []) ∨ look id h = some x := by
  intro id x hx
  simp only [look] at hx
  split at hx
  ·cases hx; exact .inl ⟨‹_›, rfl⟩
  ·exact .inr hx
 have hadd := hh.add hno loc (.row e sz []) ((c, .row e sz []) :: h) (fun hn => by cases hn) (fun hn => by cases hn) hsub (Kept.refl _ _) (fun _ _ _ _ _ _ _ => rfl) rfl rfl rfl ⟨rfl, by simp, .inl ⟨rfl, rfl⟩⟩
 have hown := hh.sub_add loc (.row e sz []) ((c, .row e sz []) :: h) (fun hn => by cases hn) hsub
 have hadd' := hadd.less (F' := Fr (c + 1)) fun id hid => by simp only [Fr] at hid ⊢; omega
 have hne : id ≠ c := hh.live_ne hno hl
 have hl' : look id ((c, HObj.row e sz []) :: h) = some (.box cells) := by simp only [look, if_neg hne]; exact hl
 obtain ⟨g1, g2⟩ := hadd'.swap hl' (o' := .box (cells.set j (.lsl c sz 0 0))) fun lc _ ⟨k1, cs, t, k2, k3, k4⟩ => by
  refine ⟨k1, cs, t, k2, by rw [List.length_set]; exact k3, fun i v l hv hl => ?_⟩
  rw [List.getElem?_set] at hl
  split at hl
  ·split at hl
   ·cases hl
    subst_vars
    have := k4 _ v _ hv hj
    rw [this.nils_inv]
    exact .lsln c loc (by simp [setμ]) rfl
   ·cases hl
  ·exact k4 i v l hv hl
 have hup : upd id (.box (cells.set j (.lsl c sz 0 0))) ((c, HObj.row e sz []) :: h) = (c, .row e sz []) :: upd id (.box (cells.set j (.lsl c sz 0 0))) h := by
  simp only [upd, if_neg hne]
 rw [hup] at g1 g2
 exact ⟨⟨_, g1, fun u hu => (hr u hu).mono (Kept.refl _ _) (fun b hb hb' => hown b hb (g2 b hb')) (keepμ hno loc)⟩, hnt, hdef⟩
end
section
variable {P : Program} {A : Amb} {env : Env} {α : Type} {enc : α → List DV} {l r : List α} {nt : Nat} {sl : List (Nat × LV)} {h : Heap} {c d : Nat} {f : St → Prop} {hf : Hid f} {x : Operand} {t sz : Nat}
theorem o_slB {hi : Option Operand} {m : Int} {id k : Nat} (hr : slO l 0 m = some r) (ht : slcSz env t sz = true) (hk : k = l.length) (hx : evC nt sl x = .lsl id sz 0 k)
  (hhi : bndI nt sl l.length hi = some m)
  (kk : f ⟨nt, (d, .lsl id sz 0 r.length) :: sl, h, c⟩) : opS P A env ⟨nt, sl, h, c⟩ (some d) (.slice t x none hi none) ⟨f, hf⟩ := by
 refine o_slO (lo := none) hr ht hk hx rfl hhi ?_
 have e : (m - 0).toNat = r.length := by
  obtain ⟨h1, h2⟩ := slO_sp hr
  rw [← h2]
  simp at h1 ⊢; omega
 rw [e]
 exact kk
end
section
variable (id : Nat) (src d : LV)
mutual
inductive FrzV : LV → LV → Prop
 | same (v : LV) : FrzV v v
 | hit : FrzV src d
 | nil (z : Nat) : FrzV (.p .nils) (.p (.slice z []))
 | agg {a b : List LV} : FrzVs a b → FrzV (.agg a) (.agg b)
inductive FrzVs : List LV → List LV → Prop
 | nil : FrzVs [] []
 | cons {x y : LV} {a b : List LV} : FrzV x y → FrzVs a b → FrzVs (x :: a) (y :: b)
end
inductive FrzS (sl : List (Nat × LV)) : List (Nat × LV) → Prop
 | nil : FrzS sl []
 | cons (t : Nat) {v : LV} {r : List (Nat × LV)} : FrzV src d (getS sl t) v → FrzS sl r → FrzS sl ((t, v) :: r)
inductive FrzO : HObj → HObj → Prop
 | same (o : HObj) : FrzO o o
 | box {a b : List LV} : FrzVs src d a b → FrzO (.box a) (.box b)
inductive FrzH (h : Heap) : Heap → Prop
 | nil : FrzH h []
 | cons (i : Nat) {o o' : HObj} {r : Heap} (hne : Nat.beq i id = false) (hl : lookB i h = some o) : FrzO src d o o' → FrzH h r → FrzH h ((i, o') :: r)
end
section
variable {A : Amb} {nt : Nat} {sl sl' : List (Nat × LV)} {h h' : Heap} {c : Nat} {id : Nat} {src d : LV}
mutual
theorem frzV_rel {O O' : Nat → Prop} {μ μ' : Nat → Option Loc} {w : World} (hμ : ∀ id l, μ id = some l → μ' id = some l) (hO : ∀ b, b < w.heap.size → O' b → O b) (hd : ∀ v, LRel O μ w v src → LRel O' μ' w v d) : ∀ {x y : LV}, FrzV src d x y → ∀ v, LRel O μ w v x → LRel O' μ' w v y
 | _, _, .same _, v, h => h.mono (Kept.refl _ _) hO hμ
 | _, _, .hit, v, h => hd v h
 | _, _, .nil z, v, h => by
  rw [h.nils_inv]
  exact .p _ _ (.snil z)
 | _, _, .agg (a := ls) (b := b) q, v, h => by
  cases h with
  | agg vs _ hsz hr =>
   obtain ⟨g1, g2⟩ := frzVs_rel hμ hO hd q
   exact .agg vs _ (by omega) fun i v l hv hl => by
    have hi := (List.getElem?_eq_some_iff.1 hl).1
    obtain ⟨x, hx⟩ : ∃ x, ls[i]? = some x := ⟨ls[i]'(by omega), List.getElem?_eq_getElem _⟩
    exact g2 i x l hx hl v (hr i v x hv hx)
theorem frzVs_rel {O O' : Nat → Prop} {μ μ' : Nat → Option Loc} {w : World} (hμ : ∀ id l, μ id = some l → μ' id = some l) (hO : ∀ b, b < w.heap.size → O' b → O b) (hd : ∀ v, LRel O μ w v src → LRel O' μ' w v d) : ∀ {a b : List LV}, FrzVs src d a b → a.length = b.length ∧ ∀ (i : Nat) (x y : LV), a[i]? = some x → b[i]? = some y → ∀ v, LRel O μ w v x → LRel O' μ' w v y
 | _, _, .nil => ⟨rfl, fun i x y h => by simp at h⟩
 | _, _, .cons q r => by
  obtain ⟨g1, g2⟩ := frzVs_rel hμ hO hd r
  refine ⟨by simp [g1], fun i x y hx hy => ?_⟩
  cases i with
  | zero => simp at hx hy; subst hx hy; exact frzV_rel hμ hO hd q
  | succ i => exact g2 i x y (by simpa using hx) (by simpa using hy)
end
theorem frzS_look : ∀ {sl' : List (Nat × LV)}, FrzS src d sl sl' → ∀ t l, look t sl' = some l → FrzV src d (getS sl t) l
 | _, .nil, t, l, h => by simp [look] at h
 | _, .cons u q r, t, l, h => by
  simp only [look] at h
  split at h
  ·cases h; subst_vars; exact q
  ·exact frzS_look r t l h
theorem frzH_look : ∀ {h' : Heap}, FrzH id src d h h' → ∀ i o', look i h' = some o' → i ≠ id ∧ ∃ o, look i h = some o ∧ FrzO src d o o'
 | _, .nil, i, o, h => by simp [look] at h
 | _, .cons u hne hl q r, i, o, h => by
  simp only [look] at h
  split at h
  ·cases h; subst_vars
   rw [lookB_eq] at hl
   exact ⟨fun e => by subst e; simp at hne, _, hl, q⟩
  ·exact frzH_look r i o h
theorem weak_frzC (id : Nat) {d0 : DV} (hd : ∀ μ w (O' : Nat → Prop), HRel A μ h (Fr c) w → (∀ b, O' b → Own A μ (dels [id] h) b) → ∀ v, LRel (Own A μ h) μ w v src → PRel O' w v d0) (hs : FrzS src (.p d0) sl sl') (hh : FrzH id src (.p d0) h h') : Weak A ⟨nt, sl, h, c⟩ ⟨nt, sl', h', c⟩ := fun a w ⟨⟨μ, hR, hr⟩, hnt, hdef⟩ => by
 have hlk := fun i o' => frzH_look hh i o'
 have hmine : ∀ b, Mine μ h' b → Mine μ (dels [id] h) b := by
  rintro b ⟨j, y, lc, h1, h2, h3, h4⟩
  obtain ⟨g1, o, g2, -⟩ := hlk j y h1
  refine ⟨j, o, lc, ?_, h2, h3, h4⟩
  show look j (del id h) = some o
  rw [look_del_other g1]; exact g2
 have hown1 : ∀ b, Own A μ h' b → Own A μ (dels [id] h) b := fun b hb => hb.imp (fun h => h) (hmine b)
 have hown : ∀ b, Own A μ h' b → Own A μ h b := fun b hb => own_dels b (hown1 b hb)
 have hp : ∀ v, LRel (Own A μ h) μ w v src → LRel (Own A μ h') μ w v (.p d0) := fun v hv => .p _ _ (hd μ w _ hR hown1 v hv)
 refine ⟨⟨μ, ⟨?_, ?_, hR.fresh, ?_, hR.size, hR.block, hR.os, hR.tape, hR.output, hR.ext⟩, fun t ht => ?_⟩, hnt, hdef⟩
 ·intro j o' hj
  obtain ⟨g1, o, g2, q⟩ := hlk j o' hj
  obtain ⟨lc, h1, h2⟩ := hR.obj j o g2
  refine ⟨lc, h1, ?_⟩
  cases q with
  | same _ => exact h2.mono (Kept.refl _ _) (fun b _ hb => hown b hb) (fun _ _ h => h) fun _ => rfl
  | box q =>
   obtain ⟨k1, cs, ty, k2, k3, k4⟩ := h2
   obtain ⟨q1, q2⟩ := frzVs_rel (O' := Own A μ h') (w := w) (fun _ _ h => h) (fun b _ hb => hown b hb) hp q
   refine ⟨k1, cs, ty, k2, by omega, fun i v l hv hl => ?_⟩
   have hi := (List.getElem?_eq_some_iff.1 hl).1
   rename_i a b
   have hx : a[i]? = some (a[i]'(by omega)) := List.getElem?_eq_getElem _
   exact q2 i _ l hx hl v (k4 i v _ hv hx)
 ·intro j j' y y' lc lc' h1 h2 m1 m2 n1 n2 he
  obtain ⟨-, z, hz, -⟩ := hlk j y h1
  obtain ⟨-, z', hz', -⟩ := hlk j' y' h2
  exact hR.inj _ _ _ _ _ _ hz hz' m1 m2 n1 n2 he
 ·intro j y lc h1 m1 n1
  obtain ⟨-, z, hz, -⟩ := hlk j y h1
  exact hR.base _ _ _ hz m1 n1
 ·show LRel _ _ _ _ (match look t sl' with | some v => v | none => .any)
  cases hl : look t sl' with
  | none => exact .any _
  | some l => exact frzV_rel (fun _ _ h => h) (fun b _ hb => hown b hb) hp (frzS_look hs t l hl) _ (hr t ht)
theorem weak_frz (id : Nat) {d0 : DV} (hd : toDV1 h src = some d0 ∧ ids1 src = [id]) (hs : FrzS src (.p d0) sl sl') (hh : FrzH id src (.p d0) h h') : Weak A ⟨nt, sl, h, c⟩ ⟨nt, sl', h', c⟩ :=
 weak_frzC id (fun μ w O' hR hown v hv => (toDV1_rel hR (l := [id]) hv hd.1 (by rw [hd.2]; simp)).mono (Kept.refl _ _) fun b _ hb => hown b hb) hs hh
theorem own_dv {α : Type} {enc : α → List DV} {l : List α} {e : Nat} {sz : Nat} (hl : lookB id h = some (.row e sz (l.map enc))) : toDV1 h (.lsl id sz 0 l.length) = some (.slice sz (l.map enc)) ∧ ids1 (.lsl id sz 0 l.length) = [id] := by
 refine ⟨?_, rfl⟩
 rw [lookB_eq] at hl
 simp only [toDV1, hl, Nat.zero_add, List.length_map, Nat.le_refl, and_self, if_true, List.drop_zero]
 rw [List.take_of_length_le (by simp)]
theorem weak_win {α : Type} {enc : α → List DV} {l y : List α} {e sz off n : Nat} (id : Nat) (hl : lookB id h = some (.row e sz (l.map enc))) (hy : off + n ≤ l.length ∧ (l.drop off).take n = y)
  (hs : FrzS (.lsl id sz off n) (.lsl c sz 0 y.length) sl sl') (hh : FrzH id (.lsl id sz off n) (.lsl c sz 0 y.length) h h') : Weak A ⟨nt, sl, h, c⟩ ⟨nt, sl', (c, .row e sz (y.map enc)) :: h', c + 1⟩ := fun a w ⟨⟨μ, hR, hr⟩, hnt, hdef⟩ => by
 rw [lookB_eq] at hl
 obtain ⟨hfit, hy⟩ := hy
 have hlen : y.length = n := by rw [← hy]; simp; omega
 have hno := hR.fresh c (Nat.le_refl _)
 have hlk := fun i o' => frzH_look hh i o'
 obtain ⟨loc, hm, hz, hel, hrow⟩ := hR.obj id _ hl
 have hidc : id ≠ c := fun e2 => by rw [e2, hno] at hm; cases hm
 let loc' : Loc := ⟨loc.nil, loc.b, loc.o + off * loc.sz, loc.sz, loc.cap - off⟩
 have hμ := keepμ hno loc'
 have hmine : ∀ b, Mine (setμ μ c loc') ((c, HObj.row e sz (y.map enc)) :: h') b → Mine μ h b := by
  rintro b ⟨j, o, lc, h1, h2, h3, h4⟩
  simp only [look] at h1
  split at h1
  ·rename_i e2
   subst e2
   simp [setμ] at h2
   subst h2
   exact ⟨id, _, loc, hl, hm, h3, h4⟩
  ·rename_i e2
   obtain ⟨g1, o2, g2, -⟩ := hlk j o h1
   simp [setμ, e2] at h2
   exact ⟨j, o2, lc, g2, h2, h3, h4⟩
 have hown : ∀ b, b < w.heap.size → Own A (setμ μ c loc') ((c, HObj.row e sz (y.map enc)) :: h') b → Own A μ h b := fun b _ hb => hb.imp (fun h => h) (hmine b)
 have hp : ∀ v, LRel (Own A μ h) μ w v (.lsl id sz off n) → LRel (Own A (setμ μ c loc') ((c, HObj.row e sz (y.map enc)) :: h')) (setμ μ c loc') w v (.lsl c sz 0 y.length) := by
  intro v hv
  rw [hlen]
  cases hv with
  | lsln _ lc hm2 hn =>
   rw [hm] at hm2; cases hm2
   exact .lsln c loc' (by simp [setμ]) hn
  | lsl _ _ _ cap ad lc hm2 hn hcap hl2 had hb hsp =>
   rw [hm] at hm2; cases hm2
   exact .lsl c 0 n cap ad loc' (by simp [setμ]) hn (by simp only [loc']; omega) hl2 (fun hc => by rw [had hc]; simp [loc']) hb hsp
 refine ⟨⟨setμ μ c loc', ⟨?_, ?_, ?_, ?_, hR.size, hR.block, hR.os, hR.tape, hR.output, fun j lc hj => hμ _ _ (hR.ext j lc hj)⟩, fun t ht => ?_⟩, hnt, hdef⟩
 ·intro j o' hj
  simp only [look] at hj
  split at hj
  ·rename_i e2
   subst e2
   cases hj
   refine ⟨loc', by simp [setμ], hz, fun x hx => ?_, ?_⟩
   ·obtain ⟨z, hz2, rfl⟩ := List.mem_map.1 hx
    refine hel _ (List.mem_map.2 ⟨z, ?_, rfl⟩)
    rw [← hy] at hz2
    exact List.mem_of_mem_drop (List.mem_of_mem_take hz2)
   ·rcases hrow with ⟨hn, he0⟩ | ⟨hn, cs, hblk, hcs, hle, hcm, hrel⟩
    ·refine .inl ⟨hn, ?_⟩
     have : l = [] := by simpa using he0
     subst this
     simp at hfit
     have : y = [] := by rw [← hy]; simp
     rw [this]; rfl
    ·refine .inr ⟨hn, cs, hblk, ?_, ?_, ?_, fun i k x d v hx hd hv => ?_⟩
     ·simp only [loc']
      rw [List.length_map] at hle
      rw [hcs, Nat.add_assoc, hz, ← Nat.add_mul]
      congr 2; omega
     ·simp only [loc', List.length_map] at hle ⊢; omega
     ·simp only [loc']; omega
     ·rw [List.getElem?_map] at hx
      cases hyi : y[i]? with
      | none => rw [hyi] at hx; cases hx
      | some z =>
       rw [hyi] at hx
       cases hx
       have hi : i < n := by have := (List.getElem?_eq_some_iff.1 hyi).1; omega
       have hli : l[off + i]? = some z := by
        rw [← hy, List.getElem?_take, if_pos hi, List.getElem?_drop] at hyi
        exact hyi
       refine (hrel (off + i) k _ d v (by rw [List.getElem?_map, hli]; rfl) hd ?_).mono (Kept.refl _ _) hown
       rw [← hv]
       simp only [loc', hz]
       congr 1
       rw [Nat.add_mul]; omega
  ·obtain ⟨g1, o, g2, q⟩ := hlk j o' hj
   obtain ⟨lc, h1, h2⟩ := hR.obj j o g2
   refine ⟨lc, hμ _ _ h1, ?_⟩
   cases q with
   | same _ => exact h2.mono (Kept.refl _ _) hown hμ fun _ => rfl
   | box q =>
    obtain ⟨k1, cs, ty, k2, k3, k4⟩ := h2
    obtain ⟨q1, q2⟩ := frzVs_rel (w := w) hμ hown hp q
    refine ⟨k1, cs, ty, k2, by omega, fun i v l hv hl => ?_⟩
    have hi := (List.getElem?_eq_some_iff.1 hl).1
    rename_i a b
    have hx : a[i]? = some (a[i]'(by omega)) := List.getElem?_eq_getElem _
    exact q2 i _ l hx hl v (k4 i v _ hv hx)
 ·intro j j' y1 y1' lc lc' h1 h2 m1 m2 n1 n2 he
  have back : ∀ j o lc, look j ((c, HObj.row e sz (y.map enc)) :: h') = some o → setμ μ c loc' j = some lc → (j = c ∧ lc = loc') ∨ (j ≠ c ∧ j ≠ id ∧ (∃ o2, look j h = some o2) ∧ μ j = some lc) := by
   intro j o lc h1 m1
   simp only [look] at h1
   split at h1
   ·rename_i e2; subst e2; simp [setμ] at m1; exact .inl ⟨rfl, m1.symm⟩
   ·rename_i e2
    obtain ⟨g1, o2, g2, -⟩ := hlk j o h1
    simp [setμ, e2] at m1
    exact .inr ⟨e2, g1, ⟨o2, g2⟩, m1⟩
  rcases back j y1 lc h1 m1 with ⟨rfl, rfl⟩ | ⟨a1, a2, ⟨o1, a3⟩, a4⟩ <;> rcases back j' y1' lc' h2 m2 with ⟨rfl, rfl⟩ | ⟨b1, b2, ⟨o2, b3⟩, b4⟩
  ·rfl
  ·exact absurd (hR.inj _ _ _ _ _ _ hl b3 hm b4 n1 n2 he).symm b2
  ·exact absurd (hR.inj _ _ _ _ _ _ a3 hl a4 hm n1 n2 he) a2
  ·exact hR.inj _ _ _ _ _ _ a3 b3 a4 b4 n1 n2 he
 ·intro j hj
  simp only [Fr] at hj
  simp only [setμ]
  rw [if_neg (by omega)]
  exact hR.fresh j (by simp only [Fr]; omega)
 ·intro j o lc h1 m1 n1
  simp only [look] at h1
  split at h1
  ·rename_i e2
   subst e2
   simp [setμ] at m1
   subst m1
   exact hR.base id _ loc hl hm n1
  ·rename_i e2
   obtain ⟨g1, o2, g2, -⟩ := hlk j o h1
   simp [setμ, e2] at m1
   exact hR.base j o2 lc g2 m1 n1
 ·show LRel _ _ _ _ (match look t sl' with | some v => v | none => .any)
  cases hl2 : look t sl' with
  | none => exact .any _
  | some l => exact frzV_rel hμ hown hp (frzS_look hs t l hl2) _ (hr t ht)
theorem own_dvm {m : List (DV × DV)} (hl : lookB id h = some (.map m)) : toDV1 h (.lmap id) = some (.map m) ∧ ids1 (.lmap id) = [id] := by
 refine ⟨?_, rfl⟩
 rw [lookB_eq] at hl
 simp only [toDV1, hl]
end
section
variable {P : Program} {A : Amb} {env : Env}
end
section
variable {P : Program} {A : Amb} {env : Env} {α : Type} {enc : α → List DV} {nt : Nat} {sl : List (Nat × LV)} {h : Heap} {c d : Nat} {f : St → Prop} {hf : Hid f}
end
noncomputable def recF {α β : Type} (F : (α → Option β) → α → Option β) (n : Nat) : α → Option β := Nat.rec (fun _ => none) (fun _ ih => F ih) n
theorem recF_holds {α β : Type} {F : (α → Option β) → α → Option β} {C : α → β → Prop} (h : ∀ rec : α → Option β, (∀ a r, rec a = some r → C a r) → ∀ a r, F rec a = some r → C a r) : ∀ n a r, recF F n a = some r → C a r
 | 0, a, r, e => by cases e
 | n + 1, a, r, e => h (recF F n) (recF_holds h n) a r e
end Go.E
/- Drawn regions of which the orders do not all come to one by waiting: a tree of orders. No condition. -/
namespace Go.E
open Go Go.RowKit
inductive OTree where
 | done
 | nil
 | picks (l : List Nat) (t : OTree)
 | alt (i : Nat) (l : List Nat) (t r : OTree)
def setAll (listed : Array Bool) : List Nat → Array Bool
 | [] => listed
 | i :: l => setAll (listed.setIfInBounds i true) l
def picksOK (q w : Bool) (md : Region.Mode) (ops : Array Oper) : List Nat → Array Bool → Bool
 | [], _ => true
 | i :: rest, listed => (match ops[i]? with
  | none => false
  | some oi => (Region.ready md ops listed == [i]) || ((Region.ready md ops listed).contains i && firstOK q w md ops listed i oi (blockedB md ops listed i))) &&
  picksOK q w md ops rest (listed.setIfInBounds i true)
def OTree.heads : OTree → List Nat
 | .alt i _ _ r => i :: r.heads
 | _ => []
def okT (q w : Bool) (md : Region.Mode) (ops : Array Oper) : OTree → Bool → Array Bool → Nat → Bool
 | .done, b, listed, n => !b && (Region.ready md ops listed).isEmpty && n == 0
 | .nil, b, _, _ => b
 | .picks l t, b, listed, n => !b && picksOK q w md ops l listed && decide (l.length ≤ n) && okT q w md ops t false (setAll listed l) (n - l.length)
 | .alt i l t r, b, listed, n => (b || decide (0 < n) && !(Region.ready md ops listed).isEmpty && (Region.ready md ops listed).all fun j => (i :: r.heads).contains j) &&
   (decide (i < ops.size) && picksOK q w md ops l (listed.setIfInBounds i true) && decide (l.length ≤ (bif b then n else n - 1)) &&
    okT q w md ops t false (setAll (listed.setIfInBounds i true) l) ((bif b then n else n - 1) - l.length) && okT q w md ops r true listed (bif b then n else n - 1))
section
variable (P : Program) (A : Amb) (env : Env) (base n : Nat) (K : St → Prop) (ops : List Oper)
def drT : OTree → St → Prop
 | .done, st => K st
 | .nil, _ => True
 | .picks l t, st => drM P A env base n ⟨drT t, ⟨⟩⟩ (pairM ops l) st
 | .alt i l t r, st => drM P A env base n ⟨drT t, ⟨⟩⟩ (pairM ops (i :: l)) st ∧ drT r st
end
section
variable {P : Program} {A : Amb} {env : Env} {md : Region.Mode} {base : Nat} {K : St → Prop}
theorem drT_p {ops : List Oper} {n : Nat} {l : List Nat} {t : OTree} {st : St} (k : drM P A env base n ⟨drT P A env base n K ops t, ⟨⟩⟩ (pairM ops l) st) : drT P A env base n K ops (.picks l t) st := k
theorem drT_a {ops : List Oper} {n : Nat} {i : Nat} {l : List Nat} {t r : OTree} {st : St} (k : drM P A env base n ⟨drT P A env base n K ops t, ⟨⟩⟩ (pairM ops (i :: l)) st) (k' : drT P A env base n K ops r st) : drT P A env base n K ops (.alt i l t r) st := ⟨k, k'⟩
theorem drT_d {ops : List Oper} {n c c' nt : Nat} {sl : List (Nat × LV)} {h : Heap} {S : St} (k : Weak A ⟨nt, sl, h, c + n⟩ S) : drT P A env c n (fun st => Weak A { st with ctr := c + n } S) ops .done ⟨nt, sl, h, c'⟩ := k
theorem drT_n {ops : List Oper} {n : Nat} {st : St} : drT P A env base n K ops .nil st := trivial
theorem picks_lt {q w : Bool} {ops : Array Oper} : ∀ {l : List Nat} {listed : Array Bool}, picksOK q w md ops l listed = true → ∀ i ∈ l, i < ops.size
 | [], _, _, i, hi => by simp at hi
 | j :: l, listed, h, i, hi => by
  simp only [picksOK, Bool.and_eq_true] at h
  rcases List.mem_cons.1 hi with rfl | hi
  ·cases ho : ops[i]? with
   | none => rw [ho] at h; simp at h
   | some o => exact (Array.getElem?_eq_some_iff.1 ho).1
  ·exact picks_lt h.2 i hi
theorem DAny_picks (q : Bool) (hq : q = true → ∃ b, env.calm = some b) {ops : Array Oper} {T Q : St → Prop} (fuel : Nat) : ∀ (l : List Nat) (listed : Array Bool) (st : St), picksOK q env.own md ops l listed = true → (∀ k, listed.getD k true = false → look (base + k) st.heap = none) →
  (∀ st', (∀ k, (setAll listed l).getD k true = false → look (base + k) st'.heap = none) → T st' → DAny P env md ops base Q fuel (setAll listed l) st') →
  dpops P env ops base T l st → DAny P env md ops base Q (l.length + fuel) listed st
 | [], listed, st, _, hfresh, hT, h => by
  rw [List.length_nil, Nat.zero_add]
  exact hT st hfresh h
 | i :: rest, listed, st, hok, hfresh, hT, h => by
  obtain ⟨o, l, e, ho, hd, hrest⟩ := dpops_step h
  simp only [picksOK, ho, Bool.and_eq_true, Bool.or_eq_true] at hok
  have hrec : DAny P env md ops base Q (rest.length + fuel) (listed.setIfInBounds i true) (apS st (base + i) o l e) := by
   refine DAny_picks q hq fuel rest _ _ hok.2 (fun k hk => ?_) hT hrest
   have hik : i ≠ k := by
    rintro rfl
    rcases Nat.lt_or_ge i listed.size with h' | h'
    ·simp [h'] at hk
    ·simp [Array.getElem?_eq_none h'] at hk
   rw [apS_heap]
   exact eff_fresh hd (by simp only [St.at]; omega) (hfresh k (by rw [getD_set_ne true hik] at hk; exact hk))
  rw [show (i :: rest).length + fuel = rest.length + fuel + 1 by simp; omega]
  rcases hok.1 with h1 | h1
  ·have hr : Region.ready md ops listed = [i] := by simpa using h1
   refine ⟨fun h0 => (by rw [hr] at h0; cases h0), fun j hj => ?_⟩
   rw [hr] at hj
   simp at hj
   subst hj
   exact ⟨o, l, e, ho, hd, hrec⟩
  ·obtain ⟨h1, h2⟩ := h1
   simp only [firstOK, Bool.and_eq_true, List.all_eq_true, List.mem_range] at h2
   obtain ⟨h2, h3⟩ := h2
   generalize hBe : blockedB md ops listed i = B at h2 h3
   refine DAny_first q hq ho (fun j => B.contains j) (fun j hj => ?_) (rest.length + fuel) listed st (fun j hj => ?_) (fun j oj hoj hji hun hBj => ?_) hfresh (by simpa using h1) hd hrec
   ·have := h2 j (by simpa using hj)
    obtain ⟨⟨a1, a2⟩, a3⟩ := this
    refine ⟨by simpa using a1, fun oj hoj => ?_⟩
    rw [hoj] at a3
    obtain ⟨x, hx, hx2⟩ := Array.any_eq_true'.1 a3
    simp only [Bool.and_eq_true, Bool.or_eq_true, beq_iff_eq] at hx2
    exact ⟨x, hx, hx2.1, hx2.2⟩
   ·have := (h2 j (by simpa using hj)).1.2
    simpa using this
   ·have := h3 j (Array.getElem?_eq_some_iff.1 hoj).1
    simp only [Bool.or_eq_true, beq_iff_eq, hji, false_or, hun, Bool.false_eq_true] at this
    rw [hBj] at this
    simp only [Bool.false_eq_true, false_or, hoj, Bool.and_eq_true] at this
    refine ⟨this.1, this.2.1, fun ho => ?_⟩
    have := this.2.2
    rw [ho] at this; simpa using this
theorem DAny_tree (q : Bool) (hq : q = true → ∃ b, env.calm = some b) {ops : List Oper} : ∀ (T : OTree) (listed : Array Bool) (st : St) (n : Nat), (∀ k, listed.getD k true = false → look (base + k) st.heap = none) → drT P A env base ops.length K ops T st →
  (okT q env.own md ops.toArray T false listed n = true → DAny P env md ops.toArray base K n listed st) ∧
  (okT q env.own md ops.toArray T true listed n = true → ∀ i ∈ T.heads, ∃ o l e, ops.toArray[i]? = some o ∧ dgW P env ops.toArray (st.at (base + i)) o l e ∧ DAny P env md ops.toArray base K n (listed.setIfInBounds i true) (apS st (base + i) o l e))
 | .done, listed, st, n, hfresh, h => by
  refine ⟨fun hok => ?_, fun hok => by simp [okT] at hok⟩
  simp only [okT, Bool.not_false, Bool.true_and, Bool.and_eq_true, beq_iff_eq, List.isEmpty_iff] at hok
  obtain ⟨h1, rfl⟩ := hok
  exact ⟨h1, st, Eqv.refl st, h⟩
 | .nil, listed, st, n, hfresh, h => ⟨fun hok => by simp [okT] at hok, fun _ i hi => by simp [OTree.heads] at hi⟩
 | .picks l t, listed, st, n, hfresh, h => by
  refine ⟨fun hok => ?_, fun hok => by simp [okT] at hok⟩
  simp only [okT, Bool.not_false, Bool.true_and, Bool.and_eq_true, decide_eq_true_eq] at hok
  obtain ⟨⟨h1, h2⟩, h3⟩ := hok
  have hb : (l.all fun i => decide (i < ops.length)) = true := List.all_eq_true.2 fun i hi => by simpa using picks_lt h1 i hi
  have := DAny_picks q hq (md := md) (Q := K) (n - l.length) l listed st h1 hfresh (fun st' hf' hT => ?_) (drM_sound l st hb h)
  ·rwa [show l.length + (n - l.length) = n by omega] at this
  ·refine DAny_eqv _ _ { st' with ctr := base + ops.length } _ ⟨rfl, fun _ => rfl, fun _ => rfl⟩ ?_
   exact (DAny_tree q hq t (setAll listed l) { st' with ctr := base + ops.length } (n - l.length) hf' hT).1 h3
 | .alt i l t r, listed, st, n, hfresh, ⟨h, h'⟩ => by
  have key : ∀ m, (decide (i < ops.toArray.size) && picksOK q env.own md ops.toArray l (listed.setIfInBounds i true) && decide (l.length ≤ m) && okT q env.own md ops.toArray t false (setAll (listed.setIfInBounds i true) l) (m - l.length) && okT q env.own md ops.toArray r true listed m) = true →
    ∀ j ∈ i :: r.heads, ∃ o l e, ops.toArray[j]? = some o ∧ dgW P env ops.toArray (st.at (base + j)) o l e ∧ DAny P env md ops.toArray base K m (listed.setIfInBounds j true) (apS st (base + j) o l e) := by
   intro m hok j hj
   simp only [Bool.and_eq_true, decide_eq_true_eq] at hok
   obtain ⟨⟨⟨⟨h0, h1⟩, h2⟩, h3⟩, h4⟩ := hok
   rcases List.mem_cons.1 hj with rfl | hj
   ·have hb : ((j :: l).all fun i => decide (i < ops.length)) = true := List.all_eq_true.2 fun i hi => by
     rcases List.mem_cons.1 hi with rfl | hi
     ·simpa using h0
     ·simpa using picks_lt h1 i hi
    obtain ⟨o, lv, e, ho, hd, hrest⟩ := dpops_step (drM_sound (j :: l) st hb h)
    refine ⟨o, lv, e, ho, hd, ?_⟩
    have := DAny_picks q hq (md := md) (Q := K) (m - l.length) l (listed.setIfInBounds j true) (apS st (base + j) o lv e) h1 (fun k hk => ?_) (fun st' hf' hT => ?_) hrest
    ·rwa [show l.length + (m - l.length) = m by omega] at this
    ·have hik : j ≠ k := by
      rintro rfl
      rcases Nat.lt_or_ge j listed.size with h' | h'
      ·simp [h'] at hk
      ·simp [Array.getElem?_eq_none h'] at hk
     rw [apS_heap]
     exact eff_fresh hd (by simp only [St.at]; omega) (hfresh k (by rw [getD_set_ne true hik] at hk; exact hk))
    ·refine DAny_eqv _ _ { st' with ctr := base + ops.length } _ ⟨rfl, fun _ => rfl, fun _ => rfl⟩ ?_
     exact (DAny_tree q hq t _ { st' with ctr := base + ops.length } (m - l.length) hf' hT).1 h3
   ·exact (DAny_tree q hq r listed st m hfresh h').2 h4 j hj
  refine ⟨fun hok => ?_, fun hok => ?_⟩
  ·rw [okT, Bool.false_or] at hok
   obtain ⟨h1, h2⟩ := Bool.and_eq_true_iff.1 hok
   simp only [Bool.and_eq_true, decide_eq_true_eq, Bool.not_eq_true', List.all_eq_true] at h1
   obtain ⟨⟨h3, h4⟩, h5⟩ := h1
   obtain ⟨m, rfl⟩ : ∃ m, n = m + 1 := ⟨n - 1, by omega⟩
   refine ⟨fun h0 => by rw [h0] at h4; simp at h4, fun j hj => ?_⟩
   exact key m (by simpa using h2) j (by simpa using h5 j hj)
  ·simp only [okT, Bool.true_or, Bool.true_and, cond_true] at hok
   exact key n hok
theorem rgdT (hE : EnvOK P env) (hm : P.follows .mixedOrders = true) {id : Nat} {ops : List Oper} {Q : Exit → St → Prop} {nt : Nat} {sl : List (Nat × LV)} {h : Heap} {c : Nat} (T : OTree) (n : Nat) (S : St)
  (hok : okT false env.own .any ops.toArray T false (Array.replicate ops.length false) ops.length = true) (hn : Nat.beq ops.length n = true)
  (k : drT P A env c n (fun st => Weak A { st with ctr := c + n } S) ops T ⟨nt, sl, h, c⟩) (kk : Q .normal S) : dwp P A (.region id ops.toArray true) Q ⟨nt, sl, h, c⟩ := fun a w hR => by
 have hn' := Nat.eq_of_beq_eq_true hn
 subst hn'
 refine wp_region_any hm ?_
 have hR' := (hR.drawn (w.drawn + 1)).toRF
 have hfr : ∀ k, look (c + k) h = none := by
  intro k
  cases hx : look (c + k) h with
  | none => rfl
  | some o =>
   obtain ⟨⟨μ, hh, _⟩, _, _⟩ := hR
   obtain ⟨loc, h1, _⟩ := hh.obj _ _ hx
   rw [hh.fresh _ (by simp [Fr])] at h1; cases h1
 have hD := (DAny_tree false (fun h => by cases h) (md := .any) T (Array.replicate ops.length false) ⟨nt, sl, h, c⟩ ops.length (fun k _ => hfr k) k).1 hok
 rw [show ops.toArray.size = ops.length by simp]
 refine wpAny_of_DAny (A := A) (n := ops.length) hE (by simp) (fun st' a' w' listed hk hR'' => ?_) ops.length _ ⟨nt, sl, h, c⟩ a _ (by simp) hD ?_
 ·refine ⟨S, ?_, kk⟩
  obtain ⟨⟨μ, x1, x2⟩, x3, x4⟩ := hR''
  exact hk a' w' ⟨⟨μ, x1.less fun id hid => .inl hid, x2⟩, x3, x4⟩
 ·obtain ⟨⟨μ, x1, x2⟩, x3, x4⟩ := hR'
  refine ⟨⟨μ, x1.less fun id hid => ?_, x2⟩, x3, x4⟩
  rcases hid with hid | ⟨k, _, _, rfl⟩
  ·simp only [Fr]; omega
  ·simp [Fr]
end
end Go.E
/- Own objects handed to a function that turns them: its contract (CallW of the objects alone), and its use among other objects (callW_M, o_callM). No condition. -/
namespace Go.E
open Go Go.RowKit
def mrV (ρ : Nat → Nat) : LV → LV
 | .lsl id sz off len => .lsl (ρ id) sz off len
 | .lpb id off => .lpb (ρ id) off
 | .lpe id i off => .lpe (ρ id) i off
 | .lmap id => .lmap (ρ id)
 | x => x
def miV : LV → Option Nat
 | .lsl id _ _ _ => some id
 | .lpb id _ => some id
 | .lpe id _ _ => some id
 | .lmap id => some id
 | _ => none
def mfV : LV → Bool
 | .p _ => true
 | .lsl _ _ _ _ => true
 | .lpb _ _ => true
 | .lpe _ _ _ => true
 | .lmap _ => true
 | .und => true
 | .any => true
 | _ => false
def mrO (ρ : Nat → Nat) : HObj → HObj
 | .box cs => .box (cs.map (mrV ρ))
 | o => o
def moV (gl : List (Nat × Nat)) (m : Nat) (l : LV) : Bool := mfV l && (match miV l with
 | none => true
 | some i => Nat.ble m i || (look i gl).isSome)
def moO (gl : List (Nat × Nat)) (m : Nat) : HObj → Bool
 | .box cs => cs.all (moV gl m)
 | _ => true
def mrA (ρ : Nat → Nat) : LV → LV
 | .agg l => .agg (l.map (mrV ρ))
 | l => mrV ρ l
def moA (gl : List (Nat × Nat)) (m : Nat) : LV → Bool
 | .agg l => l.all (moV gl m)
 | l => moV gl m l
def mrL (ρ : Nat → Nat) : LV → LV
 | .tup l => .tup (l.map (mrA ρ))
 | l => mrA ρ l
def moL (gl : List (Nat × Nat)) (m : Nat) : LV → Bool
 | .tup l => l.all (moA gl m)
 | l => moA gl m l
def mrH (ρ : Nat → Nat) : Heap → Heap
 | [] => []
 | (i, o) :: h => (ρ i, mrO ρ o) :: mrH ρ h
def rho (gl : List (Nat × Nat)) (m c i : Nat) : Nat := match look i gl with
 | some j => j
 | none => c + (i - m)
def objsOK (ρ : Nat → Nat) (h : Heap) : Heap → Prop
 | [] => True
 | (i, o) :: r => look (ρ i) h = some (mrO ρ o) ∧ objsOK ρ h r
def mutB (gl : List (Nat × Nat)) (m m1 : Nat) (H H1 : Heap) : Bool :=
 Nat.ble m m1 && H.all (fun p => Nat.ble (p.1 + 1) m && (look p.1 gl).isSome && moO gl m p.2) && gl.all (fun p => (look p.1 H).isSome && gl.all fun q => p.1 == q.1 || p.2 != q.2) && H1.all (fun p => (Nat.ble m p.1 || (look p.1 gl).isSome) && moO gl m p.2)
theorem look_memM {α : Type} {i : Nat} {o : α} : ∀ {l : List (Nat × α)}, look i l = some o → (i, o) ∈ l
 | [], h => by simp [look] at h
 | (k, v) :: l, h => by
  unfold look at h
  split at h
  ·rename_i e; cases h; subst e; simp
  ·exact List.mem_cons_of_mem _ (look_memM h)
theorem objsOK_look {ρ : Nat → Nat} {h : Heap} {i : Nat} {o : HObj} : ∀ {H : Heap}, objsOK ρ h H → look i H = some o → look (ρ i) h = some (mrO ρ o)
 | [], _, hl => by simp [look] at hl
 | (k, v) :: H, hk, hl => by
  unfold look at hl
  split at hl
  ·rename_i e; cases hl; subst e; exact hk.1
  ·exact objsOK_look hk.2 hl
theorem look_mrH {ρ : Nat → Nat} {id : Nat} {o : HObj} : ∀ {H : Heap}, look id (mrH ρ H) = some o → ∃ i o1, look i H = some o1 ∧ ρ i = id ∧ o = mrO ρ o1
 | [], h => by simp [mrH, look] at h
 | (k, v) :: H, h => by
  unfold mrH look at h
  split at h
  ·rename_i e; cases h; exact ⟨k, v, by simp [look], e.symm, rfl⟩
  ·rename_i e
   obtain ⟨i, o1, h1, h2, h3⟩ := look_mrH h
   refine ⟨i, o1, ?_, h2, h3⟩
   unfold look
   rw [if_neg (fun e2 => e (by rw [← h2, e2]))]
   exact h1
theorem look_app {α : Type} {id : Nat} {o : α} : ∀ {a b : List (Nat × α)}, look id (a ++ b) = some o → look id a = some o ∨ look id b = some o
 | [], b, h => .inr h
 | (k, v) :: a, b, h => by
  rw [List.cons_append] at h
  have e1 : ∀ l : List (Nat × α), look id ((k, v) :: l) = if id = k then some v else look id l := fun _ => rfl
  rw [e1] at h
  by_cases e : id = k
  ·rw [if_pos e] at h; rw [e1, if_pos e]; exact .inl h
  ·rw [if_neg e] at h; rw [e1, if_neg e]; exact look_app h
section
variable {O : Nat → Prop} {μ μ' : Nat → Option Loc} {w : World} {ρ : Nat → Nat}
theorem ren_rel {v : Value} {l : LV} (hf : mfV l = true) (hμ : ∀ i loc, miV l = some i → μ (ρ i) = some loc → μ' i = some loc) (h : LRel O μ w v (mrV ρ l)) : LRel O μ' w v l := by
 cases l with
 | p d => cases h with | p _ _ h => exact .p _ _ h
 | lsl id sz off len =>
  cases h with
  | lsln _ loc hm hn => exact .lsln id loc (hμ _ _ rfl hm) hn
  | lsl _ _ _ cap a loc hm hn hcap hl ha hb hs => exact .lsl id off len cap a loc (hμ _ _ rfl hm) hn hcap hl ha hb hs
 | lpb id off => cases h with | lpb _ _ loc hm hn => exact .lpb id off loc (hμ _ _ rfl hm) hn
 | lpe id i off => cases h with | lpe _ _ _ loc hm hn => exact .lpe id i off loc (hμ _ _ rfl hm) hn
 | lmap id => cases h with | lmap _ loc hm hn => exact .lmap id loc (hμ _ _ rfl hm) hn
 | und => cases h; exact .und
 | any => exact .any v
 | agg l => cases hf
 | tup l => cases hf
 | fn f l => cases hf
theorem ren_rel' {v : Value} {l : LV} (hf : mfV l = true) (hμ : ∀ i loc, miV l = some i → μ' i = some loc → μ (ρ i) = some loc) (h : LRel O μ' w v l) : LRel O μ w v (mrV ρ l) := by
 cases l with
 | p d => cases h with | p _ _ h => exact .p _ _ h
 | lsl id sz off len =>
  cases h with
  | lsln _ loc hm hn => exact .lsln _ loc (hμ _ _ rfl hm) hn
  | lsl _ _ _ cap a loc hm hn hcap hl ha hb hs => exact .lsl _ off len cap a loc (hμ _ _ rfl hm) hn hcap hl ha hb hs
 | lpb id off => cases h with | lpb _ _ loc hm hn => exact .lpb _ off loc (hμ _ _ rfl hm) hn
 | lpe id i off => cases h with | lpe _ _ _ loc hm hn => exact .lpe _ i off loc (hμ _ _ rfl hm) hn
 | lmap id => cases h with | lmap _ loc hm hn => exact .lmap _ loc (hμ _ _ rfl hm) hn
 | und => cases h; exact .und
 | any => exact .any v
 | agg l => cases hf
 | tup l => cases hf
 | fn f l => cases hf
theorem ren_obj {gl : List (Nat × Nat)} {m : Nat} {loc : Loc} {o : HObj} (hf : moO gl m o = true) (hμ : ∀ i lc, (m ≤ i ∨ ∃ j, look i gl = some j) → μ (ρ i) = some lc → μ' i = some lc) (h : ORel O μ w loc (mrO ρ o)) : ORel O μ' w loc o := by
 cases o with
 | row e sz el => exact h
 | map mp => exact h
 | iter cur left => exact h
 | box cs =>
  obtain ⟨hn, c, t, h1, h2, h3⟩ := h
  refine ⟨hn, c, t, h1, by simpa using h2, fun i v l hv hl => ?_⟩
  have hok := List.all_eq_true.1 hf l (List.mem_of_getElem? hl)
  simp only [moV, Bool.and_eq_true] at hok
  refine ren_rel hok.1 (fun j lc hj hm => hμ j lc ?_ hm) (h3 i v _ hv (by rw [List.getElem?_map, hl]; rfl))
  have h4 := hok.2
  rw [hj] at h4
  simp only [Bool.or_eq_true, Nat.ble_eq] at h4
  exact h4.imp (fun x => x) fun h5 => Option.isSome_iff_exists.1 h5
theorem ren_obj' {gl : List (Nat × Nat)} {m : Nat} {loc : Loc} {o : HObj} (hf : moO gl m o = true) (hμ : ∀ i lc, (m ≤ i ∨ ∃ j, look i gl = some j) → μ' i = some lc → μ (ρ i) = some lc) (h : ORel O μ' w loc o) : ORel O μ w loc (mrO ρ o) := by
 cases o with
 | row e sz el => exact h
 | map mp => exact h
 | iter cur left => exact h
 | box cs =>
  obtain ⟨hn, c, t, h1, h2, h3⟩ := h
  refine ⟨hn, c, t, h1, by simpa using h2, fun i v l hv hl => ?_⟩
  rw [List.getElem?_map] at hl
  cases hc : cs[i]? with
  | none => rw [hc] at hl; cases hl
  | some x =>
   rw [hc] at hl
   cases hl
   have hok := List.all_eq_true.1 hf x (List.mem_of_getElem? hc)
   simp only [moV, Bool.and_eq_true] at hok
   refine ren_rel' hok.1 (fun j lc hj hm => hμ j lc ?_ hm) (h3 i v x hv hc)
   have h4 := hok.2
   rw [hj] at h4
   simp only [Bool.or_eq_true, Nat.ble_eq] at h4
   exact h4.imp (fun x => x) fun h5 => Option.isSome_iff_exists.1 h5
end
section
variable {P : Program}
theorem callW_M {k : Nat} {H H1 : Heap} {m m1 : Nat} {ls : List LV} {L : LV} (hM : ∀ A : Amb, (∀ id, A.μ0 id ≠ none → id < m) → CallW P A H m k ls (fun l h c => l = L ∧ h = H1 ∧ c = m1))
  (gl : List (Nat × Nat)) {A : Amb} {h : Heap} {c : Nat} {K : LV → Heap → Nat → Prop} (hB : mutB gl m m1 H H1 = true) (hobj : objsOK (rho gl m c) h H) (hls : ls.all (moV gl m) = true) (hL : moL gl m L = true)
  (hK : K (mrL (rho gl m c) L) (mrH (rho gl m c) H1 ++ dels (gl.map (·.2)) h) (c + (m1 - m))) : CallW P A h c k (ls.map (mrV (rho gl m c))) K := by
 simp only [mutB, Bool.and_eq_true, List.all_eq_true, Nat.ble_eq, Bool.or_eq_true, beq_iff_eq, bne_iff_ne] at hB
 obtain ⟨⟨⟨hm, hH⟩, hgl⟩, hH1⟩ := hB
 have key : ∀ i o, look i H = some o → i < m ∧ (∃ j, look i gl = some j) ∧ moO gl m o = true := fun i o hl => by
  obtain ⟨⟨h1, h2⟩, h3⟩ := hH _ (look_memM hl)
  exact ⟨h1, Option.isSome_iff_exists.1 h2, h3⟩
 have gkey : ∀ i j, look i gl = some j → ∃ o, look i H = some o := fun i j hl => Option.isSome_iff_exists.1 (hgl _ (look_memM hl)).1
 have ginj : ∀ i i' j, look i gl = some j → look i' gl = some j → i = i' := fun i i' j h1 h2 => by
  have := (hgl _ (look_memM h1)).2 _ (look_memM h2)
  rcases this with h | h
  ·exact h
  ·exact absurd rfl h
 have rg : ∀ i j, look i gl = some j → rho gl m c i = j := fun i j hl => by unfold rho; rw [hl]
 have rn : ∀ i, m ≤ i → rho gl m c i = c + (i - m) := fun i hi => by
  unfold rho
  cases hl : look i gl with
  | none => rfl
  | some j =>
   obtain ⟨o, ho⟩ := gkey i j hl
   have := (key i o ho).1
   omega
 refine ⟨(hM ⟨default, fun _ => False, fun _ => False, fun _ => none, fun _ h => h.elim⟩ (fun _ h => absurd rfl h)).1, fun μ w vs hh hsz hr => ?_⟩
 have hlt : ∀ id loc, μ id = some loc → id < c := by
  intro id loc hm'
  by_cases hi : id < c
  ·exact hi
  ·rw [hh.fresh id (by simp only [Fr]; omega)] at hm'; cases hm'
 let μ' : Nat → Option Loc := fun i => match look i gl with | some j => μ j | none => none
 have μg : ∀ i j, look i gl = some j → μ' i = μ j := fun i j hl => by simp only [μ', hl]
 have μlt : ∀ i loc, μ' i = some loc → ∃ j, look i gl = some j ∧ μ j = some loc := by
  intro i loc hi
  cases hl : look i gl with
  | none => simp only [μ', hl] at hi; cases hi
  | some j => exact ⟨j, rfl, by rw [← μg i j hl]; exact hi⟩
 have hobj' : ∀ i o, look i H = some o → ∃ j, look i gl = some j ∧ look j h = some (mrO (rho gl m c) o) := fun i o hl => by
  obtain ⟨_, ⟨j, hj⟩, _⟩ := key i o hl
  have := objsOK_look hobj hl
  rw [rg i j hj] at this
  exact ⟨j, hj, this⟩
 have mine : ∀ b, Mine μ' H b → Mine μ h b ∧ ∃ i j o loc, look i H = some o ∧ look i gl = some j ∧ look j h = some (mrO (rho gl m c) o) ∧ μ j = some loc ∧ loc.nil = false ∧ loc.b = b := by
  rintro b ⟨i, o, loc, h1, h2, h3, h4⟩
  obtain ⟨j, hj, hj2⟩ := hobj' i o h1
  rw [μg i j hj] at h2
  exact ⟨⟨j, _, loc, hj2, h2, h3, h4⟩, i, j, o, loc, h1, hj, hj2, h2, h3, h4⟩
 have ownlt : ∀ b, Own A μ h b → b < w.heap.size := by
  rintro b (hb | ⟨id, o, loc, h1, h2, h3, rfl⟩)
  ·exact Nat.lt_of_lt_of_le (A.hO b hb).1 hh.size
  ·exact (hh.base id o loc h1 h2 h3).1
 let A' : Amb := ⟨w, fun b => Own A μ h b ∧ ¬ Mine μ' H b, Mine μ' H, μ', fun b hb => ⟨ownlt b hb.1, hb.2⟩⟩
 have own1 : ∀ b, Own A' μ' H b → Own A μ h b := by
  rintro b (hb | hb)
  ·exact hb.1
  ·exact .inr (mine b hb).1
 have own2 : ∀ b, Own A μ h b → Own A' μ' H b := fun b hb => by
  by_cases hc : Mine μ' H b
  ·exact .inr hc
  ·exact .inl ⟨hb, hc⟩
 have hh' : HRel A' μ' H (Fr m) w := by
  refine ⟨?_, ?_, ?_, ?_, Nat.le_refl _, fun _ _ _ => rfl, rfl, rfl, rfl, fun _ _ hm' => hm'⟩
  ·intro i o hl
   obtain ⟨j, hj, hj2⟩ := hobj' i o hl
   obtain ⟨loc, h1, h2⟩ := hh.obj j _ hj2
   refine ⟨loc, by rw [μg i j hj]; exact h1, ?_⟩
   have h3 : ORel (Own A' μ' H) μ w loc (mrO (rho gl m c) o) := h2.mono (Kept.refl _ _) (fun b _ hb => own1 b hb) (fun _ _ h => h) (fun _ => rfl)
   refine ren_obj (key i o hl).2.2 (fun i' lc hi' hm' => ?_) h3
   rcases hi' with hi' | ⟨j', hj'⟩
   ·rw [rn i' hi'] at hm'
    have := hlt _ _ hm'
    omega
   ·rw [rg i' j' hj'] at hm'
    rw [μg i' j' hj']; exact hm'
  ·intro i i' o o' loc loc' h1 h2 m1' m2' n1 n2 he
   obtain ⟨j, hj, hj2⟩ := hobj' i o h1
   obtain ⟨j', hj', hj2'⟩ := hobj' i' o' h2
   rw [μg i j hj] at m1'
   rw [μg i' j' hj'] at m2'
   have := hh.inj _ _ _ _ _ _ hj2 hj2' m1' m2' n1 n2 he
   subst this
   exact ginj _ _ _ hj hj'
  ·intro i hi
   cases hm' : μ' i with
   | none => rfl
   | some loc =>
    obtain ⟨j, hj, _⟩ := μlt i loc hm'
    obtain ⟨o, ho⟩ := gkey i j hj
    have := (key i o ho).1
    simp only [Fr] at hi; omega
  ·intro i o loc h1 h2 h3
   have hmine : Mine μ' H loc.b := ⟨i, o, loc, h1, h2, h3, rfl⟩
   exact ⟨ownlt _ (.inr (mine _ hmine).1), fun hb => hb.2 hmine, .inr hmine⟩
 have hargs : ∀ (i : Nat) (v : Value) (l : LV), vs[i]? = some v → ls[i]? = some l → LRel (Own A' μ' H) μ' w v l := by
  intro i v l hv hl
  have hok := List.all_eq_true.1 hls l (List.mem_of_getElem? hl)
  simp only [moV, Bool.and_eq_true] at hok
  have h1 := (hr i v _ hv (by rw [List.getElem?_map, hl]; rfl)).mono (O' := Own A' μ' H) (Kept.refl _ _) (fun b _ hb => own1 b hb) (fun _ _ h => h)
  refine ren_rel hok.1 (fun i' lc hi' hm' => ?_) h1
  have h4 := hok.2
  rw [hi'] at h4
  simp only [Bool.or_eq_true, Nat.ble_eq] at h4
  rcases h4 with h4 | h4
  ·rw [rn i' h4] at hm'
   have := hlt _ _ hm'
   omega
  ·obtain ⟨j', hj'⟩ := Option.isSome_iff_exists.1 h4
   rw [rg i' j' hj'] at hm'
   rw [μg i' j' hj']; exact hm'
 have hμ0 : ∀ id, A'.μ0 id ≠ none → id < m := by
  intro id hid
  cases hm' : μ' id with
  | none => exact absurd hm' hid
  | some loc =>
   obtain ⟨j, hj, _⟩ := μlt id loc hm'
   obtain ⟨o, ho⟩ := gkey id j hj
   exact (key id o ho).1
 refine ((hM A' hμ0).2 μ' w vs hh' (by simpa using hsz) hargs).mono ?_
 rintro e w' ⟨u, l, h1, c1, μ'', he, ⟨rfl, rfl, rfl⟩, hh2, hu, -⟩
 let μ3 : Nat → Option Loc := fun id => if id < c then μ id else μ'' (m + (id - c))
 have ext : ∀ i loc, μ' i = some loc → μ'' i = some loc := fun i loc hi => hh2.ext i loc hi
 have μ3o : ∀ id loc, μ id = some loc → μ3 id = some loc := fun id loc hm' => by simp only [μ3, if_pos (hlt id loc hm'), hm']
 have name : ∀ i lc, (m ≤ i ∨ ∃ j, look i gl = some j) → μ'' i = some lc → μ3 (rho gl m c i) = some lc := by
  intro i lc hi hm'
  rcases hi with hi | ⟨j, hj⟩
  ·rw [rn i hi]
   simp only [μ3]
   rw [if_neg (by omega), show m + (c + (i - m) - c) = i by omega]
   exact hm'
  ·obtain ⟨o, ho⟩ := gkey i j hj
   obtain ⟨j', hj', hj2⟩ := hobj' i o ho
   rw [hj] at hj'
   cases hj'
   obtain ⟨loc, g1, _⟩ := hh.obj j _ hj2
   have := ext i loc (by rw [μg i j hj]; exact g1)
   rw [hm'] at this
   cases this
   rw [rg i j hj]
   exact μ3o j _ g1
 have new : ∀ id o, look id (mrH (rho gl m c) h1) = some o → ∃ i o1, look i h1 = some o1 ∧ rho gl m c i = id ∧ o = mrO (rho gl m c) o1 ∧ (m ≤ i ∨ ∃ j, look i gl = some j) ∧ moO gl m o1 = true := by
  intro id o hl
  obtain ⟨i, o1, g1, g2, g3⟩ := look_mrH hl
  obtain ⟨g4, g5⟩ := hH1 _ (look_memM g1)
  exact ⟨i, o1, g1, g2, g3, g4.imp (fun x => x) fun h5 => Option.isSome_iff_exists.1 h5, g5⟩
 have cases' : ∀ id o, look id (mrH (rho gl m c) h1 ++ dels (gl.map (·.2)) h) = some o → (∃ i o1, look i h1 = some o1 ∧ rho gl m c i = id ∧ o = mrO (rho gl m c) o1 ∧ (m ≤ i ∨ ∃ j, look i gl = some j) ∧ moO gl m o1 = true) ∨ (id ∉ gl.map (·.2) ∧ look id h = some o) := by
  intro id o hl
  rcases look_app hl with hl | hl
  ·exact .inl (new id o hl)
  ·exact .inr (look_dels hl)
 have other : ∀ id o loc, id ∉ gl.map (·.2) → look id h = some o → μ id = some loc → loc.nil = false → ¬ Mine μ' H loc.b := by
  intro id o loc hid hl hm' hn hmine
  obtain ⟨_, i, j, o', loc', g1, g2, g3, g4, g5, g6⟩ := mine _ hmine
  have := hh.inj _ _ _ _ _ _ g3 hl g4 hm' g5 hn g6
  subst this
  exact hid (List.mem_map.2 ⟨(i, j), look_memM g2, rfl⟩)
 have hkept : Kept (Own A μ h) w w' := ⟨hh2.size, fun b hb hO => hh2.block b hb fun hm' => hO (.inr (mine b hm').1)⟩
 have nmine : ∀ b, Mine μ3 (mrH (rho gl m c) h1 ++ dels (gl.map (·.2)) h) b → Mine μ'' h1 b ∨ (Own A μ h b ∧ ¬ Mine μ' H b) := by
  rintro b ⟨id, o, loc, g1, g2, g3, g4⟩
  rcases cases' id o g1 with ⟨i, o1, k1, k2, k3, k4, k5⟩ | ⟨k1, k2⟩
  ·left
   obtain ⟨lc, q1, _⟩ := hh2.obj i o1 k1
   have := name i lc k4 q1
   rw [k2, g2] at this
   cases this
   exact ⟨i, o1, loc, k1, q1, g3, g4⟩
  ·right
   obtain ⟨lc, q1, _⟩ := hh.obj id o k2
   have := μ3o id lc q1
   rw [g2] at this
   cases this
   rw [← g4]
   exact ⟨.inr ⟨id, o, loc, k2, q1, g3, rfl⟩, other id o loc k1 k2 q1 g3⟩
 have own3 : ∀ b, Own A μ3 (mrH (rho gl m c) h1 ++ dels (gl.map (·.2)) h) b → Own A' μ'' h1 b := by
  rintro b (hb | hb)
  ·refine .inl ⟨.inl hb, fun hm' => ?_⟩
   obtain ⟨_, i, j, o', loc', g1, g2, g3, g4, g5, rfl⟩ := mine _ hm'
   exact (hh.base j _ loc' g3 g4 g5).2.1 hb
  ·rcases nmine b hb with hb | hb
   ·exact .inr hb
   ·exact .inl hb
 have own4 : ∀ b, b < w.heap.size → Own A μ3 (mrH (rho gl m c) h1 ++ dels (gl.map (·.2)) h) b → Own A μ h b := by
  rintro b hlt' (hb | hb)
  ·exact .inl hb
  ·rcases nmine b hb with ⟨i, o1, loc, k1, k2, k3, rfl⟩ | hb
   ·rcases (hh2.base i o1 loc k1 k2 k3).2.2 with hx | hx
    ·exact absurd hx (by show ¬ w.heap.size ≤ _; omega)
    ·exact .inr (mine _ hx).1
   ·exact hb.1
 have hu2 : LRel (Own A μ3 (mrH (rho gl m c) h1 ++ dels (gl.map (·.2)) h)) μ'' w' u l := hu.mono (Kept.refl _ _) (fun b _ hb => own3 b hb) (fun _ _ h => h)
 have one : ∀ v x, moV gl m x = true → LRel (Own A μ3 (mrH (rho gl m c) h1 ++ dels (gl.map (·.2)) h)) μ'' w' v x → LRel (Own A μ3 (mrH (rho gl m c) h1 ++ dels (gl.map (·.2)) h)) μ3 w' v (mrV (rho gl m c) x) := by
  intro v x hx hv
  simp only [moV, Bool.and_eq_true] at hx
  refine ren_rel' hx.1 (fun i' lc' hi' hm' => name i' lc' ?_ hm') hv
  have h4 := hx.2
  rw [hi'] at h4
  simp only [Bool.or_eq_true, Nat.ble_eq] at h4
  exact h4.imp (fun x => x) fun h5 => Option.isSome_iff_exists.1 h5
 refine ⟨u, _, _, _, μ3, he, hK, ⟨?_, ?_, ?_, ?_, Nat.le_trans hh.size hh2.size, ?_, hh2.os.trans hh.os, hh2.tape.trans hh.tape, hh2.output.trans hh.output, fun id loc hm' => μ3o id loc (hh.ext id loc hm')⟩, ?_, fun v x hv => hv.mono hkept own4 μ3o⟩
 ·intro id o hl
  rcases cases' id o hl with ⟨i, o1, k1, k2, rfl, k4, k5⟩ | ⟨k1, k2⟩
  ·obtain ⟨lc, q1, q2⟩ := hh2.obj i o1 k1
   refine ⟨lc, by rw [← k2]; exact name i lc k4 q1, ?_⟩
   have q3 : ORel (Own A μ3 (mrH (rho gl m c) h1 ++ dels (gl.map (·.2)) h)) μ'' w' lc o1 := q2.mono (Kept.refl _ _) (fun b _ hb => own3 b hb) (fun _ _ h => h) (fun _ => rfl)
   exact ren_obj' k5 (fun i' lc' hi' hm' => name i' lc' hi' hm') q3
  ·obtain ⟨lc, q1, q2⟩ := hh.obj id o k2
   refine ⟨lc, μ3o id lc q1, q2.mono hkept own4 μ3o fun hn => ?_⟩
   exact hh2.block _ (hh.base id o lc k2 q1 hn).1 (other id o lc k1 k2 q1 hn)
 ·intro id id' o o' loc loc' g1 g2 m1' m2' n1 n2 hb
  rcases cases' id o g1 with ⟨i, o1, k1, k2, k3, k4, k5⟩ | ⟨k1, k2⟩
  ·obtain ⟨lc, q1, _⟩ := hh2.obj i o1 k1
   have e1 := name i lc k4 q1
   rw [k2, m1'] at e1
   cases e1
   rcases cases' id' o' g2 with ⟨i', o1', k1', k2', k3', k4', k5'⟩ | ⟨k1', k2'⟩
   ·obtain ⟨lc', q1', _⟩ := hh2.obj i' o1' k1'
    have e1' := name i' lc' k4' q1'
    rw [k2', m2'] at e1'
    cases e1'
    have := hh2.inj _ _ _ _ _ _ k1 k1' q1 q1' n1 n2 hb
    rw [← k2, ← k2', this]
   ·exfalso
    obtain ⟨lc', q1', _⟩ := hh.obj id' o' k2'
    have e1' := μ3o id' lc' q1'
    rw [m2'] at e1'
    cases e1'
    have hno := other id' o' loc' k1' k2' q1' n2
    have hsz' := (hh.base id' o' loc' k2' q1' n2).1
    rcases (hh2.base i o1 loc k1 q1 n1).2.2 with hx | hx
    ·have : w.heap.size ≤ loc.b := hx
     omega
    ·rw [hb] at hx; exact hno hx
  ·obtain ⟨lc, q1, _⟩ := hh.obj id o k2
   have e1 := μ3o id lc q1
   rw [m1'] at e1
   cases e1
   rcases cases' id' o' g2 with ⟨i', o1', k1', k2', k3', k4', k5'⟩ | ⟨k1', k2'⟩
   ·exfalso
    obtain ⟨lc', q1', _⟩ := hh2.obj i' o1' k1'
    have e1' := name i' lc' k4' q1'
    rw [k2', m2'] at e1'
    cases e1'
    have hno := other id o loc k1 k2 q1 n1
    have hsz' := (hh.base id o loc k2 q1 n1).1
    rcases (hh2.base i' o1' loc' k1' q1' n2).2.2 with hx | hx
    ·have : w.heap.size ≤ loc'.b := hx
     omega
    ·rw [← hb] at hx; exact hno hx
   ·obtain ⟨lc', q1', _⟩ := hh.obj id' o' k2'
    have e1' := μ3o id' lc' q1'
    rw [m2'] at e1'
    cases e1'
    exact hh.inj _ _ _ _ _ _ k2 k2' q1 q1' n1 n2 hb
 ·intro id hid
  simp only [Fr] at hid
  simp only [μ3]
  rw [if_neg (by omega)]
  exact hh2.fresh _ (by simp only [Fr]; omega)
 ·intro id o loc g1 g2 g3
  rcases cases' id o g1 with ⟨i, o1, k1, k2, k3, k4, k5⟩ | ⟨k1, k2⟩
  ·obtain ⟨lc, q1, _⟩ := hh2.obj i o1 k1
   have e1 := name i lc k4 q1
   rw [k2, g2] at e1
   cases e1
   obtain ⟨b1, b2, b3⟩ := hh2.base i o1 loc k1 q1 g3
   refine ⟨b1, fun hO => b2 ⟨.inl hO, fun hm' => ?_⟩, ?_⟩
   ·obtain ⟨_, i', j', o', loc', g1', g2', g3', g4', g5', g6'⟩ := mine _ hm'
    rw [← g6'] at hO
    exact (hh.base j' _ loc' g3' g4' g5').2.1 hO
   ·rcases b3 with hx | hx
    ·exact .inl (Nat.le_trans hh.size hx)
    ·obtain ⟨_, i', j', o', loc', g1', g2', g3', g4', g5', g6'⟩ := mine _ hx
     rw [← g6']
     exact (hh.base j' _ loc' g3' g4' g5').2.2
  ·obtain ⟨lc, q1, _⟩ := hh.obj id o k2
   have e1 := μ3o id lc q1
   rw [g2] at e1
   cases e1
   obtain ⟨b1, b2, b3⟩ := hh.base id o loc k2 q1 g3
   exact ⟨Nat.lt_of_lt_of_le b1 hh2.size, b2, b3⟩
 ·intro b hb hnf
  have hnm : ¬ Mine μ' H b := by
   intro hm'
   obtain ⟨_, i', j', o', loc', g1', g2', g3', g4', g5', g6'⟩ := mine _ hm'
   have := (hh.base j' _ loc' g3' g4' g5').2.2
   rw [g6'] at this
   rcases this with hx | hx
   ·omega
   ·exact hnf hx
  rw [hh2.block b (Nat.lt_of_lt_of_le hb hh.size) hnm]
  exact hh.block b hb hnf
 ·have oneA : ∀ v x, moA gl m x = true → LRel (Own A μ3 (mrH (rho gl m c) h1 ++ dels (gl.map (·.2)) h)) μ'' w' v x → LRel (Own A μ3 (mrH (rho gl m c) h1 ++ dels (gl.map (·.2)) h)) μ3 w' v (mrA (rho gl m c) x) := by
   intro v x hx hv
   cases x with
   | agg xs =>
    cases hv with
    | agg vs' _ hsz' hxs =>
     refine .agg vs' _ (by simpa using hsz') fun i v x hv hx' => ?_
     rw [List.getElem?_map] at hx'
     cases hc : xs[i]? with
     | none => rw [hc] at hx'; cases hx'
     | some y =>
      rw [hc] at hx'
      cases hx'
      exact one v y (List.all_eq_true.1 hx y (List.mem_of_getElem? hc)) (hxs i v y hv hc)
   | p d => exact one v _ hx hv
   | lsl id sz off len => exact one v _ hx hv
   | lpb id off => exact one v _ hx hv
   | lpe id i off => exact one v _ hx hv
   | lmap id => exact one v _ hx hv
   | und => exact one v _ hx hv
   | any => exact one v _ hx hv
   | tup l => exact one v _ hx hv
   | fn f l => exact one v _ hx hv
  cases l with
  | tup xs =>
   cases hu2 with
   | tup vs' _ hsz' hxs =>
    refine .tup vs' _ (by simpa using hsz') fun i v x hv hx => ?_
    rw [List.getElem?_map] at hx
    cases hc : xs[i]? with
    | none => rw [hc] at hx; cases hx
    | some y =>
     rw [hc] at hx
     cases hx
     exact oneA v y (List.all_eq_true.1 hL y (List.mem_of_getElem? hc)) (hxs i v y hv hc)
  | p d => exact oneA u (.p d) hL hu2
  | lsl id sz off len => exact oneA u (.lsl id sz off len) hL hu2
  | lpb id off => exact oneA u (.lpb id off) hL hu2
  | lpe id i off => exact oneA u (.lpe id i off) hL hu2
  | lmap id => exact oneA u (.lmap id) hL hu2
  | und => exact oneA u .und hL hu2
  | any => exact oneA u .any hL hu2
  | agg l => exact oneA u (.agg l) hL hu2
  | fn f l => exact oneA u (.fn f l) hL hu2
end
def MutC (P : Program) (k : Nat) (H : Heap) (c : Nat) (args : List LV) (L : LV) (H1 : Heap) (C : Nat) : Prop :=
 ∀ A : Amb, (∀ id, A.μ0 id ≠ none → id < c) → CallW P A H c k args fun l h c' => l = L ∧ h = H1 ∧ c' = C
section
variable {P : Program} {env : Env}
theorem fnM (hE : EnvOK P env) {k : Nat} {fn : Func} {cd : Code} (hfun : P.funcs[k]? = some fn) (nt' : Nat) (rs : List ResultVar) (sl' : List (Nat × LV)) (hb : fn.body = some cd) (hn : (fn.name == "runtime.NumGoroutine") = false) (hnt : Nat.beq fn.ntmps nt' = true) (hrs : fn.results.toList = rs)
  {H H1 : Heap} {c C : Nat} {ls : List LV} {L : LV} (hlen : Nat.ble ls.length nt' = true) (hsl : initL 0 ls = sl')
  (body : ∀ A : Amb, (∀ id, A.μ0 id ≠ none → id < c) → dwp P A cd (IP env.tt rs A L H1 C) ⟨nt', sl', H, c⟩) : MutC P k H c ls L H1 C := by
 intro A hA
 subst hsl
 refine callC_in hE hfun hb hn nt' (Nat.eq_of_beq_eq_true hnt) rs hrs (Nat.le_of_ble_eq_true hlen) fun A' hA' => ?_
 refine dwp_mono (dwp_end (body A' hA')) fun e s q => ?_
 have fin : (resLV env.tt rs s = some L ∧ s.heap = H1 ∧ s.ctr = C) → ∃ l, resLV env.tt rs s = some l ∧ l = L ∧ s.heap = H1 ∧ s.ctr = C := fun ⟨q1, q2, q3⟩ => ⟨_, q1, rfl, q2, q3⟩
 cases e <;> first | exact fin q | exact q.elim
section
variable {A : Amb} {f : St → Prop} {hf : Hid f} {nt : Nat} {sl : List (Nat × LV)} {h : Heap} {c : Nat}
theorem o_callM {k : Nat} {H H1 : Heap} {m m1 : Nat} {ls : List LV} {L L' : LV} (hM : MutC P k H m ls L H1 m1) (gl : List (Nat × Nat)) {h' : Heap} {c' : Nat} {dst : Option Tmp} {fo : Operand} {args : Array Operand} {ts : Array TypeId}
  (hB : mutB gl m m1 H H1 = true) (hobj : objsOK (rho gl m c) h H) (hls : ls.all (moV gl m) = true) (hfn : evC nt sl fo = .fn k []) (hl : mapOpF nt sl args.toList some = some (ls.map (mrV (rho gl m c))))
  (hh : mrH (rho gl m c) H1 ++ dels (gl.map (·.2)) h = h') (hc : c + (m1 - m) = c') (hL : moL gl m L = true) (hL' : mrL (rho gl m c) L = L') (kk : f (match dst with | some d => ⟨nt, (d, L') :: sl, h', c'⟩ | none => ⟨nt, sl, h', c'⟩)) :
  opS P A env ⟨nt, sl, h, c⟩ dst (.call ⟨.value fo, args, ts⟩) ⟨f, hf⟩ := by
 rw [evC_eq (h := h) (c := c)] at hfn
 show fnW _ _
 rw [hfn]
 show CallC P A h c k (args.toList.map _ ++ []) _
 rw [args_eq hl, List.append_nil]
 refine callW_M hM gl hB hobj hls hL ?_
 rw [hh, hc, hL']
 show f (St.go ⟨nt, sl, h, c⟩ dst L' h' c')
 rw [go_go]
 cases dst <;> exact kk
end
end
end Go.E
/- Loops over maps, in whatever order (loopA); iterators. No condition. -/
namespace Go.E
open Go Go.RowKit
section
variable {σ α Ans : Type}
def AllRun (left : σ → List α) (z : σ → Option (σ ⊕ Ans)) (g : σ → α → List α → Option (σ ⊕ Ans)) : Nat → σ → Ans → Prop
 | 0, _, _ => False
 | n + 1, s, r => (left s = [] → z s = some (.inr r) ∨ ∃ s', z s = some (.inl s') ∧ AllRun left z g n s' r) ∧
   ∀ (j : Nat) y, (left s)[j]? = some y → g s y ((left s).eraseIdx j) = some (.inr r) ∨ ∃ s', g s y ((left s).eraseIdx j) = some (.inl s') ∧ AllRun left z g n s' r
open Classical in
noncomputable def loopA (left : σ → List α) (z : σ → Option (σ ⊕ Ans)) (g : σ → α → List α → Option (σ ⊕ Ans)) (s : σ) : Option Ans :=
 if h : ∃ r, ∃ n, AllRun left z g n s r then some (Classical.choose h) else none
theorem loopA_some {left : σ → List α} {z : σ → Option (σ ⊕ Ans)} {g : σ → α → List α → Option (σ ⊕ Ans)} {s : σ} {r : Ans} (h : loopA left z g s = some r) : ∃ n, AllRun left z g n s r := by
 unfold loopA at h
 split at h
 ·rename_i hx
  cases h
  exact Classical.choose_spec hx
 ·cases h
theorem AllRun.uniq {left : σ → List α} {z : σ → Option (σ ⊕ Ans)} {g : σ → α → List α → Option (σ ⊕ Ans)} : ∀ {n m : Nat} {s : σ} {r r' : Ans}, AllRun left z g n s r → AllRun left z g m s r' → r = r'
 | 0, _, _, _, _, h, _ => h.elim
 | _ + 1, 0, _, _, _, _, h => h.elim
 | n + 1, m + 1, s, r, r', h1, h2 => by
  have fin : ∀ o : Option (σ ⊕ Ans), (o = some (.inr r) ∨ ∃ s', o = some (.inl s') ∧ AllRun left z g n s' r) → (o = some (.inr r') ∨ ∃ s', o = some (.inl s') ∧ AllRun left z g m s' r') → r = r' := by
   rintro o (e1 | ⟨s1, e1, a1⟩) (e2 | ⟨s2, e2, a2⟩)
   ·rw [e1] at e2; cases e2; rfl
   ·rw [e1] at e2; cases e2
   ·rw [e1] at e2; cases e2
   ·rw [e1] at e2; cases e2; exact a1.uniq a2
  cases hl : left s with
  | nil => exact fin _ (h1.1 hl) (h2.1 hl)
  | cons y l =>
   have hy : (left s)[0]? = some y := by rw [hl]; rfl
   exact fin _ (h1.2 0 y hy) (h2.2 0 y hy)
theorem loopA_eq {left : σ → List α} {z : σ → Option (σ ⊕ Ans)} {g : σ → α → List α → Option (σ ⊕ Ans)} {s : σ} {r : Ans} {n : Nat} (h : AllRun left z g n s r) : loopA left z g s = some r := by
 have hx : ∃ r, ∃ n, AllRun left z g n s r := ⟨r, n, h⟩
 unfold loopA
 rw [dif_pos hx]
 obtain ⟨m, hm⟩ := Classical.choose_spec hx
 rw [hm.uniq h]
theorem loopA_inv {left : σ → List α} {z : σ → Option (σ ⊕ Ans)} {g : σ → α → List α → Option (σ ⊕ Ans)} (I : σ → Prop) {r : Ans}
  (h0 : ∀ s, I s → left s = [] → z s = some (.inr r)) (h1 : ∀ s (j : Nat) y, I s → (left s)[j]? = some y → g s y ((left s).eraseIdx j) = some (.inr r) ∨ ∃ s', g s y ((left s).eraseIdx j) = some (.inl s') ∧ left s' = (left s).eraseIdx j ∧ I s') {s : σ} (hs : I s) : loopA left z g s = some r := by
 have key : ∀ (k : Nat) (s : σ), (left s).length = k → I s → AllRun left z g (k + 1) s r := by
  intro k
  induction k with
  | zero =>
   intro s hk hs
   have hl : left s = [] := List.length_eq_zero_iff.1 hk
   exact ⟨fun _ => .inl (h0 s hs hl), fun j y hy => by rw [hl] at hy; simp at hy⟩
  | succ k ih =>
   intro s hk hs
   refine ⟨fun hl => by rw [hl] at hk; simp at hk, fun j y hy => ?_⟩
   rcases h1 s j y hs hy with h | ⟨s', e1, e2, e3⟩
   ·exact .inl h
   ·have hj : j < (left s).length := (List.getElem?_eq_some_iff.1 hy).1
    exact .inr ⟨s', e1, ih s' (by rw [e2, List.length_eraseIdx, if_pos hj]; omega) e3⟩
 exact loopA_eq (key _ s rfl hs)
end
section
variable {P : Program} {A : Amb} {env : Env} {st : St} {σ α Ans : Type}
def NX (A : Amb) (l : List α) (I0 : St) (I1 : α → List α → St) (e : Exit) (st : St) : Prop :=
 e = .normal ∧ ((l = [] ∧ Weak A st I0) ∨ ∃ (j : Nat) (y : α), l[j]? = some y ∧ Weak A st (I1 y (l.eraseIdx j)))
theorem nx0 {l : List α} {I0 : St} {I1 : α → List α → St} (hl : l = []) (w : Weak A st I0) : NX A l I0 I1 .normal st := ⟨rfl, .inl ⟨hl, w⟩⟩
theorem nx1 {l : List α} {I0 : St} {I1 : α → List α → St} {j : Nat} {y : α} (hl : l[j]? = some y) (w : Weak A st (I1 y (l.eraseIdx j))) : NX A l I0 I1 .normal st := ⟨rfl, .inr ⟨j, y, hl, w⟩⟩
theorem lpA {c1 c2 : Code} {Q : Ans → Exit → St → Prop} {a : Ans} (I : σ → St) (I0 : σ → St) (I1 : σ → α → List α → St) {left : σ → List α} {z : σ → Option (σ ⊕ Ans)} {g : σ → α → List α → Option (σ ⊕ Ans)} {s0 : σ}
  (h : loopA left z g s0 = some a) (hw : Weak A st (I s0)) (hn : ∀ s, dwp P A c1 (NX A (left s) (I0 s) (I1 s)) (I s))
  (h0 : ∀ s b, z s = some b → dwp P A c2 (LP A I Q b) (I0 s)) (h1 : ∀ s y l b, g s y l = some b → dwp P A c2 (LP A I Q b) (I1 s y l)) : dwp P A (.loop (.seq c1 c2)) (Q a) st := by
 obtain ⟨n, hn'⟩ := loopA_some h
 refine dwp_loop (ι := Nat × σ) (fun i s => AllRun left z g i.1 i.2 a ∧ Weak A s (I i.2)) (fun i => i.1) (n, s0) ⟨hn', hw⟩ ?_
 rintro ⟨n, s⟩ st' ⟨hi, hws⟩
 refine dwp_weak hws ?_
 cases n with
 | zero => exact hi.elim
 | succ n =>
  have fin : ∀ (o : Option (σ ⊕ Ans)) (S : St), (∀ b, o = some b → dwp P A c2 (LP A I Q b) S) → (o = some (.inr a) ∨ ∃ s', o = some (.inl s') ∧ AllRun left z g n s' a) →
    dwp P A c2 (thenD (fun st' => ∃ i' : Nat × σ, (AllRun left z g i'.1 i'.2 a ∧ Weak A st' (I i'.2)) ∧ i'.1 < n + 1) (Q a)) S := by
   rintro o S hS (e | ⟨s', e, hr⟩)
   ·refine dwp_mono (hS _ e) fun e st'' q => ?_
    obtain ⟨he, hq⟩ := q
    cases e <;> first | exact absurd rfl he | exact hq
   ·refine dwp_mono (hS _ e) fun e st'' q => ?_
    obtain ⟨he, hw'⟩ := q
    subst he
    exact ⟨(n, s'), ⟨hr, hw'⟩, Nat.lt_succ_self n⟩
  refine dwp_seq (dwp_mono (hn s) fun e st'' q => ?_)
  obtain ⟨he, q⟩ := q
  subst he
  rcases q with ⟨hl, hw'⟩ | ⟨j, y, hy, hw'⟩
  ·exact dwp_weak hw' (fin _ _ (h0 s) (hi.1 hl))
  ·exact dwp_weak hw' (fin _ _ (h1 s y _) (hi.2 j y hy))
end
section
variable {P : Program} {A : Amb} {env : Env} {f : St → Prop} {hf : Hid f} {nt : Nat} {sl : List (Nat × LV)} {h : Heap} {c : Nat} {d : Tmp} {κ υ : Type} {ke : κ → DV} {ve : υ → DV}
def isMpB (env : Env) (t : Nat) : Bool := match env.tt t with
 | some ti => match ti.sh with | .mp _ _ => true | _ => false
 | none => false
theorem isMpB_eq {t : Nat} (h : isMpB env t = true) : ∃ ti a b, env.tt t = some ti ∧ ti.sh = .mp a b := by
 unfold isMpB at h
 split at h
 ·rename_i ti e
  split at h
  ·rename_i a b e2; exact ⟨ti, a, b, e, e2⟩
  ·cases h
 ·cases h
theorem o_rng {t : Nat} {x : Operand} {mp : List (κ × υ)} (ht : isMpB env t = true) (hx : evC nt sl x = .p (.map (mapD ke ve mp))) (k : f ⟨nt, (d, .lpb c 0) :: sl, (c, .iter none (mapD ke ve mp)) :: h, c + 1⟩) :
  opS P A env ⟨nt, sl, h, c⟩ (some d) (.range t x) ⟨f, hf⟩ := by
 obtain ⟨ti, a, b, h1, h2⟩ := isMpB_eq ht
 rw [evC_eq (h := h) (c := c)] at hx
 refine tiW_iff.2 ⟨ti, h1, mpW_iff.2 ⟨a, b, h2, ?_⟩⟩
 show rngW _ _
 rw [hx]
 exact k
theorem mapD_erase (mp : List (κ × υ)) (j : Nat) : (mapD ke ve mp).eraseIdx j = mapD ke ve (mp.eraseIdx j) := by
 unfold mapD
 rw [List.eraseIdx_eq_take_drop_succ, List.eraseIdx_eq_take_drop_succ, List.map_append, List.map_take, List.map_drop]
theorem o_nxtB {cur : Option (DV × DV)} {x : Operand} {id : Nat} {mp : List (κ × υ)} (b : Bool) (hx : evC nt sl x = .lpb id 0) (hl : lookB id h = some (.iter cur (mapD ke ve mp))) {H : Option (DV × DV) → List (κ × υ) → Heap} (hu : ∀ q l, updF id (.iter q (mapD ke ve l)) h some = some (H q l))
  (k0 : mp = [] → f ⟨nt, (d, .tup [.p (.bool false)]) :: sl, h, c⟩)
  (k1 : ∀ (j : Nat) (y : κ × υ), mp[j]? = some y → f ⟨nt, (d, .tup [.p (.bool true), .p (ke y.1), .p (ve y.2)]) :: sl, H (if b then some (ke y.1, ve y.2) else none) (mp.eraseIdx j), c⟩) :
  opS P A env ⟨nt, sl, h, c⟩ (some d) (.next x false) ⟨f, hf⟩ := by
 rw [evC_eq (h := h) (c := c)] at hx
 rw [lookB_eq] at hl
 show nxtW h (St.eval ⟨nt, sl, h, c⟩ x) (fun _ => f (St.go ⟨nt, sl, h, c⟩ (some d) (.tup [.p (.bool false)]) h c)) (fun id left j p => ∃ cur', (cur' = none ∨ cur' = some p) ∧ f (St.go ⟨nt, sl, h, c⟩ (some d) (.tup [.p (.bool true), .p p.1, .p p.2]) (upd id (.iter cur' (left.eraseIdx j)) h) c))
 rw [hx]
 unfold nxtW
 simp only [hl]
 refine ⟨fun e => ?_, fun j p hp => ?_⟩
 ·refine k0 ?_
  cases mp with
  | nil => rfl
  | cons _ _ => simp [mapD] at e
 ·unfold mapD at hp
  rw [List.getElem?_map] at hp
  cases hy : mp[j]? with
  | none => rw [hy] at hp; cases hp
  | some y =>
   rw [hy] at hp
   cases hp
   have hu' := hu (if b then some (ke y.1, ve y.2) else none) (mp.eraseIdx j)
   rw [updF_eq] at hu'
   have hu2 := Option.some.inj hu'
   refine ⟨if b then some (ke y.1, ve y.2) else none, by cases b <;> simp, ?_⟩
   rw [mapD_erase, hu2]
   exact k1 j y hy
theorem o_nxtE {x : Operand} {id : Nat} {mp : List (κ × υ)} (hx : evC nt sl x = .lpb id 0) (hl : lookB id h = some (.iter none (mapD ke ve mp))) {H : κ × υ → List (κ × υ) → Heap} (hu : ∀ y l, updF id (.iter (some (ke y.1, ve y.2)) (mapD ke ve l)) h some = some (H y l))
  (k0 : mp = [] → f ⟨nt, (d, .tup [.p (.bool false)]) :: sl, h, c⟩)
  (k1 : ∀ (j : Nat) (y : κ × υ), mp[j]? = some y → f ⟨nt, (d, .tup [.p (.bool true), .p (ke y.1), .p (ve y.2)]) :: sl, H y (mp.eraseIdx j), c⟩) :
  opS P A env ⟨nt, sl, h, c⟩ (some d) (.next x false) ⟨f, hf⟩ :=
 o_nxtB true hx hl (H := fun q l => (updF id (.iter q (mapD ke ve l)) h some).getD []) (fun q l => by rw [updF_eq]; rfl) k0 fun j y hy => by
  simp only [if_true, hu, Option.getD_some]; exact k1 j y hy
theorem o_ent {p : DV × DV} {left : List (DV × DV)} {x : Operand} {id : Nat} (hx : evC nt sl x = .lpb id 0) (hl : lookB id h = some (.iter (some p) left)) {h' : Heap} (hu : updF id (.iter none left) h some = some h')
  (k : f ⟨nt, (d, .tup [.p p.1, .p p.2]) :: sl, h', c⟩) : opS P A env ⟨nt, sl, h, c⟩ (some d) (.entry x) ⟨f, hf⟩ := by
 rw [evC_eq (h := h) (c := c)] at hx
 rw [lookB_eq] at hl
 rw [updF_eq] at hu
 have hu2 := Option.some.inj hu
 show entW h (St.eval ⟨nt, sl, h, c⟩ x) (fun id p left => f (St.go ⟨nt, sl, h, c⟩ (some d) (.tup [.p p.1, .p p.2]) (upd id (.iter none left) h) c))
 rw [hx]
 unfold entW
 simp only [hl]
 rw [hu2]
 exact k
end
end Go.E
/- Drawn regions whose last operation waits for all others: it is run as in the text's order (a call that turns an object, a call that hands back an own row). Condition: the checks, by kernel. -/
namespace Go.E
open Go Go.RowKit
section
variable {P : Program} {A : Amb} {env : Env} {md : Region.Mode} {ops : Array Oper} {base : Nat} {K : St → Prop}
end
end Go.E
/- The program's data in plain Lean, and how they stand in cells. Written by a program (gen.py). No condition. -/
namespace Go.E
open Go Go.RowKit Go.Proofs
instance : BEq ByteArray := ⟨fun a b => a.toList == b.toList⟩
def wi64 (n : Int) : Int := IntKind.wrap .i64 n
def xor64 (a b : Int) : Int := IntKind.wrap .i64 (BitVec.ofInt (IntKind.bits .i64) a ^^^ BitVec.ofInt (IntKind.bits .i64) b).toNat
def intC (n : Int) : List DV := [.int .i64 n]
def u8C (n : Int) : List DV := [.int .u8 n]
def boolC (b : Bool) : List DV := [.bool b]
def strC (s : ByteArray) : List DV := [.str s]
def rowC {α : Type} (sz : Nat) (enc : α → List DV) (l : List α) : List DV := [.slice sz (l.map enc)]
def ptrD {α : Type} (enc : α → List DV) (p : Option α) : DV := match p with
 | none => .nilp
 | some x => .place (enc x) 0
structure Port where
 elem : Int
 fin : Int
 deriving DecidableEq
def portC (x : Port) : List DV := [.int .i64 x.elem, .int .i64 x.fin]
theorem eqE_Port (x y : Port) : cellsEq (portC x) (portC y) = (x == y) := by
 rw [Bool.eq_iff_iff]
 rw [beq_iff_eq]
 simp only [portC, cellsEq, cellEq, Bool.and_eq_true, beq_iff_eq, Bool.and_true]
 constructor
 ·intro h
  obtain ⟨a1, a2⟩ := x; obtain ⟨b1, b2⟩ := y; simp only at h; simp [h]
 ·rintro rfl; simp
structure Join where
 a : Port
 b : Port
 deriving DecidableEq
def joinC (x : Join) : List DV := [.int .i64 x.a.elem, .int .i64 x.a.fin, .int .i64 x.b.elem, .int .i64 x.b.fin]
structure Elem where
 name : ByteArray
 kind : Int
 length : Int
 deriving DecidableEq
def elemC (x : Elem) : List DV := [.str x.name, .int .i64 x.kind, .int .i64 x.length]
structure Signal where
 name : ByteArray
 at_ : Port
 auto : Bool
 deriving DecidableEq
def signalC (x : Signal) : List DV := [.str x.name, .int .i64 x.at_.elem, .int .i64 x.at_.fin, .bool x.auto]
structure Line where
 name : ByteArray
 elems : (List Int)
 deriving DecidableEq
def lineC (x : Line) : List DV := [.str x.name, .slice 1 (x.elems.map intC)]
structure Plan where
 elems : (List Elem)
 joins : (List Join)
 signals : (List Signal)
 lines : (List Line)
 top : Int
 brake : Int
 margin : Int
 throw : Int
 hard : Bool
 deriving DecidableEq
def planC (x : Plan) : List DV := [.slice 3 (x.elems.map elemC), .slice 4 (x.joins.map joinC), .slice 4 (x.signals.map signalC), .slice 2 (x.lines.map lineC), .int .i64 x.top, .int .i64 x.brake, .int .i64 x.margin, .int .i64 x.throw, .bool x.hard]
structure Arr2Int where
 a0 : Int
 a1 : Int
 deriving DecidableEq
def arr2IntC (x : Arr2Int) : List DV := [.int .i64 x.a0, .int .i64 x.a1]
structure Net where
 p : Plan
 next : (List (Port × Port))
 reads : (List (Port × Int))
 line : (List (Int × Arr2Int))
 lead : (List (Int × Int))
 deriving DecidableEq
def netC (x : Net) : List DV := [.slice 3 (x.p.elems.map elemC), .slice 4 (x.p.joins.map joinC), .slice 4 (x.p.signals.map signalC), .slice 2 (x.p.lines.map lineC), .int .i64 x.p.top, .int .i64 x.p.brake, .int .i64 x.p.margin, .int .i64 x.p.throw, .bool x.p.hard, .map (mapD (fun x => .agg (portC x)) (fun x => .agg (portC x)) x.next), .map (mapD (fun x => .agg (portC x)) (.int .i64) x.reads), .map (mapD (.int .i64) (fun x => .agg (arr2IntC x)) x.line), .map (mapD (.int .i64) (.int .i64) x.lead)]
structure Step where
 elem : Int
 in_ : Int
 out : Int
 deriving DecidableEq
def stepC (x : Step) : List DV := [.int .i64 x.elem, .int .i64 x.in_, .int .i64 x.out]
structure Need where
 elem : Int
 pos : Int
 deriving DecidableEq
def needC (x : Need) : List DV := [.int .i64 x.elem, .int .i64 x.pos]
theorem eqE_Need (x y : Need) : cellsEq (needC x) (needC y) = (x == y) := by
 rw [Bool.eq_iff_iff]
 rw [beq_iff_eq]
 simp only [needC, cellsEq, cellEq, Bool.and_eq_true, beq_iff_eq, Bool.and_true]
 constructor
 ·intro h
  obtain ⟨a1, a2⟩ := x; obtain ⟨b1, b2⟩ := y; simp only at h; simp [h]
 ·rintro rfl; simp
structure Road where
 frm : Int
 to : Int
 fin : Int
 steps : (List Step)
 needs : (List Need)
 guards : (List Need)
 zone : (List Int)
 holds : (List Int)
 bare : Bool
 deriving DecidableEq
def roadC (x : Road) : List DV := [.int .i64 x.frm, .int .i64 x.to, .int .i64 x.fin, .slice 3 (x.steps.map stepC), .slice 2 (x.needs.map needC), .slice 2 (x.guards.map needC), .slice 1 (x.zone.map intC), .slice 1 (x.holds.map intC), .bool x.bare]
structure Way where
 out : Int
 pos : Int
 deriving DecidableEq
def wayC (x : Way) : List DV := [.int .i64 x.out, .int .i64 x.pos]
theorem keyE_96 : KeyE env 96 (fun x => .agg (portC x)) := ⟨fun a b => (eqE_Port a b), fun _ => rfl⟩
theorem keyE_3 : KeyE env 3 (.int .i64) := ⟨fun _ _ => rfl, fun _ => rfl⟩
theorem keyE_9 : KeyE env 9 .str := ⟨fun _ _ => rfl, fun _ => rfl⟩
def ren58 : Go.Shelf.Ren := ⟨fun n => match n with | 125 => 123 | 128 => 183 | 129 => 184 | 189 => 58 | 215 => 207 | 216 => 180 | 257 => 122 | 294 => 174 | 295 => 175 | 296 => 176 | 297 => 177 | 298 => 178 | 299 => 179 | 300 => 181 | 301 => 182 | 328 => 202 | 329 => 203 | 330 => 204 | 331 => 205 | 332 => 206 | 343 => 213 | n => n, fun n => match n with | 0 => 0 | 3 => 3 | 4 => 4 | 5 => 5 | 9 => 9 | 28 => 28 | 46 => 180 | 51 => 229 | 53 => 231 | 131 => 106 | 182 => 222 | 183 => 223 | 218 => 245 | 222 => 249 | 228 => 253 | 229 => 70 | n => n, fun n => n⟩
theorem lay58 : Go.Proofs.Lays.n189 Tryz.prog ren58 where
 mixed := mixed
 f125 := by exact Tryz.func123
 f128 := by exact Tryz.func183
 f129 := by exact Tryz.func184
 f189 := by exact Tryz.func58
 f215 := by exact Tryz.func207
 f216 := by exact Tryz.func180
 f257 := by exact Tryz.func122
 f294 := by exact Tryz.func174
 f295 := by exact Tryz.func175
 f296 := by exact Tryz.func176
 f297 := by exact Tryz.func177
 f298 := by exact Tryz.func178
 f299 := by exact Tryz.func179
 f300 := by exact Tryz.func181
 f301 := by exact Tryz.func182
 f328 := by exact Tryz.func202
 f329 := by exact Tryz.func203
 f330 := by exact Tryz.func204
 f331 := by exact Tryz.func205
 f332 := by exact Tryz.func206
 f343 := by exact Tryz.func213
 t0 := Tryz.underlying0
 a0 := Tryz.isAgg0
 z0 := Tryz.sizeOf0
 v0 := Tryz.zeroValue0
 t3 := Tryz.underlying3
 a3 := Tryz.isAgg3
 z3 := Tryz.sizeOf3
 v3 := Tryz.zeroValue3
 t4 := Tryz.underlying4
 a4 := Tryz.isAgg4
 z4 := Tryz.sizeOf4
 v4 := Tryz.zeroValue4
 t5 := Tryz.underlying5
 a5 := Tryz.isAgg5
 z5 := Tryz.sizeOf5
 v5 := Tryz.zeroValue5
 t9 := Tryz.underlying9
 a9 := Tryz.isAgg9
 z9 := Tryz.sizeOf9
 v9 := Tryz.zeroValue9
 t28 := Tryz.underlying28
 a28 := Tryz.isAgg28
 z28 := Tryz.sizeOf28
 v28 := Tryz.zeroValue28
 t46 := Tryz.underlying180
 a46 := Tryz.isAgg180
 z46 := Tryz.sizeOf180
 v46 := Tryz.zeroValue180
 t51 := Tryz.underlying229
 a51 := Tryz.isAgg229
 z51 := Tryz.sizeOf229
 v51 := Tryz.zeroValue229
 t53 := Tryz.underlying231
 a53 := Tryz.isAgg231
 z53 := Tryz.sizeOf231
 v53 := Tryz.zeroValue231
 t131 := Tryz.underlying106
 a131 := Tryz.isAgg106
 z131 := Tryz.sizeOf106
 v131 := Tryz.zeroValue106
 t182 := Tryz.underlying222
 a182 := Tryz.isAgg222
 z182 := Tryz.sizeOf222
 v182 := Tryz.zeroValue222
 t183 := Tryz.underlying223
 a183 := Tryz.isAgg223
 z183 := Tryz.sizeOf223
 v183 := Tryz.zeroValue223
 t218 := Tryz.underlying245
 a218 := Tryz.isAgg245
 z218 := Tryz.sizeOf245
 v218 := Tryz.zeroValue245
 t222 := Tryz.underlying249
 a222 := Tryz.isAgg249
 z222 := Tryz.sizeOf249
 v222 := Tryz.zeroValue249
 t228 := Tryz.underlying253
 a228 := Tryz.isAgg253
 z228 := Tryz.sizeOf253
 v228 := Tryz.zeroValue253
 t229 := Tryz.underlying70
 a229 := Tryz.isAgg70
 z229 := Tryz.sizeOf70
 v229 := Tryz.zeroValue70
end Go.E
/- Plain functions, and walks in step with them. Written by a program (gen.py). No condition. -/
set_option maxRecDepth 100000
namespace Go.E
open Go Go.RowKit Go.Proofs
noncomputable def g_R6_join (x0 : Int) (x1 : Int) (x2 : Int) (x3 : Int) : Option Join :=
 some (⟨(⟨x0, x1⟩ : Port), (⟨x2, x3⟩ : Port)⟩ : Join)
theorem f_R6_join (x0 : Int) (x1 : Int) (x2 : Int) (x3 : Int) (r : Join) (h : g_R6_join x0 x1 x2 x3 = some r) : Fun Tryz.prog 103 [.int .i64 x0, .int .i64 x1, .int .i64 x2, .int .i64 x3] (· = .agg (joinC r)) := by
 refine fn env_ok Tryz.func103 rfl rfl 16 rfl [.cell 8 154] rfl [(0, .p (.int .i64 x0)), (1, .p (.int .i64 x1)), (2, .p (.int .i64 x2)), (3, .p (.int .i64 x3))] rfl rfl fun A hA => ?_
 unfold g_R6_join at h
 refine rs env_ok <| rl rfl <| rs env_ok <| rl rfl <| dwp_ret ?_
 cases h
 exact er rfl Le.rfl
noncomputable def g_R6_Small : Option Plan :=
 (g_R6_join 0 0 1 0).bind fun y11 => (g_R6_join 1 1 2 0).bind fun y13 => (g_R6_join 2 1 3 0).bind fun y15 => (g_R6_join 3 1 5 0).bind fun y17 => (g_R6_join 2 2 4 0).bind fun y19 => some (⟨[(⟨(⟨#[87]⟩ : ByteArray), 4, 0⟩ : Elem), (⟨(⟨#[65]⟩ : ByteArray), 1, 20⟩ : Elem), (⟨(⟨#[80]⟩ : ByteArray), 2, 10⟩ : Elem), (⟨(⟨#[66]⟩ : ByteArray), 1, 20⟩ : Elem), (⟨(⟨#[67]⟩ : ByteArray), 1, 30⟩ : Elem), (⟨(⟨#[69]⟩ : ByteArray), 4, 0⟩ : Elem)], [y11, y13, y15, y17, y19], [(⟨(⟨#[119]⟩ : ByteArray), (⟨0, 0⟩ : Port), false⟩ : Signal), (⟨(⟨#[97]⟩ : ByteArray), (⟨1, 1⟩ : Port), false⟩ : Signal), (⟨(⟨#[101]⟩ : ByteArray), (⟨5, 0⟩ : Port), false⟩ : Signal), (⟨(⟨#[98]⟩ : ByteArray), (⟨3, 0⟩ : Port), false⟩ : Signal), (⟨(⟨#[99]⟩ : ByteArray), (⟨4, 0⟩ : Port), false⟩ : Signal)], [], 10, 5, 15, 2, false⟩ : Plan)
theorem f_R6_Small (r : Plan) (h : g_R6_Small = some r) : Fun Tryz.prog 37 [] (· = .agg (planC r)) := by
 refine fn env_ok Tryz.func37 rfl rfl 31 rfl [.cell 0 27] rfl [] rfl rfl fun A hA => ?_
 unfold g_R6_Small at h
 refine rs env_ok <| rl rfl <| rs env_ok <| rl rfl <| rs env_ok <| rl rfl <| rs env_ok ?_
 obtain ⟨y11, ey11, h12⟩ := bd h; clear h
 refine sx rfl (o_call (f_R6_join _ _ _ _ _ ey11) (.inl rfl) rfl rfl rfl ?_)
 obtain ⟨y13, ey13, h14⟩ := bd h12; clear h12
 refine sx rfl (o_call (f_R6_join _ _ _ _ _ ey13) (.inl rfl) rfl rfl rfl ?_)
 obtain ⟨y15, ey15, h16⟩ := bd h14; clear h14
 refine sx rfl (o_call (f_R6_join _ _ _ _ _ ey15) (.inl rfl) rfl rfl rfl ?_)
 obtain ⟨y17, ey17, h18⟩ := bd h16; clear h16
 refine sx rfl (o_call (f_R6_join _ _ _ _ _ ey17) (.inl rfl) rfl rfl rfl ?_)
 obtain ⟨y19, ey19, h20⟩ := bd h18; clear h18
 refine sx rfl (o_call (f_R6_join _ _ _ _ _ ey19) (.inl rfl) rfl rfl rfl ?_)
 refine rl rfl <| rs env_ok <| rl rfl <| rs env_ok <| rl rfl <| dwp_ret ?_
 cases h20
 exact er (rd1 rfl (.agg (.cons (.own (enc := elemC) ([(⟨(⟨#[87]⟩ : ByteArray), 4, 0⟩ : Elem), (⟨(⟨#[65]⟩ : ByteArray), 1, 20⟩ : Elem), (⟨(⟨#[80]⟩ : ByteArray), 2, 10⟩ : Elem), (⟨(⟨#[66]⟩ : ByteArray), 1, 20⟩ : Elem), (⟨(⟨#[67]⟩ : ByteArray), 1, 30⟩ : Elem), (⟨(⟨#[69]⟩ : ByteArray), 4, 0⟩ : Elem)] : List Elem) rfl rfl) (.cons (.own (enc := joinC) ([y11, y13, y15, y17, y19] : List Join) rfl rfl) (.cons (.own (enc := signalC) ([(⟨(⟨#[119]⟩ : ByteArray), (⟨0, 0⟩ : Port), false⟩ : Signal), (⟨(⟨#[97]⟩ : ByteArray), (⟨1, 1⟩ : Port), false⟩ : Signal), (⟨(⟨#[101]⟩ : ByteArray), (⟨5, 0⟩ : Port), false⟩ : Signal), (⟨(⟨#[98]⟩ : ByteArray), (⟨3, 0⟩ : Port), false⟩ : Signal), (⟨(⟨#[99]⟩ : ByteArray), (⟨4, 0⟩ : Port), false⟩ : Signal)] : List Signal) rfl rfl) (.cons (.p _) (.cons (.p _) (.cons (.p _) (.cons (.p _) (.cons (.p _) (.cons (.p _) .nil))))))))))) (Le.agg' (.cons Le.rfl (.cons Le.rfl (.cons Le.rfl (.cons (Le.nil _) (.cons Le.rfl (.cons Le.rfl (.cons Le.rfl (.cons Le.rfl (.cons Le.rfl .nil))))))))))
noncomputable def g_R6_Few_l3 (x0 : Plan) (s442 : Int) : Option (Int ⊕ Bool) :=
 bif decide (s442 < (x0.signals.length : Int)) then (idx x0.signals s442).bind fun y488 => bif decide (100 < (y488.name.size : Int)) then some (.inr false) else some (.inl (wi64 (s442 + 1))) else some (.inr true)
noncomputable def g_R6_Few_l2 (x0 : Plan) (s332 : Int) : Option (Int ⊕ Bool) :=
 bif decide (s332 < (x0.elems.length : Int)) then (idx x0.elems s332).bind fun y378 => bif decide (100 < (y378.name.size : Int)) then some (.inr false) else some (.inl (wi64 (s332 + 1))) else (loopR (g_R6_Few_l3 x0) 0).map .inr
noncomputable def g_R6_Few_l1 (x0 : Plan) (s156 : Int) : Option (Int ⊕ Bool) :=
 bif decide (s156 < (x0.lines.length : Int)) then (((idx x0.lines s156).bind fun y263 => bif decide (60 < (y263.elems.length : Int)) then some true else (idx x0.lines s156).bind fun y267 => some (decide (100 < (y267.name.size : Int))) : Option (Bool))).bind fun (t261 : Bool) => bif t261 then some (.inr false) else some (.inl (wi64 (s156 + 1))) else (loopR (g_R6_Few_l2 x0) 0).map .inr
noncomputable def g_R6_Few (x0 : Plan) : Option Bool :=
 ((bif decide (60 < (x0.elems.length : Int)) then some true else bif decide (120 < (x0.joins.length : Int)) then some true else bif decide (60 < (x0.signals.length : Int)) then some true else some (decide (20 < (x0.lines.length : Int))) : Option (Bool))).bind fun (t24 : Bool) => bif t24 then some false else loopR (g_R6_Few_l1 x0) 0
theorem f_R6_Few (x0 : Plan) (r : Bool) (h : g_R6_Few x0 = some r) : Fun Tryz.prog 41 [.agg (planC x0)] (· = .bool r) := by
 refine fn env_ok Tryz.func41 rfl rfl 83 rfl [.tmp 2] rfl [(0, .p (.agg (planC x0)))] rfl rfl fun A hA => ?_
 unfold g_R6_Few at h
 refine rs env_ok <| rl rfl <| dwp_seq ?_
 refine jb (fun t24 : Bool => ⟨83, [(1, .lpb 0 0), (27, lb t24)], [(0, .box [ls 3 elemC x0.elems, ls 4 joinC x0.joins, ls 4 signalC x0.signals, ls 2 lineC x0.lines, li x0.top, li x0.brake, li x0.margin, li x0.throw, lb x0.hard])], 1⟩) h (fun t24 h25 => ?_) (fun t24 h32 => ?_) <;> clear h
 ·refine rg env_ok <| rn 2 rfl ?_
  refine sx rfl (o_len rfl rfl ?_)
  refine rn 2 rfl ?_
  refine gs 10 h25 rfl rfl rfl (fun h26 => ?_) (fun h27 => ?_) <;> clear h25
  ·refine rl rfl ?_
   cases h26
   exact npn (wf hA [(0, 0)] rfl rfl rfl)
  ·refine rn 2 rfl ?_
   refine sx rfl (o_len rfl rfl ?_)
   refine rn 3 rfl ?_
   refine gs 16 h27 rfl rfl rfl (fun h28 => ?_) (fun h29 => ?_) <;> clear h27
   ·refine rl rfl ?_
    cases h28
    exact npn (wf hA [(0, 0)] rfl rfl rfl)
   ·refine rn 2 rfl ?_
    refine sx rfl (o_len rfl rfl ?_)
    refine rn 3 rfl ?_
    refine gs 22 h29 rfl rfl rfl (fun h30 => ?_) (fun h31 => ?_) <;> clear h29
    ·refine rl rfl ?_
     cases h30
     exact npn (wf hA [(0, 0)] rfl rfl rfl)
    ·refine rn 2 rfl ?_
     refine sx rfl (o_len rfl rfl ?_)
     refine rl rfl ?_
     cases h31
     exact npn (wf hA [(0, 0)] rfl rfl rfl)
 ·refine cd rfl h32 (fun h33 => ?_) (fun h34 => ?_) <;> clear h32
  ·refine rs env_ok <| rl rfl <| dwp_ret <| thenD_r ?_
   cases h33
   exact er rfl Le.rfl
  ·refine dwp_skip <| thenD_n <| dwp_seq <| rs env_ok <| rl rfl <| dwp_block ?_
   apply lp (a := r) (fun s156 : Int => ⟨83, [(1, .lpb 0 0), (3, li s156)], [(0, .box [ls 3 elemC x0.elems, ls 4 joinC x0.joins, ls 4 signalC x0.signals, ls 2 lineC x0.lines, li x0.top, li x0.brake, li x0.margin, li x0.throw, lb x0.hard])], 1⟩) h34 <;> clear h34
   · exact wf hA [(0, 0)] rfl rfl rfl
   intro s156 b233 h234
   unfold g_R6_Few_l1 at h234
   refine dwp_seq <| rs env_ok <| rn 3 rfl ?_
   refine sx rfl (o_len rfl rfl ?_)
   refine rl rfl ?_
   refine cd rfl h234 (fun h237 => ?_) (fun h274 => ?_) <;> clear h234
   ·refine dwp_skip <| thenD_n <| dwp_seq <| dwp_block ?_
    refine jb (fun t261 : Bool => ⟨83, [(1, .lpb 0 0), (3, li s156), (52, lb t261)], [(0, .box [ls 3 elemC x0.elems, ls 4 joinC x0.joins, ls 4 signalC x0.signals, ls 2 lineC x0.lines, li x0.top, li x0.brake, li x0.margin, li x0.throw, lb x0.hard])], 1⟩) h237 (fun t261 h262 => ?_) (fun t261 h269 => ?_) <;> clear h237
    ·refine rg env_ok <| rn 3 rfl ?_
     obtain ⟨y263, ey263, h264⟩ := bd h262; clear h262
     refine sx rfl (o_idx ey263 rfl rfl rfl ?_)
     refine rn 2 rfl ?_
     refine sx rfl (o_len rfl rfl ?_)
     refine rn 2 rfl ?_
     refine gs 43 h264 rfl rfl rfl (fun h265 => ?_) (fun h266 => ?_) <;> clear h264
     ·refine rl rfl ?_
      cases h265
      exact npn (wf hA [(0, 0)] rfl rfl rfl)
     ·refine rn 3 rfl ?_
      obtain ⟨y267, ey267, h268⟩ := bd h266; clear h266
      refine sx rfl (o_idx ey267 rfl rfl rfl ?_)
      refine rl rfl ?_
      cases h268
      exact npn (wf hA [(0, 0)] rfl rfl rfl)
    ·refine cd rfl h269 (fun h270 => ?_) (fun h273 => ?_) <;> clear h269
     ·refine rs env_ok <| rl rfl <| dwp_ret <| inB_r <| thenD_r ?_
      obtain ⟨a271, h272, rfl⟩ := mps h270; clear h270
      refine lpt <| inB_r <| thenD_r ?_
      cases h272
      exact er rfl Le.rfl
     ·refine dwp_skip <| inB_n <| thenD_n <| rg env_ok <| rl rfl ?_
      cases h273
      exact lpn (wf hA [(0, 0)] rfl rfl rfl)
   ·refine dwp_exit <| thenD_x ?_
    obtain ⟨a275, h276, rfl⟩ := mp h274; clear h274
    refine lpx <| inB_x <| thenD_n <| dwp_seq <| rs env_ok <| rl rfl <| dwp_block ?_
    apply lp (a := a275) (fun s332 : Int => ⟨83, [(1, .lpb 0 0), (4, li s332)], [(0, .box [ls 3 elemC x0.elems, ls 4 joinC x0.joins, ls 4 signalC x0.signals, ls 2 lineC x0.lines, li x0.top, li x0.brake, li x0.margin, li x0.throw, lb x0.hard])], 1⟩) h276 <;> clear h276
    · exact wf hA [(0, 0)] rfl rfl rfl
    intro s332 b365 h366
    unfold g_R6_Few_l2 at h366
    refine dwp_seq <| rs env_ok <| rn 3 rfl ?_
    refine sx rfl (o_len rfl rfl ?_)
    refine rl rfl ?_
    refine cd rfl h366 (fun h369 => ?_) (fun h384 => ?_) <;> clear h366
    ·refine dwp_skip <| thenD_n <| dwp_seq <| dwp_block <| rs env_ok <| rn 3 rfl ?_
     obtain ⟨y378, ey378, h379⟩ := bd h369; clear h369
     refine sx rfl (o_idx ey378 rfl rfl rfl ?_)
     refine rl rfl ?_
     refine cd rfl h379 (fun h380 => ?_) (fun h383 => ?_) <;> clear h379
     ·refine rs env_ok <| rl rfl <| dwp_ret <| inB_r <| thenD_r ?_
      obtain ⟨a381, h382, rfl⟩ := mps h380; clear h380
      refine lpt <| inB_r <| thenD_r ?_
      cases h382
      exact er rfl Le.rfl
     ·refine dwp_skip <| inB_n <| thenD_n <| rg env_ok <| rl rfl ?_
      cases h383
      exact lpn (wf hA [(0, 0)] rfl rfl rfl)
    ·refine dwp_exit <| thenD_x ?_
     obtain ⟨a385, h386, rfl⟩ := mp h384; clear h384
     refine lpx <| inB_x <| thenD_n <| dwp_seq <| rs env_ok <| rl rfl <| dwp_block ?_
     apply lp (a := a385) (fun s442 : Int => ⟨83, [(1, .lpb 0 0), (5, li s442)], [(0, .box [ls 3 elemC x0.elems, ls 4 joinC x0.joins, ls 4 signalC x0.signals, ls 2 lineC x0.lines, li x0.top, li x0.brake, li x0.margin, li x0.throw, lb x0.hard])], 1⟩) h386 <;> clear h386
     · exact wf hA [(0, 0)] rfl rfl rfl
     intro s442 b475 h476
     unfold g_R6_Few_l3 at h476
     refine dwp_seq <| rs env_ok <| rn 3 rfl ?_
     refine sx rfl (o_len rfl rfl ?_)
     refine rl rfl ?_
     refine cd rfl h476 (fun h479 => ?_) (fun h494 => ?_) <;> clear h476
     ·refine dwp_skip <| thenD_n <| dwp_seq <| dwp_block <| rs env_ok <| rn 3 rfl ?_
      obtain ⟨y488, ey488, h489⟩ := bd h479; clear h479
      refine sx rfl (o_idx ey488 rfl rfl rfl ?_)
      refine rl rfl ?_
      refine cd rfl h489 (fun h490 => ?_) (fun h493 => ?_) <;> clear h489
      ·refine rs env_ok <| rl rfl <| dwp_ret <| inB_r <| thenD_r ?_
       obtain ⟨a491, h492, rfl⟩ := mps h490; clear h490
       refine lpt <| inB_r <| thenD_r ?_
       cases h492
       exact er rfl Le.rfl
      ·refine dwp_skip <| inB_n <| thenD_n <| rg env_ok <| rl rfl ?_
       cases h493
       exact lpn (wf hA [(0, 0)] rfl rfl rfl)
     ·refine dwp_exit <| thenD_x ?_
      obtain ⟨a495, h496, rfl⟩ := mps h494; clear h494
      refine lpx <| inB_x <| thenD_n <| rs env_ok <| rl rfl <| dwp_ret ?_
      cases h496
      exact er rfl Le.rfl
noncomputable def g_R6_names_l3 (x0 : Plan) (s54 : (Int × (List ByteArray))) (s160 : (Int × (List ByteArray))) (s266 : Int × (List ByteArray)) : Option ((Int × (List ByteArray)) ⊕ ((List ByteArray) × (List ByteArray) × (List ByteArray))) :=
 bif decide (s266.1 < (x0.lines.length : Int)) then (idx x0.lines s266.1).bind fun y312 => (appI s266.2 [y312.name]).bind fun y314 => some (.inl (wi64 (s266.1 + 1), y314)) else some (.inr (s54.2, s160.2, s266.2))
noncomputable def g_R6_names_l2 (x0 : Plan) (s54 : (Int × (List ByteArray))) (s160 : Int × (List ByteArray)) : Option ((Int × (List ByteArray)) ⊕ ((List ByteArray) × (List ByteArray) × (List ByteArray))) :=
 bif decide (s160.1 < (x0.signals.length : Int)) then (idx x0.signals s160.1).bind fun y206 => (appI s160.2 [y206.name]).bind fun y208 => some (.inl (wi64 (s160.1 + 1), y208)) else (loopR (g_R6_names_l3 x0 s54 s160) (0, ([] : List ByteArray))).map .inr
noncomputable def g_R6_names_l1 (x0 : Plan) (s54 : Int × (List ByteArray)) : Option ((Int × (List ByteArray)) ⊕ ((List ByteArray) × (List ByteArray) × (List ByteArray))) :=
 bif decide (s54.1 < (x0.elems.length : Int)) then (idx x0.elems s54.1).bind fun y100 => (appI s54.2 [y100.name]).bind fun y102 => some (.inl (wi64 (s54.1 + 1), y102)) else (loopR (g_R6_names_l2 x0 s54) (0, ([] : List ByteArray))).map .inr
noncomputable def g_R6_names (x0 : Plan) : Option ((List ByteArray) × (List ByteArray) × (List ByteArray)) :=
 loopR (g_R6_names_l1 x0) (0, ([] : List ByteArray))
theorem f_R6_names (x0 : Plan) (r : ((List ByteArray) × (List ByteArray) × (List ByteArray))) (h : g_R6_names x0 = some r) : Fun Tryz.prog 108 [.agg (planC x0)] (· = .tup [.slice 1 (r.1.map strC), .slice 1 (r.2.1.map strC), .slice 1 (r.2.2.map strC)]) := by
 refine fn env_ok Tryz.func108 rfl rfl 62 rfl [.tmp 2, .tmp 3, .tmp 4] rfl [(0, .p (.agg (planC x0)))] rfl rfl fun A hA => ?_
 unfold g_R6_names at h
 refine rs env_ok <| rl rfl <| rs env_ok <| rl rfl <| dwp_seq <| rs env_ok <| rl rfl <| dwp_block ?_
 apply lp (a := r) (fun s54 : (Int × (List ByteArray)) => ⟨62, [(1, .lpb 0 0), (5, .lsl 1 1 0 s54.2.length), (6, .p (.nils)), (7, .p (.nils)), (8, li s54.1)], [(0, .box [ls 3 elemC x0.elems, ls 4 joinC x0.joins, ls 4 signalC x0.signals, ls 2 lineC x0.lines, li x0.top, li x0.brake, li x0.margin, li x0.throw, lb x0.hard]), (1, .row 9 1 (s54.2.map strC))], 2⟩) h <;> clear h
 · exact Weak.trans (weak_ghost 5 9 1 rfl) (wf hA [(0, 0), (1, 1)] rfl rfl rfl)
 intro s54 b91 h92
 unfold g_R6_names_l1 at h92
 refine dwp_seq <| rs env_ok <| rn 3 rfl ?_
 refine sx rfl (o_len rfl rfl ?_)
 refine rl rfl ?_
 refine cd rfl h92 (fun h95 => ?_) (fun h104 => ?_) <;> clear h92
 ·refine dwp_skip <| thenD_n <| dwp_seq <| dwp_block <| rg env_ok <| rn 4 rfl ?_
  obtain ⟨y100, ey100, h101⟩ := bd h95; clear h95
  refine sx rfl (o_idx ey100 rfl rfl rfl ?_)
  refine rn 3 rfl ?_
  obtain ⟨y102, ey102, h103⟩ := bd h101; clear h101
  refine sx rfl (o_app1 (enc := strC) (l := s54.2) (m := [y100.name]) ey102 (fun _ => ⟨rfl, rfl⟩) rfl rfl rfl rfl rfl rfl ?_)
  refine rl rfl <| inB_n <| thenD_n <| rg env_ok <| rl rfl ?_
  cases h103
  exact lpn (wf hA [(0, 0), (1, 3)] rfl rfl rfl)
 ·refine dwp_exit <| thenD_x ?_
  obtain ⟨a105, h106, rfl⟩ := mp h104; clear h104
  refine lpx <| inB_x <| thenD_n <| dwp_seq <| rs env_ok <| rl rfl <| dwp_block ?_
  apply lp (a := a105) (fun s160 : (Int × (List ByteArray)) => ⟨62, [(1, .lpb 0 0), (5, .lsl 1 1 0 s54.2.length), (6, .lsl 2 1 0 s160.2.length), (7, .p (.nils)), (9, li s160.1)], [(0, .box [ls 3 elemC x0.elems, ls 4 joinC x0.joins, ls 4 signalC x0.signals, ls 2 lineC x0.lines, li x0.top, li x0.brake, li x0.margin, li x0.throw, lb x0.hard]), (1, .row 9 1 (s54.2.map strC)), (2, .row 9 1 (s160.2.map strC))], 3⟩) h106 <;> clear h106
  · exact Weak.trans (weak_ghost 6 9 1 rfl) (wf hA (gi 3 []) rfl rfl rfl)
  intro s160 b197 h198
  unfold g_R6_names_l2 at h198
  refine dwp_seq <| rs env_ok <| rn 3 rfl ?_
  refine sx rfl (o_len rfl rfl ?_)
  refine rl rfl ?_
  refine cd rfl h198 (fun h201 => ?_) (fun h210 => ?_) <;> clear h198
  ·refine dwp_skip <| thenD_n <| dwp_seq <| dwp_block <| rg env_ok <| rn 4 rfl ?_
   obtain ⟨y206, ey206, h207⟩ := bd h201; clear h201
   refine sx rfl (o_idx ey206 rfl rfl rfl ?_)
   refine rn 3 rfl ?_
   obtain ⟨y208, ey208, h209⟩ := bd h207; clear h207
   refine sx rfl (o_app1 (enc := strC) (l := s160.2) (m := [y206.name]) ey208 (fun _ => ⟨rfl, rfl⟩) rfl rfl rfl rfl rfl rfl ?_)
   refine rl rfl <| inB_n <| thenD_n <| rg env_ok <| rl rfl ?_
   cases h209
   exact lpn (wf hA [(0, 0), (1, 1), (2, 4)] rfl rfl rfl)
  ·refine dwp_exit <| thenD_x ?_
   obtain ⟨a211, h212, rfl⟩ := mp h210; clear h210
   refine lpx <| inB_x <| thenD_n <| dwp_seq <| rs env_ok <| rl rfl <| dwp_block ?_
   apply lp (a := a211) (fun s266 : (Int × (List ByteArray)) => ⟨62, [(1, .lpb 0 0), (5, .lsl 1 1 0 s54.2.length), (6, .lsl 2 1 0 s160.2.length), (7, .lsl 3 1 0 s266.2.length), (10, li s266.1)], [(0, .box [ls 3 elemC x0.elems, ls 4 joinC x0.joins, ls 4 signalC x0.signals, ls 2 lineC x0.lines, li x0.top, li x0.brake, li x0.margin, li x0.throw, lb x0.hard]), (1, .row 9 1 (s54.2.map strC)), (2, .row 9 1 (s160.2.map strC)), (3, .row 9 1 (s266.2.map strC))], 4⟩) h212 <;> clear h212
   · exact Weak.trans (weak_ghost 7 9 1 rfl) (wf hA (gi 4 []) rfl rfl rfl)
   intro s266 b303 h304
   unfold g_R6_names_l3 at h304
   refine dwp_seq <| rs env_ok <| rn 3 rfl ?_
   refine sx rfl (o_len rfl rfl ?_)
   refine rl rfl ?_
   refine cd rfl h304 (fun h307 => ?_) (fun h316 => ?_) <;> clear h304
   ·refine dwp_skip <| thenD_n <| dwp_seq <| dwp_block <| rg env_ok <| rn 4 rfl ?_
    obtain ⟨y312, ey312, h313⟩ := bd h307; clear h307
    refine sx rfl (o_idx ey312 rfl rfl rfl ?_)
    refine rn 3 rfl ?_
    obtain ⟨y314, ey314, h315⟩ := bd h313; clear h313
    refine sx rfl (o_app1 (enc := strC) (l := s266.2) (m := [y312.name]) ey314 (fun _ => ⟨rfl, rfl⟩) rfl rfl rfl rfl rfl rfl ?_)
    refine rl rfl <| inB_n <| thenD_n <| rg env_ok <| rl rfl ?_
    cases h315
    exact lpn (wf hA (gi 3 [(3, 5)]) rfl rfl rfl)
   ·refine dwp_exit <| thenD_x ?_
    obtain ⟨a317, h318, rfl⟩ := mps h316; clear h316
    refine lpx <| inB_x <| thenD_n <| rs env_ok <| rl rfl <| dwp_ret ?_
    cases h318
    exact er (rdN rfl (.cons (.one (.own (enc := strC) s54.2 rfl rfl)) (.cons (.one (.own (enc := strC) s160.2 rfl rfl)) (.cons (.one (.own (enc := strC) s266.2 rfl rfl)) .nil)))) Le.rfl
noncomputable def g_R6_within (x0 : Int) (x1 : Int) (x2 : Int) : Option Bool :=
 ((bif decide (x1 ≤ x0) then some (decide (x0 ≤ x2)) else some false : Option (Bool))).bind fun (t3 : Bool) => some t3
theorem f_R6_within (x0 : Int) (x1 : Int) (x2 : Int) (r : Bool) (h : g_R6_within x0 x1 x2 = some r) : Fun Tryz.prog 154 [.int .i64 x0, .int .i64 x1, .int .i64 x2] (· = .bool r) := by
 refine fn env_ok Tryz.func154 rfl rfl 15 rfl [.tmp 6] rfl [(0, .p (.int .i64 x0)), (1, .p (.int .i64 x1)), (2, .p (.int .i64 x2))] rfl rfl fun A hA => ?_
 unfold g_R6_within at h
 refine rs env_ok <| rl rfl ?_
 refine jb (fun t3 : Bool => ⟨15, [(6, lb t3)], [], 0⟩) h (fun t3 h4 => ?_) (fun t3 h7 => ?_) <;> clear h
 ·refine rg env_ok <| rn 4 rfl ?_
  refine gs 10 h4 rfl rfl rfl (fun h5 => ?_) (fun h6 => ?_) <;> clear h4
  ·refine rl rfl ?_
   cases h5
   exact npn (wf hA [] rfl rfl rfl)
  ·refine rl rfl ?_
   cases h6
   exact npn (wf hA [] rfl rfl rfl)
 ·refine dwp_ret ?_
  have hr := Option.some.inj h7; subst hr
  exact er rfl Le.rfl
noncomputable def g_R6_Name_l1 (x0 : ByteArray) (s260 : Int) : Option (Int ⊕ Bool) :=
 bif decide (s260 < (x0.size : Int)) then (idxS x0 s260).bind fun y476 => ((bif decide (97 ≤ (y476.toNat : Int)) then bif decide ((y476.toNat : Int) ≤ 122) then some true else bif decide (65 ≤ (y476.toNat : Int)) then some (decide ((y476.toNat : Int) ≤ 90)) else some false else bif decide (65 ≤ (y476.toNat : Int)) then some (decide ((y476.toNat : Int) ≤ 90)) else some false : Option (Bool))).bind fun (t486 : Bool) => ((bif (!t486) then bif (s260 == 0) then some true else bif decide ((y476.toNat : Int) < 48) then some true else some (decide (57 < (y476.toNat : Int))) else some false : Option (Bool))).bind fun (t503 : Bool) => bif t503 then some (.inr false) else some (.inl (wi64 (s260 + 1))) else (((bif decide (1 ≤ (x0.size : Int)) then some (decide ((x0.size : Int) ≤ 8)) else some false : Option (Bool))).bind fun (t521 : Bool) => some t521).map .inr
noncomputable def g_R6_Name (x0 : ByteArray) : Option Bool :=
 loopR (g_R6_Name_l1 x0) 0
theorem f_R6_Name (x0 : ByteArray) (r : Bool) (h : g_R6_Name x0 = some r) : Fun Tryz.prog 155 [.str x0] (· = .bool r) := by
 refine fn env_ok Tryz.func155 rfl rfl 51 rfl [.tmp 2] rfl [(0, .p (.str x0))] rfl rfl fun A hA => ?_
 unfold g_R6_Name at h
 refine rs env_ok <| rl rfl <| dwp_seq <| rs env_ok <| rl rfl <| dwp_block ?_
 apply lp (a := r) (fun s260 : Int => ⟨51, [(0, .p (.str x0)), (3, li s260)], [], 0⟩) h <;> clear h
 · exact wf hA [] rfl rfl rfl
 intro s260 b429 h430
 unfold g_R6_Name_l1 at h430
 refine dwp_seq <| rs env_ok <| rl rfl ?_
 refine cd rfl h430 (fun h433 => ?_) (fun h516 => ?_) <;> clear h430
 ·refine dwp_skip <| thenD_n <| dwp_seq <| dwp_block <| rs env_ok <| rn 2 rfl ?_
  obtain ⟨y476, ey476, h477⟩ := bd h433; clear h433
  refine sx rfl (o_idxS ey476 rfl rfl rfl ?_)
  refine rl rfl ?_
  refine jb (fun t486 : Bool => ⟨51, [(0, .p (.str x0)), (3, li s260), (4, .p (.int .u8 (y476.toNat : Int))), (5, lb t486)], [], 0⟩) h477 (fun t486 h487 => ?_) (fun t486 h496 => ?_) <;> clear h477
  ·refine rg env_ok <| rn 3 rfl ?_
   refine gs 17 h487 rfl rfl rfl (fun h488 => ?_) (fun h493 => ?_) <;> clear h487
   ·refine rn 4 rfl ?_
    refine gs 21 h488 rfl rfl rfl (fun h489 => ?_) (fun h490 => ?_) <;> clear h488
    ·refine rl rfl ?_
     cases h489
     exact npn (wf hA [] rfl rfl rfl)
    ·refine rn 3 rfl ?_
     refine gs 24 h490 rfl rfl rfl (fun h491 => ?_) (fun h492 => ?_) <;> clear h490
     ·refine rl rfl ?_
      cases h491
      exact npn (wf hA [] rfl rfl rfl)
     ·refine rl rfl ?_
      cases h492
      exact npn (wf hA [] rfl rfl rfl)
   ·refine rn 7 rfl ?_
    refine gs 24 h493 rfl rfl rfl (fun h494 => ?_) (fun h495 => ?_) <;> clear h493
    ·refine rl rfl ?_
     cases h494
     exact npn (wf hA [] rfl rfl rfl)
    ·refine rl rfl ?_
     cases h495
     exact npn (wf hA [] rfl rfl rfl)
  ·refine jb (fun t503 : Bool => ⟨51, [(0, .p (.str x0)), (3, li s260), (42, lb t503)], [], 0⟩) h496 (fun t503 h504 => ?_) (fun t503 h511 => ?_) <;> clear h496
   ·refine rg env_ok <| rn 3 rfl ?_
    refine gs 31 h504 rfl rfl rfl (fun h505 => ?_) (fun h510 => ?_) <;> clear h504
    ·refine rn 3 rfl ?_
     refine gs 34 h505 rfl rfl rfl (fun h506 => ?_) (fun h507 => ?_) <;> clear h505
     ·refine rl rfl ?_
      cases h506
      exact npn (wf hA [] rfl rfl rfl)
     ·refine rn 4 rfl ?_
      refine gs 38 h507 rfl rfl rfl (fun h508 => ?_) (fun h509 => ?_) <;> clear h507
      ·refine rl rfl ?_
       cases h508
       exact npn (wf hA [] rfl rfl rfl)
      ·refine rl rfl ?_
       cases h509
       exact npn (wf hA [] rfl rfl rfl)
    ·refine rl rfl ?_
     cases h510
     exact npn (wf hA [] rfl rfl rfl)
   ·refine cd rfl h511 (fun h512 => ?_) (fun h515 => ?_) <;> clear h511
    ·refine rs env_ok <| rl rfl <| dwp_ret <| inB_r <| thenD_r ?_
     obtain ⟨a513, h514, rfl⟩ := mps h512; clear h512
     refine lpt <| inB_r <| thenD_r ?_
     cases h514
     exact er rfl Le.rfl
    ·refine dwp_skip <| inB_n <| thenD_n <| rg env_ok <| rl rfl ?_
     cases h515
     exact lpn (wf hA [] rfl rfl rfl)
 ·refine dwp_exit <| thenD_x ?_
  obtain ⟨a517, h518, rfl⟩ := mp h516; clear h516
  refine lpx <| inB_x <| thenD_n ?_
  refine jb (fun t521 : Bool => ⟨51, [(2, lb t521)], [], 0⟩) h518 (fun t521 h522 => ?_) (fun t521 h525 => ?_) <;> clear h518
  ·refine rg env_ok <| rn 4 rfl ?_
   refine gs 46 h522 rfl rfl rfl (fun h523 => ?_) (fun h524 => ?_) <;> clear h522
   ·refine rl rfl ?_
    cases h523
    exact npn (wf hA [] rfl rfl rfl)
   ·refine rl rfl ?_
    cases h524
    exact npn (wf hA [] rfl rfl rfl)
  ·refine dwp_ret ?_
   have hr := Option.some.inj h525; subst hr
   exact er rfl Le.rfl
noncomputable def g_R6_Ends (x0 : Int) : Option Int :=
 bif (x0 == 1) then some 2 else bif (x0 == 2) then some 3 else bif (x0 == 3) then some 4 else bif (x0 == 4) then some 1 else some 0
theorem f_R6_Ends (x0 : Int) (r : Int) (h : g_R6_Ends x0 = some r) : Fun Tryz.prog 156 [.int .i64 x0] (· = .int .i64 r) := by
 refine fn env_ok Tryz.func156 rfl rfl 12 rfl [.tmp 2] rfl [(0, .p (.int .i64 x0))] rfl rfl fun A hA => ?_
 unfold g_R6_Ends at h
 refine rs env_ok <| rl rfl <| dwp_seq <| rs env_ok <| rl rfl <| dwp_block <| rs env_ok <| rl rfl ?_
 refine cd rfl h (fun h9 => ?_) (fun h10 => ?_) <;> clear h
 ·refine rs env_ok <| rl rfl <| dwp_ret <| inB_r <| thenD_r ?_
  cases h9
  exact er rfl Le.rfl
 ·refine rs env_ok <| rl rfl ?_
  refine cd rfl h10 (fun h11 => ?_) (fun h12 => ?_) <;> clear h10
  ·refine rs env_ok <| rl rfl <| dwp_ret <| inB_r <| thenD_r ?_
   cases h11
   exact er rfl Le.rfl
  ·refine rs env_ok <| rl rfl ?_
   refine cd rfl h12 (fun h13 => ?_) (fun h14 => ?_) <;> clear h12
   ·refine rs env_ok <| rl rfl <| dwp_ret <| inB_r <| thenD_r ?_
    cases h13
    exact er rfl Le.rfl
   ·refine rs env_ok <| rl rfl ?_
    refine cd rfl h14 (fun h15 => ?_) (fun h16 => ?_) <;> clear h14
    ·refine rs env_ok <| rl rfl <| dwp_ret <| inB_r <| thenD_r ?_
     cases h15
     exact er rfl Le.rfl
    ·refine dwp_skip <| inB_n <| thenD_n <| rs env_ok <| rl rfl <| dwp_ret ?_
     cases h16
     exact er rfl Le.rfl
noncomputable def g_R6_args_l3 (x0 : Plan) (s938 : Int) : Option (Int ⊕ Bool) :=
 bif decide (s938 < (x0.lines.length : Int)) then (idx x0.lines s938).bind fun y1006 => (g_R6_Name y1006.name).bind fun y1008 => bif (!y1008) then some (.inr false) else some (.inl (wi64 (s938 + 1))) else some (.inr true)
noncomputable def g_R6_args_l2 (x0 : Plan) (s780 : Int) : Option (Int ⊕ Bool) :=
 bif decide (s780 < (x0.signals.length : Int)) then (idx x0.signals s780).bind fun y848 => (g_R6_Name y848.name).bind fun y850 => bif (!y850) then some (.inr false) else some (.inl (wi64 (s780 + 1))) else (loopR (g_R6_args_l3 x0) 0).map .inr
noncomputable def g_R6_args_l1 (x0 : Plan) (s388 : Int) : Option (Int ⊕ Bool) :=
 bif decide (s388 < (x0.elems.length : Int)) then (idx x0.elems s388).bind fun y649 => (((g_R6_Name y649.name).bind fun y673 => bif (!y673) then some true else (g_R6_Ends y649.kind).bind fun y677 => bif (y677 == 0) then some true else bif (y649.kind == 4) then bif (y649.length != 0) then some true else bif (y649.kind != 4) then (g_R6_within y649.length 1 4000).bind fun y685 => some (!y685) else some false else bif (y649.kind != 4) then (g_R6_within y649.length 1 4000).bind fun y690 => some (!y690) else some false : Option (Bool))).bind fun (t671 : Bool) => bif t671 then some (.inr false) else some (.inl (wi64 (s388 + 1))) else (loopR (g_R6_args_l2 x0) 0).map .inr
noncomputable def g_R6_args (x0 : Plan) : Option Bool :=
 (((g_R6_within x0.top 1 60).bind fun y56 => bif (!y56) then some true else (g_R6_within x0.brake 1 10).bind fun y60 => bif (!y60) then some true else (g_R6_within x0.margin 1 4000).bind fun y64 => bif (!y64) then some true else (g_R6_within x0.throw 1 20).bind fun y68 => bif (!y68) then some true else some ((x0.elems.length : Int) == 0) : Option (Bool))).bind fun (t54 : Bool) => bif t54 then some false else loopR (g_R6_args_l1 x0) 0
theorem f_R6_args (x0 : Plan) (r : Bool) (h : g_R6_args x0 = some r) : Fun Tryz.prog 109 [.agg (planC x0)] (· = .bool r) := by
 refine fn env_ok Tryz.func109 rfl rfl 108 rfl [.tmp 2] rfl [(0, .p (.agg (planC x0)))] rfl rfl fun A hA => ?_
 unfold g_R6_args at h
 refine rs env_ok <| rl rfl <| dwp_seq ?_
 refine jb (fun t54 : Bool => ⟨108, [(1, .lpb 0 0), (34, lb t54)], [(0, .box [ls 3 elemC x0.elems, ls 4 joinC x0.joins, ls 4 signalC x0.signals, ls 2 lineC x0.lines, li x0.top, li x0.brake, li x0.margin, li x0.throw, lb x0.hard])], 1⟩) h (fun t54 h55 => ?_) (fun t54 h72 => ?_) <;> clear h
 ·refine rg env_ok <| rn 2 rfl ?_
  obtain ⟨y56, ey56, h57⟩ := bd h55; clear h55
  refine sx rfl (o_call (f_R6_within _ _ _ _ ey56) (.inl rfl) rfl rfl rfl ?_)
  refine rn 2 rfl ?_
  refine gs 11 h57 rfl rfl rfl (fun h58 => ?_) (fun h59 => ?_) <;> clear h57
  ·refine rl rfl ?_
   cases h58
   exact npn (wf hA [(0, 0)] rfl rfl rfl)
  ·refine rn 2 rfl ?_
   obtain ⟨y60, ey60, h61⟩ := bd h59; clear h59
   refine sx rfl (o_call (f_R6_within _ _ _ _ ey60) (.inl rfl) rfl rfl rfl ?_)
   refine rn 3 rfl ?_
   refine gs 17 h61 rfl rfl rfl (fun h62 => ?_) (fun h63 => ?_) <;> clear h61
   ·refine rl rfl ?_
    cases h62
    exact npn (wf hA [(0, 0)] rfl rfl rfl)
   ·refine rn 2 rfl ?_
    obtain ⟨y64, ey64, h65⟩ := bd h63; clear h63
    refine sx rfl (o_call (f_R6_within _ _ _ _ ey64) (.inl rfl) rfl rfl rfl ?_)
    refine rn 3 rfl ?_
    refine gs 23 h65 rfl rfl rfl (fun h66 => ?_) (fun h67 => ?_) <;> clear h65
    ·refine rl rfl ?_
     cases h66
     exact npn (wf hA [(0, 0)] rfl rfl rfl)
    ·refine rn 2 rfl ?_
     obtain ⟨y68, ey68, h69⟩ := bd h67; clear h67
     refine sx rfl (o_call (f_R6_within _ _ _ _ ey68) (.inl rfl) rfl rfl rfl ?_)
     refine rn 3 rfl ?_
     refine gs 29 h69 rfl rfl rfl (fun h70 => ?_) (fun h71 => ?_) <;> clear h69
     ·refine rl rfl ?_
      cases h70
      exact npn (wf hA [(0, 0)] rfl rfl rfl)
     ·refine rn 2 rfl ?_
      refine sx rfl (o_len rfl rfl ?_)
      refine rl rfl ?_
      cases h71
      exact npn (wf hA [(0, 0)] rfl rfl rfl)
 ·refine cd rfl h72 (fun h73 => ?_) (fun h74 => ?_) <;> clear h72
  ·refine rs env_ok <| rl rfl <| dwp_ret <| thenD_r ?_
   cases h73
   exact er rfl Le.rfl
  ·refine dwp_skip <| thenD_n <| dwp_seq <| rs env_ok <| rl rfl <| dwp_block ?_
   apply lp (a := r) (fun s388 : Int => ⟨108, [(1, .lpb 0 0), (3, li s388)], [(0, .box [ls 3 elemC x0.elems, ls 4 joinC x0.joins, ls 4 signalC x0.signals, ls 2 lineC x0.lines, li x0.top, li x0.brake, li x0.margin, li x0.throw, lb x0.hard])], 1⟩) h74 <;> clear h74
   · exact wf hA [(0, 0)] rfl rfl rfl
   intro s388 b593 h594
   unfold g_R6_args_l1 at h594
   refine dwp_seq <| rs env_ok <| rn 3 rfl ?_
   refine sx rfl (o_len rfl rfl ?_)
   refine rl rfl ?_
   refine cd rfl h594 (fun h597 => ?_) (fun h698 => ?_) <;> clear h594
   ·refine dwp_skip <| thenD_n <| dwp_seq <| dwp_block <| rs env_ok <| rn 3 rfl ?_
    obtain ⟨y649, ey649, h650⟩ := bd h597; clear h597
    refine sx rfl (o_idx ey649 rfl rfl rfl ?_)
    refine rl rfl ?_
    refine jb (fun t671 : Bool => ⟨108, [(1, .lpb 0 0), (3, li s388), (77, lb t671)], [(0, .box [ls 3 elemC x0.elems, ls 4 joinC x0.joins, ls 4 signalC x0.signals, ls 2 lineC x0.lines, li x0.top, li x0.brake, li x0.margin, li x0.throw, lb x0.hard])], 1⟩) h650 (fun t671 h672 => ?_) (fun t671 h693 => ?_) <;> clear h650
    ·refine rg env_ok <| rn 2 rfl ?_
     obtain ⟨y673, ey673, h674⟩ := bd h672; clear h672
     refine sx rfl (o_call (f_R6_Name _ _ ey673) (.inl rfl) rfl rfl rfl ?_)
     refine rn 2 rfl ?_
     refine gs 51 h674 rfl rfl rfl (fun h675 => ?_) (fun h676 => ?_) <;> clear h674
     ·refine rl rfl ?_
      cases h675
      exact npn (wf hA [(0, 0)] rfl rfl rfl)
     ·refine rn 2 rfl ?_
      obtain ⟨y677, ey677, h678⟩ := bd h676; clear h676
      refine sx rfl (o_call (f_R6_Ends _ _ ey677) (.inl rfl) rfl rfl rfl ?_)
      refine rn 3 rfl ?_
      refine gs 57 h678 rfl rfl rfl (fun h679 => ?_) (fun h680 => ?_) <;> clear h678
      ·refine rl rfl ?_
       cases h679
       exact npn (wf hA [(0, 0)] rfl rfl rfl)
      ·refine rn 4 rfl ?_
       refine gs 61 h680 rfl rfl rfl (fun h681 => ?_) (fun h688 => ?_) <;> clear h680
       ·refine rn 6 rfl ?_
        refine gs 67 h681 rfl rfl rfl (fun h682 => ?_) (fun h683 => ?_) <;> clear h681
        ·refine rl rfl ?_
         cases h682
         exact npn (wf hA [(0, 0)] rfl rfl rfl)
        ·refine rn 4 rfl ?_
         refine gs 71 h683 rfl rfl rfl (fun h684 => ?_) (fun h687 => ?_) <;> clear h683
         ·refine rn 2 rfl ?_
          obtain ⟨y685, ey685, h686⟩ := bd h684; clear h684
          refine sx rfl (o_call (f_R6_within _ _ _ _ ey685) (.inl rfl) rfl rfl rfl ?_)
          refine rl rfl ?_
          cases h686
          exact npn (wf hA [(0, 0)] rfl rfl rfl)
         ·refine rl rfl ?_
          cases h687
          exact npn (wf hA [(0, 0)] rfl rfl rfl)
       ·refine rn 10 rfl ?_
        refine gs 71 h688 rfl rfl rfl (fun h689 => ?_) (fun h692 => ?_) <;> clear h688
        ·refine rn 2 rfl ?_
         obtain ⟨y690, ey690, h691⟩ := bd h689; clear h689
         refine sx rfl (o_call (f_R6_within _ _ _ _ ey690) (.inl rfl) rfl rfl rfl ?_)
         refine rl rfl ?_
         cases h691
         exact npn (wf hA [(0, 0)] rfl rfl rfl)
        ·refine rl rfl ?_
         cases h692
         exact npn (wf hA [(0, 0)] rfl rfl rfl)
    ·refine cd rfl h693 (fun h694 => ?_) (fun h697 => ?_) <;> clear h693
     ·refine rs env_ok <| rl rfl <| dwp_ret <| inB_r <| thenD_r ?_
      obtain ⟨a695, h696, rfl⟩ := mps h694; clear h694
      refine lpt <| inB_r <| thenD_r ?_
      cases h696
      exact er rfl Le.rfl
     ·refine dwp_skip <| inB_n <| thenD_n <| rg env_ok <| rl rfl ?_
      cases h697
      exact lpn (wf hA [(0, 0)] rfl rfl rfl)
   ·refine dwp_exit <| thenD_x ?_
    obtain ⟨a699, h700, rfl⟩ := mp h698; clear h698
    refine lpx <| inB_x <| thenD_n <| dwp_seq <| rs env_ok <| rl rfl <| dwp_block ?_
    apply lp (a := a699) (fun s780 : Int => ⟨108, [(1, .lpb 0 0), (5, li s780)], [(0, .box [ls 3 elemC x0.elems, ls 4 joinC x0.joins, ls 4 signalC x0.signals, ls 2 lineC x0.lines, li x0.top, li x0.brake, li x0.margin, li x0.throw, lb x0.hard])], 1⟩) h700 <;> clear h700
    · exact wf hA [(0, 0)] rfl rfl rfl
    intro s780 b829 h830
    unfold g_R6_args_l2 at h830
    refine dwp_seq <| rs env_ok <| rn 3 rfl ?_
    refine sx rfl (o_len rfl rfl ?_)
    refine rl rfl ?_
    refine cd rfl h830 (fun h833 => ?_) (fun h856 => ?_) <;> clear h830
    ·refine dwp_skip <| thenD_n <| dwp_seq <| dwp_block <| rs env_ok <| rn 3 rfl ?_
     obtain ⟨y848, ey848, h849⟩ := bd h833; clear h833
     refine sx rfl (o_idx ey848 rfl rfl rfl ?_)
     refine rn 2 rfl ?_
     obtain ⟨y850, ey850, h851⟩ := bd h849; clear h849
     refine sx rfl (o_call (f_R6_Name _ _ ey850) (.inl rfl) rfl rfl rfl ?_)
     refine rl rfl ?_
     refine cd rfl h851 (fun h852 => ?_) (fun h855 => ?_) <;> clear h851
     ·refine rs env_ok <| rl rfl <| dwp_ret <| inB_r <| thenD_r ?_
      obtain ⟨a853, h854, rfl⟩ := mps h852; clear h852
      refine lpt <| inB_r <| thenD_r ?_
      cases h854
      exact er rfl Le.rfl
     ·refine dwp_skip <| inB_n <| thenD_n <| rg env_ok <| rl rfl ?_
      cases h855
      exact lpn (wf hA [(0, 0)] rfl rfl rfl)
    ·refine dwp_exit <| thenD_x ?_
     obtain ⟨a857, h858, rfl⟩ := mp h856; clear h856
     refine lpx <| inB_x <| thenD_n <| dwp_seq <| rs env_ok <| rl rfl <| dwp_block ?_
     apply lp (a := a857) (fun s938 : Int => ⟨108, [(1, .lpb 0 0), (6, li s938)], [(0, .box [ls 3 elemC x0.elems, ls 4 joinC x0.joins, ls 4 signalC x0.signals, ls 2 lineC x0.lines, li x0.top, li x0.brake, li x0.margin, li x0.throw, lb x0.hard])], 1⟩) h858 <;> clear h858
     · exact wf hA [(0, 0)] rfl rfl rfl
     intro s938 b987 h988
     unfold g_R6_args_l3 at h988
     refine dwp_seq <| rs env_ok <| rn 3 rfl ?_
     refine sx rfl (o_len rfl rfl ?_)
     refine rl rfl ?_
     refine cd rfl h988 (fun h991 => ?_) (fun h1014 => ?_) <;> clear h988
     ·refine dwp_skip <| thenD_n <| dwp_seq <| dwp_block <| rs env_ok <| rn 3 rfl ?_
      obtain ⟨y1006, ey1006, h1007⟩ := bd h991; clear h991
      refine sx rfl (o_idx ey1006 rfl rfl rfl ?_)
      refine rn 2 rfl ?_
      obtain ⟨y1008, ey1008, h1009⟩ := bd h1007; clear h1007
      refine sx rfl (o_call (f_R6_Name _ _ ey1008) (.inl rfl) rfl rfl rfl ?_)
      refine rl rfl ?_
      refine cd rfl h1009 (fun h1010 => ?_) (fun h1013 => ?_) <;> clear h1009
      ·refine rs env_ok <| rl rfl <| dwp_ret <| inB_r <| thenD_r ?_
       obtain ⟨a1011, h1012, rfl⟩ := mps h1010; clear h1010
       refine lpt <| inB_r <| thenD_r ?_
       cases h1012
       exact er rfl Le.rfl
      ·refine dwp_skip <| inB_n <| thenD_n <| rg env_ok <| rl rfl ?_
       cases h1013
       exact lpn (wf hA [(0, 0)] rfl rfl rfl)
     ·refine dwp_exit <| thenD_x ?_
      obtain ⟨a1015, h1016, rfl⟩ := mps h1014; clear h1014
      refine lpx <| inB_x <| thenD_n <| rs env_ok <| rl rfl <| dwp_ret ?_
      cases h1016
      exact er rfl Le.rfl
noncomputable def g_R6_twice_l2 (x0 : (List ByteArray)) (s494 : Int) (s903 : Int) : Option (Int ⊕ (Int ⊕ Bool)) :=
 bif decide (s903 < s494) then (idx x0 s494).bind fun y971 => (idx x0 s903).bind fun y973 => bif (y971.toList == y973.toList) then some (.inr (.inr true)) else some (.inl (wi64 (s903 + 1))) else some (.inr (.inl (wi64 (s494 + 1))))
noncomputable def g_R6_twice_l1 (x0 : (List ByteArray)) (s494 : Int) : Option (Int ⊕ Bool) :=
 bif decide (s494 < (x0.length : Int)) then loopR (g_R6_twice_l2 x0 s494) 0 else some (.inr false)
noncomputable def g_R6_twice (x0 : (List ByteArray)) : Option Bool :=
 loopR (g_R6_twice_l1 x0) 0
theorem f_R6_twice (x0 : (List ByteArray)) (r : Bool) (h : g_R6_twice x0 = some r) : Fun Tryz.prog 110 [.slice 1 (x0.map strC)] (· = .bool r) := by
 refine fn env_ok Tryz.func110 rfl rfl 25 rfl [.tmp 2] rfl [(0, .p (.slice 1 (x0.map strC)))] rfl rfl fun A hA => ?_
 unfold g_R6_twice at h
 refine rs env_ok <| rl rfl <| dwp_seq <| rs env_ok <| rl rfl <| dwp_block ?_
 apply lp (a := r) (fun s494 : Int => ⟨25, [(0, ls 1 strC x0), (3, li s494)], [], 0⟩) h <;> clear h
 · exact wf hA [] rfl rfl rfl
 intro s494 b819 h820
 unfold g_R6_twice_l1 at h820
 refine dwp_seq <| rs env_ok <| rn 2 rfl ?_
 refine sx rfl (o_len rfl rfl ?_)
 refine rl rfl ?_
 refine cd rfl h820 (fun h823 => ?_) (fun h984 => ?_) <;> clear h820
 ·refine dwp_skip <| thenD_n <| dwp_seq <| dwp_block <| rs env_ok <| rl rfl <| dwp_block ?_
  apply lp (a := b819) (fun s903 : Int => ⟨25, [(0, ls 1 strC x0), (3, li s494), (4, li s903)], [], 0⟩) h823 <;> clear h823
  · exact wf hA [] rfl rfl rfl
  intro s903 b952 h953
  unfold g_R6_twice_l2 at h953
  refine dwp_seq <| rs env_ok <| rl rfl ?_
  refine cd rfl h953 (fun h956 => ?_) (fun h981 => ?_) <;> clear h953
  ·refine dwp_skip <| thenD_n <| dwp_seq <| dwp_block <| dwp_seq ?_
   refine rgd env_ok mixed [0, 1, 2, 3, 4, 5, 6, 7, 8] 9 (by kernel_rfl) rfl rfl rfl ?_
   refine rnD 2 rfl ?_
   obtain ⟨y971, ey971, h972⟩ := bd h956; clear h956
   refine sxD rfl (opD_plain rfl (o_idx ey971 rfl rfl rfl ?_))
   refine rnD 3 rfl ?_
   obtain ⟨y973, ey973, h974⟩ := bd h972; clear h972
   refine sxD rfl (opD_plain rfl (o_idx ey973 rfl rfl rfl ?_))
   refine rlD rfl <| thenD_n ?_
   refine cd rfl h974 (fun h975 => ?_) (fun h980 => ?_) <;> clear h974
   ·refine rs env_ok <| rl rfl <| dwp_ret <| inB_r <| thenD_r ?_
    obtain ⟨a976, h977, rfl⟩ := mps h975; clear h975
    refine lpt <| inB_r <| inB_r <| thenD_r ?_
    obtain ⟨a978, h979, rfl⟩ := mps h977; clear h977
    refine lpt <| inB_r <| thenD_r ?_
    cases h979
    exact er rfl Le.rfl
   ·refine dwp_skip <| inB_n <| thenD_n <| rg env_ok <| rl rfl ?_
    cases h980
    exact lpn (wf hA [] rfl rfl rfl)
  ·refine dwp_exit <| thenD_x ?_
   obtain ⟨a982, h983, rfl⟩ := mps h981; clear h981
   refine lpx <| inB_x <| inB_n <| thenD_n <| rg env_ok <| rl rfl ?_
   cases h983
   exact lpn (wf hA [] rfl rfl rfl)
 ·refine dwp_exit <| thenD_x ?_
  obtain ⟨a985, h986, rfl⟩ := mps h984; clear h984
  refine lpx <| inB_x <| thenD_n <| rs env_ok <| rl rfl <| dwp_ret ?_
  cases h986
  exact er rfl Le.rfl
end Go.E
/- Plain functions, and walks in step with them. Written by a program (gen.py). No condition. -/
set_option maxRecDepth 100000
namespace Go.E
open Go Go.RowKit Go.Proofs
noncomputable def g_R6_has (x0 : Plan) (x1 : Port) : Option Bool :=
 ((bif decide (0 ≤ x1.elem) then bif decide (x1.elem < (x0.elems.length : Int)) then bif decide (0 ≤ x1.fin) then (idx x0.elems x1.elem).bind fun y16 => (g_R6_Ends y16.kind).bind fun y18 => some (decide (x1.fin < y18)) else some false else some false else some false : Option (Bool))).bind fun (t11 : Bool) => some t11
theorem f_R6_has (x0 : Plan) (x1 : Port) (r : Bool) (h : g_R6_has x0 x1 = some r) : Fun Tryz.prog 157 [.agg (planC x0), .agg (portC x1)] (· = .bool r) := by
 refine fn env_ok Tryz.func157 rfl rfl 34 rfl [.tmp 4] rfl [(0, .p (.agg (planC x0))), (1, .p (.agg (portC x1)))] rfl rfl fun A hA => ?_
 unfold g_R6_has at h
 refine rs env_ok <| rl rfl ?_
 refine jb (fun t11 : Bool => ⟨34, [(4, lb t11)], [], 0⟩) h (fun t11 h12 => ?_) (fun t11 h23 => ?_) <;> clear h
 ·refine rgd env_ok mixed [0, 1, 2, 3, 4, 5, 6, 7, 8, 9, 10, 11, 12, 13, 14, 15, 16, 17, 18, 19, 20, 21, 22, 23, 24, 25, 26, 27, 28, 29] 30 (by kernel_rfl) rfl rfl rfl ?_
  refine rnD 4 rfl ?_
  refine gsD 8 h12 rfl rfl rfl (fun h13 => ?_) (fun h22 => ?_) <;> clear h12
  ·refine rnD 4 rfl ?_
   refine sxD rfl (o_lenD rfl rfl ?_)
   refine rnD 3 rfl ?_
   refine gsD 16 h13 rfl rfl rfl (fun h14 => ?_) (fun h21 => ?_) <;> clear h13
   ·refine rnD 5 rfl ?_
    refine gsD 21 h14 rfl rfl rfl (fun h15 => ?_) (fun h20 => ?_) <;> clear h14
    ·refine rnD 6 rfl ?_
     obtain ⟨y16, ey16, h17⟩ := bd h15; clear h15
     refine sxD rfl (opD_plain rfl (o_idx ey16 rfl rfl rfl ?_))
     refine rnD 2 rfl ?_
     obtain ⟨y18, ey18, h19⟩ := bd h17; clear h17
     refine sxD rfl (o_callD (f_R6_Ends _ _ ey18) (.inl rfl) rfl rfl rfl ?_)
     refine rlD rfl ?_
     cases h19
     exact npn (wf hA [] rfl rfl rfl)
    ·refine rlD rfl ?_
     cases h20
     exact npn (wf hA [] rfl rfl rfl)
   ·refine rlD rfl ?_
    cases h21
    exact npn (wf hA [] rfl rfl rfl)
  ·refine rlD rfl ?_
   cases h22
   exact npn (wf hA [] rfl rfl rfl)
 ·refine dwp_ret ?_
  have hr := Option.some.inj h23; subst hr
  exact er rfl Le.rfl
noncomputable def g_R6_Next_l1 (x0 : Plan) (x1 : Port) (s202 : Int) : Option (Int ⊕ (Port × Bool)) :=
 bif decide (s202 < (x0.joins.length : Int)) then (idx x0.joins s202).bind fun y378 => bif (y378.a == x1) then (idx x0.joins s202).bind fun y383 => some (.inr (y383.b, true)) else (idx x0.joins s202).bind fun y390 => bif (y390.b == x1) then (idx x0.joins s202).bind fun y395 => some (.inr (y395.a, true)) else some (.inl (wi64 (s202 + 1))) else some (.inr ((⟨0, 0⟩ : Port), false))
noncomputable def g_R6_Next (x0 : Plan) (x1 : Port) : Option (Port × Bool) :=
 loopR (g_R6_Next_l1 x0 x1) 0
theorem f_R6_Next (x0 : Plan) (x1 : Port) (r : (Port × Bool)) (h : g_R6_Next x0 x1 = some r) : Fun Tryz.prog 104 [.agg (planC x0), .agg (portC x1)] (· = .tup [.agg (portC r.1), .bool r.2]) := by
 refine fn env_ok Tryz.func104 rfl rfl 43 rfl [.cell 4 96, .tmp 5] rfl [(0, .p (.agg (planC x0))), (1, .p (.agg (portC x1)))] rfl rfl fun A hA => ?_
 unfold g_R6_Next at h
 refine rs env_ok <| rl rfl <| dwp_seq <| rs env_ok <| rl rfl <| dwp_block ?_
 apply lp (a := r) (fun s202 : Int => ⟨43, [(2, .lpb 0 0), (3, .lpb 1 0), (4, .lpb 2 0), (6, li s202)], [(0, .box [ls 3 elemC x0.elems, ls 4 joinC x0.joins, ls 4 signalC x0.signals, ls 2 lineC x0.lines, li x0.top, li x0.brake, li x0.margin, li x0.throw, lb x0.hard]), (1, .box [li x1.elem, li x1.fin]), (2, .box [li 0, li 0])], 3⟩) h <;> clear h
 · exact wf hA (gi 3 []) rfl rfl rfl
 intro s202 b331 h332
 unfold g_R6_Next_l1 at h332
 refine dwp_seq <| rs env_ok <| rn 3 rfl ?_
 refine sx rfl (o_len rfl rfl ?_)
 refine rl rfl ?_
 refine cd rfl h332 (fun h335 => ?_) (fun h400 => ?_) <;> clear h332
 ·refine dwp_skip <| thenD_n <| dwp_seq <| dwp_block <| dwp_seq <| dwp_seq ?_
  refine rgd env_ok mixed [0, 1, 2, 3, 4, 5, 6, 7] 8 (by kernel_rfl) rfl rfl rfl ?_
  refine rnD 3 rfl ?_
  obtain ⟨y378, ey378, h379⟩ := bd h335; clear h335
  refine sxD rfl (opD_plain rfl (o_idx ey378 rfl rfl rfl ?_))
  refine rnD 3 rfl ?_
  refine sxD rfl (o_eqAD (eqE_Port y378.a x1) rfl rfl rfl rfl rfl ?_)
  refine rlD rfl <| thenD_n ?_
  refine cd rfl h379 (fun h380 => ?_) (fun h387 => ?_) <;> clear h379
  ·refine rs env_ok <| rn 3 rfl ?_
   obtain ⟨y383, ey383, h384⟩ := bd h380; clear h380
   refine sx rfl (o_idx ey383 rfl rfl rfl ?_)
   refine rl rfl <| dwp_ret <| thenD_r <| inB_r <| thenD_r ?_
   obtain ⟨a385, h386, rfl⟩ := mps h384; clear h384
   refine lpt <| inB_r <| thenD_r ?_
   cases h386
   exact er rfl Le.rfl
  ·refine dwp_skip <| thenD_n <| dwp_seq ?_
   refine rgd env_ok mixed [0, 1, 2, 3, 4, 5, 6, 7] 8 (by kernel_rfl) rfl rfl rfl ?_
   refine rnD 3 rfl ?_
   obtain ⟨y390, ey390, h391⟩ := bd h387; clear h387
   refine sxD rfl (opD_plain rfl (o_idx ey390 rfl rfl rfl ?_))
   refine rnD 3 rfl ?_
   refine sxD rfl (o_eqAD (eqE_Port y390.b x1) rfl rfl rfl rfl rfl ?_)
   refine rlD rfl <| thenD_n ?_
   refine cd rfl h391 (fun h392 => ?_) (fun h399 => ?_) <;> clear h391
   ·refine rs env_ok <| rn 3 rfl ?_
    obtain ⟨y395, ey395, h396⟩ := bd h392; clear h392
    refine sx rfl (o_idx ey395 rfl rfl rfl ?_)
    refine rl rfl <| dwp_ret <| inB_r <| thenD_r ?_
    obtain ⟨a397, h398, rfl⟩ := mps h396; clear h396
    refine lpt <| inB_r <| thenD_r ?_
    cases h398
    exact er rfl Le.rfl
   ·refine dwp_skip <| inB_n <| thenD_n <| rg env_ok <| rl rfl ?_
    cases h399
    exact lpn (wf hA (gi 3 []) rfl rfl rfl)
 ·refine dwp_exit <| thenD_x ?_
  obtain ⟨a401, h402, rfl⟩ := mps h400; clear h400
  refine lpx <| inB_x <| thenD_n <| rs env_ok <| rl rfl <| dwp_ret ?_
  cases h402
  exact er rfl Le.rfl
noncomputable def g_R6_kind (x0 : Plan) (x1 : Int) : Option Int :=
 ((bif decide (x1 < 0) then some true else some (decide ((x0.elems.length : Int) ≤ x1)) : Option (Bool))).bind fun (t12 : Bool) => bif t12 then some 0 else (idx x0.elems x1).bind fun y21 => some y21.kind
theorem f_R6_kind (x0 : Plan) (x1 : Int) (r : Int) (h : g_R6_kind x0 x1 = some r) : Fun Tryz.prog 144 [.agg (planC x0), .int .i64 x1] (· = .int .i64 r) := by
 refine fn env_ok Tryz.func144 rfl rfl 20 rfl [.tmp 4] rfl [(0, .p (.agg (planC x0))), (1, .p (.int .i64 x1))] rfl rfl fun A hA => ?_
 unfold g_R6_kind at h
 refine rs env_ok <| rl rfl <| dwp_seq ?_
 refine jb (fun t12 : Bool => ⟨20, [(1, li x1), (2, .lpb 0 0), (13, lb t12)], [(0, .box [ls 3 elemC x0.elems, ls 4 joinC x0.joins, ls 4 signalC x0.signals, ls 2 lineC x0.lines, li x0.top, li x0.brake, li x0.margin, li x0.throw, lb x0.hard])], 1⟩) h (fun t12 h13 => ?_) (fun t12 h16 => ?_) <;> clear h
 ·refine rg env_ok <| rn 3 rfl ?_
  refine gs 7 h13 rfl rfl rfl (fun h14 => ?_) (fun h15 => ?_) <;> clear h13
  ·refine rl rfl ?_
   cases h14
   exact npn (wf hA [(0, 0)] rfl rfl rfl)
  ·refine rn 3 rfl ?_
   refine sx rfl (o_len rfl rfl ?_)
   refine rl rfl ?_
   cases h15
   exact npn (wf hA [(0, 0)] rfl rfl rfl)
 ·refine cd rfl h16 (fun h17 => ?_) (fun h18 => ?_) <;> clear h16
  ·refine rs env_ok <| rl rfl <| dwp_ret <| thenD_r ?_
   cases h17
   exact er rfl Le.rfl
  ·refine dwp_skip <| thenD_n <| rs env_ok <| rn 3 rfl ?_
   obtain ⟨y21, ey21, h22⟩ := bd h18; clear h18
   refine sx rfl (o_idx ey21 rfl rfl rfl ?_)
   refine rl rfl <| dwp_ret ?_
   cases h22
   exact er rfl Le.rfl
noncomputable def g_R6_joined_l3 (s70 : (Int × (List Port))) (s754 : Int) (s1285 : Int) : Option (Int ⊕ (Int ⊕ Bool)) :=
 bif decide (s1285 < s754) then (idx s70.2 s1285).bind fun y1353 => (idx s70.2 s754).bind fun y1355 => bif (y1353 == y1355) then some (.inr (.inr false)) else some (.inl (wi64 (s1285 + 1))) else some (.inr (.inl (wi64 (s754 + 1))))
noncomputable def g_R6_joined_l4 (x0 : Plan) (s1544 : Int) : Option (Int ⊕ Bool) :=
 bif decide (s1544 < (x0.elems.length : Int)) then seqR (((idx x0.elems s1544).bind fun y1690 => bif (y1690.kind == 4) then (g_R6_Next x0 (⟨s1544, 0⟩ : Port)).bind fun y1695 => ((bif (!y1695.2) then some true else (g_R6_kind x0 y1695.1.elem).bind fun y1705 => some (y1705 == 4) : Option (Bool))).bind fun (t1701 : Bool) => bif t1701 then some (.inr (.inr false)) else some (.inl ()) else some (.inl ()) : Option (Unit ⊕ (Int ⊕ Bool)))) fun (t1685 : Unit) => some (.inl (wi64 (s1544 + 1))) else some (.inr true)
noncomputable def g_R6_joined_l2 (x0 : Plan) (s70 : (Int × (List Port))) (s754 : Int) : Option (Int ⊕ Bool) :=
 bif decide (s754 < (s70.2.length : Int)) then (idx s70.2 s754).bind fun y1277 => (g_R6_has x0 y1277).bind fun y1279 => bif (!y1279) then some (.inr false) else loopR (g_R6_joined_l3 s70 s754) 0 else (loopR (g_R6_joined_l4 x0) 0).map .inr
noncomputable def g_R6_joined_l1 (x0 : Plan) (s70 : Int × (List Port)) : Option ((Int × (List Port)) ⊕ Bool) :=
 bif decide (s70.1 < (x0.joins.length : Int)) then (idx x0.joins s70.1).bind fun y130 => (idx x0.joins s70.1).bind fun y132 => (appI s70.2 [y130.a, y132.b]).bind fun y134 => some (.inl (wi64 (s70.1 + 1), y134)) else (loopR (g_R6_joined_l2 x0 s70) 0).map .inr
noncomputable def g_R6_joined (x0 : Plan) : Option Bool :=
 loopR (g_R6_joined_l1 x0) (0, ([] : List Port))
theorem f_R6_joined (x0 : Plan) (r : Bool) (h : g_R6_joined x0 = some r) : Fun Tryz.prog 111 [.agg (planC x0)] (· = .bool r) := by
 refine fn env_ok Tryz.func111 rfl rfl 89 rfl [.tmp 2] rfl [(0, .p (.agg (planC x0)))] rfl rfl fun A hA => ?_
 unfold g_R6_joined at h
 refine rs env_ok <| rl rfl <| rs env_ok <| rl rfl <| dwp_seq <| rs env_ok <| rl rfl <| dwp_block ?_
 apply lp (a := r) (fun s70 : (Int × (List Port)) => ⟨89, [(1, .lpb 0 0), (3, .lsl 1 2 0 s70.2.length), (4, li s70.1)], [(0, .box [ls 3 elemC x0.elems, ls 4 joinC x0.joins, ls 4 signalC x0.signals, ls 2 lineC x0.lines, li x0.top, li x0.brake, li x0.margin, li x0.throw, lb x0.hard]), (1, .row 96 2 (s70.2.map portC))], 2⟩) h <;> clear h
 · exact Weak.trans (weak_ghost 3 96 2 rfl) (wf hA [(0, 0), (1, 1)] rfl rfl rfl)
 intro s70 b119 h120
 unfold g_R6_joined_l1 at h120
 refine dwp_seq <| rs env_ok <| rn 3 rfl ?_
 refine sx rfl (o_len rfl rfl ?_)
 refine rl rfl ?_
 refine cd rfl h120 (fun h123 => ?_) (fun h136 => ?_) <;> clear h120
 ·refine dwp_skip <| thenD_n <| dwp_seq <| dwp_block ?_
  refine rgd env_ok mixed [0, 1, 2, 3, 4, 5, 6, 7, 8, 9, 10, 11, 12, 13, 14, 15] 16 (by kernel_rfl) rfl rfl rfl ?_
  refine rnD 4 rfl ?_
  obtain ⟨y130, ey130, h131⟩ := bd h123; clear h123
  refine sxD rfl (opD_plain rfl (o_idx ey130 rfl rfl rfl ?_))
  refine rnD 5 rfl ?_
  obtain ⟨y132, ey132, h133⟩ := bd h131; clear h131
  refine sxD rfl (opD_plain rfl (o_idx ey132 rfl rfl rfl ?_))
  refine rnD 3 rfl ?_
  obtain ⟨y134, ey134, h135⟩ := bd h133; clear h133
  refine sxD rfl (opD_app (o_app1 (enc := portC) (l := s70.2) (m := [y130.a, y132.b]) ey134 (fun _ => ⟨rfl, rfl⟩) rfl rfl rfl rfl rfl rfl ?_))
  refine rlD rfl <| inB_n <| thenD_n <| rg env_ok <| rl rfl ?_
  cases h135
  exact lpn (wf hA [(0, 0), (1, 16)] rfl rfl rfl)
 ·refine dwp_exit <| thenD_x ?_
  obtain ⟨a137, h138, rfl⟩ := mp h136; clear h136
  refine lpx <| inB_x <| thenD_n <| dwp_seq <| rs env_ok <| rl rfl <| dwp_block ?_
  apply lp (a := a137) (fun s754 : Int => ⟨89, [(1, .lpb 0 0), (3, .lsl 1 2 0 s70.2.length), (5, li s754)], [(0, .box [ls 3 elemC x0.elems, ls 4 joinC x0.joins, ls 4 signalC x0.signals, ls 2 lineC x0.lines, li x0.top, li x0.brake, li x0.margin, li x0.throw, lb x0.hard]), (1, .row 96 2 (s70.2.map portC))], 2⟩) h138 <;> clear h138
  · exact wf hA [(0, 0), (1, 1)] rfl rfl rfl
  intro s754 b1159 h1160
  unfold g_R6_joined_l2 at h1160
  refine dwp_seq <| rs env_ok <| rl rfl ?_
  refine cd rfl h1160 (fun h1163 => ?_) (fun h1366 => ?_) <;> clear h1160
  ·refine dwp_skip <| thenD_n <| dwp_seq <| dwp_block <| dwp_seq <| dwp_seq ?_
   refine rgd env_ok mixed [0, 1, 2, 3, 4, 5, 6] 7 (by kernel_rfl) rfl rfl rfl ?_
   refine rnD 3 rfl ?_
   obtain ⟨y1277, ey1277, h1278⟩ := bd h1163; clear h1163
   refine sxD rfl (opD_plain rfl (o_idxO ey1277 rfl rfl rfl rfl ?_))
   refine sxD rfl (opD_ld rfl (o_ldO ey1277 rfl rfl rfl ?_))
   obtain ⟨y1279, ey1279, h1280⟩ := bd h1278; clear h1278
   refine sxD rfl (o_callD (f_R6_has _ _ _ ey1279) (.inl rfl) rfl rfl rfl ?_)
   refine rlD rfl <| thenD_n ?_
   refine cd rfl h1280 (fun h1281 => ?_) (fun h1284 => ?_) <;> clear h1280
   ·refine rs env_ok <| rl rfl <| dwp_ret <| thenD_r <| inB_r <| thenD_r ?_
    obtain ⟨a1282, h1283, rfl⟩ := mps h1281; clear h1281
    refine lpt <| inB_r <| thenD_r ?_
    cases h1283
    exact er rfl Le.rfl
   ·refine dwp_skip <| thenD_n <| rs env_ok <| rl rfl <| dwp_block ?_
    apply lp (a := b1159) (fun s1285 : Int => ⟨89, [(1, .lpb 0 0), (3, .lsl 1 2 0 s70.2.length), (5, li s754), (6, li s1285)], [(0, .box [ls 3 elemC x0.elems, ls 4 joinC x0.joins, ls 4 signalC x0.signals, ls 2 lineC x0.lines, li x0.top, li x0.brake, li x0.margin, li x0.throw, lb x0.hard]), (1, .row 96 2 (s70.2.map portC))], 2⟩) h1284 <;> clear h1284
    · exact wf hA [(0, 0), (1, 1)] rfl rfl rfl
    intro s1285 b1334 h1335
    unfold g_R6_joined_l3 at h1335
    refine dwp_seq <| rs env_ok <| rl rfl ?_
    refine cd rfl h1335 (fun h1338 => ?_) (fun h1363 => ?_) <;> clear h1335
    ·refine dwp_skip <| thenD_n <| dwp_seq <| dwp_block <| dwp_seq ?_
     refine rgd env_ok mixed [0, 1, 2, 3, 4, 5, 6, 7, 8] 9 (by kernel_rfl) rfl rfl rfl ?_
     refine rnD 2 rfl ?_
     obtain ⟨y1353, ey1353, h1354⟩ := bd h1338; clear h1338
     refine sxD rfl (opD_plain rfl (o_idxO ey1353 rfl rfl rfl rfl ?_))
     refine sxD rfl (opD_ld rfl (o_ldO ey1353 rfl rfl rfl ?_))
     refine rnD 2 rfl ?_
     obtain ⟨y1355, ey1355, h1356⟩ := bd h1354; clear h1354
     refine sxD rfl (opD_plain rfl (o_idxO ey1355 rfl rfl rfl rfl ?_))
     refine sxD rfl (opD_ld rfl (o_ldO ey1355 rfl rfl rfl ?_))
     refine sxD rfl (o_eqAD (eqE_Port y1353 y1355) rfl rfl rfl rfl rfl ?_)
     refine rlD rfl <| thenD_n ?_
     refine cd rfl h1356 (fun h1357 => ?_) (fun h1362 => ?_) <;> clear h1356
     ·refine rs env_ok <| rl rfl <| dwp_ret <| inB_r <| thenD_r ?_
      obtain ⟨a1358, h1359, rfl⟩ := mps h1357; clear h1357
      refine lpt <| inB_r <| inB_r <| thenD_r ?_
      obtain ⟨a1360, h1361, rfl⟩ := mps h1359; clear h1359
      refine lpt <| inB_r <| thenD_r ?_
      cases h1361
      exact er rfl Le.rfl
     ·refine dwp_skip <| inB_n <| thenD_n <| rg env_ok <| rl rfl ?_
      cases h1362
      exact lpn (wf hA [(0, 0), (1, 1)] rfl rfl rfl)
    ·refine dwp_exit <| thenD_x ?_
     obtain ⟨a1364, h1365, rfl⟩ := mps h1363; clear h1363
     refine lpx <| inB_x <| inB_n <| thenD_n <| rg env_ok <| rl rfl ?_
     cases h1365
     exact lpn (wf hA [(0, 0), (1, 1)] rfl rfl rfl)
  ·refine dwp_exit <| thenD_x ?_
   obtain ⟨a1367, h1368, rfl⟩ := mp h1366; clear h1366
   refine lpx <| inB_x <| thenD_n <| dwp_seq <| rs env_ok <| rl rfl <| dwp_block ?_
   apply lp (a := a1367) (fun s1544 : Int => ⟨89, [(1, .lpb 0 0), (7, li s1544)], [(0, .box [ls 3 elemC x0.elems, ls 4 joinC x0.joins, ls 4 signalC x0.signals, ls 2 lineC x0.lines, li x0.top, li x0.brake, li x0.margin, li x0.throw, lb x0.hard])], 1⟩) h1368 <;> clear h1368
   · exact wf hA [(0, 0)] rfl rfl rfl
   intro s1544 b1657 h1658
   unfold g_R6_joined_l4 at h1658
   refine dwp_seq <| rs env_ok <| rn 3 rfl ?_
   refine sx rfl (o_len rfl rfl ?_)
   refine rl rfl ?_
   refine cd rfl h1658 (fun h1661 => ?_) (fun h1716 => ?_) <;> clear h1658
   ·refine dwp_skip <| thenD_n ?_
    apply jn (a := b1657) (fun t1685 : Unit => ⟨89, [(1, .lpb 0 0), (7, li s1544)], [(0, .box [ls 3 elemC x0.elems, ls 4 joinC x0.joins, ls 4 signalC x0.signals, ls 2 lineC x0.lines, li x0.top, li x0.brake, li x0.margin, li x0.throw, lb x0.hard])], 1⟩) h1661 <;> clear h1661
    ·intro b1686 h1687
     refine dwp_block <| rs env_ok <| rn 3 rfl ?_
     obtain ⟨y1690, ey1690, h1691⟩ := bd h1687; clear h1687
     refine sx rfl (o_idx ey1690 rfl rfl rfl ?_)
     refine rl rfl ?_
     refine cd rfl h1691 (fun h1692 => ?_) (fun h1714 => ?_) <;> clear h1691
     ·refine rs env_ok <| rn 3 rfl ?_
      obtain ⟨y1695, ey1695, h1696⟩ := bd h1692; clear h1692
      refine sx rfl (o_call (f_R6_Next _ _ _ ey1695) (.inl rfl) rfl rfl rfl ?_)
      refine rl rfl ?_
      refine jb (fun t1701 : Bool => ⟨89, [(1, .lpb 0 0), (7, li s1544), (88, lb t1701)], [(0, .box [ls 3 elemC x0.elems, ls 4 joinC x0.joins, ls 4 signalC x0.signals, ls 2 lineC x0.lines, li x0.top, li x0.brake, li x0.margin, li x0.throw, lb x0.hard])], 1⟩) h1696 (fun t1701 h1702 => ?_) (fun t1701 h1707 => ?_) <;> clear h1696
      ·refine rg env_ok <| rn 3 rfl ?_
       refine gs 82 h1702 rfl rfl rfl (fun h1703 => ?_) (fun h1704 => ?_) <;> clear h1702
       ·refine rl rfl ?_
        cases h1703
        exact npn (wf hA [(0, 0)] rfl rfl rfl)
       ·refine rn 3 rfl ?_
        obtain ⟨y1705, ey1705, h1706⟩ := bd h1704; clear h1704
        refine sx rfl (o_call (f_R6_kind _ _ _ ey1705) (.inl rfl) rfl rfl rfl ?_)
        refine rl rfl ?_
        cases h1706
        exact npn (wf hA [(0, 0)] rfl rfl rfl)
      ·refine cd rfl h1707 (fun h1708 => ?_) (fun h1713 => ?_) <;> clear h1707
       ·refine rs env_ok <| rl rfl <| dwp_ret <| inB_r ?_
        obtain ⟨a1709, h1710, rfl⟩ := mps h1708; clear h1708
        refine lpt ?_
        obtain ⟨a1711, h1712, rfl⟩ := mps h1710; clear h1710
        refine lpt <| inB_r <| thenD_r ?_
        cases h1712
        exact er rfl Le.rfl
       ·refine dwp_skip <| inB_n ?_
        cases h1713
        exact lpn (wf hA [(0, 0)] rfl rfl rfl)
     ·refine dwp_skip <| inB_n ?_
      cases h1714
      exact lpn (wf hA [(0, 0)] rfl rfl rfl)
    ·intro t1685 h1715
     refine rg env_ok <| rl rfl ?_
     cases h1715
     exact lpn (wf hA [(0, 0)] rfl rfl rfl)
   ·refine dwp_exit <| thenD_x ?_
    obtain ⟨a1717, h1718, rfl⟩ := mps h1716; clear h1716
    refine lpx <| inB_x <| thenD_n <| rs env_ok <| rl rfl <| dwp_ret ?_
    cases h1718
    exact er rfl Le.rfl
noncomputable def g_R6_Reads_l1 (x0 : Plan) (x1 : Port) (s56 : Int) : Option (Int ⊕ Int) :=
 bif decide (s56 < (x0.signals.length : Int)) then (idx x0.signals s56).bind fun y102 => bif (y102.at_ == x1) then some (.inr s56) else some (.inl (wi64 (s56 + 1))) else some (.inr (-1))
noncomputable def g_R6_Reads (x0 : Plan) (x1 : Port) : Option Int :=
 loopR (g_R6_Reads_l1 x0 x1) 0
theorem f_R6_Reads (x0 : Plan) (x1 : Port) (r : Int) (h : g_R6_Reads x0 x1 = some r) : Fun Tryz.prog 146 [.agg (planC x0), .agg (portC x1)] (· = .int .i64 r) := by
 refine fn env_ok Tryz.func146 rfl rfl 22 rfl [.tmp 4] rfl [(0, .p (.agg (planC x0))), (1, .p (.agg (portC x1)))] rfl rfl fun A hA => ?_
 unfold g_R6_Reads at h
 refine rs env_ok <| rl rfl <| dwp_seq <| rs env_ok <| rl rfl <| dwp_block ?_
 apply lp (a := r) (fun s56 : Int => ⟨22, [(2, .lpb 0 0), (3, .lpb 1 0), (5, li s56)], [(0, .box [ls 3 elemC x0.elems, ls 4 joinC x0.joins, ls 4 signalC x0.signals, ls 2 lineC x0.lines, li x0.top, li x0.brake, li x0.margin, li x0.throw, lb x0.hard]), (1, .box [li x1.elem, li x1.fin])], 2⟩) h <;> clear h
 · exact wf hA [(0, 0), (1, 1)] rfl rfl rfl
 intro s56 b89 h90
 unfold g_R6_Reads_l1 at h90
 refine dwp_seq <| rs env_ok <| rn 3 rfl ?_
 refine sx rfl (o_len rfl rfl ?_)
 refine rl rfl ?_
 refine cd rfl h90 (fun h93 => ?_) (fun h108 => ?_) <;> clear h90
 ·refine dwp_skip <| thenD_n <| dwp_seq <| dwp_block <| dwp_seq ?_
  refine rgd env_ok mixed [0, 1, 2, 3, 4, 5, 6, 7] 8 (by kernel_rfl) rfl rfl rfl ?_
  refine rnD 3 rfl ?_
  obtain ⟨y102, ey102, h103⟩ := bd h93; clear h93
  refine sxD rfl (opD_plain rfl (o_idx ey102 rfl rfl rfl ?_))
  refine rnD 3 rfl ?_
  refine sxD rfl (o_eqAD (eqE_Port y102.at_ x1) rfl rfl rfl rfl rfl ?_)
  refine rlD rfl <| thenD_n ?_
  refine cd rfl h103 (fun h104 => ?_) (fun h107 => ?_) <;> clear h103
  ·refine rs env_ok <| rl rfl <| dwp_ret <| inB_r <| thenD_r ?_
   obtain ⟨a105, h106, rfl⟩ := mps h104; clear h104
   refine lpt <| inB_r <| thenD_r ?_
   have hr := Option.some.inj h106; subst hr
   exact er rfl Le.rfl
  ·refine dwp_skip <| inB_n <| thenD_n <| rg env_ok <| rl rfl ?_
   cases h107
   exact lpn (wf hA [(0, 0), (1, 1)] rfl rfl rfl)
 ·refine dwp_exit <| thenD_x ?_
  obtain ⟨a109, h110, rfl⟩ := mps h108; clear h108
  refine lpx <| inB_x <| thenD_n <| rs env_ok <| rl rfl <| dwp_ret ?_
  cases h110
  exact er rfl Le.rfl
noncomputable def g_R6_signals_l2 (x0 : Plan) (s968 : Int) : Option (Int ⊕ Bool) :=
 bif decide (s968 < (x0.elems.length : Int)) then (((idx x0.elems s968).bind fun y1075 => bif (y1075.kind == 4) then (g_R6_Reads x0 (⟨s968, 0⟩ : Port)).bind fun y1078 => some (decide (y1078 < 0)) else some false : Option (Bool))).bind fun (t1073 : Bool) => bif t1073 then some (.inr false) else some (.inl (wi64 (s968 + 1))) else some (.inr true)
noncomputable def g_R6_signals_l1 (x0 : Plan) (s424 : Int) : Option (Int ⊕ Bool) :=
 bif decide (s424 < (x0.signals.length : Int)) then (idx x0.signals s424).bind fun y775 => (g_R6_kind x0 y775.at_.elem).bind fun y779 => (((g_R6_has x0 y775.at_).bind fun y806 => bif (!y806) then some true else bif (y779 != 1) then some (y779 != 4) else some false : Option (Bool))).bind fun (t804 : Bool) => bif t804 then some (.inr false) else (g_R6_Next x0 y775.at_).bind fun y819 => ((bif (!y819.2) then some true else (g_R6_kind x0 y819.1.elem).bind fun y833 => bif (y833 == 4) then some true else (g_R6_Reads x0 y775.at_).bind fun y837 => some (y837 != s424) : Option (Bool))).bind fun (t829 : Bool) => bif t829 then some (.inr false) else some (.inl (wi64 (s424 + 1))) else (loopR (g_R6_signals_l2 x0) 0).map .inr
noncomputable def g_R6_signals (x0 : Plan) : Option Bool :=
 loopR (g_R6_signals_l1 x0) 0
theorem f_R6_signals (x0 : Plan) (r : Bool) (h : g_R6_signals x0 = some r) : Fun Tryz.prog 112 [.agg (planC x0)] (· = .bool r) := by
 refine fn env_ok Tryz.func112 rfl rfl 81 rfl [.tmp 2] rfl [(0, .p (.agg (planC x0)))] rfl rfl fun A hA => ?_
 unfold g_R6_signals at h
 refine rs env_ok <| rl rfl <| dwp_seq <| rs env_ok <| rl rfl <| dwp_block ?_
 apply lp (a := r) (fun s424 : Int => ⟨81, [(1, .lpb 0 0), (3, li s424)], [(0, .box [ls 3 elemC x0.elems, ls 4 joinC x0.joins, ls 4 signalC x0.signals, ls 2 lineC x0.lines, li x0.top, li x0.brake, li x0.margin, li x0.throw, lb x0.hard])], 1⟩) h <;> clear h
 · exact wf hA [(0, 0)] rfl rfl rfl
 intro s424 b701 h702
 unfold g_R6_signals_l1 at h702
 refine dwp_seq <| rs env_ok <| rn 3 rfl ?_
 refine sx rfl (o_len rfl rfl ?_)
 refine rl rfl ?_
 refine cd rfl h702 (fun h705 => ?_) (fun h844 => ?_) <;> clear h702
 ·refine dwp_skip <| thenD_n <| dwp_seq <| dwp_block <| rs env_ok <| rn 3 rfl ?_
  obtain ⟨y775, ey775, h776⟩ := bd h705; clear h705
  refine sx rfl (o_idx ey775 rfl rfl rfl ?_)
  refine rl rfl <| rs env_ok <| rn 3 rfl ?_
  obtain ⟨y779, ey779, h780⟩ := bd h776; clear h776
  refine sx rfl (o_call (f_R6_kind _ _ _ ey779) (.inl rfl) rfl rfl rfl ?_)
  refine rl rfl <| dwp_seq ?_
  refine jb (fun t804 : Bool => ⟨81, [(1, .lpb 0 0), (3, li s424), (4, .lpb 1 0), (37, lb t804)], [(0, .box [ls 3 elemC x0.elems, ls 4 joinC x0.joins, ls 4 signalC x0.signals, ls 2 lineC x0.lines, li x0.top, li x0.brake, li x0.margin, li x0.throw, lb x0.hard]), (1, .box [li y775.at_.elem, li y775.at_.fin])], 2⟩) h780 (fun t804 h805 => ?_) (fun t804 h812 => ?_) <;> clear h780
  ·refine rg env_ok <| rn 2 rfl ?_
   obtain ⟨y806, ey806, h807⟩ := bd h805; clear h805
   refine sx rfl (o_call (f_R6_has _ _ _ ey806) (.inl rfl) rfl rfl rfl ?_)
   refine rn 2 rfl ?_
   refine gs 30 h807 rfl rfl rfl (fun h808 => ?_) (fun h809 => ?_) <;> clear h807
   ·refine rl rfl ?_
    cases h808
    exact npn (wf hA [(0, 0), (1, 1)] rfl rfl rfl)
   ·refine rn 3 rfl ?_
    refine gs 33 h809 rfl rfl rfl (fun h810 => ?_) (fun h811 => ?_) <;> clear h809
    ·refine rl rfl ?_
     cases h810
     exact npn (wf hA [(0, 0), (1, 1)] rfl rfl rfl)
    ·refine rl rfl ?_
     cases h811
     exact npn (wf hA [(0, 0), (1, 1)] rfl rfl rfl)
  ·refine cd rfl h812 (fun h813 => ?_) (fun h816 => ?_) <;> clear h812
   ·refine rs env_ok <| rl rfl <| dwp_ret <| thenD_r <| inB_r <| thenD_r ?_
    obtain ⟨a814, h815, rfl⟩ := mps h813; clear h813
    refine lpt <| inB_r <| thenD_r ?_
    cases h815
    exact er rfl Le.rfl
   ·refine dwp_skip <| thenD_n <| rs env_ok <| rn 2 rfl ?_
    obtain ⟨y819, ey819, h820⟩ := bd h816; clear h816
    refine sx rfl (o_call (f_R6_Next _ _ _ ey819) (.inl rfl) rfl rfl rfl ?_)
    refine rl rfl ?_
    refine jb (fun t829 : Bool => ⟨81, [(1, .lpb 0 0), (3, li s424), (59, lb t829)], [(0, .box [ls 3 elemC x0.elems, ls 4 joinC x0.joins, ls 4 signalC x0.signals, ls 2 lineC x0.lines, li x0.top, li x0.brake, li x0.margin, li x0.throw, lb x0.hard])], 1⟩) h820 (fun t829 h830 => ?_) (fun t829 h839 => ?_) <;> clear h820
    ·refine rg env_ok <| rn 3 rfl ?_
     refine gs 46 h830 rfl rfl rfl (fun h831 => ?_) (fun h832 => ?_) <;> clear h830
     ·refine rl rfl ?_
      cases h831
      exact npn (wf hA [(0, 0)] rfl rfl rfl)
     ·refine rn 3 rfl ?_
      obtain ⟨y833, ey833, h834⟩ := bd h832; clear h832
      refine sx rfl (o_call (f_R6_kind _ _ _ ey833) (.inl rfl) rfl rfl rfl ?_)
      refine rn 3 rfl ?_
      refine gs 53 h834 rfl rfl rfl (fun h835 => ?_) (fun h836 => ?_) <;> clear h834
      ·refine rl rfl ?_
       cases h835
       exact npn (wf hA [(0, 0)] rfl rfl rfl)
      ·refine rn 2 rfl ?_
       obtain ⟨y837, ey837, h838⟩ := bd h836; clear h836
       refine sx rfl (o_call (f_R6_Reads _ _ _ ey837) (.inl rfl) rfl rfl rfl ?_)
       refine rl rfl ?_
       cases h838
       exact npn (wf hA [(0, 0)] rfl rfl rfl)
    ·refine cd rfl h839 (fun h840 => ?_) (fun h843 => ?_) <;> clear h839
     ·refine rs env_ok <| rl rfl <| dwp_ret <| inB_r <| thenD_r ?_
      obtain ⟨a841, h842, rfl⟩ := mps h840; clear h840
      refine lpt <| inB_r <| thenD_r ?_
      cases h842
      exact er rfl Le.rfl
     ·refine dwp_skip <| inB_n <| thenD_n <| rg env_ok <| rl rfl ?_
      cases h843
      exact lpn (wf hA [(0, 0)] rfl rfl rfl)
 ·refine dwp_exit <| thenD_x ?_
  obtain ⟨a845, h846, rfl⟩ := mp h844; clear h844
  refine lpx <| inB_x <| thenD_n <| dwp_seq <| rs env_ok <| rl rfl <| dwp_block ?_
  apply lp (a := a845) (fun s968 : Int => ⟨81, [(1, .lpb 0 0), (8, li s968)], [(0, .box [ls 3 elemC x0.elems, ls 4 joinC x0.joins, ls 4 signalC x0.signals, ls 2 lineC x0.lines, li x0.top, li x0.brake, li x0.margin, li x0.throw, lb x0.hard])], 1⟩) h846 <;> clear h846
  · exact wf hA [(0, 0)] rfl rfl rfl
  intro s968 b1045 h1046
  unfold g_R6_signals_l2 at h1046
  refine dwp_seq <| rs env_ok <| rn 3 rfl ?_
  refine sx rfl (o_len rfl rfl ?_)
  refine rl rfl ?_
  refine cd rfl h1046 (fun h1049 => ?_) (fun h1086 => ?_) <;> clear h1046
  ·refine dwp_skip <| thenD_n <| dwp_seq <| dwp_block ?_
   refine jb (fun t1073 : Bool => ⟨81, [(1, .lpb 0 0), (8, li s968), (80, lb t1073)], [(0, .box [ls 3 elemC x0.elems, ls 4 joinC x0.joins, ls 4 signalC x0.signals, ls 2 lineC x0.lines, li x0.top, li x0.brake, li x0.margin, li x0.throw, lb x0.hard])], 1⟩) h1049 (fun t1073 h1074 => ?_) (fun t1073 h1081 => ?_) <;> clear h1049
   ·refine rg env_ok <| rn 3 rfl ?_
    obtain ⟨y1075, ey1075, h1076⟩ := bd h1074; clear h1074
    refine sx rfl (o_idx ey1075 rfl rfl rfl ?_)
    refine rn 4 rfl ?_
    refine gs 74 h1076 rfl rfl rfl (fun h1077 => ?_) (fun h1080 => ?_) <;> clear h1076
    ·refine rn 3 rfl ?_
     obtain ⟨y1078, ey1078, h1079⟩ := bd h1077; clear h1077
     refine sx rfl (o_call (f_R6_Reads _ _ _ ey1078) (.inl rfl) rfl rfl rfl ?_)
     refine rl rfl ?_
     cases h1079
     exact npn (wf hA [(0, 0)] rfl rfl rfl)
    ·refine rl rfl ?_
     cases h1080
     exact npn (wf hA [(0, 0)] rfl rfl rfl)
   ·refine cd rfl h1081 (fun h1082 => ?_) (fun h1085 => ?_) <;> clear h1081
    ·refine rs env_ok <| rl rfl <| dwp_ret <| inB_r <| thenD_r ?_
     obtain ⟨a1083, h1084, rfl⟩ := mps h1082; clear h1082
     refine lpt <| inB_r <| thenD_r ?_
     cases h1084
     exact er rfl Le.rfl
    ·refine dwp_skip <| inB_n <| thenD_n <| rg env_ok <| rl rfl ?_
     cases h1085
     exact lpn (wf hA [(0, 0)] rfl rfl rfl)
  ·refine dwp_exit <| thenD_x ?_
   obtain ⟨a1087, h1088, rfl⟩ := mps h1086; clear h1086
   refine lpx <| inB_x <| thenD_n <| rs env_ok <| rl rfl <| dwp_ret ?_
   cases h1088
   exact er rfl Le.rfl
noncomputable def g_R6_In_l1 (x0 : (List Int)) (x1 : Int) (s56 : Int) : Option (Int ⊕ Bool) :=
 bif decide (s56 < (x0.length : Int)) then (idx x0 s56).bind fun y102 => bif (y102 == x1) then some (.inr true) else some (.inl (wi64 (s56 + 1))) else some (.inr false)
noncomputable def g_R6_In (x0 : (List Int)) (x1 : Int) : Option Bool :=
 loopR (g_R6_In_l1 x0 x1) 0
theorem f_R6_In (x0 : (List Int)) (x1 : Int) (r : Bool) (h : g_R6_In x0 x1 = some r) : Fun Tryz.prog 16 [.slice 1 (x0.map intC), .int .i64 x1] (· = .bool r) := by
 refine fn env_ok Tryz.func16 rfl rfl 18 rfl [.tmp 4] rfl [(0, .p (.slice 1 (x0.map intC))), (1, .p (.int .i64 x1))] rfl rfl fun A hA => ?_
 unfold g_R6_In at h
 refine rs env_ok <| rl rfl <| dwp_seq <| rs env_ok <| rl rfl <| dwp_block ?_
 apply lp (a := r) (fun s56 : Int => ⟨18, [(0, ls 1 intC x0), (1, li x1), (5, li s56)], [], 0⟩) h <;> clear h
 · exact wf hA [] rfl rfl rfl
 intro s56 b89 h90
 unfold g_R6_In_l1 at h90
 refine dwp_seq <| rs env_ok <| rn 2 rfl ?_
 refine sx rfl (o_len rfl rfl ?_)
 refine rl rfl ?_
 refine cd rfl h90 (fun h93 => ?_) (fun h108 => ?_) <;> clear h90
 ·refine dwp_skip <| thenD_n <| dwp_seq <| dwp_block <| rs env_ok <| rn 2 rfl ?_
  obtain ⟨y102, ey102, h103⟩ := bd h93; clear h93
  refine sx rfl (o_idx ey102 rfl rfl rfl ?_)
  refine rl rfl ?_
  refine cd rfl h103 (fun h104 => ?_) (fun h107 => ?_) <;> clear h103
  ·refine rs env_ok <| rl rfl <| dwp_ret <| inB_r <| thenD_r ?_
   obtain ⟨a105, h106, rfl⟩ := mps h104; clear h104
   refine lpt <| inB_r <| thenD_r ?_
   cases h106
   exact er rfl Le.rfl
  ·refine dwp_skip <| inB_n <| thenD_n <| rg env_ok <| rl rfl ?_
   cases h107
   exact lpn (wf hA [] rfl rfl rfl)
 ·refine dwp_exit <| thenD_x ?_
  obtain ⟨a109, h110, rfl⟩ := mps h108; clear h108
  refine lpx <| inB_x <| thenD_n <| rs env_ok <| rl rfl <| dwp_ret ?_
  cases h110
  exact er rfl Le.rfl
noncomputable def g_R6_enters_l3 (x0 : Plan) (x1 : (List Int)) (s722 : Int × Int × (List Int)) : Option ((Int × Int × (List Int)) ⊕ ((List Int) × Bool)) :=
 bif decide (s722.2.1 < (x1.length : Int)) then (idx x1 (wi64 (s722.2.1 - 1))).bind fun y930 => (g_R6_Next x0 (⟨y930, s722.1⟩ : Port)).bind fun y932 => ((bif (!y932.2) then some true else (idx x1 s722.2.1).bind fun y955 => some (y932.1.elem != y955) : Option (Bool))).bind fun (t951 : Bool) => bif t951 then some (.inr ([], false)) else (appI s722.2.2 [y932.1.fin]).bind fun y964 => some (.inl (wi64 (1 - y932.1.fin), wi64 (s722.2.1 + 1), y964)) else some (.inr (s722.2.2, true))
noncomputable def g_R6_enters_l2 (x0 : Plan) (x1 : (List Int)) (s319 : Int × Int) : Option ((Int × Int) ⊕ ((List Int) × Bool)) :=
 bif decide (0 ≤ s319.2) then (((idx x1 0).bind fun y450 => (g_R6_Next x0 (⟨y450, s319.2⟩ : Port)).bind fun y452 => ((bif y452.2 then (idx x1 1).bind fun y461 => some (y452.1.elem == y461) else some false : Option (Bool))).bind fun (t458 : Bool) => bif t458 then some s319.2 else some s319.1 : Option (Int))).bind fun (t444 : Int) => some (.inl (t444, wi64 (s319.2 - 1))) else (bif decide (s319.1 < 0) then some ([], false) else loopR (g_R6_enters_l3 x0 x1) (s319.1, 1, [wi64 (1 - s319.1)])).map .inr
noncomputable def g_R6_enters_l1 (x0 : Plan) (x1 : (List Int)) (s84 : Int) : Option (Int ⊕ ((List Int) × Bool)) :=
 bif decide (s84 < (x1.length : Int)) then (idx x1 s84).bind fun y152 => (g_R6_kind x0 y152).bind fun y154 => bif (y154 != 1) then some (.inr ([], false)) else some (.inl (wi64 (s84 + 1))) else (bif ((x1.length : Int) == 1) then some ([0], true) else loopR (g_R6_enters_l2 x0 x1) ((-1), 1)).map .inr
noncomputable def g_R6_enters (x0 : Plan) (x1 : (List Int)) : Option ((List Int) × Bool) :=
 bif ((x1.length : Int) == 0) then some ([], false) else loopR (g_R6_enters_l1 x0 x1) 0
theorem f_R6_enters (x0 : Plan) (x1 : (List Int)) (r : ((List Int) × Bool)) (h : g_R6_enters x0 x1 = some r) : Fun Tryz.prog 158 [.agg (planC x0), .slice 1 (x1.map intC)] (· = .tup [.slice 1 (r.1.map intC), .bool r.2]) := by
 refine fn env_ok Tryz.func158 rfl rfl 102 rfl [.tmp 4, .tmp 5] rfl [(0, .p (.agg (planC x0))), (1, .p (.slice 1 (x1.map intC)))] rfl rfl fun A hA => ?_
 unfold g_R6_enters at h
 refine rs env_ok <| rl rfl <| dwp_seq <| rs env_ok <| rn 1 rfl ?_
 refine sx rfl (o_len rfl rfl ?_)
 refine rl rfl ?_
 refine cd rfl h (fun h3 => ?_) (fun h4 => ?_) <;> clear h
 ·refine rs env_ok <| rl rfl <| dwp_ret <| thenD_r ?_
  cases h3
  exact er rfl (Le.tup' (.cons (Le.nil _) (.cons Le.rfl .nil)))
 ·refine dwp_skip <| thenD_n <| dwp_seq <| rs env_ok <| rl rfl <| dwp_block ?_
  apply lp (a := r) (fun s84 : Int => ⟨102, [(1, ls 1 intC x1), (2, .lpb 0 0), (6, li s84)], [(0, .box [ls 3 elemC x0.elems, ls 4 joinC x0.joins, ls 4 signalC x0.signals, ls 2 lineC x0.lines, li x0.top, li x0.brake, li x0.margin, li x0.throw, lb x0.hard])], 1⟩) h4 <;> clear h4
  · exact wf hA [(0, 0)] rfl rfl rfl
  intro s84 b133 h134
  unfold g_R6_enters_l1 at h134
  refine dwp_seq <| rs env_ok <| rn 2 rfl ?_
  refine sx rfl (o_len rfl rfl ?_)
  refine rl rfl ?_
  refine cd rfl h134 (fun h137 => ?_) (fun h160 => ?_) <;> clear h134
  ·refine dwp_skip <| thenD_n <| dwp_seq <| dwp_block <| dwp_seq ?_
   refine rgd env_ok mixed [0, 1, 2, 3, 4, 5, 6] 7 (by kernel_rfl) rfl rfl rfl ?_
   refine rnD 3 rfl ?_
   obtain ⟨y152, ey152, h153⟩ := bd h137; clear h137
   refine sxD rfl (opD_plain rfl (o_idx ey152 rfl rfl rfl ?_))
   refine rnD 1 rfl ?_
   obtain ⟨y154, ey154, h155⟩ := bd h153; clear h153
   refine sxD rfl (o_callD (f_R6_kind _ _ _ ey154) (.inl rfl) rfl rfl rfl ?_)
   refine rlD rfl <| thenD_n ?_
   refine cd rfl h155 (fun h156 => ?_) (fun h159 => ?_) <;> clear h155
   ·refine rs env_ok <| rl rfl <| dwp_ret <| inB_r <| thenD_r ?_
    obtain ⟨a157, h158, rfl⟩ := mps h156; clear h156
    refine lpt <| inB_r <| thenD_r ?_
    cases h158
    exact er rfl (Le.tup' (.cons (Le.nil _) (.cons Le.rfl .nil)))
   ·refine dwp_skip <| inB_n <| thenD_n <| rg env_ok <| rl rfl ?_
    cases h159
    exact lpn (wf hA [(0, 0)] rfl rfl rfl)
  ·refine dwp_exit <| thenD_x ?_
   obtain ⟨a161, h162, rfl⟩ := mp h160; clear h160
   refine lpx <| inB_x <| thenD_n <| dwp_seq <| rs env_ok <| rn 1 rfl ?_
   refine sx rfl (o_len rfl rfl ?_)
   refine rl rfl ?_
   refine cd rfl h162 (fun h165 => ?_) (fun h166 => ?_) <;> clear h162
   ·refine rs env_ok <| rl rfl <| dwp_ret <| thenD_r ?_
    cases h165
    exact er (rdN rfl (.cons (.one (.own (enc := intC) ([0] : List Int) rfl rfl)) (.cons (.one (.p _)) .nil))) Le.rfl
   ·refine dwp_skip <| thenD_n <| rs env_ok <| rl rfl <| dwp_seq <| rs env_ok <| rl rfl <| dwp_block ?_
    apply lp (a := a161) (fun s319 : (Int × Int) => ⟨102, [(1, ls 1 intC x1), (2, .lpb 0 0), (7, li s319.1), (8, li s319.2)], [(0, .box [ls 3 elemC x0.elems, ls 4 joinC x0.joins, ls 4 signalC x0.signals, ls 2 lineC x0.lines, li x0.top, li x0.brake, li x0.margin, li x0.throw, lb x0.hard])], 1⟩) h166 <;> clear h166
    · exact wf hA [(0, 0)] rfl rfl rfl
    intro s319 b418 h419
    unfold g_R6_enters_l2 at h419
    refine dwp_seq <| rs env_ok <| rl rfl ?_
    refine cd rfl h419 (fun h422 => ?_) (fun h468 => ?_) <;> clear h419
    ·refine dwp_skip <| thenD_n ?_
     refine jb (fun t444 : Int => ⟨102, [(1, ls 1 intC x1), (2, .lpb 0 0), (7, li t444), (8, li s319.2)], [(0, .box [ls 3 elemC x0.elems, ls 4 joinC x0.joins, ls 4 signalC x0.signals, ls 2 lineC x0.lines, li x0.top, li x0.brake, li x0.margin, li x0.throw, lb x0.hard])], 1⟩) h422 (fun t444 h445 => ?_) (fun t444 h467 => ?_) <;> clear h422
     ·refine dwp_block <| dwp_seq ?_
      refine rgd env_ok mixed [0, 1, 2, 3, 4, 5, 6, 7, 8, 9, 10, 11, 12] 13 (by kernel_rfl) rfl rfl rfl ?_
      refine rnD 2 rfl ?_
      obtain ⟨y450, ey450, h451⟩ := bd h445; clear h445
      refine sxD rfl (opD_plain rfl (o_idx ey450 rfl rfl rfl ?_))
      refine rnD 3 rfl ?_
      obtain ⟨y452, ey452, h453⟩ := bd h451; clear h451
      refine sxD rfl (o_callD (f_R6_Next _ _ _ ey452) (.inl rfl) rfl rfl rfl ?_)
      refine rlD rfl <| thenD_n ?_
      refine jb (fun t458 : Bool => ⟨102, [(1, ls 1 intC x1), (2, .lpb 0 0), (7, li s319.1), (8, li s319.2), (57, lb t458)], [(0, .box [ls 3 elemC x0.elems, ls 4 joinC x0.joins, ls 4 signalC x0.signals, ls 2 lineC x0.lines, li x0.top, li x0.brake, li x0.margin, li x0.throw, lb x0.hard])], 1⟩) h453 (fun t458 h459 => ?_) (fun t458 h464 => ?_) <;> clear h453
      ·refine rgd env_ok mixed [0, 1, 2, 3, 4, 5, 6, 7, 8] 9 (by kernel_rfl) rfl rfl rfl ?_
       refine rnD 2 rfl ?_
       refine gsD 50 h459 rfl rfl rfl (fun h460 => ?_) (fun h463 => ?_) <;> clear h459
       ·refine rnD 3 rfl ?_
        obtain ⟨y461, ey461, h462⟩ := bd h460; clear h460
        refine sxD rfl (opD_plain rfl (o_idx ey461 rfl rfl rfl ?_))
        refine rlD rfl ?_
        cases h462
        exact npn (wf hA [(0, 0)] rfl rfl rfl)
       ·refine rlD rfl ?_
        cases h463
        exact npn (wf hA [(0, 0)] rfl rfl rfl)
      ·refine cd rfl h464 (fun h465 => ?_) (fun h466 => ?_) <;> clear h464
       ·refine rg env_ok <| rl rfl <| inB_n ?_
        cases h465
        exact npn (wf hA [(0, 0)] rfl rfl rfl)
       ·refine dwp_skip <| inB_n ?_
        cases h466
        exact npn (wf hA [(0, 0)] rfl rfl rfl)
     ·refine rg env_ok <| rl rfl ?_
      cases h467
      exact lpn (wf hA [(0, 0)] rfl rfl rfl)
    ·refine dwp_exit <| thenD_x ?_
     obtain ⟨a469, h470, rfl⟩ := mp h468; clear h468
     refine lpx <| inB_x <| thenD_n <| dwp_seq <| rs env_ok <| rl rfl ?_
     refine cd rfl h470 (fun h473 => ?_) (fun h474 => ?_) <;> clear h470
     ·refine rs env_ok <| rl rfl <| dwp_ret <| thenD_r ?_
      cases h473
      exact er rfl (Le.tup' (.cons (Le.nil _) (.cons Le.rfl .nil)))
     ·refine dwp_skip <| thenD_n <| rs env_ok <| rl rfl <| dwp_seq <| rs env_ok <| rl rfl <| dwp_block ?_
      apply lp (a := a469) (fun s722 : (Int × Int × (List Int)) => ⟨102, [(1, ls 1 intC x1), (2, .lpb 0 0), (7, li s722.1), (11, .lsl 1 1 0 s722.2.2.length), (12, li s722.2.1)], [(0, .box [ls 3 elemC x0.elems, ls 4 joinC x0.joins, ls 4 signalC x0.signals, ls 2 lineC x0.lines, li x0.top, li x0.brake, li x0.margin, li x0.throw, lb x0.hard]), (1, .row 3 1 (s722.2.2.map intC))], 2⟩) h474 <;> clear h474
      · exact wf hA [(0, 0), (1, 1)] rfl rfl rfl
      intro s722 b883 h884
      unfold g_R6_enters_l3 at h884
      refine dwp_seq <| rs env_ok <| rn 2 rfl ?_
      refine sx rfl (o_len rfl rfl ?_)
      refine rl rfl ?_
      refine cd rfl h884 (fun h887 => ?_) (fun h966 => ?_) <;> clear h884
      ·refine dwp_skip <| thenD_n <| dwp_seq <| dwp_block <| dwp_seq ?_
       refine rgd env_ok mixed [0, 1, 2, 3, 4, 5, 6, 7, 8, 9, 10, 11, 12, 13, 14] 15 (by kernel_rfl) rfl rfl rfl ?_
       refine rnD 4 rfl ?_
       obtain ⟨y930, ey930, h931⟩ := bd h887; clear h887
       refine sxD rfl (opD_plain rfl (o_idx ey930 rfl rfl rfl ?_))
       refine rnD 3 rfl ?_
       obtain ⟨y932, ey932, h933⟩ := bd h931; clear h931
       refine sxD rfl (o_callD (f_R6_Next _ _ _ ey932) (.inl rfl) rfl rfl rfl ?_)
       refine rlD rfl <| thenD_n <| dwp_seq ?_
       refine jb (fun t951 : Bool => ⟨102, [(1, ls 1 intC x1), (2, .lpb 0 0), (11, .lsl 1 1 0 s722.2.2.length), (12, li s722.2.1), (13, .lpb 2 0), (92, lb t951)], [(0, .box [ls 3 elemC x0.elems, ls 4 joinC x0.joins, ls 4 signalC x0.signals, ls 2 lineC x0.lines, li x0.top, li x0.brake, li x0.margin, li x0.throw, lb x0.hard]), (1, .row 3 1 (s722.2.2.map intC)), (2, .box [li y932.1.elem, li y932.1.fin])], 3⟩) h933 (fun t951 h952 => ?_) (fun t951 h957 => ?_) <;> clear h933
       ·refine rgd env_ok mixed [0, 1, 2, 3, 4, 5, 6, 7, 8, 9, 10] 11 (by kernel_rfl) rfl rfl rfl ?_
        refine rnD 3 rfl ?_
        refine gsD 84 h952 rfl rfl rfl (fun h953 => ?_) (fun h954 => ?_) <;> clear h952
        ·refine rlD rfl ?_
         cases h953
         exact npn (wf hA [(0, 0), (1, 1), (2, 14)] rfl rfl rfl)
        ·refine rnD 4 rfl ?_
         obtain ⟨y955, ey955, h956⟩ := bd h954; clear h954
         refine sxD rfl (opD_plain rfl (o_idx ey955 rfl rfl rfl ?_))
         refine rlD rfl ?_
         cases h956
         exact npn (wf hA [(0, 0), (1, 1), (2, 14)] rfl rfl rfl)
       ·refine cd rfl h957 (fun h958 => ?_) (fun h961 => ?_) <;> clear h957
        ·refine rs env_ok <| rl rfl <| dwp_ret <| thenD_r <| inB_r <| thenD_r ?_
         obtain ⟨a959, h960, rfl⟩ := mps h958; clear h958
         refine lpt <| inB_r <| thenD_r ?_
         cases h960
         exact er rfl (Le.tup' (.cons (Le.nil _) (.cons Le.rfl .nil)))
        ·refine dwp_skip <| thenD_n <| rs env_ok <| rn 4 rfl ?_
         obtain ⟨y964, ey964, h965⟩ := bd h961; clear h961
         refine sx rfl (o_app1 (enc := intC) (l := s722.2.2) (m := [y932.1.fin]) ey964 (fun _ => ⟨rfl, rfl⟩) rfl rfl rfl rfl rfl rfl ?_)
         refine rl rfl <| rg env_ok <| rl rfl <| inB_n <| thenD_n <| rg env_ok <| rl rfl ?_
         cases h965
         exact lpn (wf hA [(0, 0), (1, 4)] rfl rfl rfl)
      ·refine dwp_exit <| thenD_x ?_
       obtain ⟨a967, h968, rfl⟩ := mps h966; clear h966
       refine lpx <| inB_x <| thenD_n <| rs env_ok <| rl rfl <| dwp_ret ?_
       cases h968
       exact er (rdN rfl (.cons (.one (.own (enc := intC) s722.2.2 rfl rfl)) (.cons (.one (.p _)) .nil))) Le.rfl
end Go.E
/- Plain functions, and walks in step with them. Written by a program (gen.py). No condition. -/
set_option maxRecDepth 100000
namespace Go.E
open Go Go.RowKit Go.Proofs
noncomputable def g_R6_lines_l2 (x0 : Plan) (s2922 : (Int × (List Int))) (y5502 : Line) (s5667 : Int × (List Int)) : Option ((Int × (List Int)) ⊕ ((Int × (List Int)) ⊕ Bool)) :=
 bif decide (s5667.1 < (y5502.elems.length : Int)) then (idx y5502.elems s5667.1).bind fun y5815 => (g_R6_In s5667.2 y5815).bind fun y5817 => bif y5817 then some (.inr (.inr false)) else (idx y5502.elems s5667.1).bind fun y5825 => (appI s5667.2 [y5825]).bind fun y5827 => some (.inl (wi64 (s5667.1 + 1), y5827)) else ((g_R6_enters x0 y5502.elems).bind fun y5834 => bif (!y5834.2) then some (.inr false) else some (.inl (wi64 (s2922.1 + 1), s5667.2))).map .inr
noncomputable def g_R6_lines_l1 (x0 : Plan) (s2922 : Int × (List Int)) : Option ((Int × (List Int)) ⊕ Bool) :=
 bif decide (s2922.1 < (x0.lines.length : Int)) then (idx x0.lines s2922.1).bind fun y5502 => loopR (g_R6_lines_l2 x0 s2922 y5502) (0, s2922.2) else some (.inr true)
noncomputable def g_R6_lines (x0 : Plan) : Option Bool :=
 loopR (g_R6_lines_l1 x0) (0, ([] : List Int))
theorem f_R6_lines (x0 : Plan) (r : Bool) (h : g_R6_lines x0 = some r) : Fun Tryz.prog 113 [.agg (planC x0)] (· = .bool r) := by
 refine fn env_ok Tryz.func113 rfl rfl 49 rfl [.tmp 2] rfl [(0, .p (.agg (planC x0)))] rfl rfl fun A hA => ?_
 unfold g_R6_lines at h
 refine rs env_ok <| rl rfl <| rs env_ok <| rl rfl <| dwp_seq <| rs env_ok <| rl rfl <| dwp_block ?_
 apply lp (a := r) (fun s2922 : (Int × (List Int)) => ⟨49, [(1, .lpb 0 0), (3, .lsl 1 1 0 s2922.2.length), (4, li s2922.1)], [(0, .box [ls 3 elemC x0.elems, ls 4 joinC x0.joins, ls 4 signalC x0.signals, ls 2 lineC x0.lines, li x0.top, li x0.brake, li x0.margin, li x0.throw, lb x0.hard]), (1, .row 3 1 (s2922.2.map intC))], 2⟩) h <;> clear h
 · exact Weak.trans (weak_ghost 3 3 1 rfl) (wf hA [(0, 0), (1, 1)] rfl rfl rfl)
 intro s2922 b5159 h5160
 unfold g_R6_lines_l1 at h5160
 refine dwp_seq <| rs env_ok <| rn 3 rfl ?_
 refine sx rfl (o_len rfl rfl ?_)
 refine rl rfl ?_
 refine cd rfl h5160 (fun h5163 => ?_) (fun h5840 => ?_) <;> clear h5160
 ·refine dwp_skip <| thenD_n <| dwp_seq <| dwp_block <| rs env_ok <| rn 3 rfl ?_
  obtain ⟨y5502, ey5502, h5503⟩ := bd h5163; clear h5163
  refine sx rfl (o_idx ey5502 rfl rfl rfl ?_)
  refine rl rfl <| dwp_seq <| rs env_ok <| rl rfl <| dwp_block ?_
  apply lp (a := b5159) (fun s5667 : (Int × (List Int)) => ⟨49, [(1, .lpb 0 0), (3, .lsl 1 1 0 s5667.2.length), (4, li s2922.1), (5, ls 1 intC y5502.elems), (6, li s5667.1)], [(0, .box [ls 3 elemC x0.elems, ls 4 joinC x0.joins, ls 4 signalC x0.signals, ls 2 lineC x0.lines, li x0.top, li x0.brake, li x0.margin, li x0.throw, lb x0.hard]), (1, .row 3 1 (s5667.2.map intC))], 2⟩) h5503 <;> clear h5503
  · exact wf hA [(0, 0), (1, 1)] rfl rfl rfl
  intro s5667 b5772 h5773
  unfold g_R6_lines_l2 at h5773
  refine dwp_seq <| rs env_ok <| rn 2 rfl ?_
  refine sx rfl (o_len rfl rfl ?_)
  refine rl rfl ?_
  refine cd rfl h5773 (fun h5776 => ?_) (fun h5829 => ?_) <;> clear h5773
  ·refine dwp_skip <| thenD_n <| dwp_seq <| dwp_block <| dwp_seq <| rs env_ok <| rn 3 rfl ?_
   obtain ⟨y5815, ey5815, h5816⟩ := bd h5776; clear h5776
   refine sx rfl (o_idx ey5815 rfl rfl rfl ?_)
   refine rn 1 rfl ?_
   obtain ⟨y5817, ey5817, h5818⟩ := bd h5816; clear h5816
   refine sx rfl (o_call (f_R6_In _ _ _ ey5817) (.inl rfl) rfl rfl (LdA.eq (.cons (.one (.own (enc := intC) s5667.2 rfl rfl)) (.cons (.one (.p _)) .nil))) ?_)
   refine rl rfl ?_
   refine cd rfl h5818 (fun h5819 => ?_) (fun h5824 => ?_) <;> clear h5818
   ·refine rs env_ok <| rl rfl <| dwp_ret <| thenD_r <| inB_r <| thenD_r ?_
    obtain ⟨a5820, h5821, rfl⟩ := mps h5819; clear h5819
    refine lpt <| inB_r <| thenD_r <| inB_r <| thenD_r ?_
    obtain ⟨a5822, h5823, rfl⟩ := mps h5821; clear h5821
    refine lpt <| inB_r <| thenD_r ?_
    cases h5823
    exact er rfl Le.rfl
   ·refine dwp_skip <| thenD_n <| rg env_ok <| rn 3 rfl ?_
    obtain ⟨y5825, ey5825, h5826⟩ := bd h5824; clear h5824
    refine sx rfl (o_idx ey5825 rfl rfl rfl ?_)
    refine rn 2 rfl ?_
    obtain ⟨y5827, ey5827, h5828⟩ := bd h5826; clear h5826
    refine sx rfl (o_app1 (enc := intC) (l := s5667.2) (m := [y5825]) ey5827 (fun _ => ⟨rfl, rfl⟩) rfl rfl rfl rfl rfl rfl ?_)
    refine rl rfl <| inB_n <| thenD_n <| rg env_ok <| rl rfl ?_
    cases h5828
    exact lpn (wf hA [(0, 0), (1, 3)] rfl rfl rfl)
  ·refine dwp_exit <| thenD_x ?_
   obtain ⟨a5830, h5831, rfl⟩ := mp h5829; clear h5829
   refine lpx <| inB_x <| thenD_n <| rs env_ok <| rn 2 rfl ?_
   obtain ⟨y5834, ey5834, h5835⟩ := bd h5831; clear h5831
   refine sx rfl (o_call (f_R6_enters _ _ _ ey5834) (.inr rfl) rfl rfl rfl ?_)
   refine rl rfl <| rs env_ok <| rl rfl ?_
   refine cd rfl h5835 (fun h5836 => ?_) (fun h5839 => ?_) <;> clear h5835
   ·refine rs env_ok <| rl rfl <| dwp_ret <| inB_r <| thenD_r ?_
    obtain ⟨a5837, h5838, rfl⟩ := mps h5836; clear h5836
    refine lpt <| inB_r <| thenD_r ?_
    cases h5838
    exact er rfl Le.rfl
   ·refine dwp_skip <| inB_n <| thenD_n <| rg env_ok <| rl rfl ?_
    cases h5839
    exact lpn (wf hA [(0, 0), (1, 1)] rfl rfl rfl)
 ·refine dwp_exit <| thenD_x ?_
  obtain ⟨a5841, h5842, rfl⟩ := mps h5840; clear h5840
  refine lpx <| inB_x <| thenD_n <| rs env_ok <| rl rfl <| dwp_ret ?_
  cases h5842
  exact er rfl Le.rfl
noncomputable def g_R6_Stop_l1 (x1 : Int) (s52 : Int × Int) : Option ((Int × Int) ⊕ Int) :=
 bif decide (0 < s52.1) then some (.inl (wi64 (s52.1 - x1), wi64 (s52.2 + s52.1))) else some (.inr s52.2)
noncomputable def g_R6_Stop (x0 : Int) (x1 : Int) : Option Int :=
 ((bif decide (x0 < 0) then some true else bif decide (60 < x0) then some true else bif decide (x1 < 1) then some true else some (decide (10 < x1)) : Option (Bool))).bind fun (t24 : Bool) => bif t24 then some 0 else loopR (g_R6_Stop_l1 x1) (wi64 (x0 - x1), 0)
theorem f_R6_Stop (x0 : Int) (x1 : Int) (r : Int) (h : g_R6_Stop x0 x1 = some r) : Fun Tryz.prog 159 [.int .i64 x0, .int .i64 x1] (· = .int .i64 r) := by
 refine fn env_ok Tryz.func159 rfl rfl 32 rfl [.tmp 4] rfl [(0, .p (.int .i64 x0)), (1, .p (.int .i64 x1))] rfl rfl fun A hA => ?_
 unfold g_R6_Stop at h
 refine rs env_ok <| rl rfl <| dwp_seq ?_
 refine jb (fun t24 : Bool => ⟨32, [(0, li x0), (1, li x1), (19, lb t24)], [], 0⟩) h (fun t24 h25 => ?_) (fun t24 h32 => ?_) <;> clear h
 ·refine rg env_ok <| rn 3 rfl ?_
  refine gs 8 h25 rfl rfl rfl (fun h26 => ?_) (fun h27 => ?_) <;> clear h25
  ·refine rl rfl ?_
   cases h26
   exact npn (wf hA [] rfl rfl rfl)
  ·refine rn 4 rfl ?_
   refine gs 12 h27 rfl rfl rfl (fun h28 => ?_) (fun h29 => ?_) <;> clear h27
   ·refine rl rfl ?_
    cases h28
    exact npn (wf hA [] rfl rfl rfl)
   ·refine rn 4 rfl ?_
    refine gs 16 h29 rfl rfl rfl (fun h30 => ?_) (fun h31 => ?_) <;> clear h29
    ·refine rl rfl ?_
     cases h30
     exact npn (wf hA [] rfl rfl rfl)
    ·refine rl rfl ?_
     cases h31
     exact npn (wf hA [] rfl rfl rfl)
 ·refine cd rfl h32 (fun h33 => ?_) (fun h34 => ?_) <;> clear h32
  ·refine rs env_ok <| rl rfl <| dwp_ret <| thenD_r ?_
   cases h33
   exact er rfl Le.rfl
  ·refine dwp_skip <| thenD_n <| rs env_ok <| rl rfl <| dwp_seq <| rs env_ok <| rl rfl <| dwp_block ?_
   apply lp (a := r) (fun s52 : (Int × Int) => ⟨32, [(0, li s52.1), (1, li x1), (5, li s52.2)], [], 0⟩) h34 <;> clear h34
   · exact wf hA [] rfl rfl rfl
   intro s52 b61 h62
   unfold g_R6_Stop_l1 at h62
   refine dwp_seq <| rs env_ok <| rl rfl ?_
   refine cd rfl h62 (fun h65 => ?_) (fun h66 => ?_) <;> clear h62
   ·refine dwp_skip <| thenD_n <| dwp_seq <| dwp_block <| rg env_ok <| rl rfl <| inB_n <| thenD_n <| rg env_ok <| rl rfl ?_
    cases h65
    exact lpn (wf hA [] rfl rfl rfl)
   ·refine dwp_exit <| thenD_x ?_
    obtain ⟨a67, h68, rfl⟩ := mps h66; clear h66
    refine lpx <| inB_x <| thenD_n <| rs env_ok <| rl rfl <| dwp_ret ?_
    cases h68
    exact er rfl Le.rfl
noncomputable def g_R6_Length (x0 : Plan) (x1 : Int) : Option Int :=
 ((bif decide (x1 < 0) then some true else some (decide ((x0.elems.length : Int) ≤ x1)) : Option (Bool))).bind fun (t12 : Bool) => bif t12 then some 0 else (idx x0.elems x1).bind fun y21 => some y21.length
theorem f_R6_Length (x0 : Plan) (x1 : Int) (r : Int) (h : g_R6_Length x0 x1 = some r) : Fun Tryz.prog 160 [.agg (planC x0), .int .i64 x1] (· = .int .i64 r) := by
 refine fn env_ok Tryz.func160 rfl rfl 20 rfl [.tmp 4] rfl [(0, .p (.agg (planC x0))), (1, .p (.int .i64 x1))] rfl rfl fun A hA => ?_
 unfold g_R6_Length at h
 refine rs env_ok <| rl rfl <| dwp_seq ?_
 refine jb (fun t12 : Bool => ⟨20, [(1, li x1), (2, .lpb 0 0), (13, lb t12)], [(0, .box [ls 3 elemC x0.elems, ls 4 joinC x0.joins, ls 4 signalC x0.signals, ls 2 lineC x0.lines, li x0.top, li x0.brake, li x0.margin, li x0.throw, lb x0.hard])], 1⟩) h (fun t12 h13 => ?_) (fun t12 h16 => ?_) <;> clear h
 ·refine rg env_ok <| rn 3 rfl ?_
  refine gs 7 h13 rfl rfl rfl (fun h14 => ?_) (fun h15 => ?_) <;> clear h13
  ·refine rl rfl ?_
   cases h14
   exact npn (wf hA [(0, 0)] rfl rfl rfl)
  ·refine rn 3 rfl ?_
   refine sx rfl (o_len rfl rfl ?_)
   refine rl rfl ?_
   cases h15
   exact npn (wf hA [(0, 0)] rfl rfl rfl)
 ·refine cd rfl h16 (fun h17 => ?_) (fun h18 => ?_) <;> clear h16
  ·refine rs env_ok <| rl rfl <| dwp_ret <| thenD_r ?_
   cases h17
   exact er rfl Le.rfl
  ·refine dwp_skip <| thenD_n <| rs env_ok <| rn 3 rfl ?_
   obtain ⟨y21, ey21, h22⟩ := bd h18; clear h18
   refine sx rfl (o_idx ey21 rfl rfl rfl ?_)
   refine rl rfl <| dwp_ret ?_
   cases h22
   exact er rfl Le.rfl
noncomputable def g_R6_long_l2 (x0 : Plan) (s424 : Int) : Option (Int ⊕ Bool) :=
 bif decide (s424 < (x0.elems.length : Int)) then (((idx x0.elems s424).bind fun y531 => bif (y531.kind != 4) then (idx x0.elems s424).bind fun y534 => some (decide (y534.length < x0.top)) else some false : Option (Bool))).bind fun (t529 : Bool) => bif t529 then some (.inr false) else some (.inl (wi64 (s424 + 1))) else some (.inr true)
noncomputable def g_R6_long_l1 (x0 : Plan) (s158 : Int) : Option (Int ⊕ Bool) :=
 bif decide (s158 < (x0.signals.length : Int)) then (idx x0.signals s158).bind fun y279 => (((g_R6_kind x0 y279.at_.elem).bind fun y289 => bif (y289 == 1) then (g_R6_Length x0 y279.at_.elem).bind fun y292 => some (decide (y292 < x0.margin)) else some false : Option (Bool))).bind fun (t287 : Bool) => bif t287 then some (.inr false) else some (.inl (wi64 (s158 + 1))) else (loopR (g_R6_long_l2 x0) 0).map .inr
noncomputable def g_R6_long (x0 : Plan) : Option Bool :=
 (g_R6_Stop x0.top x0.brake).bind fun y9 => bif decide (x0.margin < wi64 (x0.top + y9)) then some false else loopR (g_R6_long_l1 x0) 0
theorem f_R6_long (x0 : Plan) (r : Bool) (h : g_R6_long x0 = some r) : Fun Tryz.prog 114 [.agg (planC x0)] (· = .bool r) := by
 refine fn env_ok Tryz.func114 rfl rfl 68 rfl [.tmp 2] rfl [(0, .p (.agg (planC x0)))] rfl rfl fun A hA => ?_
 unfold g_R6_long at h
 refine rs env_ok <| rl rfl <| dwp_seq <| dwp_seq ?_
 refine rgd env_ok mixed [0, 1, 2, 3, 4, 5, 6, 7, 8, 9, 10] 11 (by kernel_rfl) rfl rfl rfl ?_
 refine rnD 8 rfl ?_
 obtain ⟨y9, ey9, h10⟩ := bd h; clear h
 refine sxD rfl (o_callD (f_R6_Stop _ _ _ ey9) (.inl rfl) rfl rfl rfl ?_)
 refine rlD rfl <| thenD_n ?_
 refine cd rfl h10 (fun h11 => ?_) (fun h12 => ?_) <;> clear h10
 ·refine rs env_ok <| rl rfl <| dwp_ret <| thenD_r ?_
  cases h11
  exact er rfl Le.rfl
 ·refine dwp_skip <| thenD_n <| dwp_seq <| rs env_ok <| rl rfl <| dwp_block ?_
  apply lp (a := r) (fun s158 : Int => ⟨68, [(1, .lpb 0 0), (3, li s158)], [(0, .box [ls 3 elemC x0.elems, ls 4 joinC x0.joins, ls 4 signalC x0.signals, ls 2 lineC x0.lines, li x0.top, li x0.brake, li x0.margin, li x0.throw, lb x0.hard])], 1⟩) h12 <;> clear h12
  · exact wf hA [(0, 0)] rfl rfl rfl
  intro s158 b251 h252
  unfold g_R6_long_l1 at h252
  refine dwp_seq <| rs env_ok <| rn 3 rfl ?_
  refine sx rfl (o_len rfl rfl ?_)
  refine rl rfl ?_
  refine cd rfl h252 (fun h255 => ?_) (fun h300 => ?_) <;> clear h252
  ·refine dwp_skip <| thenD_n <| dwp_seq <| dwp_block <| rs env_ok <| rn 3 rfl ?_
   obtain ⟨y279, ey279, h280⟩ := bd h255; clear h255
   refine sx rfl (o_idx ey279 rfl rfl rfl ?_)
   refine rl rfl ?_
   refine jb (fun t287 : Bool => ⟨68, [(1, .lpb 0 0), (3, li s158), (42, lb t287)], [(0, .box [ls 3 elemC x0.elems, ls 4 joinC x0.joins, ls 4 signalC x0.signals, ls 2 lineC x0.lines, li x0.top, li x0.brake, li x0.margin, li x0.throw, lb x0.hard])], 1⟩) h280 (fun t287 h288 => ?_) (fun t287 h295 => ?_) <;> clear h280
   ·refine rgd env_ok mixed [0, 1, 2, 3, 4, 5, 6, 7, 8, 9, 10, 11] 12 (by kernel_rfl) rfl rfl rfl ?_
    refine rnD 2 rfl ?_
    obtain ⟨y289, ey289, h290⟩ := bd h288; clear h288
    refine sxD rfl (o_callD (f_R6_kind _ _ _ ey289) (.inl rfl) rfl rfl rfl ?_)
    refine rnD 2 rfl ?_
    refine gsD 35 h290 rfl rfl rfl (fun h291 => ?_) (fun h294 => ?_) <;> clear h290
    ·refine rnD 2 rfl ?_
     obtain ⟨y292, ey292, h293⟩ := bd h291; clear h291
     refine sxD rfl (o_callD (f_R6_Length _ _ _ ey292) (.inl rfl) rfl rfl rfl ?_)
     refine rlD rfl ?_
     cases h293
     exact npn (wf hA [(0, 0)] rfl rfl rfl)
    ·refine rlD rfl ?_
     cases h294
     exact npn (wf hA [(0, 0)] rfl rfl rfl)
   ·refine cd rfl h295 (fun h296 => ?_) (fun h299 => ?_) <;> clear h295
    ·refine rs env_ok <| rl rfl <| dwp_ret <| inB_r <| thenD_r ?_
     obtain ⟨a297, h298, rfl⟩ := mps h296; clear h296
     refine lpt <| inB_r <| thenD_r ?_
     cases h298
     exact er rfl Le.rfl
    ·refine dwp_skip <| inB_n <| thenD_n <| rg env_ok <| rl rfl ?_
     cases h299
     exact lpn (wf hA [(0, 0)] rfl rfl rfl)
  ·refine dwp_exit <| thenD_x ?_
   obtain ⟨a301, h302, rfl⟩ := mp h300; clear h300
   refine lpx <| inB_x <| thenD_n <| dwp_seq <| rs env_ok <| rl rfl <| dwp_block ?_
   apply lp (a := a301) (fun s424 : Int => ⟨68, [(1, .lpb 0 0), (5, li s424)], [(0, .box [ls 3 elemC x0.elems, ls 4 joinC x0.joins, ls 4 signalC x0.signals, ls 2 lineC x0.lines, li x0.top, li x0.brake, li x0.margin, li x0.throw, lb x0.hard])], 1⟩) h302 <;> clear h302
   · exact wf hA [(0, 0)] rfl rfl rfl
   intro s424 b501 h502
   unfold g_R6_long_l2 at h502
   refine dwp_seq <| rs env_ok <| rn 3 rfl ?_
   refine sx rfl (o_len rfl rfl ?_)
   refine rl rfl ?_
   refine cd rfl h502 (fun h505 => ?_) (fun h542 => ?_) <;> clear h502
   ·refine dwp_skip <| thenD_n <| dwp_seq <| dwp_block ?_
    refine jb (fun t529 : Bool => ⟨68, [(1, .lpb 0 0), (5, li s424), (67, lb t529)], [(0, .box [ls 3 elemC x0.elems, ls 4 joinC x0.joins, ls 4 signalC x0.signals, ls 2 lineC x0.lines, li x0.top, li x0.brake, li x0.margin, li x0.throw, lb x0.hard])], 1⟩) h505 (fun t529 h530 => ?_) (fun t529 h537 => ?_) <;> clear h505
    ·refine rgd env_ok mixed [0, 1, 2, 3, 4, 5, 6, 7, 8, 9, 10, 11, 12, 13, 14, 15, 16, 17] 18 (by kernel_rfl) rfl rfl rfl ?_
     refine rnD 3 rfl ?_
     obtain ⟨y531, ey531, h532⟩ := bd h530; clear h530
     refine sxD rfl (opD_plain rfl (o_idx ey531 rfl rfl rfl ?_))
     refine rnD 4 rfl ?_
     refine gsD 57 h532 rfl rfl rfl (fun h533 => ?_) (fun h536 => ?_) <;> clear h532
     ·refine rnD 3 rfl ?_
      obtain ⟨y534, ey534, h535⟩ := bd h533; clear h533
      refine sxD rfl (opD_plain rfl (o_idx ey534 rfl rfl rfl ?_))
      refine rlD rfl ?_
      cases h535
      exact npn (wf hA [(0, 0)] rfl rfl rfl)
     ·refine rlD rfl ?_
      cases h536
      exact npn (wf hA [(0, 0)] rfl rfl rfl)
    ·refine cd rfl h537 (fun h538 => ?_) (fun h541 => ?_) <;> clear h537
     ·refine rs env_ok <| rl rfl <| dwp_ret <| inB_r <| thenD_r ?_
      obtain ⟨a539, h540, rfl⟩ := mps h538; clear h538
      refine lpt <| inB_r <| thenD_r ?_
      cases h540
      exact er rfl Le.rfl
     ·refine dwp_skip <| inB_n <| thenD_n <| rg env_ok <| rl rfl ?_
      cases h541
      exact lpn (wf hA [(0, 0)] rfl rfl rfl)
   ·refine dwp_exit <| thenD_x ?_
    obtain ⟨a543, h544, rfl⟩ := mps h542; clear h542
    refine lpx <| inB_x <| thenD_n <| rs env_ok <| rl rfl <| dwp_ret ?_
    cases h544
    exact er rfl Le.rfl
noncomputable def g_R6_Check (x0 : Plan) : Option Int :=
 ((bif decide (40 < (x0.elems.length : Int)) then some true else bif decide (24 < (x0.signals.length : Int)) then some true else bif decide (4 < (x0.lines.length : Int)) then some true else some (decide (80 < (x0.joins.length : Int))) : Option (Bool))).bind fun (t24 : Bool) => bif t24 then some 3 else (g_R6_names x0).bind fun y37 => (g_R6_args x0).bind fun y96 => bif (!y96) then some 1 else (((g_R6_twice y37.1).bind fun y112 => bif y112 then some true else (g_R6_twice y37.2.1).bind fun y116 => bif y116 then some true else (g_R6_twice y37.2.2).bind fun y120 => some y120 : Option (Bool))).bind fun (t110 : Bool) => bif t110 then some 4 else (g_R6_joined x0).bind fun y127 => bif (!y127) then some 6 else (g_R6_signals x0).bind fun y133 => bif (!y133) then some 7 else (g_R6_lines x0).bind fun y139 => bif (!y139) then some 8 else (g_R6_long x0).bind fun y145 => bif (!y145) then some 9 else some 0
theorem f_R6_Check (x0 : Plan) (r : Int) (h : g_R6_Check x0 = some r) : Fun Tryz.prog 42 [.agg (planC x0)] (· = .int .i64 r) := by
 refine fn env_ok Tryz.func42 rfl rfl 65 rfl [.tmp 2] rfl [(0, .p (.agg (planC x0)))] rfl rfl fun A hA => ?_
 unfold g_R6_Check at h
 refine rs env_ok <| rl rfl <| dwp_seq ?_
 refine jb (fun t24 : Bool => ⟨65, [(1, .lpb 0 0), (27, lb t24)], [(0, .box [ls 3 elemC x0.elems, ls 4 joinC x0.joins, ls 4 signalC x0.signals, ls 2 lineC x0.lines, li x0.top, li x0.brake, li x0.margin, li x0.throw, lb x0.hard])], 1⟩) h (fun t24 h25 => ?_) (fun t24 h32 => ?_) <;> clear h
 ·refine rg env_ok <| rn 2 rfl ?_
  refine sx rfl (o_len rfl rfl ?_)
  refine rn 2 rfl ?_
  refine gs 10 h25 rfl rfl rfl (fun h26 => ?_) (fun h27 => ?_) <;> clear h25
  ·refine rl rfl ?_
   cases h26
   exact npn (wf hA [(0, 0)] rfl rfl rfl)
  ·refine rn 2 rfl ?_
   refine sx rfl (o_len rfl rfl ?_)
   refine rn 3 rfl ?_
   refine gs 16 h27 rfl rfl rfl (fun h28 => ?_) (fun h29 => ?_) <;> clear h27
   ·refine rl rfl ?_
    cases h28
    exact npn (wf hA [(0, 0)] rfl rfl rfl)
   ·refine rn 2 rfl ?_
    refine sx rfl (o_len rfl rfl ?_)
    refine rn 3 rfl ?_
    refine gs 22 h29 rfl rfl rfl (fun h30 => ?_) (fun h31 => ?_) <;> clear h29
    ·refine rl rfl ?_
     cases h30
     exact npn (wf hA [(0, 0)] rfl rfl rfl)
    ·refine rn 2 rfl ?_
     refine sx rfl (o_len rfl rfl ?_)
     refine rl rfl ?_
     cases h31
     exact npn (wf hA [(0, 0)] rfl rfl rfl)
 ·refine cd rfl h32 (fun h33 => ?_) (fun h34 => ?_) <;> clear h32
  ·refine rs env_ok <| rl rfl <| dwp_ret <| thenD_r ?_
   cases h33
   exact er rfl Le.rfl
  ·refine dwp_skip <| thenD_n <| rs env_ok <| rn 1 rfl ?_
   obtain ⟨y37, ey37, h38⟩ := bd h34; clear h34
   refine sx rfl (o_call (f_R6_names _ _ ey37) (.inr rfl) rfl rfl rfl ?_)
   refine rl rfl <| dwp_seq <| dwp_block <| rs env_ok <| rn 1 rfl ?_
   obtain ⟨y96, ey96, h97⟩ := bd h38; clear h38
   refine sx rfl (o_call (f_R6_args _ _ ey96) (.inl rfl) rfl rfl rfl ?_)
   refine rl rfl ?_
   refine cd rfl h97 (fun h98 => ?_) (fun h99 => ?_) <;> clear h97
   ·refine rs env_ok <| rl rfl <| dwp_ret <| inB_r <| thenD_r ?_
    cases h98
    exact er rfl Le.rfl
   ·refine jb (fun t110 : Bool => ⟨65, [(1, .lpb 0 0), (38, lb t110)], [(0, .box [ls 3 elemC x0.elems, ls 4 joinC x0.joins, ls 4 signalC x0.signals, ls 2 lineC x0.lines, li x0.top, li x0.brake, li x0.margin, li x0.throw, lb x0.hard])], 1⟩) h99 (fun t110 h111 => ?_) (fun t110 h122 => ?_) <;> clear h99
    ·refine rg env_ok <| rn 1 rfl ?_
     obtain ⟨y112, ey112, h113⟩ := bd h111; clear h111
     refine sx rfl (o_call (f_R6_twice _ _ ey112) (.inl rfl) rfl rfl rfl ?_)
     refine rn 1 rfl ?_
     refine gs 41 h113 rfl rfl rfl (fun h114 => ?_) (fun h115 => ?_) <;> clear h113
     ·refine rl rfl ?_
      cases h114
      exact npn (wf hA [(0, 0)] rfl rfl rfl)
     ·refine rn 1 rfl ?_
      obtain ⟨y116, ey116, h117⟩ := bd h115; clear h115
      refine sx rfl (o_call (f_R6_twice _ _ ey116) (.inl rfl) rfl rfl rfl ?_)
      refine rn 2 rfl ?_
      refine gs 45 h117 rfl rfl rfl (fun h118 => ?_) (fun h119 => ?_) <;> clear h117
      ·refine rl rfl ?_
       cases h118
       exact npn (wf hA [(0, 0)] rfl rfl rfl)
      ·refine rn 1 rfl ?_
       obtain ⟨y120, ey120, h121⟩ := bd h119; clear h119
       refine sx rfl (o_call (f_R6_twice _ _ ey120) (.inl rfl) rfl rfl rfl ?_)
       refine rl rfl ?_
       have hr := Option.some.inj h121; subst hr
       exact npn (wf hA [(0, 0)] rfl rfl rfl)
    ·refine cd rfl h122 (fun h123 => ?_) (fun h124 => ?_) <;> clear h122
     ·refine rs env_ok <| rl rfl <| dwp_ret <| inB_r <| thenD_r ?_
      cases h123
      exact er rfl Le.rfl
     ·refine rs env_ok <| rn 1 rfl ?_
      obtain ⟨y127, ey127, h128⟩ := bd h124; clear h124
      refine sx rfl (o_call (f_R6_joined _ _ ey127) (.inl rfl) rfl rfl rfl ?_)
      refine rl rfl ?_
      refine cd rfl h128 (fun h129 => ?_) (fun h130 => ?_) <;> clear h128
      ·refine rs env_ok <| rl rfl <| dwp_ret <| inB_r <| thenD_r ?_
       cases h129
       exact er rfl Le.rfl
      ·refine rs env_ok <| rn 1 rfl ?_
       obtain ⟨y133, ey133, h134⟩ := bd h130; clear h130
       refine sx rfl (o_call (f_R6_signals _ _ ey133) (.inl rfl) rfl rfl rfl ?_)
       refine rl rfl ?_
       refine cd rfl h134 (fun h135 => ?_) (fun h136 => ?_) <;> clear h134
       ·refine rs env_ok <| rl rfl <| dwp_ret <| inB_r <| thenD_r ?_
        cases h135
        exact er rfl Le.rfl
       ·refine rs env_ok <| rn 1 rfl ?_
        obtain ⟨y139, ey139, h140⟩ := bd h136; clear h136
        refine sx rfl (o_call (f_R6_lines _ _ ey139) (.inl rfl) rfl rfl rfl ?_)
        refine rl rfl ?_
        refine cd rfl h140 (fun h141 => ?_) (fun h142 => ?_) <;> clear h140
        ·refine rs env_ok <| rl rfl <| dwp_ret <| inB_r <| thenD_r ?_
         cases h141
         exact er rfl Le.rfl
        ·refine rs env_ok <| rn 1 rfl ?_
         obtain ⟨y145, ey145, h146⟩ := bd h142; clear h142
         refine sx rfl (o_call (f_R6_long _ _ ey145) (.inl rfl) rfl rfl rfl ?_)
         refine rl rfl ?_
         refine cd rfl h146 (fun h147 => ?_) (fun h148 => ?_) <;> clear h146
         ·refine rs env_ok <| rl rfl <| dwp_ret <| inB_r <| thenD_r ?_
          cases h147
          exact er rfl Le.rfl
         ·refine dwp_skip <| inB_n <| thenD_n <| rs env_ok <| rl rfl <| dwp_ret ?_
          cases h148
          exact er rfl Le.rfl
noncomputable def g_R6_Fine (x0 : Plan) : Option Bool :=
 (((g_R6_Few x0).bind fun y9 => bif y9 then (g_R6_Check x0).bind fun y12 => some (y12 == 0) else some false : Option (Bool))).bind fun (t7 : Bool) => some t7
theorem f_R6_Fine (x0 : Plan) (r : Bool) (h : g_R6_Fine x0 = some r) : Fun Tryz.prog 11 [.agg (planC x0)] (· = .bool r) := by
 refine fn env_ok Tryz.func11 rfl rfl 10 rfl [.tmp 2] rfl [(0, .p (.agg (planC x0)))] rfl rfl fun A hA => ?_
 unfold g_R6_Fine at h
 refine rs env_ok <| rl rfl ?_
 refine jb (fun t7 : Bool => ⟨10, [(2, lb t7)], [], 0⟩) h (fun t7 h8 => ?_) (fun t7 h15 => ?_) <;> clear h
 ·refine rg env_ok <| rn 1 rfl ?_
  obtain ⟨y9, ey9, h10⟩ := bd h8; clear h8
  refine sx rfl (o_call (f_R6_Few _ _ ey9) (.inl rfl) rfl rfl rfl ?_)
  refine rn 1 rfl ?_
  refine gs 5 h10 rfl rfl rfl (fun h11 => ?_) (fun h14 => ?_) <;> clear h10
  ·refine rn 1 rfl ?_
   obtain ⟨y12, ey12, h13⟩ := bd h11; clear h11
   refine sx rfl (o_call (f_R6_Check _ _ ey12) (.inl rfl) rfl rfl rfl ?_)
   refine rl rfl ?_
   cases h13
   exact npn (wf hA [] rfl rfl rfl)
  ·refine rl rfl ?_
   cases h14
   exact npn (wf hA [] rfl rfl rfl)
 ·refine dwp_ret ?_
  have hr := Option.some.inj h15; subst hr
  exact er rfl Le.rfl
noncomputable def g_word_letter (x0 : Int) : Option Bool :=
 ((bif decide (97 ≤ x0) then bif decide (x0 ≤ 122) then some true else bif decide (65 ≤ x0) then some (decide (x0 ≤ 90)) else some false else bif decide (65 ≤ x0) then some (decide (x0 ≤ 90)) else some false : Option (Bool))).bind fun (t9 : Bool) => some t9
theorem f_word_letter (x0 : Int) (r : Bool) (h : g_word_letter x0 = some r) : Fun Tryz.prog 212 [.int .u8 x0] (· = .bool r) := by
 refine fn env_ok Tryz.func212 rfl rfl 17 rfl [.tmp 2] rfl [(0, .p (.int .u8 x0))] rfl rfl fun A hA => ?_
 unfold g_word_letter at h
 refine rs env_ok <| rl rfl ?_
 refine jb (fun t9 : Bool => ⟨17, [(2, lb t9)], [], 0⟩) h (fun t9 h10 => ?_) (fun t9 h19 => ?_) <;> clear h
 ·refine rg env_ok <| rn 3 rfl ?_
  refine gs 5 h10 rfl rfl rfl (fun h11 => ?_) (fun h16 => ?_) <;> clear h10
  ·refine rn 4 rfl ?_
   refine gs 9 h11 rfl rfl rfl (fun h12 => ?_) (fun h13 => ?_) <;> clear h11
   ·refine rl rfl ?_
    cases h12
    exact npn (wf hA [] rfl rfl rfl)
   ·refine rn 3 rfl ?_
    refine gs 12 h13 rfl rfl rfl (fun h14 => ?_) (fun h15 => ?_) <;> clear h13
    ·refine rl rfl ?_
     cases h14
     exact npn (wf hA [] rfl rfl rfl)
    ·refine rl rfl ?_
     cases h15
     exact npn (wf hA [] rfl rfl rfl)
  ·refine rn 7 rfl ?_
   refine gs 12 h16 rfl rfl rfl (fun h17 => ?_) (fun h18 => ?_) <;> clear h16
   ·refine rl rfl ?_
    cases h17
    exact npn (wf hA [] rfl rfl rfl)
   ·refine rl rfl ?_
    cases h18
    exact npn (wf hA [] rfl rfl rfl)
 ·refine dwp_ret ?_
  have hr := Option.some.inj h19; subst hr
  exact er rfl Le.rfl
noncomputable def g_word_Name_l1 (x0 : ByteArray) (s236 : Int) : Option (Int ⊕ Bool) :=
 bif decide (s236 < (x0.size : Int)) then (((idxS x0 s236).bind fun y409 => (g_word_letter (y409.toNat : Int)).bind fun y411 => bif (!y411) then (idxS x0 s236).bind fun y414 => bif decide ((y414.toNat : Int) < 48) then some true else (idxS x0 s236).bind fun y418 => some (decide (57 < (y418.toNat : Int))) else some false : Option (Bool))).bind fun (t407 : Bool) => bif t407 then some (.inr false) else some (.inl (wi64 (s236 + 1))) else some (.inr true)
noncomputable def g_word_Name (x0 : ByteArray) : Option Bool :=
 ((bif (x0.toList == ByteArray.empty.toList) then some true else bif decide (8 < (x0.size : Int)) then some true else (idxS x0 0).bind fun y36 => (g_word_letter (y36.toNat : Int)).bind fun y38 => some (!y38) : Option (Bool))).bind fun (t30 : Bool) => bif t30 then some false else loopR (g_word_Name_l1 x0) 1
theorem f_word_Name (x0 : ByteArray) (r : Bool) (h : g_word_Name x0 = some r) : Fun Tryz.prog 198 [.str x0] (· = .bool r) := by
 refine fn env_ok Tryz.func198 rfl rfl 40 rfl [.tmp 2] rfl [(0, .p (.str x0))] rfl rfl fun A hA => ?_
 unfold g_word_Name at h
 refine rs env_ok <| rl rfl <| dwp_seq ?_
 refine jb (fun t30 : Bool => ⟨40, [(0, .p (.str x0)), (16, lb t30)], [], 0⟩) h (fun t30 h31 => ?_) (fun t30 h40 => ?_) <;> clear h
 ·refine rg env_ok <| rn 3 rfl ?_
  refine gs 6 h31 rfl rfl rfl (fun h32 => ?_) (fun h33 => ?_) <;> clear h31
  ·refine rl rfl ?_
   cases h32
   exact npn (wf hA [] rfl rfl rfl)
  ·refine rn 5 rfl ?_
   refine gs 11 h33 rfl rfl rfl (fun h34 => ?_) (fun h35 => ?_) <;> clear h33
   ·refine rl rfl ?_
    cases h34
    exact npn (wf hA [] rfl rfl rfl)
   ·refine rn 1 rfl ?_
    obtain ⟨y36, ey36, h37⟩ := bd h35; clear h35
    refine sx rfl (o_idxS ey36 rfl rfl rfl ?_)
    obtain ⟨y38, ey38, h39⟩ := bd h37; clear h37
    refine sx rfl (o_call (f_word_letter _ _ ey38) (.inl rfl) rfl rfl rfl ?_)
    refine rl rfl ?_
    cases h39
    exact npn (wf hA [] rfl rfl rfl)
 ·refine cd rfl h40 (fun h41 => ?_) (fun h42 => ?_) <;> clear h40
  ·refine rs env_ok <| rl rfl <| dwp_ret <| thenD_r ?_
   cases h41
   exact er rfl Le.rfl
  ·refine dwp_skip <| thenD_n <| dwp_seq <| rs env_ok <| rl rfl <| dwp_block ?_
   apply lp (a := r) (fun s236 : Int => ⟨40, [(0, .p (.str x0)), (3, li s236)], [], 0⟩) h42 <;> clear h42
   · exact wf hA [] rfl rfl rfl
   intro s236 b361 h362
   unfold g_word_Name_l1 at h362
   refine dwp_seq <| rs env_ok <| rl rfl ?_
   refine cd rfl h362 (fun h365 => ?_) (fun h426 => ?_) <;> clear h362
   ·refine dwp_skip <| thenD_n <| dwp_seq <| dwp_block ?_
    refine jb (fun t407 : Bool => ⟨40, [(0, .p (.str x0)), (3, li s236), (39, lb t407)], [], 0⟩) h365 (fun t407 h408 => ?_) (fun t407 h421 => ?_) <;> clear h365
    ·refine rg env_ok <| rn 2 rfl ?_
     obtain ⟨y409, ey409, h410⟩ := bd h408; clear h408
     refine sx rfl (o_idxS ey409 rfl rfl rfl ?_)
     obtain ⟨y411, ey411, h412⟩ := bd h410; clear h410
     refine sx rfl (o_call (f_word_letter _ _ ey411) (.inl rfl) rfl rfl rfl ?_)
     refine rn 2 rfl ?_
     refine gs 28 h412 rfl rfl rfl (fun h413 => ?_) (fun h420 => ?_) <;> clear h412
     ·refine rn 2 rfl ?_
      obtain ⟨y414, ey414, h415⟩ := bd h413; clear h413
      refine sx rfl (o_idxS ey414 rfl rfl rfl ?_)
      refine rn 2 rfl ?_
      refine gs 33 h415 rfl rfl rfl (fun h416 => ?_) (fun h417 => ?_) <;> clear h415
      ·refine rl rfl ?_
       cases h416
       exact npn (wf hA [] rfl rfl rfl)
      ·refine rn 2 rfl ?_
       obtain ⟨y418, ey418, h419⟩ := bd h417; clear h417
       refine sx rfl (o_idxS ey418 rfl rfl rfl ?_)
       refine rl rfl ?_
       cases h419
       exact npn (wf hA [] rfl rfl rfl)
     ·refine rl rfl ?_
      cases h420
      exact npn (wf hA [] rfl rfl rfl)
    ·refine cd rfl h421 (fun h422 => ?_) (fun h425 => ?_) <;> clear h421
     ·refine rs env_ok <| rl rfl <| dwp_ret <| inB_r <| thenD_r ?_
      obtain ⟨a423, h424, rfl⟩ := mps h422; clear h422
      refine lpt <| inB_r <| thenD_r ?_
      cases h424
      exact er rfl Le.rfl
     ·refine dwp_skip <| inB_n <| thenD_n <| rg env_ok <| rl rfl ?_
      cases h425
      exact lpn (wf hA [] rfl rfl rfl)
   ·refine dwp_exit <| thenD_x ?_
    obtain ⟨a427, h428, rfl⟩ := mps h426; clear h426
    refine lpx <| inB_x <| thenD_n <| rs env_ok <| rl rfl <| dwp_ret ?_
    cases h428
    exact er rfl Le.rfl
noncomputable def g_plan_Ends (x0 : Int) : Option Int :=
 bif (x0 == 1) then some 2 else bif (x0 == 2) then some 3 else bif (x0 == 3) then some 4 else bif (x0 == 4) then some 1 else some 0
theorem f_plan_Ends (x0 : Int) (r : Int) (h : g_plan_Ends x0 = some r) : Fun Tryz.prog 150 [.int .i64 x0] (· = .int .i64 r) := by
 refine fn env_ok Tryz.func150 rfl rfl 12 rfl [.tmp 2] rfl [(0, .p (.int .i64 x0))] rfl rfl fun A hA => ?_
 unfold g_plan_Ends at h
 refine rs env_ok <| rl rfl <| dwp_seq <| rs env_ok <| rl rfl <| dwp_block <| rs env_ok <| rl rfl ?_
 refine cd rfl h (fun h9 => ?_) (fun h10 => ?_) <;> clear h
 ·refine rs env_ok <| rl rfl <| dwp_ret <| inB_r <| thenD_r ?_
  cases h9
  exact er rfl Le.rfl
 ·refine rs env_ok <| rl rfl ?_
  refine cd rfl h10 (fun h11 => ?_) (fun h12 => ?_) <;> clear h10
  ·refine rs env_ok <| rl rfl <| dwp_ret <| inB_r <| thenD_r ?_
   cases h11
   exact er rfl Le.rfl
  ·refine rs env_ok <| rl rfl ?_
   refine cd rfl h12 (fun h13 => ?_) (fun h14 => ?_) <;> clear h12
   ·refine rs env_ok <| rl rfl <| dwp_ret <| inB_r <| thenD_r ?_
    cases h13
    exact er rfl Le.rfl
   ·refine rs env_ok <| rl rfl ?_
    refine cd rfl h14 (fun h15 => ?_) (fun h16 => ?_) <;> clear h14
    ·refine rs env_ok <| rl rfl <| dwp_ret <| inB_r <| thenD_r ?_
     cases h15
     exact er rfl Le.rfl
    ·refine dwp_skip <| inB_n <| thenD_n <| rs env_ok <| rl rfl <| dwp_ret ?_
     cases h16
     exact er rfl Le.rfl
noncomputable def g_plan_numbers_l3 (x0 : Plan) (s850 : Int) : Option (Int ⊕ Bool) :=
 bif decide (s850 < (x0.lines.length : Int)) then (idx x0.lines s850).bind fun y916 => (g_word_Name y916.name).bind fun y920 => bif (!y920) then some (.inr false) else some (.inl (wi64 (s850 + 1))) else some (.inr true)
noncomputable def g_plan_numbers_l2 (x0 : Plan) (s692 : Int) : Option (Int ⊕ Bool) :=
 bif decide (s692 < (x0.signals.length : Int)) then (idx x0.signals s692).bind fun y758 => (g_word_Name y758.name).bind fun y762 => bif (!y762) then some (.inr false) else some (.inl (wi64 (s692 + 1))) else (loopR (g_plan_numbers_l3 x0) 0).map .inr
noncomputable def g_plan_numbers_l1 (x0 : Plan) (s344 : Int) : Option (Int ⊕ Bool) :=
 bif decide (s344 < (x0.elems.length : Int)) then seqR (((idx x0.elems s344).bind fun y563 => (((g_word_Name y563.name).bind fun y573 => bif (!y573) then some true else (g_plan_Ends y563.kind).bind fun y577 => some (y577 == 0) : Option (Bool))).bind fun (t571 : Bool) => bif t571 then some (.inr (.inr false)) else bif (y563.kind == 4) then bif (y563.length != 0) then some (.inr (.inr false)) else some (.inl ()) else ((bif decide (y563.length < 1) then some true else some (decide (4000 < y563.length)) : Option (Bool))).bind fun (t598 : Bool) => bif t598 then some (.inr (.inr false)) else some (.inl ()) : Option (Unit ⊕ (Int ⊕ Bool)))) fun (t558 : Unit) => some (.inl (wi64 (s344 + 1))) else (loopR (g_plan_numbers_l2 x0) 0).map .inr
noncomputable def g_plan_numbers (x0 : Plan) : Option Bool :=
 ((bif decide (x0.top < 1) then some true else bif decide (60 < x0.top) then some true else bif decide (x0.brake < 1) then some true else bif decide (10 < x0.brake) then some true else bif decide (x0.margin < 1) then some true else bif decide (4000 < x0.margin) then some true else bif decide (x0.throw < 1) then some true else bif decide (20 < x0.throw) then some true else some ((x0.elems.length : Int) == 0) : Option (Bool))).bind fun (t54 : Bool) => bif t54 then some false else loopR (g_plan_numbers_l1 x0) 0
theorem f_plan_numbers (x0 : Plan) (r : Bool) (h : g_plan_numbers x0 = some r) : Fun Tryz.prog 161 [.agg (planC x0)] (· = .bool r) := by
 refine fn env_ok Tryz.func161 rfl rfl 112 rfl [.tmp 2] rfl [(0, .p (.agg (planC x0)))] rfl rfl fun A hA => ?_
 unfold g_plan_numbers at h
 refine rs env_ok <| rl rfl <| sc <| dwp_seq ?_
 refine jb (fun t54 : Bool => ⟨112, [(1, .lpb 0 0), (52, lb t54)], [(0, .box [ls 3 elemC x0.elems, ls 4 joinC x0.joins, ls 4 signalC x0.signals, ls 2 lineC x0.lines, li x0.top, li x0.brake, li x0.margin, li x0.throw, lb x0.hard])], 1⟩) h (fun t54 h55 => ?_) (fun t54 h72 => ?_) <;> clear h
 ·refine rg env_ok <| rn 4 rfl ?_
  refine gs 12 h55 rfl rfl rfl (fun h56 => ?_) (fun h57 => ?_) <;> clear h55
  ·refine rl rfl ?_
   cases h56
   exact npn (wf hA [(0, 0)] rfl rfl rfl)
  ·refine rn 5 rfl ?_
   refine gs 17 h57 rfl rfl rfl (fun h58 => ?_) (fun h59 => ?_) <;> clear h57
   ·refine rl rfl ?_
    cases h58
    exact npn (wf hA [(0, 0)] rfl rfl rfl)
   ·refine rn 5 rfl ?_
    refine gs 22 h59 rfl rfl rfl (fun h60 => ?_) (fun h61 => ?_) <;> clear h59
    ·refine rl rfl ?_
     cases h60
     exact npn (wf hA [(0, 0)] rfl rfl rfl)
    ·refine rn 5 rfl ?_
     refine gs 27 h61 rfl rfl rfl (fun h62 => ?_) (fun h63 => ?_) <;> clear h61
     ·refine rl rfl ?_
      cases h62
      exact npn (wf hA [(0, 0)] rfl rfl rfl)
     ·refine rn 5 rfl ?_
      refine gs 32 h63 rfl rfl rfl (fun h64 => ?_) (fun h65 => ?_) <;> clear h63
      ·refine rl rfl ?_
       cases h64
       exact npn (wf hA [(0, 0)] rfl rfl rfl)
      ·refine rn 5 rfl ?_
       refine gs 37 h65 rfl rfl rfl (fun h66 => ?_) (fun h67 => ?_) <;> clear h65
       ·refine rl rfl ?_
        cases h66
        exact npn (wf hA [(0, 0)] rfl rfl rfl)
       ·refine rn 5 rfl ?_
        refine gs 42 h67 rfl rfl rfl (fun h68 => ?_) (fun h69 => ?_) <;> clear h67
        ·refine rl rfl ?_
         cases h68
         exact npn (wf hA [(0, 0)] rfl rfl rfl)
        ·refine rn 5 rfl ?_
         refine gs 47 h69 rfl rfl rfl (fun h70 => ?_) (fun h71 => ?_) <;> clear h69
         ·refine rl rfl ?_
          cases h70
          exact npn (wf hA [(0, 0)] rfl rfl rfl)
         ·refine rn 2 rfl ?_
          refine sx rfl (o_len rfl rfl ?_)
          refine rl rfl ?_
          cases h71
          exact npn (wf hA [(0, 0)] rfl rfl rfl)
 ·refine cd rfl h72 (fun h73 => ?_) (fun h74 => ?_) <;> clear h72
  ·refine rs env_ok <| rl rfl <| dwp_ret <| thenD_r <| sc_r ?_
   cases h73
   exact er rfl Le.rfl
  ·refine dwp_skip <| thenD_n <| dwp_seq <| dwp_label <| thenD_n <| dwp_seq <| rs env_ok <| rn 2 rfl ?_
   refine sx rfl (o_len rfl rfl ?_)
   refine rl rfl <| dwp_block ?_
   apply lp (a := r) (fun s344 : Int => ⟨112, [(1, .lpb 0 0), (54, ls 3 elemC x0.elems), (55, li (x0.elems.length : Int)), (56, li s344)], [(0, .box [ls 3 elemC x0.elems, ls 4 joinC x0.joins, ls 4 signalC x0.signals, ls 2 lineC x0.lines, li x0.top, li x0.brake, li x0.margin, li x0.throw, lb x0.hard])], 1⟩) h74 <;> clear h74
   · exact wf hA [(0, 0)] rfl rfl rfl
   intro s344 b517 h518
   unfold g_plan_numbers_l1 at h518
   refine rs env_ok <| rl rfl <| dwp_seq ?_
   refine cd rfl h518 (fun h521 => ?_) (fun h610 => ?_) <;> clear h518
   ·refine dwp_skip <| thenD_n ?_
    apply jn (a := b517) (fun t558 : Unit => ⟨112, [(1, .lpb 0 0), (54, ls 3 elemC x0.elems), (55, li (x0.elems.length : Int)), (56, li s344)], [(0, .box [ls 3 elemC x0.elems, ls 4 joinC x0.joins, ls 4 signalC x0.signals, ls 2 lineC x0.lines, li x0.top, li x0.brake, li x0.margin, li x0.throw, lb x0.hard])], 1⟩) h521 <;> clear h521
    ·intro b559 h560
     refine dwp_block <| rs env_ok ?_
     obtain ⟨y563, ey563, h564⟩ := bd h560; clear h560
     refine sx rfl (o_idx ey563 rfl rfl rfl ?_)
     refine rl rfl <| dwp_block ?_
     refine jb (fun t571 : Bool => ⟨112, [(1, .lpb 0 0), (4, .lpb 1 0), (54, ls 3 elemC x0.elems), (55, li (x0.elems.length : Int)), (56, li s344), (60, lb t571)], [(0, .box [ls 3 elemC x0.elems, ls 4 joinC x0.joins, ls 4 signalC x0.signals, ls 2 lineC x0.lines, li x0.top, li x0.brake, li x0.margin, li x0.throw, lb x0.hard]), (1, .box [.p (.str y563.name), li y563.kind, li y563.length])], 2⟩) h564 (fun t571 h572 => ?_) (fun t571 h579 => ?_) <;> clear h564
     ·refine rg env_ok <| rn 2 rfl ?_
      obtain ⟨y573, ey573, h574⟩ := bd h572; clear h572
      refine sx rfl (o_call (f_word_Name _ _ ey573) (.inl rfl) rfl rfl rfl ?_)
      refine rn 2 rfl ?_
      refine gs 65 h574 rfl rfl rfl (fun h575 => ?_) (fun h576 => ?_) <;> clear h574
      ·refine rl rfl ?_
       cases h575
       exact npn (wf hA [(0, 0), (1, 1)] rfl rfl rfl)
      ·refine rn 2 rfl ?_
       obtain ⟨y577, ey577, h578⟩ := bd h576; clear h576
       refine sx rfl (o_call (f_plan_Ends _ _ ey577) (.inl rfl) rfl rfl rfl ?_)
       refine rl rfl ?_
       cases h578
       exact npn (wf hA [(0, 0), (1, 1)] rfl rfl rfl)
     ·refine cd rfl h579 (fun h580 => ?_) (fun h585 => ?_) <;> clear h579
      ·refine rs env_ok <| rl rfl <| dwp_ret <| inB_r <| inB_r ?_
       obtain ⟨a581, h582, rfl⟩ := mps h580; clear h580
       refine lpt ?_
       obtain ⟨a583, h584, rfl⟩ := mps h582; clear h582
       refine lpt <| inB_r <| thenD_r <| sc_r ?_
       cases h584
       exact er rfl Le.rfl
      ·refine rs env_ok <| rl rfl ?_
       refine cd rfl h585 (fun h586 => ?_) (fun h595 => ?_) <;> clear h585
       ·refine dwp_seq <| rs env_ok <| rl rfl ?_
        refine cd rfl h586 (fun h589 => ?_) (fun h594 => ?_) <;> clear h586
        ·refine rs env_ok <| rl rfl <| dwp_ret <| thenD_r <| inB_r <| inB_r ?_
         obtain ⟨a590, h591, rfl⟩ := mps h589; clear h589
         refine lpt ?_
         obtain ⟨a592, h593, rfl⟩ := mps h591; clear h591
         refine lpt <| inB_r <| thenD_r <| sc_r ?_
         cases h593
         exact er rfl Le.rfl
        ·refine dwp_skip <| thenD_n <| dwp_exit <| inB_y rfl <| inB_x ?_
         cases h594
         exact lpn (wf hA [(0, 0)] rfl rfl rfl)
       ·refine jb (fun t598 : Bool => ⟨112, [(1, .lpb 0 0), (54, ls 3 elemC x0.elems), (55, li (x0.elems.length : Int)), (56, li s344), (78, lb t598)], [(0, .box [ls 3 elemC x0.elems, ls 4 joinC x0.joins, ls 4 signalC x0.signals, ls 2 lineC x0.lines, li x0.top, li x0.brake, li x0.margin, li x0.throw, lb x0.hard])], 1⟩) h595 (fun t598 h599 => ?_) (fun t598 h602 => ?_) <;> clear h595
        ·refine rg env_ok <| rn 4 rfl ?_
         refine gs 82 h599 rfl rfl rfl (fun h600 => ?_) (fun h601 => ?_) <;> clear h599
         ·refine rl rfl ?_
          cases h600
          exact npn (wf hA [(0, 0)] rfl rfl rfl)
         ·refine rl rfl ?_
          cases h601
          exact npn (wf hA [(0, 0)] rfl rfl rfl)
        ·refine cd rfl h602 (fun h603 => ?_) (fun h608 => ?_) <;> clear h602
         ·refine rs env_ok <| rl rfl <| dwp_ret <| inB_r <| inB_r ?_
          obtain ⟨a604, h605, rfl⟩ := mps h603; clear h603
          refine lpt ?_
          obtain ⟨a606, h607, rfl⟩ := mps h605; clear h605
          refine lpt <| inB_r <| thenD_r <| sc_r ?_
          cases h607
          exact er rfl Le.rfl
         ·refine dwp_skip <| inB_n <| inB_n ?_
          cases h608
          exact lpn (wf hA [(0, 0)] rfl rfl rfl)
    ·intro t558 h609
     refine rg env_ok <| rl rfl ?_
     cases h609
     exact lpn (wf hA [(0, 0)] rfl rfl rfl)
   ·refine dwp_exit <| thenD_x ?_
    obtain ⟨a611, h612, rfl⟩ := mp h610; clear h610
    refine lpx <| inB_x <| thenD_n <| dwp_seq <| rs env_ok <| rn 2 rfl ?_
    refine sx rfl (o_len rfl rfl ?_)
    refine rl rfl <| dwp_block ?_
    apply lp (a := a611) (fun s692 : Int => ⟨112, [(1, .lpb 0 0), (89, ls 4 signalC x0.signals), (90, li (x0.signals.length : Int)), (91, li s692)], [(0, .box [ls 3 elemC x0.elems, ls 4 joinC x0.joins, ls 4 signalC x0.signals, ls 2 lineC x0.lines, li x0.top, li x0.brake, li x0.margin, li x0.throw, lb x0.hard])], 1⟩) h612 <;> clear h612
    · exact wf hA [(0, 0)] rfl rfl rfl
    intro s692 b741 h742
    unfold g_plan_numbers_l2 at h742
    refine rs env_ok <| rl rfl <| dwp_seq ?_
    refine cd rfl h742 (fun h745 => ?_) (fun h768 => ?_) <;> clear h742
    ·refine dwp_skip <| thenD_n <| dwp_seq <| dwp_block <| rs env_ok ?_
     obtain ⟨y758, ey758, h759⟩ := bd h745; clear h745
     refine sx rfl (o_idx ey758 rfl rfl rfl ?_)
     refine rl rfl <| rs env_ok <| rn 2 rfl ?_
     obtain ⟨y762, ey762, h763⟩ := bd h759; clear h759
     refine sx rfl (o_call (f_word_Name _ _ ey762) (.inl rfl) rfl rfl rfl ?_)
     refine rl rfl ?_
     refine cd rfl h763 (fun h764 => ?_) (fun h767 => ?_) <;> clear h763
     ·refine rs env_ok <| rl rfl <| dwp_ret <| inB_r <| thenD_r ?_
      obtain ⟨a765, h766, rfl⟩ := mps h764; clear h764
      refine lpt <| inB_r <| thenD_r <| sc_r ?_
      cases h766
      exact er rfl Le.rfl
     ·refine dwp_skip <| inB_n <| thenD_n <| rg env_ok <| rl rfl ?_
      cases h767
      exact lpn (wf hA [(0, 0)] rfl rfl rfl)
    ·refine dwp_exit <| thenD_x ?_
     obtain ⟨a769, h770, rfl⟩ := mp h768; clear h768
     refine lpx <| inB_x <| thenD_n <| dwp_seq <| rs env_ok <| rn 2 rfl ?_
     refine sx rfl (o_len rfl rfl ?_)
     refine rl rfl <| dwp_block ?_
     apply lp (a := a769) (fun s850 : Int => ⟨112, [(101, ls 2 lineC x0.lines), (102, li (x0.lines.length : Int)), (103, li s850)], [], 0⟩) h770 <;> clear h770
     · exact wf hA [] rfl rfl rfl
     intro s850 b899 h900
     unfold g_plan_numbers_l3 at h900
     refine rs env_ok <| rl rfl <| dwp_seq ?_
     refine cd rfl h900 (fun h903 => ?_) (fun h926 => ?_) <;> clear h900
     ·refine dwp_skip <| thenD_n <| dwp_seq <| dwp_block <| rs env_ok ?_
      obtain ⟨y916, ey916, h917⟩ := bd h903; clear h903
      refine sx rfl (o_idx ey916 rfl rfl rfl ?_)
      refine rl rfl <| rs env_ok <| rn 2 rfl ?_
      obtain ⟨y920, ey920, h921⟩ := bd h917; clear h917
      refine sx rfl (o_call (f_word_Name _ _ ey920) (.inl rfl) rfl rfl rfl ?_)
      refine rl rfl ?_
      refine cd rfl h921 (fun h922 => ?_) (fun h925 => ?_) <;> clear h921
      ·refine rs env_ok <| rl rfl <| dwp_ret <| inB_r <| thenD_r ?_
       obtain ⟨a923, h924, rfl⟩ := mps h922; clear h922
       refine lpt <| inB_r <| thenD_r <| sc_r ?_
       cases h924
       exact er rfl Le.rfl
      ·refine dwp_skip <| inB_n <| thenD_n <| rg env_ok <| rl rfl ?_
       cases h925
       exact lpn (wf hA [] rfl rfl rfl)
     ·refine dwp_exit <| thenD_x ?_
      obtain ⟨a927, h928, rfl⟩ := mps h926; clear h926
      refine lpx <| inB_x <| thenD_n <| rs env_ok <| rl rfl <| dwp_ret <| sc_r ?_
      cases h928
      exact er rfl Le.rfl
end Go.E
/- Plain functions, and walks in step with them. Written by a program (gen.py). No condition. -/
set_option maxRecDepth 100000
namespace Go.E
open Go Go.RowKit Go.Proofs
noncomputable def g_plan_Check_1 (x0 : Int) (x1 : Plan) : Option ByteArray :=
 (idx x1.elems x0).bind fun y3 => some y3.name
theorem f_plan_Check_1 (x0 : Int) (x1 : Plan) (r : ByteArray) (h : g_plan_Check_1 x0 x1 = some r) : Fun Tryz.prog 163 [.int .i64 x0, .place (planC x1) 0] (· = .str r) := by
 refine fn env_ok Tryz.func163 rfl rfl 10 rfl [.tmp 3] rfl [(0, .p (.int .i64 x0)), (1, .p (.place (planC x1) 0))] rfl rfl fun A hA => ?_
 unfold g_plan_Check_1 at h
 refine rs env_ok <| rl rfl <| rs env_ok <| rn 3 rfl ?_
 obtain ⟨y3, ey3, h4⟩ := bd h; clear h
 refine sx rfl (o_idx ey3 rfl rfl rfl ?_)
 refine rl rfl <| dwp_ret ?_
 cases h4
 exact er rfl Le.rfl
noncomputable def g_plan_Check_2 (x0 : Int) (x1 : Plan) : Option ByteArray :=
 (idx x1.signals x0).bind fun y3 => some y3.name
theorem f_plan_Check_2 (x0 : Int) (x1 : Plan) (r : ByteArray) (h : g_plan_Check_2 x0 x1 = some r) : Fun Tryz.prog 164 [.int .i64 x0, .place (planC x1) 0] (· = .str r) := by
 refine fn env_ok Tryz.func164 rfl rfl 10 rfl [.tmp 3] rfl [(0, .p (.int .i64 x0)), (1, .p (.place (planC x1) 0))] rfl rfl fun A hA => ?_
 unfold g_plan_Check_2 at h
 refine rs env_ok <| rl rfl <| rs env_ok <| rn 3 rfl ?_
 obtain ⟨y3, ey3, h4⟩ := bd h; clear h
 refine sx rfl (o_idx ey3 rfl rfl rfl ?_)
 refine rl rfl <| dwp_ret ?_
 cases h4
 exact er rfl Le.rfl
noncomputable def g_plan_Check_3 (x0 : Int) (x1 : Plan) : Option ByteArray :=
 (idx x1.lines x0).bind fun y3 => some y3.name
theorem f_plan_Check_3 (x0 : Int) (x1 : Plan) (r : ByteArray) (h : g_plan_Check_3 x0 x1 = some r) : Fun Tryz.prog 165 [.int .i64 x0, .place (planC x1) 0] (· = .str r) := by
 refine fn env_ok Tryz.func165 rfl rfl 10 rfl [.tmp 3] rfl [(0, .p (.int .i64 x0)), (1, .p (.place (planC x1) 0))] rfl rfl fun A hA => ?_
 unfold g_plan_Check_3 at h
 refine rs env_ok <| rl rfl <| rs env_ok <| rn 3 rfl ?_
 obtain ⟨y3, ey3, h4⟩ := bd h; clear h
 refine sx rfl (o_idx ey3 rfl rfl rfl ?_)
 refine rl rfl <| dwp_ret ?_
 cases h4
 exact er rfl Le.rfl
noncomputable def g_plan_port (x0 : Plan) (x1 : Port) : Option Bool :=
 ((bif decide (0 ≤ x1.elem) then bif decide (x1.elem < (x0.elems.length : Int)) then bif decide (0 ≤ x1.fin) then (idx x0.elems x1.elem).bind fun y16 => (g_plan_Ends y16.kind).bind fun y18 => some (decide (x1.fin < y18)) else some false else some false else some false : Option (Bool))).bind fun (t11 : Bool) => some t11
theorem f_plan_port (x0 : Plan) (x1 : Port) (r : Bool) (h : g_plan_port x0 x1 = some r) : Fun Tryz.prog 199 [.agg (planC x0), .agg (portC x1)] (· = .bool r) := by
 refine fn env_ok Tryz.func199 rfl rfl 34 rfl [.tmp 4] rfl [(0, .p (.agg (planC x0))), (1, .p (.agg (portC x1)))] rfl rfl fun A hA => ?_
 unfold g_plan_port at h
 refine rs env_ok <| rl rfl ?_
 refine jb (fun t11 : Bool => ⟨34, [(4, lb t11)], [], 0⟩) h (fun t11 h12 => ?_) (fun t11 h23 => ?_) <;> clear h
 ·refine rgd env_ok mixed [0, 1, 2, 3, 4, 5, 6, 7, 8, 9, 10, 11, 12, 13, 14, 15, 16, 17, 18, 19, 20, 21, 22, 23, 24, 25, 26, 27, 28, 29] 30 (by kernel_rfl) rfl rfl rfl ?_
  refine rnD 4 rfl ?_
  refine gsD 8 h12 rfl rfl rfl (fun h13 => ?_) (fun h22 => ?_) <;> clear h12
  ·refine rnD 4 rfl ?_
   refine sxD rfl (o_lenD rfl rfl ?_)
   refine rnD 3 rfl ?_
   refine gsD 16 h13 rfl rfl rfl (fun h14 => ?_) (fun h21 => ?_) <;> clear h13
   ·refine rnD 5 rfl ?_
    refine gsD 21 h14 rfl rfl rfl (fun h15 => ?_) (fun h20 => ?_) <;> clear h14
    ·refine rnD 6 rfl ?_
     obtain ⟨y16, ey16, h17⟩ := bd h15; clear h15
     refine sxD rfl (opD_plain rfl (o_idx ey16 rfl rfl rfl ?_))
     refine rnD 2 rfl ?_
     obtain ⟨y18, ey18, h19⟩ := bd h17; clear h17
     refine sxD rfl (o_callD (f_plan_Ends _ _ ey18) (.inl rfl) rfl rfl rfl ?_)
     refine rlD rfl ?_
     cases h19
     exact npn (wf hA [] rfl rfl rfl)
    ·refine rlD rfl ?_
     cases h20
     exact npn (wf hA [] rfl rfl rfl)
   ·refine rlD rfl ?_
    cases h21
    exact npn (wf hA [] rfl rfl rfl)
  ·refine rlD rfl ?_
   cases h22
   exact npn (wf hA [] rfl rfl rfl)
 ·refine dwp_ret ?_
  have hr := Option.some.inj h23; subst hr
  exact er rfl Le.rfl
noncomputable def g_plan_joined_l2 (x0 : Plan) (s392 : (Int × (List (Port × Port)))) (s946 : Int) : Option (Int ⊕ ((List (Port × Port)) × Bool)) :=
 bif decide (s946 < (x0.elems.length : Int)) then seqR (((idx x0.elems s946).bind fun y1082 => bif (y1082.kind != 4) then some (.inl ()) else ((bif (!(assoc s392.2 (⟨s946, 0⟩ : Port)).isSome) then some true else (idx x0.elems (((assoc s392.2 (⟨s946, 0⟩ : Port)).getD (⟨0, 0⟩ : Port)).elem)).bind fun y1096 => some (y1096.kind == 4) : Option (Bool))).bind fun (t1092 : Bool) => bif t1092 then some (.inr (.inr ([], false))) else some (.inl ()) : Option (Unit ⊕ (Int ⊕ ((List (Port × Port)) × Bool))))) fun (t1077 : Unit) => some (.inl (wi64 (s946 + 1))) else some (.inr (s392.2, true))
noncomputable def g_plan_joined_l1 (x0 : Plan) (s392 : Int × (List (Port × Port))) : Option ((Int × (List (Port × Port))) ⊕ ((List (Port × Port)) × Bool)) :=
 bif decide (s392.1 < (x0.joins.length : Int)) then (idx x0.joins s392.1).bind fun y718 => ((bif (assoc s392.2 y718.a).isSome then some true else bif (assoc s392.2 y718.b).isSome then some true else bif (y718.a == y718.b) then some true else (g_plan_port x0 y718.a).bind fun y769 => bif (!y769) then some true else (g_plan_port x0 y718.b).bind fun y773 => some (!y773) : Option (Bool))).bind fun (t761 : Bool) => bif t761 then some (.inr ([], false)) else some (.inl (wi64 (s392.1 + 1), aput y718.b y718.a (aput y718.a y718.b s392.2))) else (loopR (g_plan_joined_l2 x0 s392) 0).map .inr
noncomputable def g_plan_joined (x0 : Plan) : Option ((List (Port × Port)) × Bool) :=
 loopR (g_plan_joined_l1 x0) (0, [])
theorem f_plan_joined (x0 : Plan) (r : ((List (Port × Port)) × Bool)) (h : g_plan_joined x0 = some r) : Fun Tryz.prog 166 [.agg (planC x0)] (· = .tup [.map (mapD (fun x => .agg (portC x)) (fun x => .agg (portC x)) r.1), .bool r.2]) := by
 refine fn env_ok Tryz.func166 rfl rfl 105 rfl [.tmp 2, .tmp 3] rfl [(0, .p (.agg (planC x0)))] rfl rfl fun A hA => ?_
 unfold g_plan_joined at h
 refine rs env_ok <| rl rfl <| rs env_ok <| rl rfl <| dwp_seq <| rs env_ok <| rn 2 rfl ?_
 refine sx rfl (o_len rfl rfl ?_)
 refine rl rfl <| dwp_block ?_
 apply lp (a := r) (fun s392 : (Int × (List (Port × Port))) => ⟨105, [(1, .lpb 0 0), (4, .lmap 1), (17, ls 4 joinC x0.joins), (18, li (x0.joins.length : Int)), (19, li s392.1)], [(0, .box [ls 3 elemC x0.elems, ls 4 joinC x0.joins, ls 4 signalC x0.signals, ls 2 lineC x0.lines, li x0.top, li x0.brake, li x0.margin, li x0.throw, lb x0.hard]), (1, .map (mapD (fun x => .agg (portC x)) (fun x => .agg (portC x)) s392.2))], 2⟩) h <;> clear h
 · exact wf hA [(0, 0), (1, 1)] rfl rfl rfl
 intro s392 b649 h650
 unfold g_plan_joined_l1 at h650
 refine rs env_ok <| rl rfl <| dwp_seq ?_
 refine cd rfl h650 (fun h653 => ?_) (fun h780 => ?_) <;> clear h650
 ·refine dwp_skip <| thenD_n <| dwp_seq <| dwp_block <| rs env_ok ?_
  obtain ⟨y718, ey718, h719⟩ := bd h653; clear h653
  refine sx rfl (o_idx ey718 rfl rfl rfl ?_)
  refine rl rfl <| rs env_ok <| rn 3 rfl ?_
  refine sx rfl (o_lk2 (et := 96) (ke := (fun x => .agg (portC x))) (ve := (fun x => .agg (portC x))) (mp := s392.2) (y := y718.a) (⟨0, 0⟩ : Port) keyE_96 rfl rfl rfl rfl ?_)
  refine rl rfl <| rs env_ok <| rn 3 rfl ?_
  refine sx rfl (o_lk2 (et := 96) (ke := (fun x => .agg (portC x))) (ve := (fun x => .agg (portC x))) (mp := s392.2) (y := y718.b) (⟨0, 0⟩ : Port) keyE_96 rfl rfl rfl rfl ?_)
  refine rl rfl <| dwp_seq ?_
  refine jb (fun t761 : Bool => ⟨105, [(1, .lpb 0 0), (4, .lmap 1), (6, .lpb 2 0), (17, ls 4 joinC x0.joins), (18, li (x0.joins.length : Int)), (19, li s392.1), (61, lb t761)], [(0, .box [ls 3 elemC x0.elems, ls 4 joinC x0.joins, ls 4 signalC x0.signals, ls 2 lineC x0.lines, li x0.top, li x0.brake, li x0.margin, li x0.throw, lb x0.hard]), (1, .map (mapD (fun x => .agg (portC x)) (fun x => .agg (portC x)) s392.2)), (2, .box [li y718.a.elem, li y718.a.fin, li y718.b.elem, li y718.b.fin])], 3⟩) h719 (fun t761 h762 => ?_) (fun t761 h775 => ?_) <;> clear h719
  ·refine rg env_ok <| rn 2 rfl ?_
   refine gs 38 h762 rfl rfl rfl (fun h763 => ?_) (fun h764 => ?_) <;> clear h762
   ·refine rl rfl ?_
    cases h763
    exact npn (wf hA (gi 3 []) rfl rfl rfl)
   ·refine rn 3 rfl ?_
    refine gs 41 h764 rfl rfl rfl (fun h765 => ?_) (fun h766 => ?_) <;> clear h764
    ·refine rl rfl ?_
     cases h765
     exact npn (wf hA (gi 3 []) rfl rfl rfl)
    ·refine rn 4 rfl ?_
     refine sx rfl (o_eqA (eqE_Port y718.a y718.b) rfl rfl rfl rfl rfl ?_)
     refine rn 2 rfl ?_
     refine gs 48 h766 rfl rfl rfl (fun h767 => ?_) (fun h768 => ?_) <;> clear h766
     ·refine rl rfl ?_
      cases h767
      exact npn (wf hA (gi 3 []) rfl rfl rfl)
     ·refine rn 3 rfl ?_
      obtain ⟨y769, ey769, h770⟩ := bd h768; clear h768
      refine sx rfl (o_call (f_plan_port _ _ _ ey769) (.inl rfl) rfl rfl rfl ?_)
      refine rn 3 rfl ?_
      refine gs 55 h770 rfl rfl rfl (fun h771 => ?_) (fun h772 => ?_) <;> clear h770
      ·refine rl rfl ?_
       cases h771
       exact npn (wf hA (gi 3 []) rfl rfl rfl)
      ·refine rn 3 rfl ?_
       obtain ⟨y773, ey773, h774⟩ := bd h772; clear h772
       refine sx rfl (o_call (f_plan_port _ _ _ ey773) (.inl rfl) rfl rfl rfl ?_)
       refine rl rfl ?_
       cases h774
       exact npn (wf hA (gi 3 []) rfl rfl rfl)
  ·refine cd rfl h775 (fun h776 => ?_) (fun h779 => ?_) <;> clear h775
   ·refine rs env_ok <| rl rfl <| dwp_ret <| thenD_r <| inB_r <| thenD_r ?_
    obtain ⟨a777, h778, rfl⟩ := mps h776; clear h776
    refine lpt <| inB_r <| thenD_r ?_
    cases h778
    exact er rfl (Le.tup' (.cons Le.nilm (.cons Le.rfl .nil)))
   ·refine dwp_skip <| thenD_n ?_
    refine rgd env_ok mixed [0, 1, 2, 3, 4, 5, 6, 7, 8, 9, 10, 11] 12 (by kernel_rfl) rfl rfl rfl ?_
    refine rnD 10 rfl ?_
    refine sxD rfl (opD_plain rfl (o_mup (et := 96) (ke := (fun x => .agg (portC x))) (ve := (fun x => .agg (portC x))) (mp := s392.2) (y := y718.a) (z := y718.b) keyE_96 rfl rfl rfl rfl rfl rfl ?_))
    refine sxD rfl (opD_plain rfl (o_mup (et := 96) (ke := (fun x => .agg (portC x))) (ve := (fun x => .agg (portC x))) (mp := aput y718.a y718.b s392.2) (y := y718.b) (z := y718.a) keyE_96 rfl rfl rfl rfl rfl rfl ?_))
    refine rlD rfl <| inB_n <| thenD_n <| rg env_ok <| rl rfl ?_
    cases h779
    exact lpn (wf hA [(0, 0), (1, 1)] rfl rfl rfl)
 ·refine dwp_exit <| thenD_x ?_
  obtain ⟨a781, h782, rfl⟩ := mp h780; clear h780
  refine lpx <| inB_x <| thenD_n <| dwp_seq <| rs env_ok <| rn 2 rfl ?_
  refine sx rfl (o_len rfl rfl ?_)
  refine rl rfl <| dwp_block ?_
  apply lp (a := a781) (fun s946 : Int => ⟨105, [(1, .lpb 0 0), (4, .lmap 1), (74, ls 3 elemC x0.elems), (75, li (x0.elems.length : Int)), (76, li s946)], [(0, .box [ls 3 elemC x0.elems, ls 4 joinC x0.joins, ls 4 signalC x0.signals, ls 2 lineC x0.lines, li x0.top, li x0.brake, li x0.margin, li x0.throw, lb x0.hard]), (1, .map (mapD (fun x => .agg (portC x)) (fun x => .agg (portC x)) s392.2))], 2⟩) h782 <;> clear h782
  · exact wf hA [(0, 0), (1, 1)] rfl rfl rfl
  intro s946 b1051 h1052
  unfold g_plan_joined_l2 at h1052
  refine rs env_ok <| rl rfl <| dwp_seq ?_
  refine cd rfl h1052 (fun h1055 => ?_) (fun h1106 => ?_) <;> clear h1052
  ·refine dwp_skip <| thenD_n ?_
   apply jn (a := b1051) (fun t1077 : Unit => ⟨105, [(1, .lpb 0 0), (4, .lmap 1), (74, ls 3 elemC x0.elems), (75, li (x0.elems.length : Int)), (76, li s946)], [(0, .box [ls 3 elemC x0.elems, ls 4 joinC x0.joins, ls 4 signalC x0.signals, ls 2 lineC x0.lines, li x0.top, li x0.brake, li x0.margin, li x0.throw, lb x0.hard]), (1, .map (mapD (fun x => .agg (portC x)) (fun x => .agg (portC x)) s392.2))], 2⟩) h1055 <;> clear h1055
   ·intro b1078 h1079
    refine dwp_block <| rs env_ok <| rn 1 rfl ?_
    obtain ⟨y1082, ey1082, h1083⟩ := bd h1079; clear h1079
    refine sx rfl (o_idx ey1082 rfl rfl rfl ?_)
    refine rl rfl <| dwp_seq <| rs env_ok <| rl rfl ?_
    refine cd rfl h1083 (fun h1086 => ?_) (fun h1087 => ?_) <;> clear h1083
    ·refine dwp_exit <| thenD_x <| inB_x ?_
     cases h1086
     exact lpn (wf hA [(0, 0), (1, 1)] rfl rfl rfl)
    ·refine dwp_skip <| thenD_n <| rs env_ok <| rn 3 rfl ?_
     refine sx rfl (o_lk2 (et := 96) (ke := (fun x => .agg (portC x))) (ve := (fun x => .agg (portC x))) (mp := s392.2) (y := (⟨s946, 0⟩ : Port)) (⟨0, 0⟩ : Port) keyE_96 rfl rfl rfl rfl ?_)
     refine rl rfl ?_
     refine jb (fun t1092 : Bool => ⟨105, [(1, .lpb 0 0), (4, .lmap 1), (74, ls 3 elemC x0.elems), (75, li (x0.elems.length : Int)), (76, li s946), (102, lb t1092)], [(0, .box [ls 3 elemC x0.elems, ls 4 joinC x0.joins, ls 4 signalC x0.signals, ls 2 lineC x0.lines, li x0.top, li x0.brake, li x0.margin, li x0.throw, lb x0.hard]), (1, .map (mapD (fun x => .agg (portC x)) (fun x => .agg (portC x)) s392.2))], 2⟩) h1087 (fun t1092 h1093 => ?_) (fun t1092 h1098 => ?_) <;> clear h1087
     ·refine rg env_ok <| rn 3 rfl ?_
      refine gs 93 h1093 rfl rfl rfl (fun h1094 => ?_) (fun h1095 => ?_) <;> clear h1093
      ·refine rl rfl ?_
       cases h1094
       exact npn (wf hA [(0, 0), (1, 1)] rfl rfl rfl)
      ·refine rn 4 rfl ?_
       obtain ⟨y1096, ey1096, h1097⟩ := bd h1095; clear h1095
       refine sx rfl (o_idx ey1096 rfl rfl rfl ?_)
       refine rl rfl ?_
       cases h1097
       exact npn (wf hA [(0, 0), (1, 1)] rfl rfl rfl)
     ·refine cd rfl h1098 (fun h1099 => ?_) (fun h1104 => ?_) <;> clear h1098
      ·refine rs env_ok <| rl rfl <| dwp_ret <| inB_r ?_
       obtain ⟨a1100, h1101, rfl⟩ := mps h1099; clear h1099
       refine lpt ?_
       obtain ⟨a1102, h1103, rfl⟩ := mps h1101; clear h1101
       refine lpt <| inB_r <| thenD_r ?_
       cases h1103
       exact er rfl (Le.tup' (.cons Le.nilm (.cons Le.rfl .nil)))
      ·refine dwp_skip <| inB_n ?_
       cases h1104
       exact lpn (wf hA [(0, 0), (1, 1)] rfl rfl rfl)
   ·intro t1077 h1105
    refine rg env_ok <| rl rfl ?_
    cases h1105
    exact lpn (wf hA [(0, 0), (1, 1)] rfl rfl rfl)
  ·refine dwp_exit <| thenD_x ?_
   obtain ⟨a1107, h1108, rfl⟩ := mps h1106; clear h1106
   refine lpx <| inB_x <| thenD_n <| rs env_ok <| rl rfl <| dwp_ret ?_
   cases h1108
   exact er (rdN rfl (.cons (.one (.map rfl)) (.cons (.one (.p _)) .nil))) Le.rfl
noncomputable def g_plan_signals_l2 (x0 : Plan) (s516 : (Int × (List (Port × Bool)))) (s1128 : Int) : Option (Int ⊕ Bool) :=
 bif decide (s1128 < (x0.elems.length : Int)) then (idx x0.elems s1128).bind fun y1209 => ((bif (y1209.kind == 4) then some (!((assoc s516.2 (⟨s1128, 0⟩ : Port)).getD false)) else some false : Option (Bool))).bind fun (t1213 : Bool) => bif t1213 then some (.inr false) else some (.inl (wi64 (s1128 + 1))) else some (.inr true)
noncomputable def g_plan_signals_l1 (x0 : Plan) (x1 : (List (Port × Port))) (s516 : Int × (List (Port × Bool))) : Option ((Int × (List (Port × Bool))) ⊕ Bool) :=
 bif decide (s516.1 < (x0.signals.length : Int)) then (idx x0.signals s516.1).bind fun y942 => (((g_plan_port x0 y942.at_).bind fun y963 => bif (!y963) then some true else some ((assoc s516.2 y942.at_).getD false) : Option (Bool))).bind fun (t961 : Bool) => bif t961 then some (.inr false) else (idx x0.elems y942.at_.elem).bind fun y987 => ((bif (y987.kind != 1) then some (y987.kind != 4) else some false : Option (Bool))).bind fun (t991 : Bool) => bif t991 then some (.inr false) else ((bif (!(assoc x1 y942.at_).isSome) then some true else (idx x0.elems (((assoc x1 y942.at_).getD (⟨0, 0⟩ : Port)).elem)).bind fun y1021 => some (y1021.kind == 4) : Option (Bool))).bind fun (t1017 : Bool) => bif t1017 then some (.inr false) else some (.inl (wi64 (s516.1 + 1), aput y942.at_ true s516.2)) else (loopR (g_plan_signals_l2 x0 s516) 0).map .inr
noncomputable def g_plan_signals (x0 : Plan) (x1 : (List (Port × Port))) : Option Bool :=
 loopR (g_plan_signals_l1 x0 x1) (0, [])
theorem f_plan_signals (x0 : Plan) (x1 : (List (Port × Port))) (r : Bool) (h : g_plan_signals x0 x1 = some r) : Fun Tryz.prog 167 [.agg (planC x0), .map (mapD (fun x => .agg (portC x)) (fun x => .agg (portC x)) x1)] (· = .bool r) := by
 refine fn env_ok Tryz.func167 rfl rfl 88 rfl [.tmp 4] rfl [(0, .p (.agg (planC x0))), (1, .p (.map (mapD (fun x => .agg (portC x)) (fun x => .agg (portC x)) x1)))] rfl rfl fun A hA => ?_
 unfold g_plan_signals at h
 refine rs env_ok <| rl rfl <| rs env_ok <| rl rfl <| dwp_seq <| rs env_ok <| rn 2 rfl ?_
 refine sx rfl (o_len rfl rfl ?_)
 refine rl rfl <| dwp_block ?_
 apply lp (a := r) (fun s516 : (Int × (List (Port × Bool))) => ⟨88, [(1, .p (.map (mapD (fun x => .agg (portC x)) (fun x => .agg (portC x)) x1))), (2, .lpb 0 0), (5, .lmap 1), (15, ls 4 signalC x0.signals), (16, li (x0.signals.length : Int)), (17, li s516.1)], [(0, .box [ls 3 elemC x0.elems, ls 4 joinC x0.joins, ls 4 signalC x0.signals, ls 2 lineC x0.lines, li x0.top, li x0.brake, li x0.margin, li x0.throw, lb x0.hard]), (1, .map (mapD (fun x => .agg (portC x)) .bool s516.2))], 2⟩) h <;> clear h
 · exact wf hA [(0, 0), (1, 1)] rfl rfl rfl
 intro s516 b853 h854
 unfold g_plan_signals_l1 at h854
 refine rs env_ok <| rl rfl <| dwp_seq ?_
 refine cd rfl h854 (fun h857 => ?_) (fun h1028 => ?_) <;> clear h854
 ·refine dwp_skip <| thenD_n <| dwp_seq <| dwp_block <| rs env_ok ?_
  obtain ⟨y942, ey942, h943⟩ := bd h857; clear h857
  refine sx rfl (o_idx ey942 rfl rfl rfl ?_)
  refine rl rfl <| dwp_seq ?_
  refine jb (fun t961 : Bool => ⟨88, [(1, .p (.map (mapD (fun x => .agg (portC x)) (fun x => .agg (portC x)) x1))), (2, .lpb 0 0), (5, .lmap 1), (7, .lpb 2 0), (15, ls 4 signalC x0.signals), (16, li (x0.signals.length : Int)), (17, li s516.1), (31, lb t961)], [(0, .box [ls 3 elemC x0.elems, ls 4 joinC x0.joins, ls 4 signalC x0.signals, ls 2 lineC x0.lines, li x0.top, li x0.brake, li x0.margin, li x0.throw, lb x0.hard]), (1, .map (mapD (fun x => .agg (portC x)) .bool s516.2)), (2, .box [.p (.str y942.name), li y942.at_.elem, li y942.at_.fin, lb y942.auto])], 3⟩) h943 (fun t961 h962 => ?_) (fun t961 h967 => ?_) <;> clear h943
  ·refine rg env_ok <| rn 3 rfl ?_
   obtain ⟨y963, ey963, h964⟩ := bd h962; clear h962
   refine sx rfl (o_call (f_plan_port _ _ _ ey963) (.inl rfl) rfl rfl rfl ?_)
   refine rn 2 rfl ?_
   refine gs 26 h964 rfl rfl rfl (fun h965 => ?_) (fun h966 => ?_) <;> clear h964
   ·refine rl rfl ?_
    cases h965
    exact npn (wf hA (gi 3 []) rfl rfl rfl)
   ·refine rn 3 rfl ?_
    refine sx rfl (o_lk1 (et := 4) (ke := (fun x => .agg (portC x))) (ve := .bool) (mp := s516.2) (y := y942.at_) false keyE_96 rfl rfl rfl rfl ?_)
    refine rl rfl ?_
    cases h966
    exact npn (wf hA (gi 3 []) rfl rfl rfl)
  ·refine cd rfl h967 (fun h968 => ?_) (fun h971 => ?_) <;> clear h967
   ·refine rs env_ok <| rl rfl <| dwp_ret <| thenD_r <| inB_r <| thenD_r ?_
    obtain ⟨a969, h970, rfl⟩ := mps h968; clear h968
    refine lpt <| inB_r <| thenD_r ?_
    cases h970
    exact er rfl Le.rfl
   ·refine dwp_skip <| thenD_n <| dwp_seq <| rs env_ok <| rn 5 rfl ?_
    obtain ⟨y987, ey987, h988⟩ := bd h971; clear h971
    refine sx rfl (o_idx ey987 rfl rfl rfl ?_)
    refine rl rfl ?_
    refine jb (fun t991 : Bool => ⟨88, [(1, .p (.map (mapD (fun x => .agg (portC x)) (fun x => .agg (portC x)) x1))), (2, .lpb 0 0), (5, .lmap 1), (7, .lpb 2 0), (15, ls 4 signalC x0.signals), (16, li (x0.signals.length : Int)), (17, li s516.1), (45, lb t991)], [(0, .box [ls 3 elemC x0.elems, ls 4 joinC x0.joins, ls 4 signalC x0.signals, ls 2 lineC x0.lines, li x0.top, li x0.brake, li x0.margin, li x0.throw, lb x0.hard]), (1, .map (mapD (fun x => .agg (portC x)) .bool s516.2)), (2, .box [.p (.str y942.name), li y942.at_.elem, li y942.at_.fin, lb y942.auto])], 3⟩) h988 (fun t991 h992 => ?_) (fun t991 h995 => ?_) <;> clear h988
    ·refine rg env_ok <| rn 3 rfl ?_
     refine gs 42 h992 rfl rfl rfl (fun h993 => ?_) (fun h994 => ?_) <;> clear h992
     ·refine rl rfl ?_
      cases h993
      exact npn (wf hA (gi 3 []) rfl rfl rfl)
     ·refine rl rfl ?_
      cases h994
      exact npn (wf hA (gi 3 []) rfl rfl rfl)
    ·refine cd rfl h995 (fun h996 => ?_) (fun h999 => ?_) <;> clear h995
     ·refine rs env_ok <| rl rfl <| dwp_ret <| thenD_r <| inB_r <| thenD_r ?_
      obtain ⟨a997, h998, rfl⟩ := mps h996; clear h996
      refine lpt <| inB_r <| thenD_r ?_
      cases h998
      exact er rfl Le.rfl
     ·refine dwp_skip <| thenD_n <| rs env_ok <| rn 3 rfl ?_
      refine sx rfl (o_lk2 (et := 96) (ke := (fun x => .agg (portC x))) (ve := (fun x => .agg (portC x))) (mp := x1) (y := y942.at_) (⟨0, 0⟩ : Port) keyE_96 rfl rfl rfl rfl ?_)
      refine rl rfl <| dwp_seq ?_
      refine jb (fun t1017 : Bool => ⟨88, [(1, .p (.map (mapD (fun x => .agg (portC x)) (fun x => .agg (portC x)) x1))), (2, .lpb 0 0), (5, .lmap 1), (7, .lpb 2 0), (15, ls 4 signalC x0.signals), (16, li (x0.signals.length : Int)), (17, li s516.1), (64, lb t1017)], [(0, .box [ls 3 elemC x0.elems, ls 4 joinC x0.joins, ls 4 signalC x0.signals, ls 2 lineC x0.lines, li x0.top, li x0.brake, li x0.margin, li x0.throw, lb x0.hard]), (1, .map (mapD (fun x => .agg (portC x)) .bool s516.2)), (2, .box [.p (.str y942.name), li y942.at_.elem, li y942.at_.fin, lb y942.auto])], 3⟩) h999 (fun t1017 h1018 => ?_) (fun t1017 h1023 => ?_) <;> clear h999
      ·refine rg env_ok <| rn 3 rfl ?_
       refine gs 55 h1018 rfl rfl rfl (fun h1019 => ?_) (fun h1020 => ?_) <;> clear h1018
       ·refine rl rfl ?_
        cases h1019
        exact npn (wf hA (gi 3 []) rfl rfl rfl)
       ·refine rn 4 rfl ?_
        obtain ⟨y1021, ey1021, h1022⟩ := bd h1020; clear h1020
        refine sx rfl (o_idx ey1021 rfl rfl rfl ?_)
        refine rl rfl ?_
        cases h1022
        exact npn (wf hA (gi 3 []) rfl rfl rfl)
      ·refine cd rfl h1023 (fun h1024 => ?_) (fun h1027 => ?_) <;> clear h1023
       ·refine rs env_ok <| rl rfl <| dwp_ret <| thenD_r <| inB_r <| thenD_r ?_
        obtain ⟨a1025, h1026, rfl⟩ := mps h1024; clear h1024
        refine lpt <| inB_r <| thenD_r ?_
        cases h1026
        exact er rfl Le.rfl
       ·refine dwp_skip <| thenD_n <| rg env_ok <| rn 3 rfl ?_
        refine sx rfl (o_mup (et := 4) (ke := (fun x => .agg (portC x))) (ve := .bool) (mp := s516.2) (y := y942.at_) (z := true) keyE_96 rfl rfl rfl rfl rfl rfl ?_)
        refine rl rfl <| inB_n <| thenD_n <| rg env_ok <| rl rfl ?_
        cases h1027
        exact lpn (wf hA [(0, 0), (1, 1)] rfl rfl rfl)
 ·refine dwp_exit <| thenD_x ?_
  obtain ⟨a1029, h1030, rfl⟩ := mp h1028; clear h1028
  refine lpx <| inB_x <| thenD_n <| dwp_seq <| rs env_ok <| rn 2 rfl ?_
  refine sx rfl (o_len rfl rfl ?_)
  refine rl rfl <| dwp_block ?_
  apply lp (a := a1029) (fun s1128 : Int => ⟨88, [(5, .lmap 0), (70, ls 3 elemC x0.elems), (71, li (x0.elems.length : Int)), (72, li s1128)], [(0, .map (mapD (fun x => .agg (portC x)) .bool s516.2))], 1⟩) h1030 <;> clear h1030
  · exact wf hA [(0, 1)] rfl rfl rfl
  intro s1128 b1189 h1190
  unfold g_plan_signals_l2 at h1190
  refine rs env_ok <| rl rfl <| dwp_seq ?_
  refine cd rfl h1190 (fun h1193 => ?_) (fun h1222 => ?_) <;> clear h1190
  ·refine dwp_skip <| thenD_n <| dwp_seq <| dwp_block <| rs env_ok <| rn 1 rfl ?_
   obtain ⟨y1209, ey1209, h1210⟩ := bd h1193; clear h1193
   refine sx rfl (o_idx ey1209 rfl rfl rfl ?_)
   refine rl rfl ?_
   refine jb (fun t1213 : Bool => ⟨88, [(5, .lmap 0), (70, ls 3 elemC x0.elems), (71, li (x0.elems.length : Int)), (72, li s1128), (86, lb t1213)], [(0, .map (mapD (fun x => .agg (portC x)) .bool s516.2))], 1⟩) h1210 (fun t1213 h1214 => ?_) (fun t1213 h1217 => ?_) <;> clear h1210
   ·refine rg env_ok <| rn 4 rfl ?_
    refine gs 80 h1214 rfl rfl rfl (fun h1215 => ?_) (fun h1216 => ?_) <;> clear h1214
    ·refine rn 3 rfl ?_
     refine sx rfl (o_lk1 (et := 4) (ke := (fun x => .agg (portC x))) (ve := .bool) (mp := s516.2) (y := (⟨s1128, 0⟩ : Port)) false keyE_96 rfl rfl rfl rfl ?_)
     refine rl rfl ?_
     cases h1215
     exact npn (wf hA [(0, 0)] rfl rfl rfl)
    ·refine rl rfl ?_
     cases h1216
     exact npn (wf hA [(0, 0)] rfl rfl rfl)
   ·refine cd rfl h1217 (fun h1218 => ?_) (fun h1221 => ?_) <;> clear h1217
    ·refine rs env_ok <| rl rfl <| dwp_ret <| inB_r <| thenD_r ?_
     obtain ⟨a1219, h1220, rfl⟩ := mps h1218; clear h1218
     refine lpt <| inB_r <| thenD_r ?_
     cases h1220
     exact er rfl Le.rfl
    ·refine dwp_skip <| inB_n <| thenD_n <| rg env_ok <| rl rfl ?_
     cases h1221
     exact lpn (wf hA [(0, 0)] rfl rfl rfl)
  ·refine dwp_exit <| thenD_x ?_
   obtain ⟨a1223, h1224, rfl⟩ := mps h1222; clear h1222
   refine lpx <| inB_x <| thenD_n <| rs env_ok <| rl rfl <| dwp_ret ?_
   cases h1224
   exact er rfl Le.rfl
noncomputable def g_plan_row_l2 (x0 : (List Int)) (x1 : (List (Port × Port))) (s464 : Int × Int) : Option ((Int × Int) ⊕ Bool) :=
 bif decide (s464.2 < (x0.length : Int)) then (idx x0 (wi64 (s464.2 - 1))).bind fun y630 => ((bif (!(assoc x1 (⟨y630, s464.1⟩ : Port)).isSome) then some true else (idx x0 s464.2).bind fun y653 => some ((((assoc x1 (⟨y630, s464.1⟩ : Port)).getD (⟨0, 0⟩ : Port)).elem) != y653) : Option (Bool))).bind fun (t649 : Bool) => bif t649 then some (.inr false) else some (.inl (wi64 (1 - (((assoc x1 (⟨y630, s464.1⟩ : Port)).getD (⟨0, 0⟩ : Port)).fin)), wi64 (s464.2 + 1))) else some (.inr true)
noncomputable def g_plan_row_l1 (x0 : (List Int)) (x1 : (List (Port × Port))) (s133 : Int × Int) : Option ((Int × Int) ⊕ Bool) :=
 bif decide (0 ≤ s133.2) then (((idx x0 0).bind fun y242 => ((bif (assoc x1 (⟨y242, s133.2⟩ : Port)).isSome then (idx x0 1).bind fun y251 => some ((((assoc x1 (⟨y242, s133.2⟩ : Port)).getD (⟨0, 0⟩ : Port)).elem) == y251) else some false : Option (Bool))).bind fun (t248 : Bool) => bif t248 then some s133.2 else some s133.1 : Option (Int))).bind fun (t238 : Int) => some (.inl (t238, wi64 (s133.2 - 1))) else (bif decide (s133.1 < 0) then some false else loopR (g_plan_row_l2 x0 x1) (s133.1, 1)).map .inr
noncomputable def g_plan_row (x0 : (List Int)) (x1 : (List (Port × Port))) : Option Bool :=
 bif decide ((x0.length : Int) < 2) then some true else loopR (g_plan_row_l1 x0 x1) ((-1), 1)
theorem f_plan_row (x0 : (List Int)) (x1 : (List (Port × Port))) (r : Bool) (h : g_plan_row x0 x1 = some r) : Fun Tryz.prog 200 [.slice 1 (x0.map intC), .map (mapD (fun x => .agg (portC x)) (fun x => .agg (portC x)) x1)] (· = .bool r) := by
 refine fn env_ok Tryz.func200 rfl rfl 73 rfl [.tmp 4] rfl [(0, .p (.slice 1 (x0.map intC))), (1, .p (.map (mapD (fun x => .agg (portC x)) (fun x => .agg (portC x)) x1)))] rfl rfl fun A hA => ?_
 unfold g_plan_row at h
 refine rs env_ok <| rl rfl <| dwp_seq <| rs env_ok <| rn 1 rfl ?_
 refine sx rfl (o_len rfl rfl ?_)
 refine rl rfl ?_
 refine cd rfl h (fun h3 => ?_) (fun h4 => ?_) <;> clear h
 ·refine rs env_ok <| rl rfl <| dwp_ret <| thenD_r ?_
  cases h3
  exact er rfl Le.rfl
 ·refine dwp_skip <| thenD_n <| rs env_ok <| rl rfl <| dwp_seq <| rs env_ok <| rl rfl <| dwp_block ?_
  apply lp (a := r) (fun s133 : (Int × Int) => ⟨73, [(0, ls 1 intC x0), (1, .p (.map (mapD (fun x => .agg (portC x)) (fun x => .agg (portC x)) x1))), (5, li s133.1), (6, li s133.2)], [], 0⟩) h4 <;> clear h4
  · exact wf hA [] rfl rfl rfl
  intro s133 b216 h217
  unfold g_plan_row_l1 at h217
  refine dwp_seq <| rs env_ok <| rl rfl ?_
  refine cd rfl h217 (fun h220 => ?_) (fun h258 => ?_) <;> clear h217
  ·refine dwp_skip <| thenD_n ?_
   refine jb (fun t238 : Int => ⟨73, [(0, ls 1 intC x0), (1, .p (.map (mapD (fun x => .agg (portC x)) (fun x => .agg (portC x)) x1))), (5, li t238), (6, li s133.2)], [], 0⟩) h220 (fun t238 h239 => ?_) (fun t238 h257 => ?_) <;> clear h220
   ·refine dwp_block <| rs env_ok <| rn 2 rfl ?_
    obtain ⟨y242, ey242, h243⟩ := bd h239; clear h239
    refine sx rfl (o_idx ey242 rfl rfl rfl ?_)
    refine rn 3 rfl ?_
    refine sx rfl (o_lk2 (et := 96) (ke := (fun x => .agg (portC x))) (ve := (fun x => .agg (portC x))) (mp := x1) (y := (⟨y242, s133.2⟩ : Port)) (⟨0, 0⟩ : Port) keyE_96 rfl rfl rfl rfl ?_)
    refine rl rfl ?_
    refine jb (fun t248 : Bool => ⟨73, [(0, ls 1 intC x0), (1, .p (.map (mapD (fun x => .agg (portC x)) (fun x => .agg (portC x)) x1))), (5, li s133.1), (6, li s133.2), (37, lb t248)], [], 0⟩) h243 (fun t248 h249 => ?_) (fun t248 h254 => ?_) <;> clear h243
    ·refine rgd env_ok mixed [0, 1, 2, 3, 4, 5, 6, 7, 8] 9 (by kernel_rfl) rfl rfl rfl ?_
     refine rnD 2 rfl ?_
     refine gsD 30 h249 rfl rfl rfl (fun h250 => ?_) (fun h253 => ?_) <;> clear h249
     ·refine rnD 3 rfl ?_
      obtain ⟨y251, ey251, h252⟩ := bd h250; clear h250
      refine sxD rfl (opD_plain rfl (o_idx ey251 rfl rfl rfl ?_))
      refine rlD rfl ?_
      cases h252
      exact npn (wf hA [] rfl rfl rfl)
     ·refine rlD rfl ?_
      cases h253
      exact npn (wf hA [] rfl rfl rfl)
    ·refine cd rfl h254 (fun h255 => ?_) (fun h256 => ?_) <;> clear h254
     ·refine rg env_ok <| rl rfl <| inB_n ?_
      cases h255
      exact npn (wf hA [] rfl rfl rfl)
     ·refine dwp_skip <| inB_n ?_
      cases h256
      exact npn (wf hA [] rfl rfl rfl)
   ·refine rg env_ok <| rl rfl ?_
    cases h257
    exact lpn (wf hA [] rfl rfl rfl)
  ·refine dwp_exit <| thenD_x ?_
   obtain ⟨a259, h260, rfl⟩ := mp h258; clear h258
   refine lpx <| inB_x <| thenD_n <| dwp_seq <| rs env_ok <| rl rfl ?_
   refine cd rfl h260 (fun h263 => ?_) (fun h264 => ?_) <;> clear h260
   ·refine rs env_ok <| rl rfl <| dwp_ret <| thenD_r ?_
    cases h263
    exact er rfl Le.rfl
   ·refine dwp_skip <| thenD_n <| dwp_seq <| rs env_ok <| rl rfl <| dwp_block ?_
    apply lp (a := a259) (fun s464 : (Int × Int) => ⟨73, [(0, ls 1 intC x0), (1, .p (.map (mapD (fun x => .agg (portC x)) (fun x => .agg (portC x)) x1))), (5, li s464.1), (9, li s464.2)], [], 0⟩) h264 <;> clear h264
    · exact wf hA [] rfl rfl rfl
    intro s464 b593 h594
    unfold g_plan_row_l2 at h594
    refine dwp_seq <| rs env_ok <| rn 2 rfl ?_
    refine sx rfl (o_len rfl rfl ?_)
    refine rl rfl ?_
    refine cd rfl h594 (fun h597 => ?_) (fun h660 => ?_) <;> clear h594
    ·refine dwp_skip <| thenD_n <| dwp_seq <| dwp_block <| rs env_ok <| rn 4 rfl ?_
     obtain ⟨y630, ey630, h631⟩ := bd h597; clear h597
     refine sx rfl (o_idx ey630 rfl rfl rfl ?_)
     refine rn 3 rfl ?_
     refine sx rfl (o_lk2 (et := 96) (ke := (fun x => .agg (portC x))) (ve := (fun x => .agg (portC x))) (mp := x1) (y := (⟨y630, s464.1⟩ : Port)) (⟨0, 0⟩ : Port) keyE_96 rfl rfl rfl rfl ?_)
     refine rl rfl <| dwp_seq ?_
     refine jb (fun t649 : Bool => ⟨73, [(0, ls 1 intC x0), (1, .p (.map (mapD (fun x => .agg (portC x)) (fun x => .agg (portC x)) x1))), (9, li s464.2), (10, .lpb 0 0), (69, lb t649)], [(0, .box [li (((assoc x1 (⟨y630, s464.1⟩ : Port)).getD (⟨0, 0⟩ : Port)).elem), li (((assoc x1 (⟨y630, s464.1⟩ : Port)).getD (⟨0, 0⟩ : Port)).fin)])], 1⟩) h631 (fun t649 h650 => ?_) (fun t649 h655 => ?_) <;> clear h631
     ·refine rgd env_ok mixed [0, 1, 2, 3, 4, 5, 6, 7, 8, 9, 10] 11 (by kernel_rfl) rfl rfl rfl ?_
      refine rnD 3 rfl ?_
      refine gsD 61 h650 rfl rfl rfl (fun h651 => ?_) (fun h652 => ?_) <;> clear h650
      ·refine rlD rfl ?_
       cases h651
       exact npn (wf hA [(0, 0)] rfl rfl rfl)
      ·refine rnD 4 rfl ?_
       obtain ⟨y653, ey653, h654⟩ := bd h652; clear h652
       refine sxD rfl (opD_plain rfl (o_idx ey653 rfl rfl rfl ?_))
       refine rlD rfl ?_
       cases h654
       exact npn (wf hA [(0, 0)] rfl rfl rfl)
     ·refine cd rfl h655 (fun h656 => ?_) (fun h659 => ?_) <;> clear h655
      ·refine rs env_ok <| rl rfl <| dwp_ret <| thenD_r <| inB_r <| thenD_r ?_
       obtain ⟨a657, h658, rfl⟩ := mps h656; clear h656
       refine lpt <| inB_r <| thenD_r ?_
       cases h658
       exact er rfl Le.rfl
      ·refine dwp_skip <| thenD_n <| rg env_ok <| rl rfl <| inB_n <| thenD_n <| rg env_ok <| rl rfl ?_
       cases h659
       exact lpn (wf hA [] rfl rfl rfl)
    ·refine dwp_exit <| thenD_x ?_
     obtain ⟨a661, h662, rfl⟩ := mps h660; clear h660
     refine lpx <| inB_x <| thenD_n <| rs env_ok <| rl rfl <| dwp_ret ?_
     cases h662
     exact er rfl Le.rfl
noncomputable def g_plan_lines_l2 (x0 : Plan) (x1 : (List (Port × Port))) (s3648 : (Int × (List (Int × Bool)))) (y6684 : Line) (s6987 : Int × (List (Int × Bool))) : Option ((Int × (List (Int × Bool))) ⊕ ((Int × (List (Int × Bool))) ⊕ Bool)) :=
 bif decide (s6987.1 < (y6684.elems.length : Int)) then (idx y6684.elems s6987.1).bind fun y7233 => ((bif decide (y7233 < 0) then some true else bif decide ((x0.elems.length : Int) ≤ y7233) then some true else (idx x0.elems y7233).bind fun y7270 => bif (y7270.kind != 1) then some true else some ((assoc s6987.2 y7233).getD false) : Option (Bool))).bind fun (t7264 : Bool) => bif t7264 then some (.inr (.inr false)) else some (.inl (wi64 (s6987.1 + 1), aput y7233 true s6987.2)) else ((g_plan_row y6684.elems x1).bind fun y7286 => bif (!y7286) then some (.inr false) else some (.inl (wi64 (s3648.1 + 1), s6987.2))).map .inr
noncomputable def g_plan_lines_l1 (x0 : Plan) (x1 : (List (Port × Port))) (s3648 : Int × (List (Int × Bool))) : Option ((Int × (List (Int × Bool))) ⊕ Bool) :=
 bif decide (s3648.1 < (x0.lines.length : Int)) then (idx x0.lines s3648.1).bind fun y6684 => bif ((y6684.elems.length : Int) == 0) then some (.inr false) else loopR (g_plan_lines_l2 x0 x1 s3648 y6684) (0, s3648.2) else some (.inr true)
noncomputable def g_plan_lines (x0 : Plan) (x1 : (List (Port × Port))) : Option Bool :=
 loopR (g_plan_lines_l1 x0 x1) (0, [])
theorem f_plan_lines (x0 : Plan) (x1 : (List (Port × Port))) (r : Bool) (h : g_plan_lines x0 x1 = some r) : Fun Tryz.prog 168 [.agg (planC x0), .map (mapD (fun x => .agg (portC x)) (fun x => .agg (portC x)) x1)] (· = .bool r) := by
 refine fn env_ok Tryz.func168 rfl rfl 61 rfl [.tmp 4] rfl [(0, .p (.agg (planC x0))), (1, .p (.map (mapD (fun x => .agg (portC x)) (fun x => .agg (portC x)) x1)))] rfl rfl fun A hA => ?_
 unfold g_plan_lines at h
 refine rs env_ok <| rl rfl <| rs env_ok <| rl rfl <| dwp_seq <| rs env_ok <| rn 2 rfl ?_
 refine sx rfl (o_len rfl rfl ?_)
 refine rl rfl <| dwp_block ?_
 apply lp (a := r) (fun s3648 : (Int × (List (Int × Bool))) => ⟨61, [(1, .p (.map (mapD (fun x => .agg (portC x)) (fun x => .agg (portC x)) x1))), (2, .lpb 0 0), (5, .lmap 1), (12, ls 2 lineC x0.lines), (13, li (x0.lines.length : Int)), (14, li s3648.1)], [(0, .box [ls 3 elemC x0.elems, ls 4 joinC x0.joins, ls 4 signalC x0.signals, ls 2 lineC x0.lines, li x0.top, li x0.brake, li x0.margin, li x0.throw, lb x0.hard]), (1, .map (mapD (.int .i64) .bool s3648.2))], 2⟩) h <;> clear h
 · exact wf hA [(0, 0), (1, 1)] rfl rfl rfl
 intro s3648 b6073 h6074
 unfold g_plan_lines_l1 at h6074
 refine rs env_ok <| rl rfl <| dwp_seq ?_
 refine cd rfl h6074 (fun h6077 => ?_) (fun h7292 => ?_) <;> clear h6074
 ·refine dwp_skip <| thenD_n <| dwp_seq <| dwp_block <| rs env_ok ?_
  obtain ⟨y6684, ey6684, h6685⟩ := bd h6077; clear h6077
  refine sx rfl (o_idx ey6684 rfl rfl rfl ?_)
  refine rl rfl <| dwp_seq <| rs env_ok <| rn 2 rfl ?_
  refine sx rfl (o_len rfl rfl ?_)
  refine rl rfl ?_
  refine cd rfl h6685 (fun h6688 => ?_) (fun h6691 => ?_) <;> clear h6685
  ·refine rs env_ok <| rl rfl <| dwp_ret <| thenD_r <| inB_r <| thenD_r ?_
   obtain ⟨a6689, h6690, rfl⟩ := mps h6688; clear h6688
   refine lpt <| inB_r <| thenD_r ?_
   cases h6690
   exact er rfl Le.rfl
  ·refine dwp_skip <| thenD_n <| dwp_seq <| rs env_ok <| rn 2 rfl ?_
   refine sx rfl (o_len rfl rfl ?_)
   refine rl rfl <| dwp_block ?_
   apply lp (a := b6073) (fun s6987 : (Int × (List (Int × Bool))) => ⟨61, [(1, .p (.map (mapD (fun x => .agg (portC x)) (fun x => .agg (portC x)) x1))), (2, .lpb 0 0), (5, .lmap 1), (7, .lpb 2 0), (12, ls 2 lineC x0.lines), (13, li (x0.lines.length : Int)), (14, li s3648.1), (23, ls 1 intC y6684.elems), (24, li (y6684.elems.length : Int)), (25, li s6987.1)], [(0, .box [ls 3 elemC x0.elems, ls 4 joinC x0.joins, ls 4 signalC x0.signals, ls 2 lineC x0.lines, li x0.top, li x0.brake, li x0.margin, li x0.throw, lb x0.hard]), (1, .map (mapD (.int .i64) .bool s6987.2)), (2, .box [.p (.str y6684.name), ls 1 intC y6684.elems])], 3⟩) h6691 <;> clear h6691
   · exact wf hA (gi 3 []) rfl rfl rfl
   intro s6987 b7180 h7181
   unfold g_plan_lines_l2 at h7181
   refine rs env_ok <| rl rfl <| dwp_seq ?_
   refine cd rfl h7181 (fun h7184 => ?_) (fun h7281 => ?_) <;> clear h7181
   ·refine dwp_skip <| thenD_n <| dwp_seq <| dwp_block <| rs env_ok ?_
    obtain ⟨y7233, ey7233, h7234⟩ := bd h7184; clear h7184
    refine sx rfl (o_idx ey7233 rfl rfl rfl ?_)
    refine rl rfl <| dwp_seq ?_
    refine jb (fun t7264 : Bool => ⟨61, [(1, .p (.map (mapD (fun x => .agg (portC x)) (fun x => .agg (portC x)) x1))), (2, .lpb 0 0), (5, .lmap 1), (7, .lpb 2 0), (9, li y7233), (12, ls 2 lineC x0.lines), (13, li (x0.lines.length : Int)), (14, li s3648.1), (23, ls 1 intC y6684.elems), (24, li (y6684.elems.length : Int)), (25, li s6987.1), (51, lb t7264)], [(0, .box [ls 3 elemC x0.elems, ls 4 joinC x0.joins, ls 4 signalC x0.signals, ls 2 lineC x0.lines, li x0.top, li x0.brake, li x0.margin, li x0.throw, lb x0.hard]), (1, .map (mapD (.int .i64) .bool s6987.2)), (2, .box [.p (.str y6684.name), ls 1 intC y6684.elems])], 3⟩) h7234 (fun t7264 h7265 => ?_) (fun t7264 h7274 => ?_) <;> clear h7234
    ·refine rg env_ok <| rn 3 rfl ?_
     refine gs 31 h7265 rfl rfl rfl (fun h7266 => ?_) (fun h7267 => ?_) <;> clear h7265
     ·refine rl rfl ?_
      cases h7266
      exact npn (wf hA (gi 3 []) rfl rfl rfl)
     ·refine rn 3 rfl ?_
      refine sx rfl (o_len rfl rfl ?_)
      refine rn 3 rfl ?_
      refine gs 38 h7267 rfl rfl rfl (fun h7268 => ?_) (fun h7269 => ?_) <;> clear h7267
      ·refine rl rfl ?_
       cases h7268
       exact npn (wf hA (gi 3 []) rfl rfl rfl)
      ·refine rn 3 rfl ?_
       obtain ⟨y7270, ey7270, h7271⟩ := bd h7269; clear h7269
       refine sx rfl (o_idx ey7270 rfl rfl rfl ?_)
       refine rn 5 rfl ?_
       refine gs 47 h7271 rfl rfl rfl (fun h7272 => ?_) (fun h7273 => ?_) <;> clear h7271
       ·refine rl rfl ?_
        cases h7272
        exact npn (wf hA (gi 3 []) rfl rfl rfl)
       ·refine rn 2 rfl ?_
        refine sx rfl (o_lk1 (et := 4) (ke := (.int .i64)) (ve := .bool) (mp := s6987.2) (y := y7233) false keyE_3 rfl rfl rfl rfl ?_)
        refine rl rfl ?_
        cases h7273
        exact npn (wf hA (gi 3 []) rfl rfl rfl)
    ·refine cd rfl h7274 (fun h7275 => ?_) (fun h7280 => ?_) <;> clear h7274
     ·refine rs env_ok <| rl rfl <| dwp_ret <| thenD_r <| inB_r <| thenD_r ?_
      obtain ⟨a7276, h7277, rfl⟩ := mps h7275; clear h7275
      refine lpt <| inB_r <| thenD_r <| inB_r <| thenD_r ?_
      obtain ⟨a7278, h7279, rfl⟩ := mps h7277; clear h7277
      refine lpt <| inB_r <| thenD_r ?_
      cases h7279
      exact er rfl Le.rfl
     ·refine dwp_skip <| thenD_n <| rg env_ok <| rn 2 rfl ?_
      refine sx rfl (o_mup (et := 4) (ke := (.int .i64)) (ve := .bool) (mp := s6987.2) (y := y7233) (z := true) keyE_3 rfl rfl rfl rfl rfl rfl ?_)
      refine rl rfl <| inB_n <| thenD_n <| rg env_ok <| rl rfl ?_
      cases h7280
      exact lpn (wf hA (gi 3 []) rfl rfl rfl)
   ·refine dwp_exit <| thenD_x ?_
    obtain ⟨a7282, h7283, rfl⟩ := mp h7281; clear h7281
    refine lpx <| inB_x <| thenD_n <| rs env_ok <| rn 3 rfl ?_
    obtain ⟨y7286, ey7286, h7287⟩ := bd h7283; clear h7283
    refine sx rfl (o_call (f_plan_row _ _ _ ey7286) (.inl rfl) rfl rfl rfl ?_)
    refine rl rfl ?_
    refine cd rfl h7287 (fun h7288 => ?_) (fun h7291 => ?_) <;> clear h7287
    ·refine rs env_ok <| rl rfl <| dwp_ret <| inB_r <| thenD_r ?_
     obtain ⟨a7289, h7290, rfl⟩ := mps h7288; clear h7288
     refine lpt <| inB_r <| thenD_r ?_
     cases h7290
     exact er rfl Le.rfl
    ·refine dwp_skip <| inB_n <| thenD_n <| rg env_ok <| rl rfl ?_
     cases h7291
     exact lpn (wf hA [(0, 0), (1, 1)] rfl rfl rfl)
 ·refine dwp_exit <| thenD_x ?_
  obtain ⟨a7293, h7294, rfl⟩ := mps h7292; clear h7292
  refine lpx <| inB_x <| thenD_n <| rs env_ok <| rl rfl <| dwp_ret ?_
  cases h7294
  exact er rfl Le.rfl
end Go.E
