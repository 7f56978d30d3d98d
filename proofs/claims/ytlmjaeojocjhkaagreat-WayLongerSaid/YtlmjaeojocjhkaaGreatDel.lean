/- slices.Delete at elements of k cells: what it gives back and what it leaves in the row. For i up to j up to the length. -/
import Derived.Shelf.SlLaysE0
import Derived.Shelf.RegionOpenPlain
import Derived.WalkKit
import Derived.Deep.LoopGhost
import Derived.Deep.RegionLaw
import Derived.Lib.Walk
import Derived.Sort.WalkB12
import Derived.Lib.SliceRun
import Derived.Lib.SlicesDelete
namespace Go.E
open Go Go.Shelf Go.RowKit Go.Lib Go.Sort Go.Proofs
variable {P : Program} {ρ : Ren}

theorem some_setCells (b : Nat) : ∀ (vs : List Value) (o : Nat) (w : World) (x : Addr), (w.cell? x).isSome = true → ((w.setCells b o vs).cell? x).isSome = true
  | [], _, _, _, h => h
  | v :: r, o, w, x, h => by
    rw [World.setCells]
    refine some_setCells b r _ _ _ ?_
    by_cases e : (⟨b, o, none⟩ : Addr) = x
    · subst e
      obtain ⟨u, hu⟩ := Option.isSome_iff_exists.1 h
      rw [World.cell?_setCell_same _ _ _ hu]; rfl
    · rw [World.cell?_setCell_other _ _ _ _ e]; exact h

theorem run_clear_k (w : World) (t e ty : TypeId) (z : Value) (ht : P.underlying t = some (.slice e)) (hv : ∀ w, (zeroValue e).run P w = .ok z w) (zs : List Value) (n : Nat) (hn : 0 < n)
    (hz : (Builtin.zeroCells z.cells n).toList = zs) (h1 : ∀ v ∈ zs, v.oneCell' = true) (b o c : Nat)
    (hc : ∀ j, j < zs.length → (w.cell? ⟨b, o + j, none⟩).isSome = true) (hf : ∀ j, j < zs.length → w.frozen? ⟨b, o + j, none⟩ = false) :
    (Builtin.clear_ #[t] ty #[.slice (some ⟨b, o, none⟩) n c]).run P w = .ok (.tuple #[]) (w.setCells b o zs) := by
  have hst := run_storeCells_cells (P := P) b o zs 0 w (by simpa using hc) (by simpa using hf) h1
  simp only [Nat.add_zero] at hst
  obtain ⟨m, rfl⟩ : ∃ m, n = m + 1 := ⟨n - 1, by omega⟩
  simp [Builtin.clear_, run_underlying ht, hv, hz, hst]

set_option maxHeartbeats 4000000 in
set_option maxRecDepth 1000000 in
theorem run_delete (L : SlLaysE0.n45 P ρ) (k : Nat) (zE : ∀ w, (Go.sizeOf (ρ.t 23)).run P w = .ok k w) (z : Value) (hz : ∀ w, (zeroValue (ρ.t 23)).run P w = .ok z w) (i0 : TypeInfo) (hi0 : P.info? (ρ.t 23) = some i0) (hk0 : i0.size = k)
    (zs : List Value) (blk off n cap i j : Nat) (w : World) (cs : List Value) (hcs : cs.length = n * k) (hcell : ∀ t u, cs[t]? = some u → w.cell? ⟨blk, off + t, none⟩ = some u) (hfr : ∀ t, t < n * k → w.frozen? ⟨blk, off + t, none⟩ = false)
    (h1 : ∀ u ∈ cs, u.oneCell' = true) (hzs : (Builtin.zeroCells z.cells (n - (i + (n - j)))).toList = zs) (hzl : zs.length = (n - (i + (n - j))) * k) (hz1 : ∀ u ∈ zs, u.oneCell' = true)
    (hcap : n ≤ cap) (hm : cap ≤ 9223372036854775807) (hij : i < j) (hj : j ≤ n) :
    Calls P (ρ.f 45) #[.slice (some ⟨blk, off, none⟩) n cap, .int .i64 i, .int .i64 j] w fun e w' => e = .returned (.slice (some ⟨blk, off, none⟩) (n - (j - i)) cap) ∧
      w' = (w.drew.setCells blk (off + i * k) (cs.drop (j * k))).setCells blk (off + (i + (n - j)) * k) zs := by
  have mixed := L.mixed; have t0 := L.t0; have a0 := L.a0; have z0 := L.z0; have v0 := L.v0; have t3 := L.t3; have a3 := L.a3; have z3 := L.z3; have v3 := L.v3; have t4 := L.t4; have a4 := L.a4; have z4 := L.z4; have v4 := L.v4; have t22 := L.t22; have a22 := L.a22; have z22 := L.z22; have v22 := L.v22
  have hjk : j * k ≤ n * k := Nat.mul_le_mul_right _ hj
  have hik : i * k ≤ j * k := Nat.mul_le_mul_right _ (by omega)
  obtain ⟨news, hnews⟩ : ∃ news, news = cs.drop (j * k) := ⟨_, rfl⟩
  have hlen : news.length = (n - j) * k := by rw [hnews, List.length_drop, hcs, Nat.sub_mul]
  obtain ⟨A, hA, hsrc⟩ : ∃ A : Addr, (if cap = j then some (⟨blk, off, none⟩ : Addr) else some ⟨blk, off + j * k, none⟩) = some A ∧ Go.RowKit.Hid (∀ t u, news[t]? = some u → w.drew.cell? (A.add t) = some u) := by
    by_cases h : cap = j
    · refine ⟨⟨blk, off, none⟩, by simp [h], fun t u hu => ?_⟩
      have h0 : news.length = 0 := by rw [hlen, show n - j = 0 by omega, Nat.zero_mul]
      rw [List.length_eq_zero_iff.1 h0] at hu
      simp at hu
    · refine ⟨⟨blk, off + j * k, none⟩, by simp [h], fun t u hu => ?_⟩
      rw [hnews, List.getElem?_drop] at hu
      rw [Addr.add_lit, show off + j * k + t = off + (j * k + t) by omega]
      exact hcell _ _ hu
  have s1 : Go.RowKit.Hid (news.length = (n - j) * k) := hlen
  have s2 : Go.RowKit.Hid (∀ u ∈ news, u.oneCell' = true) := fun u hu => h1 u (by rw [hnews] at hu; exact List.mem_of_mem_drop hu)
  have hsome : ∀ t, t < n * k → (w.cell? ⟨blk, off + t, none⟩).isSome = true := fun t ht => by
    rw [hcell t _ (List.getElem?_eq_getElem (by rw [hcs]; exact ht))]; rfl
  have s3 : Go.RowKit.Hid (∀ t, t < news.length → (w.drew.cell? ⟨blk, off + i * k + t, none⟩).isSome = true ∧ w.drew.frozen? ⟨blk, off + i * k + t, none⟩ = false) := by
    intro t ht
    rw [hlen, Nat.sub_mul] at ht
    rw [Nat.add_assoc]
    exact ⟨hsome _ (by omega), hfr _ (by omega)⟩
  obtain ⟨W1, hW1⟩ : ∃ W1, W1 = w.drew.setCells blk (off + i * k) news := ⟨_, rfl⟩
  have hcl : ∀ ty, (Builtin.clear_ #[ρ.t 22] ty #[.slice (some ⟨blk, off + (i + (n - j)) * k, none⟩) (n - (i + (n - j))) (cap - (i + (n - j)))]).run P W1 = .ok (.tuple #[]) (W1.setCells blk (off + (i + (n - j)) * k) zs) := by
    intro ty
    have hb : (i + (n - j)) * k + zs.length = n * k := by rw [hzl, ← Nat.add_mul]; congr 1; omega
    refine run_clear_k W1 _ _ ty z t22 hz zs _ (by omega) hzs hz1 blk _ _ (fun t ht => ?_) (fun t ht => ?_)
    · rw [hW1]
      refine some_setCells _ _ _ _ _ ?_
      rw [Nat.add_assoc]; exact hsome _ (by omega)
    · rw [hW1, World.frozen?_setCells, Nat.add_assoc]
      exact hfr _ (by omega)
  have hN : Go.RowKit.Hid (news = cs.drop (j * k)) := hnews
  have hW : Go.RowKit.Hid (W1 = w.drew.setCells blk (off + i * k) news) := hW1
  have hic : i ≤ cap := by omega
  have hjc : j ≤ cap := by omega
  clear hW1 hnews hlen hcell hfr h1 hz1 hzl hzs hcs hsome
  obtain ⟨_, _, FG⟩ := L.f45
  go_enter FG, SlBodyN.n45_ntmps ρ
  go_wp2_with fail
  go_region_law_o (refine step_append_room rfl (.tmp 22) (.tmp 25) (ρ.t 22) rfl (ρ.t 23) i0 k t22 hi0 hk0 blk off i cap (by simp [Act.eval, Act.put]) A (n - j) (cap - j) news (by simp [Act.eval, Act.put]) s1.out hsrc.out s2.out (by omega) s3.out ?_; rw [← hW.out])
  go_wp2
  go_ret
  refine ⟨?_, ?_⟩
  · rw [show n - (j - i) = i + (n - j) by omega]; rfl
  · rw [hW.out, hN.out]

set_option maxHeartbeats 4000000 in
set_option maxRecDepth 1000000 in
theorem run_delete0 (L : SlLaysE0.n45 P ρ) (k : Nat) (zE : ∀ w, (Go.sizeOf (ρ.t 23)).run P w = .ok k w) (ad : Option Addr) (n cap i : Nat) (w : World) (hcap : n ≤ cap) (hm : cap ≤ 9223372036854775807) (hi : i ≤ n) :
    Calls P (ρ.f 45) #[.slice ad n cap, .int .i64 i, .int .i64 i] w fun e w' => e = .returned (.slice ad n cap) ∧ w' = w := by
  have mixed := L.mixed; have t0 := L.t0; have a0 := L.a0; have z0 := L.z0; have v0 := L.v0; have t3 := L.t3; have a3 := L.a3; have z3 := L.z3; have v3 := L.v3; have t4 := L.t4; have a4 := L.a4; have z4 := L.z4; have v4 := L.v4; have t22 := L.t22; have a22 := L.a22; have z22 := L.z22; have v22 := L.v22
  obtain ⟨_, _, FG⟩ := L.f45
  go_enter FG, SlBodyN.n45_ntmps ρ
  go_wp2
  all_goals (go_ret; exact ⟨rfl, rfl⟩)
end Go.E
