/- slices.Delete as a call out of a data state: the row goes on under a new name. For an own slice, i up to j up to its length. -/
import Derived.Test.YtilbadmonidmhaaGreatDel
import Derived.Shelf.Sort.Plain
import Derived.Shelf.Slices.In.SortNone
import Derived.Shelf.Slices.CompactI
import Derived.Lib.RowBridge
import Derived.ScopeJumps
import Derived.Shelf.SlMaps.Clone
import Derived.Test.YtilbadmonidmhaaGreatJ2
set_option linter.unusedVariables false
set_option linter.unusedSimpArgs false
namespace Go.E
open Go Go.RowKit Go.Shelf Go.Proofs
theorem E2 (b : Nat) : ∀ (vs : List Value) (o : Nat) (w : World) (c : Array Value) (e : TypeId), w.heap[b]? = some (.cells c e (0, 0)) -> o + vs.length <= c.size ->
  ∃ c', (w.setCells b o vs).heap[b]? = some (.cells c' e (0, 0)) /\ c'.size = c.size /\ ∀ t, c'[t]? = if o <= t /\ t < o + vs.length then vs[t - o]? else c[t]?
 | [], o, w, c, e, h, _ => ⟨c, h, rfl, fun t => by rw [if_neg (by simp)]⟩
 | v :: r, o, w, c, e, h, hl => by
  simp only [List.length_cons] at hl
  have hb : (w.setCell ⟨b, o, none⟩ v).heap[b]? = some (.cells (c.setIfInBounds o v) e (0, 0)) := by
   simp [World.setCell, Array.getElem?_modify, h]
  obtain ⟨c', h1, h2, h3⟩ := E2 b r (o + 1) _ _ e hb (by simp; omega)
  refine ⟨c', h1, by rw [h2]; simp, fun t => ?_⟩
  rw [h3 t]
  simp only [List.length_cons]
  by_cases h4 : t = o
  .subst h4
   rw [if_neg (by omega), if_pos (by omega), Array.getElem?_setIfInBounds, if_pos rfl, if_pos (by omega)]
   simp
  by_cases h5 : o + 1 <= t /\ t < o + 1 + r.length
  .rw [if_pos h5, if_pos (by omega)]
   rw [show t - o = t - (o + 1) + 1 by omega, List.getElem?_cons_succ]
  rw [if_neg h5, if_neg (by omega), Array.getElem?_setIfInBounds, if_neg (fun e => h4 e.symm)]
theorem Ge (b : Nat) : ∀ (vs : List Value) (o : Nat) (w : World), (w.setCells b o vs).heap.size = w.heap.size
 | [], _, _ => rfl
 | v :: r, o, w => by rw [World.setCells, Ge b r]; simp [World.setCell]
theorem Hx (b : Nat) : ∀ (vs : List Value) (o : Nat) (w : World), (w.setCells b o vs).os = w.os
 | [], _, _ => rfl
 | v :: r, o, w => by rw [World.setCells, Hx b r]; rfl
theorem Gf (b : Nat) : ∀ (vs : List Value) (o : Nat) (w : World), (w.setCells b o vs).tape = w.tape
 | [], _, _ => rfl
 | v :: r, o, w => by rw [World.setCells, Gf b r]; rfl
theorem Fe (b : Nat) : ∀ (vs : List Value) (o : Nat) (w : World), (w.setCells b o vs).output = w.output
 | [], _, _ => rfl
 | v :: r, o, w => by rw [World.setCells, Fe b r]; rfl
theorem GB (b : Nat) : ∀ (vs : List Value) (o : Nat) (w : World) (q : Nat), q ≠ b -> (w.setCells b o vs).heap[q]? = w.heap[q]?
 | [], _, _, _, _ => rfl
 | v :: r, o, w, q, h => by
  rw [World.setCells, GB b r _ _ q h]
  simp only [World.setCell, Array.getElem?_modify]
  rw [if_neg (fun e => h e.symm)]
variable {P : Program} {ρ : Ren} {AB : A4} {A : BF}
theorem Vz {e : Nat} {te : TI} (hok : Fo P e te) (hsz : 0 < te.size) : ∃ z i, (∀ w, (zeroValue e).run P w = .ok z w) /\ P.info? e = some i /\ i.size = te.size /\
  ∀ n, (Builtin.zeroCells z.cells n).toList.length = n * te.size /\ ∀ u ∈ (Builtin.zeroCells z.cells n).toList, u.oneCell' = true := by
 obtain ⟨i, z, hi, hs, hb, hz, hzs, hm, _⟩ := hok.info
 obtain ⟨h1, h2⟩ := K0 hm
 refine ⟨z, i, fun w => by simp [zeroValue, typeInfo, hi, hz], hi, hs, fun n => ⟨by simp [Builtin.zeroCells, hzs], fun u hu => ?_⟩⟩
 simp only [Builtin.zeroCells, Array.toList_map, List.mem_map] at hu
 obtain ⟨t, _, rfl⟩ := hu
 have hlt : t % z.cells.size < z.cells.size := Nat.mod_lt _ (by omega)
 rw [getElem!_pos z.cells _ hlt]
 have hd : ∃ d, te.zero[t % z.cells.size]? = some d := ⟨te.zero[t % z.cells.size]'(by rw [<- h1]; simpa using hlt), List.getElem?_eq_getElem _⟩
 obtain ⟨d, hd⟩ := hd
 have hc := h2 (t % z.cells.size) _ d (by rw [Array.getElem?_toList]; exact Array.getElem?_eq_getElem hlt) hd
 obtain ⟨k1, k2⟩ := ES hc (fun _ => True) default
 exact (k1.oneCell k2).1
theorem V0 (hE : A8 P AB) (L : SlLaysE0.n45 P ρ) {e : Nat} {te : TI} (he : ρ.t 23 = e) (h3 : AB.tt e = some te) (hsz : 0 < te.size) {h : AO} {ctr id off len i j : Nat} {elems : List (List DV)}
  (hl : AE id h = some (.row e te.size elems)) (hfit : off + len <= elems.length) (hone : ∀ y ∈ (elems.drop off).take len, y.all DV.cell = true) (hij : i <= j) (hj : j <= len) {F : Nat -> Prop} {μ : Nat -> Option Ba} {w : World} {v0 : Value}
  (hh : HRel A μ h F w) (hc : F ctr) (h0 : Aa (Ac A μ h) μ w v0 (.lsl id te.size off len)) :
  Calls P (ρ.f 45) #[v0, .int .i64 i, .int .i64 j] w fun en w' => ∃ u μ', en = .returned u /\ HRel A μ' ((ctr, A9.row e te.size (((elems.drop off).take len).take i ++ ((elems.drop off).take len).drop j)) :: D7 id h) (fun q => F q /\ q ≠ ctr) w' /\ Aa (Ac A μ' ((ctr, A9.row e te.size (((elems.drop off).take len).take i ++ ((elems.drop off).take len).drop j)) :: D7 id h)) μ' w' u (.lsl ctr te.size 0 (len - (j - i))) /\ ∀ v x, Aa (Ac A μ h) μ w v x -> Aa (Ac A μ' ((ctr, A9.row e te.size (((elems.drop off).take len).take i ++ ((elems.drop off).take len).drop j)) :: D7 id h)) μ' w' v x := by
 have hok := hE.tt e te h3
 have hno := hh.fresh ctr hc
 have hsub : ∀ (o : A9) q x, AE q ((ctr, o) :: D7 id h) = some x -> (q = ctr /\ x = o) \/ AE q h = some x := fun o q x hx => by
  simp only [AE] at hx
  split at hx
  .cases hx; exact .inl ⟨‹_›, rfl⟩
  exact .inr (FH hx).2
 obtain ⟨sz, hs0⟩ : ∃ sz, te.size = sz := ⟨_, rfl⟩
 rw [hs0] at hl h0 hsz ⊢
 cases h0 with
 | lsln _ loc hm hn =>
  have : j = 0 := by omega
  subst this
  have : i = 0 := by omega
  subst this
  have hnil : ((elems.drop 0).take 0).take 0 ++ ((elems.drop 0).take 0).drop 0 = ([] : List (List DV)) := by simp
  rw [hnil]
  refine (run_delete0 L loc.sz (fun w => by rw [he, <- hs0]; exact hok.run_sizeOf w) none 0 0 0 w (by omega) (by omega) (by omega)).mono ?_
  rintro en w' ⟨rfl, rfl⟩
  let lc : Ba := ⟨true, 0, 0, loc.sz, 0⟩
  have hadd := hh.add hno lc (.row e loc.sz []) _ (fun h => by cases h) (fun h => by cases h) (hsub _) (BW.refl _ _) (fun q x l hx hne hm hn => rfl) rfl rfl rfl ⟨rfl, by simp, .inl ⟨rfl, rfl⟩⟩
  exact ⟨_, _, rfl, hadd, .lsln ctr lc (by simp [Bt]) rfl, fun v x hv => hv.mono (BW.refl _ _) (hh.sub_add lc _ _ (fun h => by cases h) (hsub _)) (G1 hno lc)⟩
 | lsl _ _ _ cap ad loc hm hn hcap hlc had hbk hsp =>
  obtain ⟨loc', hm', hz, hel, hrow⟩ := hh.obj id _ hl
  rw [hm] at hm'; cases hm'
  rcases hrow with ⟨hn', _⟩ | ⟨_, c, hblk, hcs, hle, hcm, hrel⟩
  .rw [hn] at hn'; cases hn'
  have hlt := (hh.base id _ loc hl hm hn).1
  have hlen : ((elems.drop off).take len).length = len := by simp; omega
  have elt : ∀ q, q < len -> ((elems.drop off).take len)[q]? = elems[off + q]? := fun q hq => by rw [List.getElem?_take, if_pos hq, List.getElem?_drop]
  have hlen' : (((elems.drop off).take len).take i ++ ((elems.drop off).take len).drop j).length = len - (j - i) := by
   rw [List.length_append, List.length_take, List.length_drop, hlen]; omega
  have fin : ∀ (w' : World) (c' : Array Value), w'.heap[loc.b]? = some (.cells c' e (0, 0)) -> c'.size = c.size -> w'.heap.size = w.heap.size -> (∀ b, b ≠ loc.b -> w'.heap[b]? = w.heap[b]?) -> w'.os = w.os -> w'.tape = w.tape -> w'.output = w.output ->
    (∀ q m, q < i -> m < loc.sz -> c'[loc.o + (off + q) * loc.sz + m]? = c[loc.o + (off + q) * loc.sz + m]?) ->
    (∀ q m, q < len - j -> m < loc.sz -> c'[loc.o + (off + (i + q)) * loc.sz + m]? = c[loc.o + (off + (j + q)) * loc.sz + m]?) ->
    ∃ u μ', Ending.returned (.slice (some ad) (len - (j - i)) cap) = .returned u /\ HRel A μ' ((ctr, A9.row e loc.sz (((elems.drop off).take len).take i ++ ((elems.drop off).take len).drop j)) :: D7 id h) (fun q => F q /\ q ≠ ctr) w' /\ Aa (Ac A μ' ((ctr, A9.row e loc.sz (((elems.drop off).take len).take i ++ ((elems.drop off).take len).drop j)) :: D7 id h)) μ' w' u (.lsl ctr loc.sz 0 (len - (j - i))) /\ ∀ v x, Aa (Ac A μ h) μ w v x -> Aa (Ac A μ' ((ctr, A9.row e loc.sz (((elems.drop off).take len).take i ++ ((elems.drop off).take len).drop j)) :: D7 id h)) μ' w' v x := by
   intro w' c' hw' hc' hwsz hoth hos htape hout hold hmov
   let lc : Ba := ⟨false, loc.b, loc.o + off * loc.sz, loc.sz, cap⟩
   have hdead : AE id ((ctr, A9.row e loc.sz (((elems.drop off).take len).take i ++ ((elems.drop off).take len).drop j)) :: D7 id h) = none := by
    simp only [AE]
    rw [if_neg (fun e => by subst e; rw [hm] at hno; cases hno)]
    exact FJ
   have hfresh : JX μ h ((ctr, A9.row e loc.sz (((elems.drop off).take len).take i ++ ((elems.drop off).take len).drop j)) :: D7 id h) w lc := fun _ => .inr ⟨id, _, loc, hl, hdead, hm, hn, rfl⟩
   have hkept : BW (Bx μ h) w w' := ⟨by omega, fun b _ hmine => hoth b fun e => hmine ⟨id, _, loc, hl, hm, hn, e.symm⟩⟩
   have hs := hh.sub_add lc _ _ hfresh (hsub _)
   have hadd := hh.add hno lc _ _ (w' := w') (fun _ => by rw [hwsz]; exact hlt) hfresh (hsub _) hkept (fun q x l hx hne hmq hnq => by
    simp only [AE] at hx
    rw [if_neg hne] at hx
    obtain ⟨h7, h8⟩ := FH hx
    exact hoth _ fun e => h7 (hh.inj _ _ _ _ _ _ h8 hl hmq hm hnq hn e)) hos htape hout ⟨rfl, fun y hy => by
     rcases List.mem_append.1 hy with hy | hy
     .exact hel y (List.mem_of_mem_drop (List.mem_of_mem_take (List.mem_of_mem_take hy)))
     exact hel y (List.mem_of_mem_drop (List.mem_of_mem_take (List.mem_of_mem_drop hy))), .inr ⟨rfl, c', hw', by rw [hc', hcs, <- hcap, Nat.add_mul]; simp only [lc]; omega, by rw [hlen']; simp only [lc]; omega, by simp only [lc]; omega, fun q m y d v hy hd hv => by
     simp only [lc] at hv
     have hyl : y.length = loc.sz := by
      rcases List.mem_append.1 (List.mem_of_getElem? hy) with hy | hy
      .exact hel y (List.mem_of_mem_drop (List.mem_of_mem_take (List.mem_of_mem_take hy)))
      exact hel y (List.mem_of_mem_drop (List.mem_of_mem_take (List.mem_of_mem_drop hy)))
     have hm' : m < loc.sz := by have := (List.getElem?_eq_some_iff.1 hd).1; omega
     have hq := (List.getElem?_eq_some_iff.1 hy).1
     rw [hlen'] at hq
     rw [List.getElem?_append] at hy
     have hl1 : (((elems.drop off).take len).take i).length = i := by rw [List.length_take, hlen]; omega
     rw [hl1] at hy
     have e1 : loc.o + off * loc.sz + q * loc.sz + m = loc.o + (off + q) * loc.sz + m := by rw [Nat.add_mul]; omega
     rw [e1] at hv
     by_cases hqi : q < i
     .rw [if_pos hqi, List.getElem?_take, if_pos hqi, elt q (by omega)] at hy
      rw [hold q m hqi hm'] at hv
      exact (hrel (off + q) m y d v hy hd hv).mono hkept.own hs
     rw [if_neg hqi, List.getElem?_drop, elt _ (by omega)] at hy
     have := hmov (q - i) m (by omega) hm'
     rw [show i + (q - i) = q by omega] at this
     rw [this] at hv
     exact (hrel (off + (j + (q - i))) m y d v hy hd hv).mono hkept.own hs⟩⟩
   refine ⟨_, _, rfl, hadd, ?_, fun v x hv => hv.mono hkept.own hs (G1 hno lc)⟩
   refine .lsl ctr 0 _ cap ad lc (by simp [Bt]) rfl (by simp [lc]) (by omega) (fun h0 => ?_) hbk hsp
   rw [had h0]; simp [lc]
  by_cases hne : i = j
  .subst hne
   have hm0 : maxLen <= 9223372036854775807 := by decide
   have hm2 : cap <= 9223372036854775807 := by omega
   refine (run_delete0 L loc.sz (fun w => by rw [he, <- hs0]; exact hok.run_sizeOf w) (some ad) len cap i w hlc hm2 hj).mono ?_
   rintro e' w' ⟨rfl, rfl⟩
   have := fin w' c hblk rfl rfl (fun _ _ => rfl) rfl rfl rfl (fun _ _ _ _ => rfl) (fun _ _ _ _ => rfl)
   simp only [Nat.sub_self, Nat.sub_zero] at this ⊢
   exact this
  have hlt' : i < j := by omega
  have had' := had (by omega)
  subst had'
  obtain ⟨z, i0, hz1, hz2, hz3, hz4⟩ := Vz hok (by omega)
  rw [hs0] at hz3 hz4
  obtain ⟨hz5, hz6⟩ := hz4 (len - (i + (len - j)))
  have hm0 : maxLen <= 9223372036854775807 := by decide
  have hm2 : cap <= 9223372036854775807 := by omega
  have hin : ∀ t, t < len * loc.sz -> loc.o + off * loc.sz + t < c.size := fun t ht => by
   have : (off + len) * loc.sz <= loc.cap * loc.sz := Nat.mul_le_mul_right _ (by omega)
   rw [Nat.add_mul] at this; omega
  obtain ⟨cs, hcsd⟩ : ∃ cs, cs = (List.range (len * loc.sz)).map fun t => c.getD (loc.o + off * loc.sz + t) undef := ⟨_, rfl⟩
  have hcsl : cs.length = len * loc.sz := by rw [hcsd]; simp
  have hcsg : ∀ t u, cs[t]? = some u -> t < len * loc.sz /\ c[loc.o + off * loc.sz + t]? = some u := fun t u hu => by
   have ht := (List.getElem?_eq_some_iff.1 hu).1
   rw [hcsl] at ht
   refine ⟨ht, ?_⟩
   rw [hcsd] at hu
   simp only [List.getElem?_map, List.getElem?_range ht, Option.map_some, Option.some.injEq] at hu
   rw [<- hu, Array.getElem?_eq_getElem (hin t ht)]
   simp [Array.getD, hin t ht]
  have hrun := run_delete (P := P) L loc.sz (fun w => by rw [he, <- hs0]; exact hok.run_sizeOf w) z (fun w => by rw [he]; exact hz1 w) i0 (by rw [he]; exact hz2) hz3 _ loc.b (loc.o + off * loc.sz) len cap i j w cs hcsl
   (fun t u hu => Cb hblk (hcsg t u hu).2) (fun t _ => by simp [World.frozen?, hblk]) (fun u hu => by
    obtain ⟨t, ht⟩ := List.mem_iff_getElem?.1 hu
    obtain ⟨g1, g2⟩ := hcsg t u ht
    have q1 : t / loc.sz < len := Nat.div_lt_of_lt_mul (by rw [Nat.mul_comm]; exact g1)
    have q2 : t % loc.sz < loc.sz := Nat.mod_lt _ hsz
    have q3 := Nat.div_add_mod t loc.sz
    obtain ⟨y, hy⟩ : ∃ y, elems[off + t / loc.sz]? = some y := ⟨_, List.getElem?_eq_getElem (by omega)⟩
    have hyl := hel y (List.mem_of_getElem? hy)
    obtain ⟨d, hd⟩ : ∃ d, y[t % loc.sz]? = some d := ⟨_, List.getElem?_eq_getElem (by omega)⟩
    have hyc := hone y (List.mem_of_getElem? (i := t / loc.sz) (by rw [elt _ q1]; exact hy))
    refine ((hrel _ _ y d u hy hd ?_).oneCell (List.all_eq_true.1 hyc _ (List.mem_of_getElem? hd))).1
    rw [<- g2]; congr 1; rw [Nat.add_mul]; rw [Nat.mul_comm loc.sz] at q3; omega) rfl hz5 hz6 hlc hm2 hlt' hj
  refine hrun.mono ?_
  rintro e' w' ⟨rfl, hw'⟩
  have b1 : (i + (len - j)) * loc.sz + (len - (i + (len - j))) * loc.sz = len * loc.sz := by rw [<- Nat.add_mul]; congr 1; omega
  have b2 : i * loc.sz + (len - j) * loc.sz = (i + (len - j)) * loc.sz := (Nat.add_mul _ _ _).symm
  have b3 : (off + len) * loc.sz <= loc.cap * loc.sz := Nat.mul_le_mul_right _ (by omega)
  rw [Nat.add_mul] at b3
  have b4 : j * loc.sz + (len - j) * loc.sz = len * loc.sz := by rw [<- Nat.add_mul]; congr 1; omega
  have hdl : (cs.drop (j * loc.sz)).length = (len - j) * loc.sz := by rw [List.length_drop, hcsl]; omega
  obtain ⟨c1, k1, k2, k3⟩ := E2 loc.b (cs.drop (j * loc.sz)) (loc.o + off * loc.sz + i * loc.sz) w.drew c e hblk (by rw [hdl]; omega)
  obtain ⟨c2, m1, m2, m3⟩ := E2 loc.b (Builtin.zeroCells z.cells (len - (i + (len - j)))).toList (loc.o + off * loc.sz + (i + (len - j)) * loc.sz) _ c1 e k1 (by rw [hz5, k2]; omega)
  refine fin w' c2 (by rw [hw']; exact m1) (by rw [m2, k2]) ?_ ?_ ?_ ?_ ?_ ?_ ?_
  .rw [hw', Ge, Ge]; rfl
  .intro b hb; rw [hw', GB _ _ _ _ _ hb, GB _ _ _ _ _ hb]; rfl
  .rw [hw', Hx, Hx]; rfl
  .rw [hw', Gf, Gf]; rfl
  .rw [hw', Fe, Fe]; rfl
  .intro q m hq hmm
   have b5 : (q + 1) * loc.sz <= i * loc.sz := Nat.mul_le_mul_right _ hq
   rw [Nat.add_mul] at b5
   have b6 := Nat.add_mul off q loc.sz
   rw [m3, if_neg (by omega), k3, if_neg (by omega)]
  intro q m hq hmm
  have b5 : (q + 1) * loc.sz <= (len - j) * loc.sz := Nat.mul_le_mul_right _ hq
  rw [Nat.add_mul] at b5
  have b6 : loc.o + (off + (i + q)) * loc.sz + m = loc.o + off * loc.sz + i * loc.sz + (q * loc.sz + m) := by rw [Nat.add_mul, Nat.add_mul]; omega
  rw [m3, if_neg (by rw [b6]; omega), k3, if_pos (by rw [b6, hdl]; omega), b6, Nat.add_sub_cancel_left, List.getElem?_drop]
  have b7 : loc.o + (off + (j + q)) * loc.sz + m = loc.o + off * loc.sz + (j * loc.sz + (q * loc.sz + m)) := by rw [Nat.add_mul, Nat.add_mul]; omega
  have b8 : j * loc.sz + (q * loc.sz + m) < len * loc.sz := by omega
  obtain ⟨u, hu⟩ : ∃ u, cs[j * loc.sz + (q * loc.sz + m)]? = some u := ⟨_, List.getElem?_eq_getElem (by omega)⟩
  rw [hu, b7, (hcsg _ _ hu).2]
theorem XE (hE : A8 P AB) (L : SlLaysE0.n45 P ρ) {e : Nat} {te : TI} (he : ρ.t 23 = e) (h3 : AB.tt e = some te) (hsz : 0 < te.size) {h : AO} {ctr id i j : Nat} {elems : List (List DV)} (hl : AE id h = some (.row e te.size elems)) (hone : ∀ y ∈ elems, y.all DV.cell = true) (hij : i <= j) (hj : j <= elems.length) :
  IM P h ctr (ρ.f 45) [.lsl id te.size 0 elems.length, .p (.int .i64 i), .p (.int .i64 j)] (.lsl ctr te.size 0 (elems.length - (j - i))) ((ctr, .row e te.size (elems.take i ++ elems.drop j)) :: D7 id h) := by
 refine ⟨?_, fun A F μ w vs hh hc _ hsz' hr => ?_⟩
 .obtain ⟨nm, hn, hf⟩ := L.f45
  exact Gv hf rfl hn
 have hvs : ∃ a b c, vs = #[a, b, c] := by
  obtain ⟨l⟩ := vs
  match l, hsz' with
  | [a, b, c], _ => exact ⟨a, b, c, rfl⟩
 obtain ⟨v0, v1, v2, rfl⟩ := hvs
 have e1 := (hr 1 v1 _ rfl rfl).int_inv
 have e2 := (hr 2 v2 _ rfl rfl).int_inv
 have h0 := hr 0 v0 _ rfl rfl
 subst e1 e2
 have e0 : (elems.drop 0).take elems.length = elems := by simp
 have := V0 (off := 0) (len := elems.length) hE L he h3 hsz hl (by omega) (by rw [e0]; exact hone) hij hj hh hc h0
 rw [e0] at this
 exact this
def Rh {α : Type} (l : List α) (i j : Int) : Option (List α) := if 0 <= i /\ i <= j /\ j <= l.length then some (l.take i.toNat ++ l.drop j.toNat) else none
section
variable {α : Type} {enc : α -> List DV} {l r : List α} {i j : Int} {nt : Nat} {sl : List (Nat × LV)} {h h' : AO} {c d : Nat} {f : St -> Prop} {hf : Gw f}
theorem Xv (hE : A8 P AB) {k : Nat} (L : SlLaysE0.n45 P ρ) (hk : ρ.f 45 = k) {t e sz : Nat} (he : ρ.t 23 = e) {fo a1 a2 a3 : Operand} {args : Array Operand} {ts : Array TypeId} {id n : Nat}
  (hr : Rh l i j = some r) (hen : Qz enc sz) (hl : BU id h = some (.row e sz (l.map enc))) (hn : n = l.length) (hd : OD id h some = some h') (ht : Pp AB t e sz = true)
  (hfn : (CK fo, BG nt sl fo) = (true, .fn k [])) (ha : args.toList = [a1, a2, a3]) (h1 : BG nt sl a1 = .lsl id sz 0 n) (h2 : BG nt sl a2 = .p (.int .i64 i)) (h3 : BG nt sl a3 = .p (.int .i64 j)) (hcm : KT AB.calm (.lsl id sz 0 n) = true)
  (kk : f ⟨nt, (d, .lsl c sz 0 r.length) :: sl, (c, .row e sz (r.map enc)) :: h', c + 1⟩) : Fk P A AB ⟨nt, sl, h, c⟩ (some d) (.call ⟨.value fo, args, ts⟩) ⟨f, hf⟩ := by
 obtain ⟨ti, te, g1, g2, g3, g4, g5, g6⟩ := NW ht
 obtain ⟨hdl, hfn⟩ := Prod.mk.inj hfn
 rw [BI (h := h) (c := c)] at hfn h1 h2 h3
 rw [Kb, Option.some.injEq] at hd
 rw [BV] at hl
 subst g4 hn hd hk
 have haa : args = #[a1, a2, a3] := by rw [<- Array.toList_inj, ha]
 subst haa
 unfold Rh at hr
 split at hr
 .rename_i hb
  obtain ⟨b1, b2, b3⟩ := hb
  simp only [Option.some.injEq] at hr
  subst hr
  obtain ⟨i, rfl⟩ := Int.eq_ofNat_of_zero_le b1
  obtain ⟨j, rfl⟩ := Int.eq_ofNat_of_zero_le (Int.le_trans b1 b2)
  show (if CK fo = true then _ else _)
  rw [if_pos hdl]
  have hlen : (l.map enc).length = l.length := List.length_map ..
  refine ⟨.lsl c te.size 0 ((l.map enc).length - (j - i)), (c, .row e te.size ((l.map enc).take i ++ (l.map enc).drop j)) :: D7 id h, ⟨fo, _, [], rfl, hfn, ?_, fun q hq hn => ?_, fun b hb0 id' cells _ hi hbi hx => ?_⟩, ?_⟩
  .have := XE (P := P) (ctr := c) hE L he g3 g5 hl (fun y hy => by
    obtain ⟨x, _, rfl⟩ := List.mem_map.1 hy
    exact (hen x).2) (show i <= j by omega) (by rw [hlen]; omega)
   show IM P h c _ ([St.eval _ a1, St.eval _ a2, St.eval _ a3] ++ []) _ _
   rw [h1, h2, h3, List.append_nil, <- hlen]
   exact this
  .simp only [AE, hq, if_false, Iz, hn]; split <;> rfl
  .have hne : id' ≠ id := fun e2 => by
    have hb0' : AB.calm = some b := hb0
    rw [hb0'] at hcm
    simp only [KT] at hcm
    rw [e2, hcm] at hbi; cases hbi
   simp only [AE, hi, if_false]
   rw [DO hne]; exact hx
  have e1 : ((l.take i ++ l.drop j).map enc) = (l.map enc).take i ++ (l.map enc).drop j := by simp [List.map_take, List.map_drop]
  have e2 : (l.take i ++ l.drop j).length = (l.map enc).length - (j - i) := by simp; omega
  simp only [Int.toNat_natCast] at kk
  rw [e1, e2] at kk
  exact kk
 cases hr
end
end Go.E
/- slices.Sort and slices.Compact of an own row of whole numbers, as calls out of a data state. For rows of fewer than 2^62 numbers. -/
namespace Go.E
open Go Go.RowKit Go.Shelf Go.Proofs Go.Sort
def HT (n : Int) : List DV := [.int .i64 n]
def OX (x : Int) : List Int -> List Int
 | [] => [x]
 | y :: l => if x <= y then x :: y :: l else y :: OX x l
def Dl : List Int -> List Int
 | [] => []
 | x :: l => OX x (Dl l)
theorem NK (x : Int) : ∀ l, (OX x l).Perm (x :: l)
 | [] => .refl _
 | y :: l => by
  unfold OX
  split
  .exact .refl _
  exact ((NK x l).cons y).trans (.swap x y l)
theorem Ch : ∀ l, (Dl l).Perm l
 | [] => .refl _
 | x :: l => (NK x (Dl l)).trans ((Ch l).cons x)
theorem Qn (x : Int) : ∀ l, l.Pairwise (· <= ·) -> (OX x l).Pairwise (· <= ·)
 | [], _ => by simp [OX]
 | y :: l, h => by
  unfold OX
  rw [List.pairwise_cons] at h
  split
  .rename_i hxy
   refine List.pairwise_cons.2 ⟨fun z hz => ?_, List.pairwise_cons.2 h⟩
   rcases List.mem_cons.1 hz with rfl | hz
   .exact hxy
   exact Int.le_trans hxy (h.1 z hz)
  rename_i hxy
  refine List.pairwise_cons.2 ⟨fun z hz => ?_, Qn x l h.2⟩
  rcases List.mem_cons.1 ((NK x l).mem_iff.1 hz) with rfl | hz
  .omega
  exact h.1 z hz
theorem HK : ∀ l, (Dl l).Pairwise (· <= ·)
 | [] => by simp [Dl]
 | x :: l => Qn x _ (HK l)
theorem WZ (l : List Int) : l.mergeSort (fun x y => decide (x <= y)) = Dl l := by
 refine List.Perm.eq_of_pairwise (le := fun a b : Int => a <= b) (fun a b _ _ h1 h2 => Int.le_antisymm h1 h2) ?_ (HK l) ((List.mergeSort_perm _ _).trans (Ch l).symm)
 have := List.pairwise_mergeSort (le := fun x y : Int => decide (x <= y)) (by simp; intro a b c; omega) (by simp; omega) l
 simpa using this
def HH (l : List Int) : Option (List Int) := if l.length < 4611686018427387904 then some (Dl l) else none
theorem QR {l r : List Int} (h : HH l = some r) : l.length = r.length := by
 unfold HH at h
 split at h
 .cases h; exact (Ch l).length_eq.symm
 cases h
section
variable {P : Program} {ρ : Ren} {AB : A4} {A : BF}
theorem row_holds {O : Nat -> Prop} {w : World} {b o : Nat} {c : Array Value} {e : TypeId} {zs : List Int} {n : Nat} (hb : w.heap[b]? = some (.cells c e (0, 0))) (hc : c.size = o + n) (hn : zs.length <= n)
  (hrel : ∀ (i j : Nat) (x : List DV) (d : DV) (v : Value), (zs.map HT)[i]? = some x -> x[j]? = some d -> c[o + i * 1 + j]? = some v -> Aw O w v d) : Holds (Value.int .i64) w b o zs.toArray := by
 intro j hj
 have hj' : j < zs.length := by simpa using hj
 have hlt : o + j < c.size := by omega
 have hz : (zs.map HT)[j]? = some (HT zs[j]) := by simp [hj']
 have := hrel j 0 _ (.int .i64 zs[j]) c[o + j] hz rfl (by simp [hlt])
 have key : ∀ u, Aw O w u (.int .i64 zs[j]) -> u = .int .i64 zs[j] := fun u h => by cases h; rfl
 refine ⟨?_, by simp [World.frozen?, hb]⟩
 rw [Cb hb (Array.getElem?_eq_getElem hlt), key _ this]
 simp [hj']
theorem UU (hE : A8 P AB) (L : Lays.n189 P ρ) {e : Nat} {te : TI} (h3 : AB.tt e = some te) (h1 : te.size = 1) {h : AO} {ctr id : Nat} {zs ys : List Int}
  (hl : AE id h = some (.row e 1 (zs.map HT))) (hs : HH zs = some ys) {K : LV -> AO -> Nat -> Prop} (hK : K (.p (.tup [])) (Bo id (.row e 1 (ys.map HT)) h) ctr) :
  C3 P A h ctr (ρ.f 189) [.lsl id 1 0 zs.length] K := by
 unfold HH at hs
 rw [<- WZ] at hs
 split at hs
 .rename_i hlen
  cases hs
  refine ⟨Gv L.f189 rfl rfl, fun μ w vs hh hsz hr => ?_⟩
  have hvs : ∃ a, vs = #[a] := by
   obtain ⟨l⟩ := vs
   match l, hsz with
   | [a], _ => exact ⟨a, rfl⟩
  obtain ⟨v0, rfl⟩ := hvs
  have h0 := hr 0 v0 _ rfl rfl
  have htup : ∀ w', Aa (Ac A μ (Bo id (.row e 1 ((zs.mergeSort fun x y => decide (x <= y)).map HT)) h)) μ w' (.tuple #[]) (.p (.tup [])) := fun w' => .p _ _ (.tup #[] [] rfl (by simp))
  obtain ⟨loc, hm, hz, hel, hrow⟩ := hh.obj id _ hl
  have empty : zs = [] -> ∀ p cap, v0 = .slice p 0 cap -> Calls P (ρ.f 189) #[v0] w fun en w' => ∃ u l h' c' μ', en = .returned u /\ K l h' c' /\ HRel A μ' h' (Fr c') w' /\ Aa (Ac A μ' h') μ' w' u l /\ ∀ v x, Aa (Ac A μ h) μ w v x -> Aa (Ac A μ' h') μ' w' v x := by
   rintro rfl p cap rfl
   refine (Any.slices_Sort_int_none L p cap w).mono ?_
   rintro en w' ⟨rfl, rfl⟩
   have hu : ∀ q, AE q (Bo id (.row e 1 ((([] : List Int).mergeSort fun x y => decide (x <= y)).map HT)) h) = AE q h := fun q => by
    by_cases hq : q = id
    .subst hq; rw [Gd hl, hl]; simp
    rw [DQ hq]
   have hmine : Bx μ (Bo id (.row e 1 ((([] : List Int).mergeSort fun x y => decide (x <= y)).map HT)) h) = Bx μ h := by
    funext b; simp only [Bx, hu]
   have hown : Ac A μ (Bo id (.row e 1 ((([] : List Int).mergeSort fun x y => decide (x <= y)).map HT)) h) = Ac A μ h := by funext b; simp only [Ac, hmine]
   refine ⟨_, _, _, _, μ, rfl, hK, ?_, htup _, fun v x hv => by rw [hown]; exact hv⟩
   refine ⟨fun q o hq => ?_, fun q q' o o' l l' hq hq' => ?_, hh.fresh, fun q o l hq => ?_, hh.size, hh.block, hh.os, hh.tape, hh.output, hh.ext⟩
   .rw [hu] at hq; rw [hown]; exact hh.obj q o hq
   .rw [hu] at hq hq'; exact hh.inj q q' o o' l l' hq hq'
   rw [hu] at hq; exact hh.base q o l hq
  rcases hrow with ⟨hn, hz0⟩ | ⟨hn, c, hblk, hcs, hle, hcm, hrel⟩
  .have hzs : zs = [] := by simpa using hz0
   subst hzs
   generalize hgen : (LV.lsl id 1 0 ([] : List Int).length) = lv at h0
   cases h0 with
   | lsln => exact empty rfl _ _ rfl
   | lsl _ _ _ cap ad loc' hm' hn' hcap hlc had hbk hsp =>
    simp only [LV.lsl.injEq, List.length_nil] at hgen
    obtain ⟨-, -, -, e4⟩ := hgen
    subst e4
    exact empty rfl _ _ rfl
   | _ => cases hgen
  by_cases hne : zs = []
  .subst hne
   generalize hgen : (LV.lsl id 1 0 ([] : List Int).length) = lv at h0
   cases h0 with
   | lsln => exact empty rfl _ _ rfl
   | lsl _ _ _ cap ad loc' hm' hn' hcap hlc had hbk hsp =>
    simp only [LV.lsl.injEq, List.length_nil] at hgen
    obtain ⟨-, -, -, e4⟩ := hgen
    subst e4
    exact empty rfl _ _ rfl
   | _ => cases hgen
  have hpos : 0 < zs.length := List.length_pos_iff.2 hne
  generalize hgen : (LV.lsl id 1 0 zs.length) = lv at h0
  cases h0 with
  | lsl id' off len cap ad loc' hm' hn' hcap hlc had hbk hsp =>
   simp only [LV.lsl.injEq] at hgen
   obtain ⟨e1, e2, e3, e4⟩ := hgen
   subst e1 e3 e4
   rw [hm] at hm'; cases hm'
   have had' := had (by omega)
   simp only [Nat.zero_mul, Nat.add_zero] at had'
   subst had'
   have hlt := (hh.base id _ loc hl hm hn).1
   simp only [List.length_map] at hle
   have hH := row_holds (zs := zs) (o := loc.o) (n := loc.cap) hblk (by rw [hcs]; omega) hle (by rw [<- hz] at hrel ⊢; exact hrel)
   refine (Any.slices_Sort_int L loc.b loc.o cap zs w hH hlt hlen).mono ?_
   rintro en w' ⟨rfl, q, os, rfl⟩
   have hsl : (zs.mergeSort fun x y => decide (x <= y)).length = zs.length := List.length_mergeSort _
   rw [Lib.putRow_eq_setCells (Value.int .i64) w loc.b loc.o zs.toArray (zs.mergeSort fun x y => decide (x <= y)) q hH (by simp [hsl])]
   obtain ⟨c1, k1, k2, k3⟩ := E2 loc.b ((zs.mergeSort fun x y => decide (x <= y)).map (Value.int .i64)) loc.o (w.drewN q) c e hblk (by simp [hsl]; omega)
   have hw := hh.write (w' := (w.drewN q).setCells loc.b loc.o ((zs.mergeSort fun x y => decide (x <= y)).map (Value.int .i64))) (o := .row e 1 ((zs.mergeSort fun x y => decide (x <= y)).map HT)) hl hm hn
    (by rw [Ge]; rfl) (fun b hb => by rw [GB _ _ _ _ _ hb]; rfl) (by rw [Hx]; rfl) (by rw [Gf]; rfl) (by rw [Fe]; rfl)
    ⟨hz, fun y hy => by obtain ⟨n, _, rfl⟩ := List.mem_map.1 hy; rfl, .inr ⟨hn, c1, k1, by rw [k2]; exact hcs, by simpa [hsl] using hle, hcm, fun i j x d v hx hd hv => by
     simp only [List.getElem?_map, Option.map_eq_some_iff] at hx
     obtain ⟨n, hn', rfl⟩ := hx
     have hj : j = 0 := by
      have := (List.getElem?_eq_some_iff.1 hd).1
      simp [HT] at this; omega
     subst hj
     simp only [HT, List.getElem?_cons_zero, Option.some.injEq] at hd
     subst hd
     have hi := (List.getElem?_eq_some_iff.1 hn').1
     rw [k3, if_pos (by simp; omega)] at hv
     rw [show loc.o + i * 1 + 0 - loc.o = i by omega, List.getElem?_map, hn'] at hv
     cases hv
     exact .int _ _⟩⟩
   obtain ⟨w1, w2, w3⟩ := hw
   have hk := w1.keep (w' := grow ((w.drewN q).setCells loc.b loc.o ((zs.mergeSort fun x y => decide (x <= y)).map (Value.int .i64))) os) (h' := Bo id (.row e 1 ((zs.mergeSort fun x y => decide (x <= y)).map HT)) h) (μ' := μ) (F' := Fr ctr) (fun _ _ h => h) w1.fresh (fun _ _ h => h)
    (fun b hb => by show (_ ++ os)[b]? = _; rw [Array.getElem?_append_left hb]) (by show _ <= (_ ++ os).size; simp) rfl rfl rfl
   refine ⟨_, _, _, _, μ, rfl, hK, hk.1, htup _, fun v x hv => ?_⟩
   have hv1 := hv.mono w2.own (fun b _ => w3 b) (fun _ _ h => h)
   refine hv1.mono (BW.mk ?_ ?_) (fun b _ hb => hb) (fun _ _ h => h)
   .show _ <= (_ ++ os).size; simp
   intro b hb _; show (_ ++ os)[b]? = _; rw [Array.getElem?_append_left hb]
  | lsln =>
   simp only [LV.lsl.injEq] at hgen
   obtain ⟨-, -, -, e4⟩ := hgen
   omega
  | _ => cases hgen
 cases hs
end
section
variable {P : Program} {ρ : Ren} {AB : A4} {A : BF} {l r : List Int} {nt : Nat} {sl : List (Nat × LV)} {h h' : AO} {c d : Nat} {f : St -> Prop} {hf : Gw f}
theorem U3 (hE : A8 P AB) {k : Nat} (L : Lays.n189 P ρ) (hk : ρ.f 189 = k) {t e : Nat} {fo : Operand} {args : Array Operand} {ts : Array TypeId} {id n : Nat} {enc : Int -> List DV} (henc : enc = HT)
  (hr : HH l = some r) (hl : BU id h = some (.row e 1 (l.map enc))) (hn : n = l.length) (hd : Bo id (.row e 1 (r.map enc)) h = h') (ht : Pp AB t e 1 = true)
  (hfn : BG nt sl fo = .fn k []) (ha : C7 nt sl args.toList some = some [.lsl id 1 0 n])
  (kk : f ⟨nt, (d, .p (.tup [])) :: sl, h', c⟩) : BJ P A AB ⟨nt, sl, h, c⟩ (some d) (.call ⟨.value fo, args, ts⟩) ⟨f, hf⟩ := by
 obtain ⟨ti, te, h1, h2, h3, h4, h5, h6⟩ := NW ht
 rw [BI (h := h) (c := c)] at hfn
 rw [BV] at hl
 subst henc hn hd hk
 show Ja _ _
 rw [hfn]
 show G4 P A h c _ (args.toList.map _ ++ []) _
 rw [D2 ha, List.append_nil]
 exact UU hE L h3 h4 hl hr kk
end
end Go.E
/- A scope in which the run jumps back to one label, and on to another. No condition. -/
namespace Go.E
open Go Go.RowKit
section
variable {P : Program} {A : BF} {st : St} {σ Ans : Type}
end
def GR {α : Type} (l : List α) (lo hi : Int) : Option (List α) := Gy l lo hi
theorem Rz {α : Type} {l r : List α} {lo hi : Int} (h : GR l lo hi = some r) : lo.toNat + (hi - lo).toNat <= l.length /\ (l.drop lo.toNat).take (hi - lo).toNat = r := by
 unfold GR Gy at h
 split at h
 .rename_i hb
  cases h
  refine ⟨by omega, ?_⟩
  rw [List.drop_take]
  congr 1
  omega
 cases h
section
variable {P : Program} {A : BF} {AB : A4} {α : Type} {enc : α -> List DV} {l r : List α} {nt : Nat} {sl : List (Nat × LV)} {h : AO} {c d : Nat} {f : St -> Prop} {hf : Gw f} {x : Operand} {t sz : Nat}
theorem CU {lo hi : Option Operand} {n m : Int} {id k : Nat} (hr : GR l n m = some r) (ht : LL AB t sz = true) (hk : k = l.length) (hx : BG nt sl x = .lsl id sz 0 k)
  (hlo : Me nt sl 0 lo = some n) (hhi : Me nt sl l.length hi = some m)
  (kk : f ⟨nt, (d, .lsl id sz n.toNat (m - n).toNat) :: sl, h, c⟩) : BJ P A AB ⟨nt, sl, h, c⟩ (some d) (.slice t x lo hi none) ⟨f, hf⟩ := by
 obtain ⟨ti, e, te, h1, h2, h3, h4⟩ := LM ht
 have hs : Gy l n m = some r := hr
 subst hk
 rw [BI (h := h) (c := c)] at hx
 simp only [Gy] at hs
 split at hs
 .rename_i hb
  show I5 AB t _ _ _ _
  rw [hx]
  refine AT.2 ⟨ti, h1, CL.2 ⟨e, h2, AT.2 ⟨te, h3, h4, .inr rfl, ?_⟩⟩⟩
  refine NV hhi (NV hlo ⟨hb, ?_⟩)
  rw [Nat.zero_add]; exact kk
 cases hs
end
end Go.E
/- Ac rows cut short; nil cells of own boxes; functions that call themselves. No condition. -/
namespace Go.E
open Go Go.RowKit
section
variable {A : BF} {μ : Nat -> Option Ba} {h : List (Nat × A9)} {F : Nat -> Prop} {w : World}
theorem HRel.swap (hh : HRel A μ h F w) {id : Nat} {o o' : A9} (hx : AE id h = some o) (hor : ∀ loc, μ id = some loc -> Dn (Ac A μ h) μ w loc o -> Dn (Ac A μ h) μ w loc o') :
  HRel A μ (Bo id o' h) F w /\ ∀ b, Ac A μ (Bo id o' h) b -> Ac A μ h b := by
 have hlook : ∀ j y, AE j (Bo id o' h) = some y -> (j = id /\ y = o') \/ (j ≠ id /\ AE j h = some y) := by
  intro j y hy
  by_cases e : j = id
  .subst e; rw [Gd hx] at hy; cases hy; exact .inl ⟨rfl, rfl⟩
  rw [DQ e] at hy; exact .inr ⟨e, hy⟩
 have hmine : ∀ b, Bx μ (Bo id o' h) b -> Bx μ h b := by
  rintro b ⟨j, y, lc, h1, h2, h3, h4⟩
  rcases hlook j y h1 with ⟨rfl, rfl⟩ | ⟨_, h1⟩
  .exact ⟨j, o, lc, hx, h2, h3, h4⟩
  exact ⟨j, y, lc, h1, h2, h3, h4⟩
 have hown : ∀ b, Ac A μ (Bo id o' h) b -> Ac A μ h b := fun b hb => hb.imp (fun h => h) (hmine b)
 have f : ∀ j y, AE j (Bo id o' h) = some y -> ∃ y, AE j h = some y := by
  intro j y hy
  rcases hlook j y hy with ⟨rfl, rfl⟩ | ⟨_, hy⟩
  .exact ⟨_, hx⟩
  exact ⟨_, hy⟩
 refine ⟨⟨?_, ?_, hh.fresh, ?_, hh.size, hh.block, hh.os, hh.tape, hh.output, hh.ext⟩, hown⟩
 .intro j y hy
  rcases hlook j y hy with ⟨rfl, rfl⟩ | ⟨e, hy⟩
  .obtain ⟨lc, h1, h2⟩ := hh.obj j o hx
   exact ⟨lc, h1, (hor lc h1 h2).mono (BW.refl _ _) (fun b _ hb => hown b hb) (fun _ _ h => h) fun _ => rfl⟩
  obtain ⟨lc, h1, h2⟩ := hh.obj j y hy
  exact ⟨lc, h1, h2.mono (BW.refl _ _) (fun b _ hb => hown b hb) (fun _ _ h => h) fun _ => rfl⟩
 .intro j j' y y' lc lc' h1 h2 m1 m2 n1 n2 he
  obtain ⟨z, hz⟩ := f j y h1
  obtain ⟨z', hz'⟩ := f j' y' h2
  exact hh.inj _ _ _ _ _ _ hz hz' m1 m2 n1 n2 he
 intro j y lc h1 m1 n1
 obtain ⟨z, hz⟩ := f j y h1
 exact hh.base _ _ _ hz m1 n1
end
section
variable {A : BF} {nt : Nat} {sl : List (Nat × LV)} {h h' : AO} {c : Nat}
theorem Ea (id j e sz : Nat) {cells cells' : List LV} (hl : BU id h = some (.box cells)) (hj : cells[j]? = some (.p .nils)) (hc : cells.set j (.lsl c sz 0 0) = cells')
  (hu : IQ id (.box cells') h some = some h') : A6 A ⟨nt, sl, h, c⟩ ⟨nt, sl, (c, .row e sz []) :: h', c + 1⟩ := fun a w ⟨⟨μ, hh, hr⟩, hnt, hdef⟩ => by
 rw [BV] at hl
 rw [GA, Option.some.injEq] at hu
 subst hu hc
 have hno := hh.fresh c (Nat.le_refl _)
 let loc : Ba := ⟨true, 0, 0, sz, 0⟩
 have hsub : ∀ id x, AE id ((c, A9.row e sz []) :: h) = some x -> (id = c /\ x = .row e sz []) \/ AE id h = some x := by
  intro id x hx
  simp only [AE] at hx
  split at hx
  .cases hx; exact .inl ⟨‹_›, rfl⟩
  exact .inr hx
 have hadd := hh.add hno loc (.row e sz []) ((c, .row e sz []) :: h) (fun hn => by cases hn) (fun hn => by cases hn) hsub (BW.refl _ _) (fun _ _ _ _ _ _ _ => rfl) rfl rfl rfl ⟨rfl, by simp, .inl ⟨rfl, rfl⟩⟩
 have hown := hh.sub_add loc (.row e sz []) ((c, .row e sz []) :: h) (fun hn => by cases hn) hsub
 have hadd' := hadd.less (F' := Fr (c + 1)) fun id hid => by simp only [Fr] at hid ⊢; omega
 have hne : id ≠ c := hh.live_ne hno hl
 have hl' : AE id ((c, A9.row e sz []) :: h) = some (.box cells) := by simp only [AE, if_neg hne]; exact hl
 obtain ⟨g1, g2⟩ := hadd'.swap hl' (o' := .box (cells.set j (.lsl c sz 0 0))) fun lc _ ⟨k1, cs, t, k2, k3, k4⟩ => by
  refine ⟨k1, cs, t, k2, by rw [List.length_set]; exact k3, fun i v l hv hl => ?_⟩
  rw [List.getElem?_set] at hl
  split at hl
  .split at hl
   .cases hl
    subst_vars
    have := k4 _ v _ hv hj
    rw [this.nils_inv]
    exact .lsln c loc (by simp [Bt]) rfl
   cases hl
  exact k4 i v l hv hl
 have hup : Bo id (.box (cells.set j (.lsl c sz 0 0))) ((c, A9.row e sz []) :: h) = (c, .row e sz []) :: Bo id (.box (cells.set j (.lsl c sz 0 0))) h := by
  simp only [Bo, if_neg hne]
 rw [hup] at g1 g2
 exact ⟨⟨_, g1, fun u hu => (hr u hu).mono (BW.refl _ _) (fun b hb hb' => hown b hb (g2 b hb')) (G1 hno loc)⟩, hnt, hdef⟩
end
section
variable {P : Program} {A : BF} {AB : A4} {α : Type} {enc : α -> List DV} {l r : List α} {nt : Nat} {sl : List (Nat × LV)} {h : AO} {c d : Nat} {f : St -> Prop} {hf : Gw f} {x : Operand} {t sz : Nat}
theorem T9 {hi : Option Operand} {m : Int} {id k : Nat} (hr : GR l 0 m = some r) (ht : LL AB t sz = true) (hk : k = l.length) (hx : BG nt sl x = .lsl id sz 0 k)
  (hhi : Me nt sl l.length hi = some m)
  (kk : f ⟨nt, (d, .lsl id sz 0 r.length) :: sl, h, c⟩) : BJ P A AB ⟨nt, sl, h, c⟩ (some d) (.slice t x none hi none) ⟨f, hf⟩ := by
 refine CU (lo := none) hr ht hk hx rfl hhi ?_
 have e : (m - 0).toNat = r.length := by
  obtain ⟨h1, h2⟩ := Rz hr
  rw [<- h2]
  simp at h1 ⊢; omega
 rw [e]
 exact kk
end
theorem U4 {α : Type} {l r : List α} {m : Int} (h : GR l 0 m = some r) : 0 + r.length <= l.length /\ (l.drop 0).take r.length = r := by
 obtain ⟨h1, h2⟩ := Rz h
 simp only [Int.toNat_zero, List.drop_zero, Nat.zero_add, Int.sub_zero] at h1 h2 ⊢
 have : r.length = m.toNat := by rw [<- h2]; simp; omega
 rw [this]
 exact ⟨h1, h2⟩
section
variable (id : Nat) (src d : LV)
mutual
inductive NI : LV -> LV -> Prop
 | same (v : LV) : NI v v
 | hit : NI src d
 | nil (z : Nat) : NI (.p .nils) (.p (.slice z []))
 | agg {a b : List LV} : Nj a b -> NI (.agg a) (.agg b)
inductive Nj : List LV -> List LV -> Prop
 | nil : Nj [] []
 | cons {x y : LV} {a b : List LV} : NI x y -> Nj a b -> Nj (x :: a) (y :: b)
end
inductive OU (sl : List (Nat × LV)) : List (Nat × LV) -> Prop
 | nil : OU sl []
 | cons (t : Nat) {v : LV} {r : List (Nat × LV)} : NI src d (Bh sl t) v -> OU sl r -> OU sl ((t, v) :: r)
inductive UT : A9 -> A9 -> Prop
 | same (o : A9) : UT o o
 | box {a b : List LV} : Nj src d a b -> UT (.box a) (.box b)
inductive OV (h : AO) : AO -> Prop
 | nil : OV h []
 | cons (i : Nat) {o o' : A9} {r : AO} (hne : Nat.beq i id = false) (hl : BU i h = some o) : UT src d o o' -> OV h r -> OV h ((i, o') :: r)
end
section
variable {A : BF} {nt : Nat} {sl sl' : List (Nat × LV)} {h h' : AO} {c : Nat} {id : Nat} {src d : LV}
mutual
theorem SR {O O' : Nat -> Prop} {μ μ' : Nat -> Option Ba} {w : World} (hμ : ∀ id l, μ id = some l -> μ' id = some l) (hO : ∀ b, b < w.heap.size -> O' b -> O b) (hd : ∀ v, Aa O μ w v src -> Aa O' μ' w v d) : ∀ {x y : LV}, NI src d x y -> ∀ v, Aa O μ w v x -> Aa O' μ' w v y
 | _, _, .same _, v, h => h.mono (BW.refl _ _) hO hμ
 | _, _, .hit, v, h => hd v h
 | _, _, .nil z, v, h => by
  rw [h.nils_inv]
  exact .p _ _ (.snil z)
 | _, _, .agg (a := ls) (b := b) q, v, h => by
  cases h with
  | agg vs _ hsz hr =>
   obtain ⟨g1, g2⟩ := NJ hμ hO hd q
   exact .agg vs _ (by omega) fun i v l hv hl => by
    have hi := (List.getElem?_eq_some_iff.1 hl).1
    obtain ⟨x, hx⟩ : ∃ x, ls[i]? = some x := ⟨ls[i]'(by omega), List.getElem?_eq_getElem _⟩
    exact g2 i x l hx hl v (hr i v x hv hx)
theorem NJ {O O' : Nat -> Prop} {μ μ' : Nat -> Option Ba} {w : World} (hμ : ∀ id l, μ id = some l -> μ' id = some l) (hO : ∀ b, b < w.heap.size -> O' b -> O b) (hd : ∀ v, Aa O μ w v src -> Aa O' μ' w v d) : ∀ {a b : List LV}, Nj src d a b -> a.length = b.length /\ ∀ (i : Nat) (x y : LV), a[i]? = some x -> b[i]? = some y -> ∀ v, Aa O μ w v x -> Aa O' μ' w v y
 | _, _, .nil => ⟨rfl, fun i x y h => by simp at h⟩
 | _, _, .cons q r => by
  obtain ⟨g1, g2⟩ := NJ hμ hO hd r
  refine ⟨by simp [g1], fun i x y hx hy => ?_⟩
  cases i with
  | zero => simp at hx hy; subst hx hy; exact SR hμ hO hd q
  | succ i => exact g2 i x y (by simpa using hx) (by simpa using hy)
end
theorem Qk : ∀ {sl' : List (Nat × LV)}, OU src d sl sl' -> ∀ t l, AE t sl' = some l -> NI src d (Bh sl t) l
 | _, .nil, t, l, h => by simp [AE] at h
 | _, .cons u q r, t, l, h => by
  simp only [AE] at h
  split at h
  .cases h; subst_vars; exact q
  exact Qk r t l h
theorem Ql : ∀ {h' : AO}, OV id src d h h' -> ∀ i o', AE i h' = some o' -> i ≠ id /\ ∃ o, AE i h = some o /\ UT src d o o'
 | _, .nil, i, o, h => by simp [AE] at h
 | _, .cons u hne hl q r, i, o, h => by
  simp only [AE] at h
  split at h
  .cases h; subst_vars
   rw [BV] at hl
   exact ⟨fun e => by subst e; simp at hne, _, hl, q⟩
  exact Ql r i o h
theorem Qm (id : Nat) {d0 : DV} (hd : ∀ μ w (O' : Nat -> Prop), HRel A μ h (Fr c) w -> (∀ b, O' b -> Ac A μ (Bq [id] h) b) -> ∀ v, Aa (Ac A μ h) μ w v src -> Aw O' w v d0) (hs : OU src (.p d0) sl sl') (hh : OV id src (.p d0) h h') : A6 A ⟨nt, sl, h, c⟩ ⟨nt, sl', h', c⟩ := fun a w ⟨⟨μ, hR, hr⟩, hnt, hdef⟩ => by
 have hlk := fun i o' => Ql hh i o'
 have hmine : ∀ b, Bx μ h' b -> Bx μ (Bq [id] h) b := by
  rintro b ⟨j, y, lc, h1, h2, h3, h4⟩
  obtain ⟨g1, o, g2, -⟩ := hlk j y h1
  refine ⟨j, o, lc, ?_, h2, h3, h4⟩
  show AE j (D7 id h) = some o
  rw [DO g1]; exact g2
 have hown1 : ∀ b, Ac A μ h' b -> Ac A μ (Bq [id] h) b := fun b hb => hb.imp (fun h => h) (hmine b)
 have hown : ∀ b, Ac A μ h' b -> Ac A μ h b := fun b hb => Gm b (hown1 b hb)
 have hp : ∀ v, Aa (Ac A μ h) μ w v src -> Aa (Ac A μ h') μ w v (.p d0) := fun v hv => .p _ _ (hd μ w _ hR hown1 v hv)
 refine ⟨⟨μ, ⟨?_, ?_, hR.fresh, ?_, hR.size, hR.block, hR.os, hR.tape, hR.output, hR.ext⟩, fun t ht => ?_⟩, hnt, hdef⟩
 .intro j o' hj
  obtain ⟨g1, o, g2, q⟩ := hlk j o' hj
  obtain ⟨lc, h1, h2⟩ := hR.obj j o g2
  refine ⟨lc, h1, ?_⟩
  cases q with
  | same _ => exact h2.mono (BW.refl _ _) (fun b _ hb => hown b hb) (fun _ _ h => h) fun _ => rfl
  | box q =>
   obtain ⟨k1, cs, ty, k2, k3, k4⟩ := h2
   obtain ⟨q1, q2⟩ := NJ (O' := Ac A μ h') (w := w) (fun _ _ h => h) (fun b _ hb => hown b hb) hp q
   refine ⟨k1, cs, ty, k2, by omega, fun i v l hv hl => ?_⟩
   have hi := (List.getElem?_eq_some_iff.1 hl).1
   rename_i a b
   have hx : a[i]? = some (a[i]'(by omega)) := List.getElem?_eq_getElem _
   exact q2 i _ l hx hl v (k4 i v _ hv hx)
 .intro j j' y y' lc lc' h1 h2 m1 m2 n1 n2 he
  obtain ⟨-, z, hz, -⟩ := hlk j y h1
  obtain ⟨-, z', hz', -⟩ := hlk j' y' h2
  exact hR.inj _ _ _ _ _ _ hz hz' m1 m2 n1 n2 he
 .intro j y lc h1 m1 n1
  obtain ⟨-, z, hz, -⟩ := hlk j y h1
  exact hR.base _ _ _ hz m1 n1
 show Aa _ _ _ _ (match AE t sl' with | some v => v | none => .any)
 cases hl : AE t sl' with
 | none => exact .any _
 | some l => exact SR (fun _ _ h => h) (fun b _ hb => hown b hb) hp (Qk hs t l hl) _ (hr t ht)
theorem E4 (id : Nat) {d0 : DV} (hd : Es h src = some d0 /\ HX src = [id]) (hs : OU src (.p d0) sl sl') (hh : OV id src (.p d0) h h') : A6 A ⟨nt, sl, h, c⟩ ⟨nt, sl', h', c⟩ :=
 Qm id (fun μ w O' hR hown v hv => (JY hR (l := [id]) hv hd.1 (by rw [hd.2]; simp)).mono (BW.refl _ _) fun b _ hb => hown b hb) hs hh
theorem WY {O : Nat -> Prop} {μ : Nat -> Option Ba} {w : World} {v : Value} {id sz off n : Nat} (h : Aa O μ w v (.lsl id sz off n)) : ∃ loc, μ id = some loc := by
 cases h with
 | lsln _ loc hm hn => exact ⟨loc, hm⟩
 | lsl _ _ _ cap a loc hm => exact ⟨loc, hm⟩
theorem EM (hs : OU (.lsl c 0 0 0) (.p .nils) sl sl') (hh : OV c (.lsl c 0 0 0) (.p .nils) h h') : A6 A ⟨nt, sl, h, c⟩ ⟨nt, sl', h', c⟩ :=
 Qm c (fun μ w O' hR hown v hv => by
  have hno := hR.fresh c (Nat.le_refl _)
  obtain ⟨loc, hm⟩ := WY hv
  rw [hno] at hm; cases hm) hs hh
theorem HA {α : Type} {enc : α -> List DV} {l : List α} {e : Nat} {sz : Nat} (hl : BU id h = some (.row e sz (l.map enc))) : Es h (.lsl id sz 0 l.length) = some (.slice sz (l.map enc)) /\ HX (.lsl id sz 0 l.length) = [id] := by
 refine ⟨?_, rfl⟩
 rw [BV] at hl
 simp only [Es, hl, Nat.zero_add, List.length_map, Nat.le_refl, and_self, if_true, List.drop_zero]
 rw [List.take_of_length_le (by simp)]
end
section
variable {P : Program} {A : BF} {AB : A4}
theorem C3.ownF {h : AO} {ctr k : Nat} {args : List LV} {ds : List DV} {e sz : Nat} {elems : List (List DV)} {K : LV -> AO -> Nat -> Prop} (hds : Bi h args = some ds) (hf : EU P k ds e sz elems)
  (hfl : ∀ x ∈ elems, ∀ d ∈ x, d.flat = true) (hK : K (.lsl ctr sz 0 elems.length) ((ctr, .row e sz elems) :: h) (ctr + 1)) : C3 P A h ctr k args K := by
 refine ⟨hf.enters, fun μ w vs hh hsz hr => ?_⟩
 obtain ⟨g1, g2⟩ := ET hh (l := args.flatMap (Dh h)) hds (fun id hid => hid)
 generalize args.flatMap (Dh h) = dl at g2
 have hO : ∀ b, Ac A μ (Bq dl h) b -> b < w.heap.size := by
  intro b hb
  rcases Gm b hb with hb | ⟨id, x, lc, h1, h2, h3, rfl⟩
  .exact Nat.lt_of_lt_of_le (A.hO b hb).1 hh.size
  exact (hh.base id x lc h1 h2 h3).1
 refine (hf.run (Ac A μ (Bq dl h)) w vs hO (by omega) fun i v d hv hd => ?_).mono fun en w' ⟨v, he, hn, hb⟩ => ?_
 .have hi := (List.getElem?_eq_some_iff.1 hd).1
  have hx : args[i]? = some (args[i]'(by omega)) := List.getElem?_eq_getElem _
  exact g2 i v _ d hx hd (hr i v _ hv hx)
 have hno : μ ctr = none := hh.fresh ctr (Nat.le_refl _)
 obtain ⟨hlen, hn⟩ := hn
 have hkm : BW (Bx μ h) w w' := ⟨hb.size, fun b hb' _ => hb.block b hb'⟩
 have hsub : ∀ id x, AE id ((ctr, A9.row e sz elems) :: h) = some x -> (id = ctr /\ x = .row e sz elems) \/ AE id h = some x := by
  intro id x hx
  simp only [AE] at hx
  split at hx
  .cases hx; exact .inl ⟨‹_›, rfl⟩
  exact .inr hx
 have hold : ∀ id x lc, AE id ((ctr, A9.row e sz elems) :: h) = some x -> id ≠ ctr -> μ id = some lc -> lc.nil = false -> w'.heap[lc.b]? = w.heap[lc.b]? := by
  intro id x lc hx hne hm hnl
  rcases hsub id x hx with ⟨rfl, _⟩ | hx
  .exact absurd rfl hne
  exact hb.block _ (hh.base id x lc hx hm hnl).1
 have fin : ∀ (loc : Ba), (loc.nil = false -> loc.b < w'.heap.size /\ w.heap.size <= loc.b) ->
   (∀ O' : Nat -> Prop, Dn O' (Bt μ ctr loc) w' loc (.row e sz elems)) ->
   (∀ O', Aa O' (Bt μ ctr loc) w' v (.lsl ctr sz 0 elems.length)) ->
   ∃ u l h' c' μ', en = .returned u /\ K l h' c' /\ HRel A μ' h' (Fr c') w' /\ Aa (Ac A μ' h') μ' w' u l /\ ∀ v x, Aa (Ac A μ h) μ w v x -> Aa (Ac A μ' h') μ' w' v x := by
  intro loc hloc ho hu
  have hfr : JX μ h ((ctr, A9.row e sz elems) :: h) w loc := fun hn => .inl (hloc hn).2
  have hown := hh.sub_add loc (.row e sz elems) ((ctr, .row e sz elems) :: h) hfr hsub
  have hadd := hh.add (w' := w') hno loc (.row e sz elems) ((ctr, .row e sz elems) :: h) (fun hn => (hloc hn).1) hfr hsub hkm hold hb.os hb.tape hb.output (ho _)
  exact ⟨v, _, _, _, _, he, hK, hadd.less (fun id hid => by simp only [Fr] at hid ⊢; omega), hu _, fun v x hv => hv.mono hkm.own hown (G1 hno loc)⟩
 rcases hn with ⟨rfl, rfl⟩ | ⟨a, b, o, cap, c, rfl, h1, h2, h3, h4, h5, h6, h7, h8, h9, h10⟩
 .exact fin ⟨true, 0, 0, sz, 0⟩ (fun hn => by cases hn) (fun O' => ⟨rfl, hlen, .inl ⟨rfl, rfl⟩⟩) (fun O' => .lsln ctr ⟨true, 0, 0, sz, 0⟩ (by simp [Bt]) rfl)
 refine fin ⟨false, b, o, sz, cap⟩ (fun _ => ⟨h2, h1⟩) (fun O' => ⟨rfl, hlen, .inr ⟨rfl, c, h6, h7, h8, h9, fun i j x d u hx hd hu => ?_⟩⟩) (fun O' => ?_)
 .exact (h10 i j x d u hx hd hu).flat (hfl x (List.mem_of_getElem? hx) d (List.mem_of_getElem? hd)) _ _
 exact .lsl ctr 0 elems.length cap a ⟨false, b, o, sz, cap⟩ (by simp [Bt]) rfl (by simp) h8 (fun hc => by rw [h3 hc]; simp) h4 h5
end
section
variable {P : Program} {A : BF} {AB : A4} {α : Type} {enc : α -> List DV} {nt : Nat} {sl : List (Nat × LV)} {h : AO} {c d : Nat} {f : St -> Prop} {hf : Gw f}
theorem Ry {fo : Operand} {args : Array Operand} {ts : Array TypeId} {k e sz : Nat} {caps ls : List LV} {ds : List DV} {r : List α} (hF : EU P k ds e sz (r.map enc)) (hfl : ∀ x : α, (enc x).all (·.flat) = true)
  (hfn : BG nt sl fo = .fn k caps) (hl : C7 nt sl args.toList some = some ls) (hds : Bi h (ls ++ caps) = some ds)
  (kk : f ⟨nt, (d, .lsl c sz 0 r.length) :: sl, (c, .row e sz (r.map enc)) :: h, c + 1⟩) : BJ P A AB ⟨nt, sl, h, c⟩ (some d) (.call ⟨.value fo, args, ts⟩) ⟨f, hf⟩ := by
 rw [BI (h := h) (c := c)] at hfn
 show Ja _ _
 rw [hfn]
 show G4 P A h c k (args.toList.map _ ++ caps) _
 rw [D2 hl]
 refine C3.ownF hds hF (fun x hx d hd => ?_) ?_
 .obtain ⟨a, _, rfl⟩ := List.mem_map.1 hx
  exact List.all_eq_true.1 (hfl a) d hd
 rw [List.length_map]
 exact kk
end
noncomputable def Rw {α β : Type} (F : (α -> Option β) -> α -> Option β) (n : Nat) : α -> Option β := Nat.rec (fun _ => none) (fun _ ih => F ih) n
theorem recF_holds {α β : Type} {F : (α -> Option β) -> α -> Option β} {C : α -> β -> Prop} (h : ∀ rec : α -> Option β, (∀ a r, rec a = some r -> C a r) -> ∀ a r, F rec a = some r -> C a r) : ∀ n a r, Rw F n a = some r -> C a r
 | 0, a, r, e => by cases e
 | n + 1, a, r, e => h (Rw F n) (recF_holds h n) a r e
end Go.E
/- Drawn regions of which the orders do not all come to one by waiting: a tree of orders. No condition. -/
namespace Go.E
open Go Go.RowKit
inductive Gl where
 | done
 | nil
 | picks (l : List Nat) (t : Gl)
 | alt (i : Nat) (l : List Nat) (t r : Gl)
def JT (listed : Array Bool) : List Nat -> Array Bool
 | [] => listed
 | i :: l => JT (listed.setIfInBounds i true) l
def G0 (q w : Bool) (md : Region.Mode) (ops : Array Oper) : List Nat -> Array Bool -> Bool
 | [], _ => true
 | i :: rest, listed => (match ops[i]? with
  | none => false
  | some oi => (Region.ready md ops listed == [i]) || ((Region.ready md ops listed).contains i && NO q w md ops listed i oi (K7 md ops listed i))) &&
  G0 q w md ops rest (listed.setIfInBounds i true)
def Gl.heads : Gl -> List Nat
 | .alt i _ _ r => i :: r.heads
 | _ => []
def Ig (q w : Bool) (md : Region.Mode) (ops : Array Oper) : Gl -> Bool -> Array Bool -> Nat -> Bool
 | .done, b, listed, n => !b && (Region.ready md ops listed).isEmpty && n == 0
 | .nil, b, _, _ => b
 | .picks l t, b, listed, n => !b && G0 q w md ops l listed && decide (l.length <= n) && Ig q w md ops t false (JT listed l) (n - l.length)
 | .alt i l t r, b, listed, n => (b || decide (0 < n) && !(Region.ready md ops listed).isEmpty && (Region.ready md ops listed).all fun j => (i :: r.heads).contains j) &&
   (decide (i < ops.size) && G0 q w md ops l (listed.setIfInBounds i true) && decide (l.length <= (bif b then n else n - 1)) &&
    Ig q w md ops t false (JT (listed.setIfInBounds i true) l) ((bif b then n else n - 1) - l.length) && Ig q w md ops r true listed (bif b then n else n - 1))
section
variable (P : Program) (A : BF) (AB : A4) (base n : Nat) (K : St -> Prop) (ops : List Oper)
def Ky : Gl -> St -> Prop
 | .done, st => K st
 | .nil, _ => True
 | .picks l t, st => C6 P A AB base n ⟨Ky t, ⟨⟩⟩ (Ed ops l) st
 | .alt i l t r, st => C6 P A AB base n ⟨Ky t, ⟨⟩⟩ (Ed ops (i :: l)) st /\ Ky r st
end
section
variable {P : Program} {A : BF} {AB : A4} {md : Region.Mode} {base : Nat} {K : St -> Prop}
theorem LU {ops : List Oper} {n : Nat} {l : List Nat} {t : Gl} {st : St} (k : C6 P A AB base n ⟨Ky P A AB base n K ops t, ⟨⟩⟩ (Ed ops l) st) : Ky P A AB base n K ops (.picks l t) st := k
theorem Au {ops : List Oper} {n : Nat} {i : Nat} {l : List Nat} {t r : Gl} {st : St} (k : C6 P A AB base n ⟨Ky P A AB base n K ops t, ⟨⟩⟩ (Ed ops (i :: l)) st) (k' : Ky P A AB base n K ops r st) : Ky P A AB base n K ops (.alt i l t r) st := ⟨k, k'⟩
theorem BN {ops : List Oper} {n c c' nt : Nat} {sl : List (Nat × LV)} {h : AO} {S : St} (k : A6 A ⟨nt, sl, h, c + n⟩ S) : Ky P A AB c n (fun st => A6 A { st with ctr := c + n } S) ops .done ⟨nt, sl, h, c'⟩ := k
theorem Bj {ops : List Oper} {n : Nat} {st : St} : Ky P A AB base n K ops .nil st := trivial
theorem OY {q w : Bool} {ops : Array Oper} : ∀ {l : List Nat} {listed : Array Bool}, G0 q w md ops l listed = true -> ∀ i ∈ l, i < ops.size
 | [], _, _, i, hi => by simp at hi
 | j :: l, listed, h, i, hi => by
  simp only [G0, Bool.and_eq_true] at h
  rcases List.mem_cons.1 hi with rfl | hi
  .cases ho : ops[i]? with
   | none => rw [ho] at h; simp at h
   | some o => exact (Array.getElem?_eq_some_iff.1 ho).1
  exact OY h.2 i hi
theorem Lx (q : Bool) (hq : q = true -> ∃ b, AB.calm = some b) {ops : Array Oper} {T Q : St -> Prop} (fuel : Nat) : ∀ (l : List Nat) (listed : Array Bool) (st : St), G0 q AB.own md ops l listed = true -> (∀ k, listed.getD k true = false -> AE (base + k) st.heap = none) ->
  (∀ st', (∀ k, (JT listed l).getD k true = false -> AE (base + k) st'.heap = none) -> T st' -> Gn P AB md ops base Q fuel (JT listed l) st') ->
  Fd P AB ops base T l st -> Gn P AB md ops base Q (l.length + fuel) listed st
 | [], listed, st, _, hfresh, hT, h => by
  rw [List.length_nil, Nat.zero_add]
  exact hT st hfresh h
 | i :: rest, listed, st, hok, hfresh, hT, h => by
  obtain ⟨o, l, e, ho, hd, hrest⟩ := K8 h
  simp only [G0, ho, Bool.and_eq_true, Bool.or_eq_true] at hok
  have hrec : Gn P AB md ops base Q (rest.length + fuel) (listed.setIfInBounds i true) (apS st (base + i) o l e) := by
   refine Lx q hq fuel rest _ _ hok.2 (fun k hk => ?_) hT hrest
   have hik : i ≠ k := by
    rintro rfl
    rcases Nat.lt_or_ge i listed.size with h' | h'
    .simp [h'] at hk
    simp [Array.getElem?_eq_none h'] at hk
   rw [Bk]
   exact JZ hd (by simp only [St.at]; omega) (hfresh k (by rw [getD_set_ne true hik] at hk; exact hk))
  rw [show (i :: rest).length + fuel = rest.length + fuel + 1 by simp; omega]
  rcases hok.1 with h1 | h1
  .have hr : Region.ready md ops listed = [i] := by simpa using h1
   refine ⟨fun h0 => (by rw [hr] at h0; cases h0), fun j hj => ?_⟩
   rw [hr] at hj
   simp at hj
   subst hj
   exact ⟨o, l, e, ho, hd, hrec⟩
  obtain ⟨h1, h2⟩ := h1
  simp only [NO, Bool.and_eq_true, List.all_eq_true, List.mem_range] at h2
  obtain ⟨h2, h3⟩ := h2
  generalize hBe : K7 md ops listed i = B at h2 h3
  refine Oh q hq ho (fun j => B.contains j) (fun j hj => ?_) (rest.length + fuel) listed st (fun j hj => ?_) (fun j oj hoj hji hun hBj => ?_) hfresh (by simpa using h1) hd hrec
  .have := h2 j (by simpa using hj)
   obtain ⟨⟨a1, a2⟩, a3⟩ := this
   refine ⟨by simpa using a1, fun oj hoj => ?_⟩
   rw [hoj] at a3
   obtain ⟨x, hx, hx2⟩ := Array.any_eq_true'.1 a3
   simp only [Bool.and_eq_true, Bool.or_eq_true, beq_iff_eq] at hx2
   exact ⟨x, hx, hx2.1, hx2.2⟩
  .have := (h2 j (by simpa using hj)).1.2
   simpa using this
  have := h3 j (Array.getElem?_eq_some_iff.1 hoj).1
  simp only [Bool.or_eq_true, beq_iff_eq, hji, false_or, hun, Bool.false_eq_true] at this
  rw [hBj] at this
  simp only [Bool.false_eq_true, false_or, hoj, Bool.and_eq_true] at this
  refine ⟨this.1, this.2.1, fun ho => ?_⟩
  have := this.2.2
  rw [ho] at this; simpa using this
theorem IL (q : Bool) (hq : q = true -> ∃ b, AB.calm = some b) {ops : List Oper} : ∀ (T : Gl) (listed : Array Bool) (st : St) (n : Nat), (∀ k, listed.getD k true = false -> AE (base + k) st.heap = none) -> Ky P A AB base ops.length K ops T st ->
  (Ig q AB.own md ops.toArray T false listed n = true -> Gn P AB md ops.toArray base K n listed st) /\
  (Ig q AB.own md ops.toArray T true listed n = true -> ∀ i ∈ T.heads, ∃ o l e, ops.toArray[i]? = some o /\ Cv P AB ops.toArray (st.at (base + i)) o l e /\ Gn P AB md ops.toArray base K n (listed.setIfInBounds i true) (apS st (base + i) o l e))
 | .done, listed, st, n, hfresh, h => by
  refine ⟨fun hok => ?_, fun hok => by simp [Ig] at hok⟩
  simp only [Ig, Bool.not_false, Bool.true_and, Bool.and_eq_true, beq_iff_eq, List.isEmpty_iff] at hok
  obtain ⟨h1, rfl⟩ := hok
  exact ⟨h1, st, FL.refl st, h⟩
 | .nil, listed, st, n, hfresh, h => ⟨fun hok => by simp [Ig] at hok, fun _ i hi => by simp [Gl.heads] at hi⟩
 | .picks l t, listed, st, n, hfresh, h => by
  refine ⟨fun hok => ?_, fun hok => by simp [Ig] at hok⟩
  simp only [Ig, Bool.not_false, Bool.true_and, Bool.and_eq_true, decide_eq_true_eq] at hok
  obtain ⟨⟨h1, h2⟩, h3⟩ := hok
  have hb : (l.all fun i => decide (i < ops.length)) = true := List.all_eq_true.2 fun i hi => by simpa using OY h1 i hi
  have := Lx q hq (md := md) (Q := K) (n - l.length) l listed st h1 hfresh (fun st' hf' hT => ?_) (Fw l st hb h)
  .rwa [show l.length + (n - l.length) = n by omega] at this
  refine K6 _ _ { st' with ctr := base + ops.length } _ ⟨rfl, fun _ => rfl, fun _ => rfl⟩ ?_
  exact (IL q hq t (JT listed l) { st' with ctr := base + ops.length } (n - l.length) hf' hT).1 h3
 | .alt i l t r, listed, st, n, hfresh, ⟨h, h'⟩ => by
  have key : ∀ m, (decide (i < ops.toArray.size) && G0 q AB.own md ops.toArray l (listed.setIfInBounds i true) && decide (l.length <= m) && Ig q AB.own md ops.toArray t false (JT (listed.setIfInBounds i true) l) (m - l.length) && Ig q AB.own md ops.toArray r true listed m) = true ->
    ∀ j ∈ i :: r.heads, ∃ o l e, ops.toArray[j]? = some o /\ Cv P AB ops.toArray (st.at (base + j)) o l e /\ Gn P AB md ops.toArray base K m (listed.setIfInBounds j true) (apS st (base + j) o l e) := by
   intro m hok j hj
   simp only [Bool.and_eq_true, decide_eq_true_eq] at hok
   obtain ⟨⟨⟨⟨h0, h1⟩, h2⟩, h3⟩, h4⟩ := hok
   rcases List.mem_cons.1 hj with rfl | hj
   .have hb : ((j :: l).all fun i => decide (i < ops.length)) = true := List.all_eq_true.2 fun i hi => by
     rcases List.mem_cons.1 hi with rfl | hi
     .simpa using h0
     simpa using OY h1 i hi
    obtain ⟨o, lv, e, ho, hd, hrest⟩ := K8 (Fw (j :: l) st hb h)
    refine ⟨o, lv, e, ho, hd, ?_⟩
    have := Lx q hq (md := md) (Q := K) (m - l.length) l (listed.setIfInBounds j true) (apS st (base + j) o lv e) h1 (fun k hk => ?_) (fun st' hf' hT => ?_) hrest
    .rwa [show l.length + (m - l.length) = m by omega] at this
    .have hik : j ≠ k := by
      rintro rfl
      rcases Nat.lt_or_ge j listed.size with h' | h'
      .simp [h'] at hk
      simp [Array.getElem?_eq_none h'] at hk
     rw [Bk]
     exact JZ hd (by simp only [St.at]; omega) (hfresh k (by rw [getD_set_ne true hik] at hk; exact hk))
    refine K6 _ _ { st' with ctr := base + ops.length } _ ⟨rfl, fun _ => rfl, fun _ => rfl⟩ ?_
    exact (IL q hq t _ { st' with ctr := base + ops.length } (m - l.length) hf' hT).1 h3
   exact (IL q hq r listed st m hfresh h').2 h4 j hj
  refine ⟨fun hok => ?_, fun hok => ?_⟩
  .rw [Ig, Bool.false_or] at hok
   obtain ⟨h1, h2⟩ := Bool.and_eq_true_iff.1 hok
   simp only [Bool.and_eq_true, decide_eq_true_eq, Bool.not_eq_true', List.all_eq_true] at h1
   obtain ⟨⟨h3, h4⟩, h5⟩ := h1
   obtain ⟨m, rfl⟩ : ∃ m, n = m + 1 := ⟨n - 1, by omega⟩
   refine ⟨fun h0 => by rw [h0] at h4; simp at h4, fun j hj => ?_⟩
   exact key m (by simpa using h2) j (by simpa using h5 j hj)
  simp only [Ig, Bool.true_or, Bool.true_and, cond_true] at hok
  exact key n hok
theorem Rs (hE : A8 P AB) (hm : P.follows .mixedOrders = true) {id : Nat} {ops : List Oper} {Q : Exit -> St -> Prop} {nt : Nat} {sl : List (Nat × LV)} {h : AO} {c : Nat} (T : Gl) (n : Nat) (S : St)
  (hok : Ig false AB.own .any ops.toArray T false (Array.replicate ops.length false) ops.length = true) (hn : Nat.beq ops.length n = true)
  (k : Ky P A AB c n (fun st => A6 A { st with ctr := c + n } S) ops T ⟨nt, sl, h, c⟩) (kk : Q .normal S) : B3 P A (.region id ops.toArray true) Q ⟨nt, sl, h, c⟩ := fun a w hR => by
 have hn' := Nat.eq_of_beq_eq_true hn
 subst hn'
 refine wp_region_any hm ?_
 have hR' := (hR.drawn (w.drawn + 1)).toRF
 have hfr : ∀ k, AE (c + k) h = none := by
  intro k
  cases hx : AE (c + k) h with
  | none => rfl
  | some o =>
   obtain ⟨⟨μ, hh, _⟩, _, _⟩ := hR
   obtain ⟨loc, h1, _⟩ := hh.obj _ _ hx
   rw [hh.fresh _ (by simp [Fr])] at h1; cases h1
 have hD := (IL false (fun h => by cases h) (md := .any) T (Array.replicate ops.length false) ⟨nt, sl, h, c⟩ ops.length (fun k _ => hfr k) k).1 hok
 rw [show ops.toArray.size = ops.length by simp]
 refine Gc (A := A) (n := ops.length) hE (by simp) (fun st' a' w' listed hk hR'' => ?_) ops.length _ ⟨nt, sl, h, c⟩ a _ (by simp) hD ?_
 .refine ⟨S, ?_, kk⟩
  obtain ⟨⟨μ, x1, x2⟩, x3, x4⟩ := hR''
  exact hk a' w' ⟨⟨μ, x1.less fun id hid => .inl hid, x2⟩, x3, x4⟩
 obtain ⟨⟨μ, x1, x2⟩, x3, x4⟩ := hR'
 refine ⟨⟨μ, x1.less fun id hid => ?_, x2⟩, x3, x4⟩
 rcases hid with hid | ⟨k, _, _, rfl⟩
 .simp only [Fr]; omega
 simp [Fr]
theorem Wk (hE : A8 P AB) (hm : P.follows .mixedOrders = true) {id : Nat} {ops : List Oper} {Q : Exit -> St -> Prop} {nt : Nat} {sl : List (Nat × LV)} {h : AO} {c : Nat} (T : Gl) (n : Nat) (S : St)
  (hq : AB.calm.isSome = true) (hok : Ig true AB.own .any ops.toArray T false (Array.replicate ops.length false) ops.length = true) (hn : Nat.beq ops.length n = true)
  (k : Ky P A AB c n (fun st => A6 A { st with ctr := c + n } S) ops T ⟨nt, sl, h, c⟩) (kk : Q .normal S) : B3 P A (.region id ops.toArray true) Q ⟨nt, sl, h, c⟩ := fun a w hR => by
 have hn' := Nat.eq_of_beq_eq_true hn
 subst hn'
 refine wp_region_any hm ?_
 have hR' := (hR.drawn (w.drawn + 1)).toRF
 have hfr : ∀ k, AE (c + k) h = none := by
  intro k
  cases hx : AE (c + k) h with
  | none => rfl
  | some o =>
   obtain ⟨⟨μ, hh, _⟩, _, _⟩ := hR
   obtain ⟨loc, h1, _⟩ := hh.obj _ _ hx
   rw [hh.fresh _ (by simp [Fr])] at h1; cases h1
 have hD := (IL true (fun _ => Option.isSome_iff_exists.1 hq) (md := .any) T (Array.replicate ops.length false) ⟨nt, sl, h, c⟩ ops.length (fun k _ => hfr k) k).1 hok
 rw [show ops.toArray.size = ops.length by simp]
 refine Gc (A := A) (n := ops.length) hE (by simp) (fun st' a' w' listed hk hR'' => ?_) ops.length _ ⟨nt, sl, h, c⟩ a _ (by simp) hD ?_
 .refine ⟨S, ?_, kk⟩
  obtain ⟨⟨μ, x1, x2⟩, x3, x4⟩ := hR''
  exact hk a' w' ⟨⟨μ, x1.less fun id hid => .inl hid, x2⟩, x3, x4⟩
 obtain ⟨⟨μ, x1, x2⟩, x3, x4⟩ := hR'
 refine ⟨⟨μ, x1.less fun id hid => ?_, x2⟩, x3, x4⟩
 rcases hid with hid | ⟨k, _, _, rfl⟩
 .simp only [Fr]; omega
 simp [Fr]
end
end Go.E
/- Ac objects handed to a function that turns them: its contract (C3 of the objects alone), and its use among other objects (TP, Cy). No condition. -/
namespace Go.E
open Go Go.RowKit
def IH (ρ : Nat -> Nat) : LV -> LV
 | .lsl id sz off len => .lsl (ρ id) sz off len
 | .lpb id off => .lpb (ρ id) off
 | .lpe id i off => .lpe (ρ id) i off
 | .lmap id => .lmap (ρ id)
 | x => x
def X8 : LV -> Option Nat
 | .lsl id _ _ _ => some id
 | .lpb id _ => some id
 | .lpe id _ _ => some id
 | .lmap id => some id
 | _ => none
def X9 : LV -> Bool
 | .p _ => true
 | .lsl _ _ _ _ => true
 | .lpb _ _ => true
 | .lpe _ _ _ => true
 | .lmap _ => true
 | .und => true
 | .any => true
 | _ => false
def Ku (ρ : Nat -> Nat) : A9 -> A9
 | .box cs => .box (cs.map (IH ρ))
 | o => o
def If (gl : List (Nat × Nat)) (m : Nat) (l : LV) : Bool := X9 l && (match X8 l with
 | none => true
 | some i => Nat.ble m i || (AE i gl).isSome)
def R3 (gl : List (Nat × Nat)) (m : Nat) : A9 -> Bool
 | .box cs => cs.all (If gl m)
 | _ => true
def YA (ρ : Nat -> Nat) : LV -> LV
 | .agg l => .agg (l.map (IH ρ))
 | l => IH ρ l
def YB (gl : List (Nat × Nat)) (m : Nat) : LV -> Bool
 | .agg l => l.all (If gl m)
 | l => If gl m l
def M6 (ρ : Nat -> Nat) : LV -> LV
 | .tup l => .tup (l.map (YA ρ))
 | l => YA ρ l
def QT (gl : List (Nat × Nat)) (m : Nat) : LV -> Bool
 | .tup l => l.all (YB gl m)
 | l => YB gl m l
def Dm (ρ : Nat -> Nat) : AO -> AO
 | [] => []
 | (i, o) :: h => (ρ i, Ku ρ o) :: Dm ρ h
def CP (gl : List (Nat × Nat)) (nw : Nat -> Nat) (i : Nat) : Nat := match AE i gl with
 | some j => j
 | none => nw i
def EO (gl : List (Nat × Nat)) (m c i : Nat) : Nat := CP gl (fun i => c + (i - m)) i
def QU (m s c i : Nat) : Nat := if i = m then s else c + (i - m)
def IZ (gl : List (Nat × Nat)) (m s c i : Nat) : Nat := CP gl (QU m s c) i
def Ga (ρ : Nat -> Nat) (h : AO) : AO -> Prop
 | [] => True
 | (i, o) :: r => AE (ρ i) h = some (Ku ρ o) /\ Ga ρ h r
def Lg (gl : List (Nat × Nat)) (m m1 : Nat) (H H1 : AO) : Bool :=
 Nat.ble m m1 && H.all (fun p => Nat.ble (p.1 + 1) m && (AE p.1 gl).isSome && R3 gl m p.2) && gl.all (fun p => (AE p.1 H).isSome && gl.all fun q => p.1 == q.1 || p.2 != q.2) && H1.all (fun p => (Nat.ble m p.1 || (AE p.1 gl).isSome) && R3 gl m p.2)
theorem C1 {α : Type} {i : Nat} {o : α} : ∀ {l : List (Nat × α)}, AE i l = some o -> (i, o) ∈ l
 | [], h => by simp [AE] at h
 | (k, v) :: l, h => by
  unfold AE at h
  split at h
  .rename_i e; cases h; subst e; simp
  exact List.mem_cons_of_mem _ (C1 h)
theorem Nx {ρ : Nat -> Nat} {h : AO} {i : Nat} {o : A9} : ∀ {H : AO}, Ga ρ h H -> AE i H = some o -> AE (ρ i) h = some (Ku ρ o)
 | [], _, hl => by simp [AE] at hl
 | (k, v) :: H, hk, hl => by
  unfold AE at hl
  split at hl
  .rename_i e; cases hl; subst e; exact hk.1
  exact Nx hk.2 hl
theorem Lh {ρ : Nat -> Nat} {id : Nat} {o : A9} : ∀ {H : AO}, AE id (Dm ρ H) = some o -> ∃ i o1, AE i H = some o1 /\ ρ i = id /\ o = Ku ρ o1
 | [], h => by simp [Dm, AE] at h
 | (k, v) :: H, h => by
  unfold Dm AE at h
  split at h
  .rename_i e; cases h; exact ⟨k, v, by simp [AE], e.symm, rfl⟩
  rename_i e
  obtain ⟨i, o1, h1, h2, h3⟩ := Lh h
  refine ⟨i, o1, ?_, h2, h3⟩
  unfold AE
  rw [if_neg (fun e2 => e (by rw [<- h2, e2]))]
  exact h1
theorem R5 {α : Type} {id : Nat} {o : α} : ∀ {a b : List (Nat × α)}, AE id (a ++ b) = some o -> AE id a = some o \/ AE id b = some o
 | [], b, h => .inr h
 | (k, v) :: a, b, h => by
  rw [List.cons_append] at h
  have e1 : ∀ l : List (Nat × α), AE id ((k, v) :: l) = if id = k then some v else AE id l := fun _ => rfl
  rw [e1] at h
  by_cases e : id = k
  .rw [if_pos e] at h; rw [e1, if_pos e]; exact .inl h
  rw [if_neg e] at h; rw [e1, if_neg e]; exact R5 h
section
variable {O : Nat -> Prop} {μ μ' : Nat -> Option Ba} {w : World} {ρ : Nat -> Nat}
theorem TQ {v : Value} {l : LV} (hf : X9 l = true) (hμ : ∀ i loc, X8 l = some i -> μ (ρ i) = some loc -> μ' i = some loc) (h : Aa O μ w v (IH ρ l)) : Aa O μ' w v l := by
 cases l with
 | p d => cases h with | p _ _ h => exact .p _ _ h
 | lsl id sz off len =>
  cases h with
  | lsln _ loc hm hn => exact .lsln id loc (hμ _ _ rfl hm) hn
  | lsl _ _ _ cap a loc hm hn hcap hl ha hb hs => exact .lsl id off len cap a loc (hμ _ _ rfl hm) hn hcap hl ha hb hs
 | lpb id off => cases h with | lpb _ _ loc hm hn => exact .lpb id off loc (hμ _ _ rfl hm) hn
 | lpe id i off => cases h with | lpe _ _ _ loc hm hn => exact .lpe id i off loc (hμ _ _ rfl hm) hn
 | lmap id => cases h with | lmap _ loc hm hn => exact .lmap id loc (hμ _ _ rfl hm) hn
 | und => cases h; exact .und
 | any => exact .any v
 | agg l => cases hf
 | tup l => cases hf
 | fn f l => cases hf
theorem R6 {v : Value} {l : LV} (hf : X9 l = true) (hμ : ∀ i loc, X8 l = some i -> μ' i = some loc -> μ (ρ i) = some loc) (h : Aa O μ' w v l) : Aa O μ w v (IH ρ l) := by
 cases l with
 | p d => cases h with | p _ _ h => exact .p _ _ h
 | lsl id sz off len =>
  cases h with
  | lsln _ loc hm hn => exact .lsln _ loc (hμ _ _ rfl hm) hn
  | lsl _ _ _ cap a loc hm hn hcap hl ha hb hs => exact .lsl _ off len cap a loc (hμ _ _ rfl hm) hn hcap hl ha hb hs
 | lpb id off => cases h with | lpb _ _ loc hm hn => exact .lpb _ off loc (hμ _ _ rfl hm) hn
 | lpe id i off => cases h with | lpe _ _ _ loc hm hn => exact .lpe _ i off loc (hμ _ _ rfl hm) hn
 | lmap id => cases h with | lmap _ loc hm hn => exact .lmap _ loc (hμ _ _ rfl hm) hn
 | und => cases h; exact .und
 | any => exact .any v
 | agg l => cases hf
 | tup l => cases hf
 | fn f l => cases hf
theorem XL {gl : List (Nat × Nat)} {m : Nat} {loc : Ba} {o : A9} (hf : R3 gl m o = true) (hμ : ∀ i lc, (m <= i \/ ∃ j, AE i gl = some j) -> μ (ρ i) = some lc -> μ' i = some lc) (h : Dn O μ w loc (Ku ρ o)) : Dn O μ' w loc o := by
 cases o with
 | row e sz el => exact h
 | map mp => exact h
 | iter cur left => exact h
 | box cs =>
  obtain ⟨hn, c, t, h1, h2, h3⟩ := h
  refine ⟨hn, c, t, h1, by simpa using h2, fun i v l hv hl => ?_⟩
  have hok := List.all_eq_true.1 hf l (List.mem_of_getElem? hl)
  simp only [If, Bool.and_eq_true] at hok
  refine TQ hok.1 (fun j lc hj hm => hμ j lc ?_ hm) (h3 i v _ hv (by rw [List.getElem?_map, hl]; rfl))
  have h4 := hok.2
  rw [hj] at h4
  simp only [Bool.or_eq_true, Nat.ble_eq] at h4
  exact h4.imp (fun x => x) fun h5 => Option.isSome_iff_exists.1 h5
theorem V7 {gl : List (Nat × Nat)} {m : Nat} {loc : Ba} {o : A9} (hf : R3 gl m o = true) (hμ : ∀ i lc, (m <= i \/ ∃ j, AE i gl = some j) -> μ' i = some lc -> μ (ρ i) = some lc) (h : Dn O μ' w loc o) : Dn O μ w loc (Ku ρ o) := by
 cases o with
 | row e sz el => exact h
 | map mp => exact h
 | iter cur left => exact h
 | box cs =>
  obtain ⟨hn, c, t, h1, h2, h3⟩ := h
  refine ⟨hn, c, t, h1, by simpa using h2, fun i v l hv hl => ?_⟩
  rw [List.getElem?_map] at hl
  cases hc : cs[i]? with
  | none => rw [hc] at hl; cases hl
  | some x =>
   rw [hc] at hl
   cases hl
   have hok := List.all_eq_true.1 hf x (List.mem_of_getElem? hc)
   simp only [If, Bool.and_eq_true] at hok
   refine R6 hok.1 (fun j lc hj hm => hμ j lc ?_ hm) (h3 i v x hv hc)
   have h4 := hok.2
   rw [hj] at h4
   simp only [Bool.or_eq_true, Nat.ble_eq] at h4
   exact h4.imp (fun x => x) fun h5 => Option.isSome_iff_exists.1 h5
end
section
variable {P : Program}
theorem TR {k : Nat} {H H1 : AO} {m m1 : Nat} {ls : List LV} {L : LV} (hM : ∀ A : BF, (∀ id, A.μ0 id ≠ none -> id < m) -> C3 P A H m k ls (fun l h c => l = L /\ h = H1 /\ c = m1))
  (gl : List (Nat × Nat)) (nw : Nat -> Nat) {A : BF} {h : AO} {F : Nat -> Prop} (hF : ∀ i, m <= i -> F (nw i)) (hinj : ∀ i i', m <= i -> m <= i' -> nw i = nw i' -> i = i') (hB : Lg gl m m1 H H1 = true) (hobj : Ga (CP gl nw) h H) (hls : ls.all (If gl m) = true) (hL : QT gl m L = true)
  {μ : Nat -> Option Ba} {w : World} {vs : Array Value} (hh : HRel A μ h F w) (hsz : vs.size = ls.length) (hr : ∀ (i : Nat) (v : Value) (x : LV), vs[i]? = some v -> (ls.map (IH (CP gl nw)))[i]? = some x -> Aa (Ac A μ h) μ w v x) :
  Calls P k vs w fun en w' => ∃ u μ', en = .returned u /\ HRel A μ' (Dm (CP gl nw) H1 ++ Bq (gl.map (·.2)) h) (fun q => F q /\ ∀ i, m <= i -> i < m1 -> q ≠ nw i) w' /\ Aa (Ac A μ' (Dm (CP gl nw) H1 ++ Bq (gl.map (·.2)) h)) μ' w' u (M6 (CP gl nw) L) /\ ∀ v x, Aa (Ac A μ h) μ w v x -> Aa (Ac A μ' (Dm (CP gl nw) H1 ++ Bq (gl.map (·.2)) h)) μ' w' v x := by
 simp only [Lg, Bool.and_eq_true, List.all_eq_true, Nat.ble_eq, Bool.or_eq_true, beq_iff_eq, bne_iff_ne] at hB
 obtain ⟨⟨⟨hm, hH⟩, hgl⟩, hH1⟩ := hB
 have key : ∀ i o, AE i H = some o -> i < m /\ (∃ j, AE i gl = some j) /\ R3 gl m o = true := fun i o hl => by
  obtain ⟨⟨h1, h2⟩, h3⟩ := hH _ (C1 hl)
  exact ⟨h1, Option.isSome_iff_exists.1 h2, h3⟩
 have gkey : ∀ i j, AE i gl = some j -> ∃ o, AE i H = some o := fun i j hl => Option.isSome_iff_exists.1 (hgl _ (C1 hl)).1
 have ginj : ∀ i i' j, AE i gl = some j -> AE i' gl = some j -> i = i' := fun i i' j h1 h2 => by
  have := (hgl _ (C1 h1)).2 _ (C1 h2)
  rcases this with h | h
  .exact h
  exact absurd rfl h
 have rg : ∀ i j, AE i gl = some j -> CP gl nw i = j := fun i j hl => by unfold CP; rw [hl]
 have rn : ∀ i, m <= i -> CP gl nw i = nw i := fun i hi => by
  unfold CP
  cases hl : AE i gl with
  | none => rfl
  | some j =>
   obtain ⟨o, ho⟩ := gkey i j hl
   have := (key i o ho).1
   omega
 have hno : ∀ i, m <= i -> μ (nw i) = none := fun i hi => hh.fresh _ (hF i hi)
 let μ' : Nat -> Option Ba := fun i => match AE i gl with | some j => μ j | none => none
 have μg : ∀ i j, AE i gl = some j -> μ' i = μ j := fun i j hl => by simp only [μ', hl]
 have μlt : ∀ i loc, μ' i = some loc -> ∃ j, AE i gl = some j /\ μ j = some loc := by
  intro i loc hi
  cases hl : AE i gl with
  | none => simp only [μ', hl] at hi; cases hi
  | some j => exact ⟨j, rfl, by rw [<- μg i j hl]; exact hi⟩
 have hobj' : ∀ i o, AE i H = some o -> ∃ j, AE i gl = some j /\ AE j h = some (Ku (CP gl nw) o) := fun i o hl => by
  obtain ⟨_, ⟨j, hj⟩, _⟩ := key i o hl
  have := Nx hobj hl
  rw [rg i j hj] at this
  exact ⟨j, hj, this⟩
 have mine : ∀ b, Bx μ' H b -> Bx μ h b /\ ∃ i j o loc, AE i H = some o /\ AE i gl = some j /\ AE j h = some (Ku (CP gl nw) o) /\ μ j = some loc /\ loc.nil = false /\ loc.b = b := by
  rintro b ⟨i, o, loc, h1, h2, h3, h4⟩
  obtain ⟨j, hj, hj2⟩ := hobj' i o h1
  rw [μg i j hj] at h2
  exact ⟨⟨j, _, loc, hj2, h2, h3, h4⟩, i, j, o, loc, h1, hj, hj2, h2, h3, h4⟩
 have ownlt : ∀ b, Ac A μ h b -> b < w.heap.size := by
  rintro b (hb | ⟨id, o, loc, h1, h2, h3, rfl⟩)
  .exact Nat.lt_of_lt_of_le (A.hO b hb).1 hh.size
  exact (hh.base id o loc h1 h2 h3).1
 let A' : BF := ⟨w, fun b => Ac A μ h b /\ ¬ Bx μ' H b, Bx μ' H, μ', fun b hb => ⟨ownlt b hb.1, hb.2⟩⟩
 have own1 : ∀ b, Ac A' μ' H b -> Ac A μ h b := by
  rintro b (hb | hb)
  .exact hb.1
  exact .inr (mine b hb).1
 have own2 : ∀ b, Ac A μ h b -> Ac A' μ' H b := fun b hb => by
  by_cases hc : Bx μ' H b
  .exact .inr hc
  exact .inl ⟨hb, hc⟩
 have hh' : HRel A' μ' H (Fr m) w := by
  refine ⟨?_, ?_, ?_, ?_, Nat.le_refl _, fun _ _ _ => rfl, rfl, rfl, rfl, fun _ _ hm' => hm'⟩
  .intro i o hl
   obtain ⟨j, hj, hj2⟩ := hobj' i o hl
   obtain ⟨loc, h1, h2⟩ := hh.obj j _ hj2
   refine ⟨loc, by rw [μg i j hj]; exact h1, ?_⟩
   have h3 : Dn (Ac A' μ' H) μ w loc (Ku (CP gl nw) o) := h2.mono (BW.refl _ _) (fun b _ hb => own1 b hb) (fun _ _ h => h) (fun _ => rfl)
   refine XL (key i o hl).2.2 (fun i' lc hi' hm' => ?_) h3
   rcases hi' with hi' | ⟨j', hj'⟩
   .rw [rn i' hi', hno i' hi'] at hm'; cases hm'
   rw [rg i' j' hj'] at hm'
   rw [μg i' j' hj']; exact hm'
  .intro i i' o o' loc loc' h1 h2 m1' m2' n1 n2 he
   obtain ⟨j, hj, hj2⟩ := hobj' i o h1
   obtain ⟨j', hj', hj2'⟩ := hobj' i' o' h2
   rw [μg i j hj] at m1'
   rw [μg i' j' hj'] at m2'
   have := hh.inj _ _ _ _ _ _ hj2 hj2' m1' m2' n1 n2 he
   subst this
   exact ginj _ _ _ hj hj'
  .intro i hi
   cases hm' : μ' i with
   | none => rfl
   | some loc =>
    obtain ⟨j, hj, _⟩ := μlt i loc hm'
    obtain ⟨o, ho⟩ := gkey i j hj
    have := (key i o ho).1
    simp only [Fr] at hi; omega
  intro i o loc h1 h2 h3
  have hmine : Bx μ' H loc.b := ⟨i, o, loc, h1, h2, h3, rfl⟩
  exact ⟨ownlt _ (.inr (mine _ hmine).1), fun hb => hb.2 hmine, .inr hmine⟩
 have hargs : ∀ (i : Nat) (v : Value) (l : LV), vs[i]? = some v -> ls[i]? = some l -> Aa (Ac A' μ' H) μ' w v l := by
  intro i v l hv hl
  have hok := List.all_eq_true.1 hls l (List.mem_of_getElem? hl)
  simp only [If, Bool.and_eq_true] at hok
  have h1 := (hr i v _ hv (by rw [List.getElem?_map, hl]; rfl)).mono (O' := Ac A' μ' H) (BW.refl _ _) (fun b _ hb => own1 b hb) (fun _ _ h => h)
  refine TQ hok.1 (fun i' lc hi' hm' => ?_) h1
  have h4 := hok.2
  rw [hi'] at h4
  simp only [Bool.or_eq_true, Nat.ble_eq] at h4
  rcases h4 with h4 | h4
  .rw [rn i' h4, hno i' h4] at hm'; cases hm'
  obtain ⟨j', hj'⟩ := Option.isSome_iff_exists.1 h4
  rw [rg i' j' hj'] at hm'
  rw [μg i' j' hj']; exact hm'
 have hμ0 : ∀ id, A'.μ0 id ≠ none -> id < m := by
  intro id hid
  cases hm' : μ' id with
  | none => exact absurd hm' hid
  | some loc =>
   obtain ⟨j, hj, _⟩ := μlt id loc hm'
   obtain ⟨o, ho⟩ := gkey id j hj
   exact (key id o ho).1
 refine ((hM A' hμ0).2 μ' w vs hh' hsz hargs).mono ?_
 rintro e w' ⟨u, l, h1, c1, μ'', he, ⟨rfl, rfl, rfl⟩, hh2, hu, -⟩
 let μ3 : Nat -> Option Ba := fun id => open Classical in if hx : ∃ i, m <= i /\ nw i = id then μ'' (Classical.choose hx) else μ id
 have μ3n : ∀ i, m <= i -> μ3 (nw i) = μ'' i := fun i hi => by
  have hx : ∃ i', m <= i' /\ nw i' = nw i := ⟨i, hi, rfl⟩
  simp only [μ3, dif_pos hx]
  have hc := Classical.choose_spec hx
  rw [hinj _ _ hc.1 hi hc.2]
 have ext : ∀ i loc, μ' i = some loc -> μ'' i = some loc := fun i loc hi => hh2.ext i loc hi
 have μ3o : ∀ id loc, μ id = some loc -> μ3 id = some loc := fun id loc hm' => by
  have hx : ¬ ∃ i, m <= i /\ nw i = id := fun ⟨i, h1, h2⟩ => by rw [<- h2, hno i h1] at hm'; cases hm'
  simp only [μ3, dif_neg hx, hm']
 have name : ∀ i lc, (m <= i \/ ∃ j, AE i gl = some j) -> μ'' i = some lc -> μ3 (CP gl nw i) = some lc := by
  intro i lc hi hm'
  rcases hi with hi | ⟨j, hj⟩
  .rw [rn i hi, μ3n i hi]
   exact hm'
  obtain ⟨o, ho⟩ := gkey i j hj
  obtain ⟨j', hj', hj2⟩ := hobj' i o ho
  rw [hj] at hj'
  cases hj'
  obtain ⟨loc, g1, _⟩ := hh.obj j _ hj2
  have := ext i loc (by rw [μg i j hj]; exact g1)
  rw [hm'] at this
  cases this
  rw [rg i j hj]
  exact μ3o j _ g1
 have new : ∀ id o, AE id (Dm (CP gl nw) h1) = some o -> ∃ i o1, AE i h1 = some o1 /\ CP gl nw i = id /\ o = Ku (CP gl nw) o1 /\ (m <= i \/ ∃ j, AE i gl = some j) /\ R3 gl m o1 = true := by
  intro id o hl
  obtain ⟨i, o1, g1, g2, g3⟩ := Lh hl
  obtain ⟨g4, g5⟩ := hH1 _ (C1 g1)
  exact ⟨i, o1, g1, g2, g3, g4.imp (fun x => x) fun h5 => Option.isSome_iff_exists.1 h5, g5⟩
 have cases' : ∀ id o, AE id (Dm (CP gl nw) h1 ++ Bq (gl.map (·.2)) h) = some o -> (∃ i o1, AE i h1 = some o1 /\ CP gl nw i = id /\ o = Ku (CP gl nw) o1 /\ (m <= i \/ ∃ j, AE i gl = some j) /\ R3 gl m o1 = true) \/ (id ∉ gl.map (·.2) /\ AE id h = some o) := by
  intro id o hl
  rcases R5 hl with hl | hl
  .exact .inl (new id o hl)
  exact .inr (Fp hl)
 have other : ∀ id o loc, id ∉ gl.map (·.2) -> AE id h = some o -> μ id = some loc -> loc.nil = false -> ¬ Bx μ' H loc.b := by
  intro id o loc hid hl hm' hn hmine
  obtain ⟨_, i, j, o', loc', g1, g2, g3, g4, g5, g6⟩ := mine _ hmine
  have := hh.inj _ _ _ _ _ _ g3 hl g4 hm' g5 hn g6
  subst this
  exact hid (List.mem_map.2 ⟨(i, j), C1 g2, rfl⟩)
 have hkept : BW (Ac A μ h) w w' := ⟨hh2.size, fun b hb hO => hh2.block b hb fun hm' => hO (.inr (mine b hm').1)⟩
 have nmine : ∀ b, Bx μ3 (Dm (CP gl nw) h1 ++ Bq (gl.map (·.2)) h) b -> Bx μ'' h1 b \/ (Ac A μ h b /\ ¬ Bx μ' H b) := by
  rintro b ⟨id, o, loc, g1, g2, g3, g4⟩
  rcases cases' id o g1 with ⟨i, o1, k1, k2, k3, k4, k5⟩ | ⟨k1, k2⟩
  .left
   obtain ⟨lc, q1, _⟩ := hh2.obj i o1 k1
   have := name i lc k4 q1
   rw [k2, g2] at this
   cases this
   exact ⟨i, o1, loc, k1, q1, g3, g4⟩
  right
  obtain ⟨lc, q1, _⟩ := hh.obj id o k2
  have := μ3o id lc q1
  rw [g2] at this
  cases this
  rw [<- g4]
  exact ⟨.inr ⟨id, o, loc, k2, q1, g3, rfl⟩, other id o loc k1 k2 q1 g3⟩
 have own3 : ∀ b, Ac A μ3 (Dm (CP gl nw) h1 ++ Bq (gl.map (·.2)) h) b -> Ac A' μ'' h1 b := by
  rintro b (hb | hb)
  .refine .inl ⟨.inl hb, fun hm' => ?_⟩
   obtain ⟨_, i, j, o', loc', g1, g2, g3, g4, g5, rfl⟩ := mine _ hm'
   exact (hh.base j _ loc' g3 g4 g5).2.1 hb
  rcases nmine b hb with hb | hb
  .exact .inr hb
  exact .inl hb
 have own4 : ∀ b, b < w.heap.size -> Ac A μ3 (Dm (CP gl nw) h1 ++ Bq (gl.map (·.2)) h) b -> Ac A μ h b := by
  rintro b hlt' (hb | hb)
  .exact .inl hb
  rcases nmine b hb with ⟨i, o1, loc, k1, k2, k3, rfl⟩ | hb
  .rcases (hh2.base i o1 loc k1 k2 k3).2.2 with hx | hx
   .exact absurd hx (by show ¬ w.heap.size <= _; omega)
   exact .inr (mine _ hx).1
  exact hb.1
 have hu2 : Aa (Ac A μ3 (Dm (CP gl nw) h1 ++ Bq (gl.map (·.2)) h)) μ'' w' u l := hu.mono (BW.refl _ _) (fun b _ hb => own3 b hb) (fun _ _ h => h)
 have one : ∀ v x, If gl m x = true -> Aa (Ac A μ3 (Dm (CP gl nw) h1 ++ Bq (gl.map (·.2)) h)) μ'' w' v x -> Aa (Ac A μ3 (Dm (CP gl nw) h1 ++ Bq (gl.map (·.2)) h)) μ3 w' v (IH (CP gl nw) x) := by
  intro v x hx hv
  simp only [If, Bool.and_eq_true] at hx
  refine R6 hx.1 (fun i' lc' hi' hm' => name i' lc' ?_ hm') hv
  have h4 := hx.2
  rw [hi'] at h4
  simp only [Bool.or_eq_true, Nat.ble_eq] at h4
  exact h4.imp (fun x => x) fun h5 => Option.isSome_iff_exists.1 h5
 refine ⟨u, μ3, he, ⟨?_, ?_, ?_, ?_, Nat.le_trans hh.size hh2.size, ?_, hh2.os.trans hh.os, hh2.tape.trans hh.tape, hh2.output.trans hh.output, fun id loc hm' => μ3o id loc (hh.ext id loc hm')⟩, ?_, fun v x hv => hv.mono hkept own4 μ3o⟩
 .intro id o hl
  rcases cases' id o hl with ⟨i, o1, k1, k2, rfl, k4, k5⟩ | ⟨k1, k2⟩
  .obtain ⟨lc, q1, q2⟩ := hh2.obj i o1 k1
   refine ⟨lc, by rw [<- k2]; exact name i lc k4 q1, ?_⟩
   have q3 : Dn (Ac A μ3 (Dm (CP gl nw) h1 ++ Bq (gl.map (·.2)) h)) μ'' w' lc o1 := q2.mono (BW.refl _ _) (fun b _ hb => own3 b hb) (fun _ _ h => h) (fun _ => rfl)
   exact V7 k5 (fun i' lc' hi' hm' => name i' lc' hi' hm') q3
  obtain ⟨lc, q1, q2⟩ := hh.obj id o k2
  refine ⟨lc, μ3o id lc q1, q2.mono hkept own4 μ3o fun hn => ?_⟩
  exact hh2.block _ (hh.base id o lc k2 q1 hn).1 (other id o lc k1 k2 q1 hn)
 .intro id id' o o' loc loc' g1 g2 m1' m2' n1 n2 hb
  rcases cases' id o g1 with ⟨i, o1, k1, k2, k3, k4, k5⟩ | ⟨k1, k2⟩
  .obtain ⟨lc, q1, _⟩ := hh2.obj i o1 k1
   have e1 := name i lc k4 q1
   rw [k2, m1'] at e1
   cases e1
   rcases cases' id' o' g2 with ⟨i', o1', k1', k2', k3', k4', k5'⟩ | ⟨k1', k2'⟩
   .obtain ⟨lc', q1', _⟩ := hh2.obj i' o1' k1'
    have e1' := name i' lc' k4' q1'
    rw [k2', m2'] at e1'
    cases e1'
    have := hh2.inj _ _ _ _ _ _ k1 k1' q1 q1' n1 n2 hb
    rw [<- k2, <- k2', this]
   exfalso
   obtain ⟨lc', q1', _⟩ := hh.obj id' o' k2'
   have e1' := μ3o id' lc' q1'
   rw [m2'] at e1'
   cases e1'
   have hno := other id' o' loc' k1' k2' q1' n2
   have hsz' := (hh.base id' o' loc' k2' q1' n2).1
   rcases (hh2.base i o1 loc k1 q1 n1).2.2 with hx | hx
   .have : w.heap.size <= loc.b := hx
    omega
   rw [hb] at hx; exact hno hx
  obtain ⟨lc, q1, _⟩ := hh.obj id o k2
  have e1 := μ3o id lc q1
  rw [m1'] at e1
  cases e1
  rcases cases' id' o' g2 with ⟨i', o1', k1', k2', k3', k4', k5'⟩ | ⟨k1', k2'⟩
  .exfalso
   obtain ⟨lc', q1', _⟩ := hh2.obj i' o1' k1'
   have e1' := name i' lc' k4' q1'
   rw [k2', m2'] at e1'
   cases e1'
   have hno := other id o loc k1 k2 q1 n1
   have hsz' := (hh.base id o loc k2 q1 n1).1
   rcases (hh2.base i' o1' loc' k1' q1' n2).2.2 with hx | hx
   .have : w.heap.size <= loc'.b := hx
    omega
   rw [<- hb] at hx; exact hno hx
  obtain ⟨lc', q1', _⟩ := hh.obj id' o' k2'
  have e1' := μ3o id' lc' q1'
  rw [m2'] at e1'
  cases e1'
  exact hh.inj _ _ _ _ _ _ k2 k2' q1 q1' n1 n2 hb
 .rintro id ⟨hid, hid2⟩
  by_cases hx : ∃ i, m <= i /\ nw i = id
  .obtain ⟨i, h1', h2'⟩ := hx
   rw [<- h2', μ3n i h1']
   refine hh2.fresh _ ?_
   simp only [Fr]
   exact Nat.le_of_not_lt fun hlt => hid2 i h1' hlt h2'.symm
  simp only [μ3, dif_neg hx]
  exact hh.fresh id hid
 .intro id o loc g1 g2 g3
  rcases cases' id o g1 with ⟨i, o1, k1, k2, k3, k4, k5⟩ | ⟨k1, k2⟩
  .obtain ⟨lc, q1, _⟩ := hh2.obj i o1 k1
   have e1 := name i lc k4 q1
   rw [k2, g2] at e1
   cases e1
   obtain ⟨b1, b2, b3⟩ := hh2.base i o1 loc k1 q1 g3
   refine ⟨b1, fun hO => b2 ⟨.inl hO, fun hm' => ?_⟩, ?_⟩
   .obtain ⟨_, i', j', o', loc', g1', g2', g3', g4', g5', g6'⟩ := mine _ hm'
    rw [<- g6'] at hO
    exact (hh.base j' _ loc' g3' g4' g5').2.1 hO
   rcases b3 with hx | hx
   .exact .inl (Nat.le_trans hh.size hx)
   obtain ⟨_, i', j', o', loc', g1', g2', g3', g4', g5', g6'⟩ := mine _ hx
   rw [<- g6']
   exact (hh.base j' _ loc' g3' g4' g5').2.2
  obtain ⟨lc, q1, _⟩ := hh.obj id o k2
  have e1 := μ3o id lc q1
  rw [g2] at e1
  cases e1
  obtain ⟨b1, b2, b3⟩ := hh.base id o loc k2 q1 g3
  exact ⟨Nat.lt_of_lt_of_le b1 hh2.size, b2, b3⟩
 .intro b hb hnf
  have hnm : ¬ Bx μ' H b := by
   intro hm'
   obtain ⟨_, i', j', o', loc', g1', g2', g3', g4', g5', g6'⟩ := mine _ hm'
   have := (hh.base j' _ loc' g3' g4' g5').2.2
   rw [g6'] at this
   rcases this with hx | hx
   .omega
   exact hnf hx
  rw [hh2.block b (Nat.lt_of_lt_of_le hb hh.size) hnm]
  exact hh.block b hb hnf
 have oneA : ∀ v x, YB gl m x = true -> Aa (Ac A μ3 (Dm (CP gl nw) h1 ++ Bq (gl.map (·.2)) h)) μ'' w' v x -> Aa (Ac A μ3 (Dm (CP gl nw) h1 ++ Bq (gl.map (·.2)) h)) μ3 w' v (YA (CP gl nw) x) := by
  intro v x hx hv
  cases x with
  | agg xs =>
   cases hv with
   | agg vs' _ hsz' hxs =>
    refine .agg vs' _ (by simpa using hsz') fun i v x hv hx' => ?_
    rw [List.getElem?_map] at hx'
    cases hc : xs[i]? with
    | none => rw [hc] at hx'; cases hx'
    | some y =>
     rw [hc] at hx'
     cases hx'
     exact one v y (List.all_eq_true.1 hx y (List.mem_of_getElem? hc)) (hxs i v y hv hc)
  | p d => exact one v _ hx hv
  | lsl id sz off len => exact one v _ hx hv
  | lpb id off => exact one v _ hx hv
  | lpe id i off => exact one v _ hx hv
  | lmap id => exact one v _ hx hv
  | und => exact one v _ hx hv
  | any => exact one v _ hx hv
  | tup l => exact one v _ hx hv
  | fn f l => exact one v _ hx hv
 cases l with
 | tup xs =>
  cases hu2 with
  | tup vs' _ hsz' hxs =>
   refine .tup vs' _ (by simpa using hsz') fun i v x hv hx => ?_
   rw [List.getElem?_map] at hx
   cases hc : xs[i]? with
   | none => rw [hc] at hx; cases hx
   | some y =>
    rw [hc] at hx
    cases hx
    exact oneA v y (List.all_eq_true.1 hL y (List.mem_of_getElem? hc)) (hxs i v y hv hc)
 | p d => exact oneA u (.p d) hL hu2
 | lsl id sz off len => exact oneA u (.lsl id sz off len) hL hu2
 | lpb id off => exact oneA u (.lpb id off) hL hu2
 | lpe id i off => exact oneA u (.lpe id i off) hL hu2
 | lmap id => exact oneA u (.lmap id) hL hu2
 | und => exact oneA u .und hL hu2
 | any => exact oneA u .any hL hu2
 | agg l => exact oneA u (.agg l) hL hu2
 | fn f l => exact oneA u (.fn f l) hL hu2
theorem TS {k : Nat} {H H1 : AO} {m m1 : Nat} {ls : List LV} {L : LV} (hM : ∀ A : BF, (∀ id, A.μ0 id ≠ none -> id < m) -> C3 P A H m k ls (fun l h c => l = L /\ h = H1 /\ c = m1))
  (gl : List (Nat × Nat)) {A : BF} {h : AO} {c : Nat} {F : Nat -> Prop} (hF : ∀ q, c <= q -> F q) (hB : Lg gl m m1 H H1 = true) (hobj : Ga (EO gl m c) h H) (hls : ls.all (If gl m) = true) (hL : QT gl m L = true)
  {μ : Nat -> Option Ba} {w : World} {vs : Array Value} (hh : HRel A μ h F w) (hsz : vs.size = ls.length) (hr : ∀ (i : Nat) (v : Value) (x : LV), vs[i]? = some v -> (ls.map (IH (EO gl m c)))[i]? = some x -> Aa (Ac A μ h) μ w v x) :
  Calls P k vs w fun en w' => ∃ u μ', en = .returned u /\ HRel A μ' (Dm (EO gl m c) H1 ++ Bq (gl.map (·.2)) h) (fun q => F q /\ (q < c \/ c + (m1 - m) <= q)) w' /\ Aa (Ac A μ' (Dm (EO gl m c) H1 ++ Bq (gl.map (·.2)) h)) μ' w' u (M6 (EO gl m c) L) /\ ∀ v x, Aa (Ac A μ h) μ w v x -> Aa (Ac A μ' (Dm (EO gl m c) H1 ++ Bq (gl.map (·.2)) h)) μ' w' v x := by
 refine (TR hM gl (fun i => c + (i - m)) (fun i hi => hF _ (by omega)) (fun i i' h1 h2 h3 => by omega) hB hobj hls hL hh hsz hr).mono ?_
 rintro e w' ⟨u, μ', he, g, hu, hk⟩
 refine ⟨u, μ', he, ⟨g.obj, g.inj, fun id hid => g.fresh id ⟨hid.1, fun i h1 h2 h3 => ?_⟩, g.base, g.size, g.block, g.os, g.tape, g.output, g.ext⟩, hu, hk⟩
 have := hid.2; omega
theorem TP {k : Nat} {H H1 : AO} {m m1 : Nat} {ls : List LV} {L : LV} (hM : ∀ A : BF, (∀ id, A.μ0 id ≠ none -> id < m) -> C3 P A H m k ls (fun l h c => l = L /\ h = H1 /\ c = m1))
  (gl : List (Nat × Nat)) {A : BF} {h : AO} {c : Nat} {K : LV -> AO -> Nat -> Prop} (hB : Lg gl m m1 H H1 = true) (hobj : Ga (EO gl m c) h H) (hls : ls.all (If gl m) = true) (hL : QT gl m L = true)
  (hK : K (M6 (EO gl m c) L) (Dm (EO gl m c) H1 ++ Bq (gl.map (·.2)) h) (c + (m1 - m))) : C3 P A h c k (ls.map (IH (EO gl m c))) K := by
 refine ⟨(hM ⟨default, fun _ => False, fun _ => False, fun _ => none, fun _ h => h.elim⟩ (fun _ h => absurd rfl h)).1, fun μ w vs hh hsz hr => ?_⟩
 refine (TS hM gl (fun q hq => by simp only [Fr]; omega) hB hobj hls hL hh (by simpa using hsz) hr).mono ?_
 rintro e w' ⟨u, μ', he, g, hu, hk⟩
 exact ⟨u, _, _, _, μ', he, hK, ⟨g.obj, g.inj, fun id hid => g.fresh id (by simp only [Fr] at hid ⊢; omega), g.base, g.size, g.block, g.os, g.tape, g.output, g.ext⟩, hu, hk⟩
theorem YC {k : Nat} {H H1 : AO} {m : Nat} {ls : List LV} {L : LV} (hM : ∀ A : BF, (∀ id, A.μ0 id ≠ none -> id < m) -> C3 P A H m k ls (fun l h c => l = L /\ h = H1 /\ c = m))
  (gl : List (Nat × Nat)) {h h' : AO} {ctr : Nat} {args : List LV} {l : LV} (hB : Lg gl m m H H1 = true) (hobj : ∀ c, Ga (EO gl m c) h H) (hls : ls.all (If gl m) = true) (hL : QT gl m L = true)
  (ha : ∀ c, ls.map (IH (EO gl m c)) = args) (hl : ∀ c, M6 (EO gl m c) L = l) (hh' : ∀ c, Dm (EO gl m c) H1 ++ Bq (gl.map (·.2)) h = h') : IM P h ctr k args l h' := by
 refine ⟨(hM ⟨default, fun _ => False, fun _ => False, fun _ => none, fun _ h => h.elim⟩ (fun _ h => absurd rfl h)).1, fun A F μ w vs hh hc hF hsz hr => ?_⟩
 obtain ⟨c, hF⟩ := hF
 rw [<- ha c] at hsz hr
 have := TS hM gl hF hB (hobj c) hls hL hh (by simpa using hsz) hr
 rw [hh' c, hl c] at this
 refine this.mono ?_
 rintro e w' ⟨u, μ', he, g, hu, hk⟩
 exact ⟨u, μ', he, ⟨g.obj, g.inj, fun id hid => g.fresh id ⟨hid.1, by omega⟩, g.base, g.size, g.block, g.os, g.tape, g.output, g.ext⟩, hu, hk⟩
end
def EY (P : Program) (k : Nat) (H : AO) (c : Nat) (args : List LV) (L : LV) (H1 : AO) (C : Nat) : Prop :=
 ∀ A : BF, (∀ id, A.μ0 id ≠ none -> id < c) -> C3 P A H c k args fun l h c' => l = L /\ h = H1 /\ c' = C
section
variable {P : Program} {AB : A4}
theorem Nt (hE : A8 P AB) {k : Nat} {fn : Func} {cd : Code} (hfun : P.funcs[k]? = some fn) (nt' : Nat) (rs : List ResultVar) (sl' : List (Nat × LV)) (hb : fn.body = some cd) (hn : (fn.name == "runtime.NumGoroutine") = false) (hnt : Nat.beq fn.ntmps nt' = true) (hrs : fn.results.toList = rs)
  {H H1 : AO} {c C : Nat} {ls : List LV} {L : LV} (hlen : Nat.ble ls.length nt' = true) (hsl : Jk 0 ls = sl')
  (body : ∀ A : BF, (∀ id, A.μ0 id ≠ none -> id < c) -> B3 P A cd (IP AB.tt rs A L H1 C) ⟨nt', sl', H, c⟩) : EY P k H c ls L H1 C := by
 intro A hA
 subst hsl
 refine Re hE hfun hb hn nt' (Nat.eq_of_beq_eq_true hnt) rs hrs (Nat.le_of_ble_eq_true hlen) fun A' hA' => ?_
 refine Ft (TF (body A' hA')) fun e s q => ?_
 have fin : (G7 AB.tt rs s = some L /\ s.heap = H1 /\ s.ctr = C) -> ∃ l, G7 AB.tt rs s = some l /\ l = L /\ s.heap = H1 /\ s.ctr = C := fun ⟨q1, q2, q3⟩ => ⟨_, q1, rfl, q2, q3⟩
 cases e <;> first | exact fin q | exact q.elim
section
variable {A : BF} {f : St -> Prop} {hf : Gw f} {nt : Nat} {sl : List (Nat × LV)} {h : AO} {c : Nat}
theorem Cy {k : Nat} {H H1 : AO} {m m1 : Nat} {ls : List LV} {L L' : LV} (hM : EY P k H m ls L H1 m1) (gl : List (Nat × Nat)) {h' : AO} {c' : Nat} {dst : Option Tmp} {fo : Operand} {args : Array Operand} {ts : Array TypeId}
  (hB : Lg gl m m1 H H1 = true) (hobj : Ga (EO gl m c) h H) (hls : ls.all (If gl m) = true) (hfn : BG nt sl fo = .fn k []) (hl : C7 nt sl args.toList some = some (ls.map (IH (EO gl m c))))
  (hh : Dm (EO gl m c) H1 ++ Bq (gl.map (·.2)) h = h') (hc : c + (m1 - m) = c') (hL : QT gl m L = true) (hL' : M6 (EO gl m c) L = L') (kk : f (match dst with | some d => ⟨nt, (d, L') :: sl, h', c'⟩ | none => ⟨nt, sl, h', c'⟩)) :
  BJ P A AB ⟨nt, sl, h, c⟩ dst (.call ⟨.value fo, args, ts⟩) ⟨f, hf⟩ := by
 rw [BI (h := h) (c := c)] at hfn
 show Ja _ _
 rw [hfn]
 show G4 P A h c k (args.toList.map _ ++ []) _
 rw [D2 hl, List.append_nil]
 refine TP hM gl hB hobj hls hL ?_
 rw [hh, hc, hL']
 show f (St.go ⟨nt, sl, h, c⟩ dst L' h' c')
 rw [Jd]
 cases dst <;> exact kk
theorem Ia {α : Type} {id : Nat} : ∀ {a b : List (Nat × α)}, AE id a = none -> AE id (a ++ b) = AE id b
 | [], _, _ => rfl
 | (k, v) :: a, b, h => by
  unfold AE at h
  split at h
  .cases h
  rename_i e
  show (if id = k then some v else AE id (a ++ b)) = _
  rw [if_neg e]
  exact Ia h
theorem MB {l : List Nat} : ∀ {h : AO} {id : Nat}, id ∉ l -> AE id (Bq l h) = AE id h := by
 induction l with
 | nil => intro h id _; rfl
 | cons i l ih =>
  intro h id hi
  simp only [List.mem_cons, not_or] at hi
  show AE id (Bq l (D7 i h)) = _
  rw [ih hi.2, DO hi.1]
def ZB {β : Type} (gl : List (Nat × Nat)) (v : LV) (k : LV -> Option β) : Option β := match v with
 | .lsl id sz off len => (match AE id gl with | some j => k (.lsl j sz off len) | none => none)
 | .lpb id off => (match AE id gl with | some j => k (.lpb j off) | none => none)
 | .lpe id i off => (match AE id gl with | some j => k (.lpe j i off) | none => none)
 | .lmap id => (match AE id gl with | some j => k (.lmap j) | none => none)
 | x => k x
def V8 {β : Type} (gl : List (Nat × Nat)) : List LV -> (List LV -> Option β) -> Option β
 | [], k => k []
 | v :: r, k => ZB gl v fun v' => V8 gl r fun r' => k (v' :: r')
def ZC {β : Type} (gl : List (Nat × Nat)) (o : A9) (k : A9 -> Option β) : Option β := match o with
 | .box cs => V8 gl cs fun cs' => k (.box cs')
 | o => k o
def VA {β : Type} (gl : List (Nat × Nat)) : AO -> (AO -> Option β) -> Option β
 | [], k => k []
 | (i, o) :: h, k => match AE i gl with
  | some j => ZC gl o fun o' => VA gl h fun r => k ((j, o') :: r)
  | none => none
def PM {β : Type} : List (Nat × Nat) -> AO -> (AO -> Option β) -> Option β
 | [], h, k => k h
 | p :: l, h, k => OD p.2 h fun h2 => PM l h2 k
def PN {β : Type} : AO -> AO -> (AO -> Option β) -> Option β
 | [], b, k => k b
 | x :: a, b, k => PN a b fun r => k (x :: r)
theorem YD {β : Type} {gl : List (Nat × Nat)} {ρ : Nat -> Nat} (hρ : ∀ i j, AE i gl = some j -> ρ i = j) {v : LV} {k : LV -> Option β} {z : β} (h : ZB gl v k = some z) : k (IH ρ v) = some z := by
 have key : ∀ (i : Nat) (f : Nat -> LV), (match AE i gl with | some j => k (f j) | none => none) = some z -> k (f (ρ i)) = some z := fun i f h => by
  cases e : AE i gl with
  | none => rw [e] at h; cases h
  | some j => rw [e] at h; rw [hρ i j e]; exact h
 cases v with
 | lsl id sz off len => exact key id (fun j => .lsl j sz off len) h
 | lpb id off => exact key id (fun j => .lpb j off) h
 | lpe id i off => exact key id (fun j => .lpe j i off) h
 | lmap id => exact key id (fun j => .lmap j) h
 | p d => exact h
 | und => exact h
 | any => exact h
 | agg l => exact h
 | tup l => exact h
 | fn f l => exact h
theorem TT {β : Type} {gl : List (Nat × Nat)} {ρ : Nat -> Nat} (hρ : ∀ i j, AE i gl = some j -> ρ i = j) {z : β} : ∀ {l : List LV} {k : List LV -> Option β}, V8 gl l k = some z -> k (l.map (IH ρ)) = some z
 | [], _, h => h
 | v :: r, k, h => TT hρ (l := r) (k := fun r' => k (IH ρ v :: r')) (YD hρ h)
theorem YE {β : Type} {gl : List (Nat × Nat)} {ρ : Nat -> Nat} (hρ : ∀ i j, AE i gl = some j -> ρ i = j) {o : A9} {k : A9 -> Option β} {z : β} (h : ZC gl o k = some z) : k (Ku ρ o) = some z := by
 cases o <;> first | exact h | exact TT hρ h
theorem R7 {β : Type} {gl : List (Nat × Nat)} {ρ : Nat -> Nat} (hρ : ∀ i j, AE i gl = some j -> ρ i = j) {z : β} : ∀ {l : AO} {k : AO -> Option β}, VA gl l k = some z -> k (Dm ρ l) = some z /\ ∀ p ∈ l, (AE p.1 gl).isSome = true
 | [], _, h => ⟨h, fun _ hp => by simp at hp⟩
 | (i, o) :: r, k, h => by
  unfold VA at h
  split at h
  .rename_i j e
   have h1 := YE hρ h
   obtain ⟨h2, h3⟩ := R7 hρ (l := r) (k := fun r => k ((j, Ku ρ o) :: r)) h1
   refine ⟨?_, fun p hp => ?_⟩
   .have : ρ i = j := hρ i j e
    simp only [Dm, this]; exact h2
   rcases List.mem_cons.1 hp with rfl | hp
   .simp only [e, Option.isSome_some]
   exact h3 p hp
  cases h
theorem OL {β : Type} : ∀ {l : List (Nat × Nat)} {h : AO} {k : AO -> Option β}, PM l h k = k (Bq (l.map (·.2)) h)
 | [], _, _ => rfl
 | p :: l, h, k => by
  simp only [PM, Kb, OL, List.map_cons, Bq]
theorem OM {β : Type} : ∀ {a b : AO} {k : AO -> Option β}, PN a b k = k (a ++ b)
 | [], _, _ => rfl
 | x :: a, b, k => by simp only [PN, OM, List.cons_append]
def YF (gl : List (Nat × Nat)) (H1 h : AO) : Option AO := VA gl H1 fun a => PM gl h fun b => PN a b some
theorem YG {gl : List (Nat × Nat)} {m c : Nat} : ∀ i j, AE i gl = some j -> EO gl m c i = j := fun i j e => by unfold EO CP; rw [e]
theorem M7 {α : Type} {i k : Nat} {v x : α} : ∀ {l : List (Nat × α)}, AE i (l ++ [(k, v)]) = some x -> AE i l = some x \/ (AE i l = none /\ i = k /\ x = v)
 | [], h => by
  simp only [List.nil_append, AE] at h
  split at h
  .cases h; exact .inr ⟨rfl, ‹_›, rfl⟩
  cases h
 | (a, b) :: l, h => by
  simp only [List.cons_append, AE] at h ⊢
  split at h
  .rw [if_pos ‹_›]; exact .inl h
  rw [if_neg ‹_›]; exact M7 h
theorem TU {gl : List (Nat × Nat)} {m s c : Nat} : ∀ i j, AE i (gl ++ [(m, s)]) = some j -> IZ gl m s c i = j := fun i j e => by
 unfold IZ CP
 rcases M7 e with e | ⟨e1, rfl, rfl⟩
 .rw [e]
 rw [e1]; simp [QU]
theorem Pu {gl : List (Nat × Nat)} {H1 h h' : AO} (hu : YF gl H1 h = some h') (m c : Nat) : Dm (EO gl m c) H1 ++ Bq (gl.map (·.2)) h = h' /\ ∀ p ∈ H1, (AE p.1 gl).isSome = true := by
 obtain ⟨h1, h2⟩ := R7 (YG (m := m) (c := c)) hu
 rw [OL, OM] at h1
 exact ⟨Option.some.inj h1, h2⟩
theorem LW {k : Nat} {H H1 : AO} {m : Nat} {ls args' : List LV} {L L' : LV} (hM : EY P k H m ls L H1 m) (gl : List (Nat × Nat)) {h' : AO} {dst : Option Tmp} {fo : Operand} {args : Array Operand} {ts : Array TypeId}
  (hB : Lg gl m m H H1 = true) (hobj : ∀ c, Ga (EO gl m c) h H) (hls : ls.all (If gl m) = true) (hfn : (CK fo, BG nt sl fo) = (true, .fn k [])) (hl : C7 nt sl args.toList some = some args') (ha : ∀ c, ls.map (IH (EO gl m c)) = args')
  (hu : YF gl H1 h = some h') (hL : QT gl m L = true) (hL' : M6 (EO gl m 0) L = L') (hLc : ∀ c, M6 (EO gl m c) L = M6 (EO gl m 0) L) (hk1 : (h'.all fun p => (AE p.1 h).isSome) = true)
  (hcm : (gl.all fun p => match AB.calm with | none => true | some b => b p.2) = true) (kk : f (match dst with | some d => ⟨nt, (d, L') :: sl, h', c + 1⟩ | none => ⟨nt, sl, h', c + 1⟩)) :
  Fk P A AB ⟨nt, sl, h, c⟩ dst (.call ⟨.value fo, args, ts⟩) ⟨f, hf⟩ := by
 obtain ⟨hdl, hfn⟩ := Prod.mk.inj hfn
 rw [BI (h := h) (c := c)] at hfn
 show (if CK fo = true then _ else _)
 rw [if_pos hdl]
 refine ⟨L', h', ⟨fo, k, [], rfl, hfn, ?_, fun q hq hn => ?_, fun b hb id cells _ hi hbi hx => ?_⟩, ?_⟩
 .show IM P h c k (args.toList.map _ ++ []) L' h'
  rw [D2 hl, List.append_nil]
  exact YC hM gl hB hobj hls hL ha (fun c => (hLc c).trans hL') (fun c => (Pu hu m c).1)
 .cases hx : AE q h' with
  | none => rfl
  | some o =>
   have := List.all_eq_true.1 hk1 _ (C1 hx)
   simp only at this
   have hn' : AE q h = none := hn
   rw [hn'] at this; cases this
 .have hnot : id ∉ gl.map (·.2) := fun hm => by
   obtain ⟨p, hp, rfl⟩ := List.mem_map.1 hm
   have := List.all_eq_true.1 hcm p hp
   rw [hb] at this
   simp only at this
   rw [this] at hbi; cases hbi
  rw [<- (Pu hu m 0).1]
  have hno : AE id (Dm (EO gl m 0) H1) = none := by
   cases hx2 : AE id (Dm (EO gl m 0) H1) with
   | none => rfl
   | some o =>
    obtain ⟨i, o1, g1, g2, _⟩ := Lh hx2
    obtain ⟨j, hj⟩ := Option.isSome_iff_exists.1 ((Pu hu m 0).2 _ (C1 g1))
    refine absurd (List.mem_map.2 ⟨(i, j), C1 hj, ?_⟩) hnot
    rw [<- g2]; unfold EO CP; rw [hj]
  rw [Ia hno, MB hnot]
  exact hx
 show f (St.go ⟨nt, sl, h, c⟩ dst L' h' (c + 1))
 rw [Jd]
 cases dst <;> exact kk
def Wr (gl : List (Nat × Nat)) (m s : Nat) (H1 h : AO) : Option AO := VA (gl ++ [(m, s)]) H1 fun a => PM gl h fun b => PN a b some
theorem ON {gl : List (Nat × Nat)} {m s : Nat} {H1 h h' : AO} (hu : Wr gl m s H1 h = some h') (c : Nat) : Dm (IZ gl m s c) H1 ++ Bq (gl.map (·.2)) h = h' /\ ∀ p ∈ H1, (AE p.1 (gl ++ [(m, s)])).isSome = true := by
 obtain ⟨h1, h2⟩ := R7 (TU (c := c)) hu
 rw [OL, OM] at h1
 exact ⟨Option.some.inj h1, h2⟩
theorem YH {k : Nat} {H H1 : AO} {m : Nat} {ls : List LV} {L : LV} (hM : EY P k H m ls L H1 (m + 1))
  (gl : List (Nat × Nat)) {h h' : AO} {ctr : Nat} {args : List LV} {l : LV} (hB : Lg gl m (m + 1) H H1 = true) (hobj : ∀ c, Ga (IZ gl m ctr c) h H) (hls : ls.all (If gl m) = true) (hL : QT gl m L = true)
  (ha : ∀ c, ls.map (IH (IZ gl m ctr c)) = args) (hl : ∀ c, M6 (IZ gl m ctr c) L = l) (hh' : ∀ c, Dm (IZ gl m ctr c) H1 ++ Bq (gl.map (·.2)) h = h') : IM P h ctr k args l h' := by
 refine ⟨(hM ⟨default, fun _ => False, fun _ => False, fun _ => none, fun _ h => h.elim⟩ (fun _ h => absurd rfl h)).1, fun A F μ w vs hh hc hF hsz hr => ?_⟩
 obtain ⟨c0, hF⟩ := hF
 rw [<- ha (max c0 (ctr + 1))] at hsz hr
 have := TR hM gl (QU m ctr (max c0 (ctr + 1))) (fun i hi => by
   unfold QU; split
   .exact hc
   exact hF _ (by omega)) (fun i i' h1 h2 h3 => by unfold QU at h3; split at h3 <;> split at h3 <;> omega) hB (hobj _) hls hL hh (by simpa using hsz) hr
 have e1 : Dm (CP gl (QU m ctr (max c0 (ctr + 1)))) H1 ++ Bq (gl.map (·.2)) h = h' := hh' _
 have e2 : M6 (CP gl (QU m ctr (max c0 (ctr + 1)))) L = l := hl _
 rw [e1, e2] at this
 refine this.mono ?_
 rintro e w' ⟨u, μ', he, g, hu, hk⟩
 refine ⟨u, μ', he, ⟨g.obj, g.inj, fun id hid => g.fresh id ⟨hid.1, fun i h1 h2 h3 => hid.2 ?_⟩, g.base, g.size, g.block, g.os, g.tape, g.output, g.ext⟩, hu, hk⟩
 have hi : i = m := by omega
 subst hi
 rw [h3]; simp [QU]
theorem QP {k : Nat} {H H1 : AO} {m : Nat} {ls args' : List LV} {L L' : LV} (hM : EY P k H m ls L H1 (m + 1)) (gl : List (Nat × Nat)) {h' : AO} {dst : Option Tmp} {fo : Operand} {args : Array Operand} {ts : Array TypeId}
  (hB : Lg gl m (m + 1) H H1 = true) (hobj : ∀ q, Ga (IZ gl m c q) h H) (hls : ls.all (If gl m) = true) (hfn : (CK fo, BG nt sl fo) = (true, .fn k [])) (hl : C7 nt sl args.toList some = some args') (ha : ∀ q, ls.map (IH (IZ gl m c q)) = args')
  (hu : Wr gl m c H1 h = some h') (hL : QT gl m L = true) (hL' : ∀ q, M6 (IZ gl m c q) L = L') (hk1 : (h'.all fun p => Nat.beq p.1 c || (AE p.1 h).isSome) = true)
  (hcm : (match AB.calm with | none => true | some b => (b c) && gl.all fun p => b p.2) = true) (kk : f (match dst with | some d => ⟨nt, (d, L') :: sl, h', c + 1⟩ | none => ⟨nt, sl, h', c + 1⟩)) :
  Fk P A AB ⟨nt, sl, h, c⟩ dst (.call ⟨.value fo, args, ts⟩) ⟨f, hf⟩ := by
 obtain ⟨hdl, hfn⟩ := Prod.mk.inj hfn
 rw [BI (h := h) (c := c)] at hfn
 show (if CK fo = true then _ else _)
 rw [if_pos hdl]
 refine ⟨L', h', ⟨fo, k, [], rfl, hfn, ?_, fun q hq hn => ?_, fun b hb id cells _ hi hbi hx => ?_⟩, ?_⟩
 .show IM P h c k (args.toList.map _ ++ []) L' h'
  rw [D2 hl, List.append_nil]
  exact YH hM gl hB hobj hls hL ha hL' (fun c' => (ON hu c').1)
 .cases hx : AE q h' with
  | none => rfl
  | some o =>
   have := List.all_eq_true.1 hk1 _ (C1 hx)
   simp only [Bool.or_eq_true] at this
   have hn' : AE q h = none := hn
   rw [hn'] at this
   rcases this with h1 | h1
   .exact absurd (Nat.eq_of_beq_eq_true h1) hq
   cases h1
 .have hb' : AB.calm = some b := hb
  rw [hb'] at hcm
  simp only [Bool.and_eq_true] at hcm
  have hnot : id ∉ gl.map (·.2) := fun hm => by
   obtain ⟨p, hp, rfl⟩ := List.mem_map.1 hm
   have := List.all_eq_true.1 hcm.2 p hp
   rw [this] at hbi; cases hbi
  rw [<- (ON hu 0).1]
  have hno : AE id (Dm (IZ gl m c 0) H1) = none := by
   cases hx2 : AE id (Dm (IZ gl m c 0) H1) with
   | none => rfl
   | some o =>
    obtain ⟨i, o1, g1, g2, _⟩ := Lh hx2
    obtain ⟨j, hj⟩ := Option.isSome_iff_exists.1 ((ON hu 0).2 _ (C1 g1))
    have hr := TU (c := 0) i j hj
    rcases M7 hj with hj' | ⟨_, _, hj'⟩
    .refine absurd (List.mem_map.2 ⟨(i, j), C1 hj', ?_⟩) hnot
     rw [<- g2, hr]
    rw [hr, hj'] at g2
    exact absurd g2.symm hi
  rw [Ia hno, MB hnot]
  exact hx
 show f (St.go ⟨nt, sl, h, c⟩ dst L' h' (c + 1))
 rw [Jd]
 cases dst <;> exact kk
end
end
end Go.E
/- Loops over maps, in whatever order (HG); iterators. No condition. -/
namespace Go.E
open Go Go.RowKit
section
variable {σ α Ans : Type}
def EA (left : σ -> List α) (z : σ -> Option (σ ⊕ Ans)) (g : σ -> α -> List α -> Option (σ ⊕ Ans)) : Nat -> σ -> Ans -> Prop
 | 0, _, _ => False
 | n + 1, s, r => (left s = [] -> z s = some (.inr r) \/ ∃ s', z s = some (.inl s') /\ EA left z g n s' r) /\
   ∀ (j : Nat) y, (left s)[j]? = some y -> g s y ((left s).eraseIdx j) = some (.inr r) \/ ∃ s', g s y ((left s).eraseIdx j) = some (.inl s') /\ EA left z g n s' r
open Classical in
noncomputable def HG (left : σ -> List α) (z : σ -> Option (σ ⊕ Ans)) (g : σ -> α -> List α -> Option (σ ⊕ Ans)) (s : σ) : Option Ans :=
 if h : ∃ r, ∃ n, EA left z g n s r then some (Classical.choose h) else none
theorem UE {left : σ -> List α} {z : σ -> Option (σ ⊕ Ans)} {g : σ -> α -> List α -> Option (σ ⊕ Ans)} {s : σ} {r : Ans} (h : HG left z g s = some r) : ∃ n, EA left z g n s r := by
 unfold HG at h
 split at h
 .rename_i hx
  cases h
  exact Classical.choose_spec hx
 cases h
theorem EA.uniq {left : σ -> List α} {z : σ -> Option (σ ⊕ Ans)} {g : σ -> α -> List α -> Option (σ ⊕ Ans)} : ∀ {n m : Nat} {s : σ} {r r' : Ans}, EA left z g n s r -> EA left z g m s r' -> r = r'
 | 0, _, _, _, _, h, _ => h.elim
 | _ + 1, 0, _, _, _, _, h => h.elim
 | n + 1, m + 1, s, r, r', h1, h2 => by
  have fin : ∀ o : Option (σ ⊕ Ans), (o = some (.inr r) \/ ∃ s', o = some (.inl s') /\ EA left z g n s' r) -> (o = some (.inr r') \/ ∃ s', o = some (.inl s') /\ EA left z g m s' r') -> r = r' := by
   rintro o (e1 | ⟨s1, e1, a1⟩) (e2 | ⟨s2, e2, a2⟩)
   .rw [e1] at e2; cases e2; rfl
   .rw [e1] at e2; cases e2
   .rw [e1] at e2; cases e2
   rw [e1] at e2; cases e2; exact a1.uniq a2
  cases hl : left s with
  | nil => exact fin _ (h1.1 hl) (h2.1 hl)
  | cons y l =>
   have hy : (left s)[0]? = some y := by rw [hl]; rfl
   exact fin _ (h1.2 0 y hy) (h2.2 0 y hy)
theorem V5 {left : σ -> List α} {z : σ -> Option (σ ⊕ Ans)} {g : σ -> α -> List α -> Option (σ ⊕ Ans)} {s : σ} {r : Ans} {n : Nat} (h : EA left z g n s r) : HG left z g s = some r := by
 have hx : ∃ r, ∃ n, EA left z g n s r := ⟨r, n, h⟩
 unfold HG
 rw [dif_pos hx]
 obtain ⟨m, hm⟩ := Classical.choose_spec hx
 rw [hm.uniq h]
theorem Jw {left : σ -> List α} {z : σ -> Option (σ ⊕ Ans)} {g : σ -> α -> List α -> Option (σ ⊕ Ans)} (I : σ -> Prop) {r : Ans}
  (h0 : ∀ s, I s -> left s = [] -> z s = some (.inr r)) (h1 : ∀ s (j : Nat) y, I s -> (left s)[j]? = some y -> g s y ((left s).eraseIdx j) = some (.inr r) \/ ∃ s', g s y ((left s).eraseIdx j) = some (.inl s') /\ left s' = (left s).eraseIdx j /\ I s') {s : σ} (hs : I s) : HG left z g s = some r := by
 have key : ∀ (k : Nat) (s : σ), (left s).length = k -> I s -> EA left z g (k + 1) s r := by
  intro k
  induction k with
  | zero =>
   intro s hk hs
   have hl : left s = [] := List.length_eq_zero_iff.1 hk
   exact ⟨fun _ => .inl (h0 s hs hl), fun j y hy => by rw [hl] at hy; simp at hy⟩
  | succ k ih =>
   intro s hk hs
   refine ⟨fun hl => by rw [hl] at hk; simp at hk, fun j y hy => ?_⟩
   rcases h1 s j y hs hy with h | ⟨s', e1, e2, e3⟩
   .exact .inl h
   have hj : j < (left s).length := (List.getElem?_eq_some_iff.1 hy).1
   exact .inr ⟨s', e1, ih s' (by rw [e2, List.length_eraseIdx, if_pos hj]; omega) e3⟩
 exact V5 (key _ s rfl hs)
end
section
variable {P : Program} {A : BF} {AB : A4} {st : St} {σ α Ans : Type}
def NX (A : BF) (l : List α) (I0 : St) (I1 : α -> List α -> St) (e : Exit) (st : St) : Prop :=
 e = .normal /\ ((l = [] /\ A6 A st I0) \/ ∃ (j : Nat) (y : α), l[j]? = some y /\ A6 A st (I1 y (l.eraseIdx j)))
theorem Wn {l : List α} {I0 : St} {I1 : α -> List α -> St} (hl : l = []) (w : A6 A st I0) : NX A l I0 I1 .normal st := ⟨rfl, .inl ⟨hl, w⟩⟩
theorem Wo {l : List α} {I0 : St} {I1 : α -> List α -> St} {j : Nat} {y : α} (hl : l[j]? = some y) (w : A6 A st (I1 y (l.eraseIdx j))) : NX A l I0 I1 .normal st := ⟨rfl, .inr ⟨j, y, hl, w⟩⟩
theorem Wm {c1 c2 : Code} {Q : Ans -> Exit -> St -> Prop} {a : Ans} (I : σ -> St) (I0 : σ -> St) (I1 : σ -> α -> List α -> St) {left : σ -> List α} {z : σ -> Option (σ ⊕ Ans)} {g : σ -> α -> List α -> Option (σ ⊕ Ans)} {s0 : σ}
  (h : HG left z g s0 = some a) (hw : A6 A st (I s0)) (hn : ∀ s, B3 P A c1 (NX A (left s) (I0 s) (I1 s)) (I s))
  (h0 : ∀ s b, z s = some b -> B3 P A c2 (LP A I Q b) (I0 s)) (h1 : ∀ s y l b, g s y l = some b -> B3 P A c2 (LP A I Q b) (I1 s y l)) : B3 P A (.loop (.seq c1 c2)) (Q a) st := by
 obtain ⟨n, hn'⟩ := UE h
 refine RH (ι := Nat × σ) (fun i s => EA left z g i.1 i.2 a /\ A6 A s (I i.2)) (fun i => i.1) (n, s0) ⟨hn', hw⟩ ?_
 rintro ⟨n, s⟩ st' ⟨hi, hws⟩
 refine EW hws ?_
 cases n with
 | zero => exact hi.elim
 | succ n =>
  have fin : ∀ (o : Option (σ ⊕ Ans)) (S : St), (∀ b, o = some b -> B3 P A c2 (LP A I Q b) S) -> (o = some (.inr a) \/ ∃ s', o = some (.inl s') /\ EA left z g n s' a) ->
    B3 P A c2 (NM (fun st' => ∃ i' : Nat × σ, (EA left z g i'.1 i'.2 a /\ A6 A st' (I i'.2)) /\ i'.1 < n + 1) (Q a)) S := by
   rintro o S hS (e | ⟨s', e, hr⟩)
   .refine Ft (hS _ e) fun e st'' q => ?_
    obtain ⟨he, hq⟩ := q
    cases e <;> first | exact absurd rfl he | exact hq
   refine Ft (hS _ e) fun e st'' q => ?_
   obtain ⟨he, hw'⟩ := q
   subst he
   exact ⟨(n, s'), ⟨hr, hw'⟩, Nat.lt_succ_self n⟩
  refine AC (Ft (hn s) fun e st'' q => ?_)
  obtain ⟨he, q⟩ := q
  subst he
  rcases q with ⟨hl, hw'⟩ | ⟨j, y, hy, hw'⟩
  .exact EW hw' (fin _ _ (h0 s) (hi.1 hl))
  exact EW hw' (fin _ _ (h1 s y _) (hi.2 j y hy))
end
section
variable {P : Program} {A : BF} {AB : A4} {f : St -> Prop} {hf : Gw f} {nt : Nat} {sl : List (Nat × LV)} {h : AO} {c : Nat} {d : Tmp} {κ υ : Type} {ke : κ -> DV} {ve : υ -> DV}
def UF (AB : A4) (t : Nat) : Bool := match AB.tt t with
 | some ti => match ti.sh with | .mp _ _ => true | _ => false
 | none => false
theorem V6 {t : Nat} (h : UF AB t = true) : ∃ ti a b, AB.tt t = some ti /\ ti.sh = .mp a b := by
 unfold UF at h
 split at h
 .rename_i ti e
  split at h
  .rename_i a b e2; exact ⟨ti, a, b, e, e2⟩
  cases h
 cases h
theorem Q4 {t : Nat} {x : Operand} {mp : List (κ × υ)} (ht : UF AB t = true) (hx : BG nt sl x = .p (.map (Ad ke ve mp))) (k : f ⟨nt, (d, .lpb c 0) :: sl, (c, .iter none (Ad ke ve mp)) :: h, c + 1⟩) :
  BJ P A AB ⟨nt, sl, h, c⟩ (some d) (.range t x) ⟨f, hf⟩ := by
 obtain ⟨ti, a, b, h1, h2⟩ := V6 ht
 rw [BI (h := h) (c := c)] at hx
 refine AT.2 ⟨ti, h1, D1.2 ⟨a, b, h2, ?_⟩⟩
 show Vj _ _
 rw [hx]
 exact k
theorem UG (mp : List (κ × υ)) (j : Nat) : (Ad ke ve mp).eraseIdx j = Ad ke ve (mp.eraseIdx j) := by
 unfold Ad
 rw [List.eraseIdx_eq_take_drop_succ, List.eraseIdx_eq_take_drop_succ, List.map_append, List.map_take, List.map_drop]
theorem X5 {cur : Option (DV × DV)} {x : Operand} {id : Nat} {mp : List (κ × υ)} (b : Bool) (hx : BG nt sl x = .lpb id 0) (hl : BU id h = some (.iter cur (Ad ke ve mp))) {H : Option (DV × DV) -> List (κ × υ) -> AO} (hu : ∀ q l, IQ id (.iter q (Ad ke ve l)) h some = some (H q l))
  (k0 : mp = [] -> f ⟨nt, (d, .tup [.p (.bool false)]) :: sl, h, c⟩)
  (k1 : ∀ (j : Nat) (y : κ × υ), mp[j]? = some y -> f ⟨nt, (d, .tup [.p (.bool true), .p (ke y.1), .p (ve y.2)]) :: sl, H (if b then some (ke y.1, ve y.2) else none) (mp.eraseIdx j), c⟩) :
  BJ P A AB ⟨nt, sl, h, c⟩ (some d) (.next x false) ⟨f, hf⟩ := by
 rw [BI (h := h) (c := c)] at hx
 rw [BV] at hl
 show Tq h (St.eval ⟨nt, sl, h, c⟩ x) (fun _ => f (St.go ⟨nt, sl, h, c⟩ (some d) (.tup [.p (.bool false)]) h c)) (fun id left j p => ∃ cur', (cur' = none \/ cur' = some p) /\ f (St.go ⟨nt, sl, h, c⟩ (some d) (.tup [.p (.bool true), .p p.1, .p p.2]) (Bo id (.iter cur' (left.eraseIdx j)) h) c))
 rw [hx]
 unfold Tq
 simp only [hl]
 refine ⟨fun e => ?_, fun j p hp => ?_⟩
 .refine k0 ?_
  cases mp with
  | nil => rfl
  | cons _ _ => simp [Ad] at e
 unfold Ad at hp
 rw [List.getElem?_map] at hp
 cases hy : mp[j]? with
 | none => rw [hy] at hp; cases hp
 | some y =>
  rw [hy] at hp
  cases hp
  have hu' := hu (if b then some (ke y.1, ve y.2) else none) (mp.eraseIdx j)
  rw [GA] at hu'
  have hu2 := Option.some.inj hu'
  refine ⟨if b then some (ke y.1, ve y.2) else none, by cases b <;> simp, ?_⟩
  rw [UG, hu2]
  exact k1 j y hy
theorem PF {x : Operand} {id : Nat} {mp : List (κ × υ)} (hx : BG nt sl x = .lpb id 0) (hl : BU id h = some (.iter none (Ad ke ve mp))) {H : κ × υ -> List (κ × υ) -> AO} (hu : ∀ y l, IQ id (.iter (some (ke y.1, ve y.2)) (Ad ke ve l)) h some = some (H y l))
  (k0 : mp = [] -> f ⟨nt, (d, .tup [.p (.bool false)]) :: sl, h, c⟩)
  (k1 : ∀ (j : Nat) (y : κ × υ), mp[j]? = some y -> f ⟨nt, (d, .tup [.p (.bool true), .p (ke y.1), .p (ve y.2)]) :: sl, H y (mp.eraseIdx j), c⟩) :
  BJ P A AB ⟨nt, sl, h, c⟩ (some d) (.next x false) ⟨f, hf⟩ :=
 X5 true hx hl (H := fun q l => (IQ id (.iter q (Ad ke ve l)) h some).getD []) (fun q l => by rw [GA]; rfl) k0 fun j y hy => by
  simp only [if_true, hu, Option.getD_some]; exact k1 j y hy
theorem Q5 {p : DV × DV} {left : List (DV × DV)} {x : Operand} {id : Nat} (hx : BG nt sl x = .lpb id 0) (hl : BU id h = some (.iter (some p) left)) {h' : AO} (hu : IQ id (.iter none left) h some = some h')
  (k : f ⟨nt, (d, .tup [.p p.1, .p p.2]) :: sl, h', c⟩) : BJ P A AB ⟨nt, sl, h, c⟩ (some d) (.entry x) ⟨f, hf⟩ := by
 rw [BI (h := h) (c := c)] at hx
 rw [BV] at hl
 rw [GA] at hu
 have hu2 := Option.some.inj hu
 show Tr h (St.eval ⟨nt, sl, h, c⟩ x) (fun id p left => f (St.go ⟨nt, sl, h, c⟩ (some d) (.tup [.p p.1, .p p.2]) (Bo id (.iter none left) h) c))
 rw [hx]
 unfold Tr
 simp only [hl]
 rw [hu2]
 exact k
end
end Go.E
/- Drawn regions whose last operation waits for all others: it is run as in the text's order (a call that turns an object, a call that hands back an own row). Condition: the checks, by kernel. -/
namespace Go.E
open Go Go.RowKit
def FD (o : Oper) : Oper := { o with dst := none, op := .move (.tmp 0), guard := none }
def Hm : List Oper -> List Oper
 | [] => []
 | [o] => [FD o]
 | o :: o' :: r => o :: Hm (o' :: r)
theorem KL (o : Oper) : ∀ l : List Oper, Hm (l ++ [o]) = l ++ [FD o]
 | [] => rfl
 | [a] => rfl
 | a :: b :: l => by
  have := KL o (b :: l)
  simp only [List.cons_append] at this ⊢
  rw [Hm, this]
def PI (md : Region.Mode) (ops : Array Oper) : List Nat -> List Nat -> Bool
 | _, [] => true
 | done, i :: r => (match ops[i]? with
  | some o => o.after.all fun x => !Region.binds md x || done.contains x.on
  | none => false) && PI md ops (i :: done) r
def M4 (md : Region.Mode) (ops : Array Oper) : List Nat -> List Nat -> Bool
 | _, [] => true
 | later, j :: r => (later.any fun k => match ops[k]? with
  | some o => o.after.any fun x => Region.binds md x && x.on == j
  | none => false) && M4 md ops (j :: later) r
def TO (ops : Array Oper) (L : Nat) : Bool := ops.all fun o => match o.guard with
 | some (j, _) => !(j == L)
 | none => true
def U8 (md : Region.Mode) (ops : Array Oper) (listed : Array Bool) : Prop := ∀ i, listed.getD i false = true -> ∀ o, ops[i]? = some o -> ∀ x ∈ o.after, Region.binds md x = true -> listed.getD x.on false = true
section
variable {P : Program} {A : BF} {AB : A4} {md : Region.Mode} {ops : Array Oper} {base : Nat} {K : St -> Prop}
theorem PJ {listed : Array Bool} (hr : Region.ready md ops listed = []) : ∀ (order done : List Nat), (∀ i ∈ done, listed.getD i false = true) -> (∀ i ∈ order, i < listed.size) -> PI md ops done order = true -> ∀ i ∈ order, listed.getD i false = true
 | [], _, _, _, _, i, hi => by simp at hi
 | k :: r, done, hd, hs, ht, i, hi => by
  simp only [PI, Bool.and_eq_true] at ht
  have hk : listed.getD k false = true := by
   cases hl : listed.getD k false with
   | true => rfl
   | false =>
    exfalso
    cases ho : ops[k]? with
    | none => rw [ho] at ht; simp at ht
    | some o =>
     rw [ho] at ht
     have hks := hs k (by simp)
     have : k ∈ Region.ready md ops listed := mem_ready.2 ⟨by
      simp only [Array.getD_eq_getD_getElem?, Array.getElem?_eq_getElem hks, Option.getD_some] at hl ⊢; exact hl, o, ho, fun x hx hb => by
      have h1 := Array.all_eq_true'.1 ht.1 x hx
      simp only [hb, Bool.not_true, Bool.false_or, List.contains_iff_mem] at h1
      exact hd _ h1⟩
     rw [hr] at this
     cases this
  rcases List.mem_cons.1 hi with rfl | hi
  .exact hk
  exact PJ hr r (k :: done) (fun j hj => by
  rcases List.mem_cons.1 hj with rfl | hj
  .exact hk
  exact hd j hj) (fun j hj => hs j (by simp [hj])) ht.2 i hi
theorem M5 {listed : Array Bool} (hc : U8 md ops listed) : ∀ (others later : List Nat), (∀ k ∈ later, ∀ o, ops[k]? = some o -> ∀ x ∈ o.after, Region.binds md x = true -> listed.getD x.on false = true) -> M4 md ops later others = true -> ∀ j ∈ others, listed.getD j false = true
 | [], _, _, _, j, hj => by simp at hj
 | k :: r, later, hl, h, j, hj => by
  simp only [M4, Bool.and_eq_true, List.any_eq_true] at h
  obtain ⟨⟨m, hm, h1⟩, h2⟩ := h
  have hk : listed.getD k false = true := by
   cases ho : ops[m]? with
   | none => rw [ho] at h1; cases h1
   | some o =>
    rw [ho] at h1
    obtain ⟨x, hx, hx2⟩ := Array.any_eq_true'.1 h1
    simp only [Bool.and_eq_true, beq_iff_eq] at hx2
    rw [<- hx2.2]
    exact hl m hm o ho x hx hx2.1
  rcases List.mem_cons.1 hj with rfl | hj
  .exact hk
  exact M5 hc r (k :: later) (fun i hi => by
   rcases List.mem_cons.1 hi with rfl | hi
   .exact hc _ hk
   exact hl i hi) h2 j hj
theorem U9 {Q' : Exit -> Act -> World -> Prop} {listed : Array Bool} (hr : Region.ready md ops listed = []) {a : Act} {w : World} (h : Q' .normal a w) : ∀ fuel, wpAny P md ops Q' fuel listed a w
 | 0 => ⟨hr, h⟩
 | fuel + 1 => ⟨fun _ => h, fun i hi => by rw [hr] at hi; cases hi⟩
theorem PK (hE : A8 P AB) {ops' : Array Oper} {n L : Nat} {oL : Oper} (hn : n = ops.size) (hn' : n = ops'.size) (hL : ops[L]? = some oL) (hL' : ops'[L]? = some (FD oL)) (hg : oL.guard = none) (heq : ∀ i, i ≠ L -> ops'[i]? = ops[i]?) (hgs : TO ops L = true)
  {others : List Nat} (hall : ∀ i, i < n -> i = L \/ i ∈ others) (hin : ∀ i ∈ others, i < n) (hLn : L < n) (ht : PI md ops [] (others ++ [L]) = true) (hch : M4 md ops [L] others.reverse = true)
  {Q' : Exit -> Act -> World -> Prop} {F : St -> Prop} (hQ : ∀ st a w, F st -> R A st a w -> Q' .normal a w) (hK : ∀ st, K st -> ∃ st', A6 A { st with ctr := base + n } st' /\ BJ P A AB st' oL.dst oL.op ⟨F, ⟨⟩⟩) :
  ∀ (fuel : Nat) (listed : Array Bool) (st : St) (a : Act) (w : World), listed.size = n -> U8 md ops listed -> listed.getD L true = false -> Gn P AB md ops' base K fuel listed st -> RF A (Fl base n listed) st a w -> wpAny P md ops Q' fuel listed a w := by
 have hrd : ∀ listed i, i ∈ Region.ready md ops' listed ↔ i ∈ Region.ready md ops listed := fun listed i => by
  rw [mem_ready, mem_ready]
  by_cases e : i = L
  .subst e
   rw [hL, hL']
   constructor
   .rintro ⟨h1, o, h2, h3⟩; cases h2; exact ⟨h1, oL, rfl, h3⟩
   rintro ⟨h1, o, h2, h3⟩; cases h2; exact ⟨h1, FD oL, rfl, h3⟩
  rw [heq i e]
 have hrd0 : ∀ listed, Region.ready md ops' listed = [] ↔ Region.ready md ops listed = [] := fun listed => by
  simp only [List.eq_nil_iff_forall_not_mem, hrd]
 have hne : ∀ listed : Array Bool, listed.size = n -> listed.getD L true = false -> Region.ready md ops listed ≠ [] := fun listed hs hl h0 => by
  have := PJ h0 (others ++ [L]) [] (fun i hi => by simp at hi) (fun i hi => by
   rcases List.mem_append.1 hi with hi | hi
   .have := hin i hi; omega
   simp at hi; omega) ht L (by simp)
  rw [Array.getD_eq_getD_getElem?, Array.getElem?_eq_getElem (by omega : L < listed.size)] at this hl
  simp only [Option.getD_some] at this hl
  rw [this] at hl; cases hl
 intro fuel
 induction fuel with
 | zero => intro listed st a w hs _ hl hD _; exact absurd ((hrd0 _).1 hD.1) (hne _ hs hl)
 | succ fuel ih =>
  intro listed st a w hs hc hl hD hR
  refine ⟨fun h0 => absurd h0 (hne _ hs hl), fun i hi => ?_⟩
  obtain ⟨o, l, e, ho, hd, hrec⟩ := hD.2 i ((hrd _ _).2 hi)
  obtain ⟨hun, o', ho', hdep⟩ := mem_ready.1 hi
  by_cases hiL : i = L
  .subst hiL
   rw [hL] at ho'; cases ho'
   rw [hL'] at ho; cases ho
   have hoth : ∀ j ∈ others, listed.getD j false = true := fun j hj => M5 hc others.reverse [i] (fun k hk o hok x hx hb => by
    simp at hk; subst hk
    rw [hL] at hok; cases hok
    exact hdep x hx hb) hch j (List.mem_reverse.2 hj)
   have hend : Region.ready md ops (listed.setIfInBounds i true) = [] := by
    rw [List.eq_nil_iff_forall_not_mem]
    intro j hj
    obtain ⟨g1, o2, g2, _⟩ := mem_ready.1 hj
    have hjn : j < n := by rw [hn]; exact (Array.getElem?_eq_some_iff.1 g2).1
    by_cases hji : i = j
    .subst hji
     simp [show i < listed.size by omega] at g1
    rw [getD_set_ne true hji] at g1
    rcases hall j hjn with rfl | h
    .exact hji rfl
    have := hoth j h
    rw [Array.getD_eq_getD_getElem?, Array.getElem?_eq_getElem (by omega : j < listed.size)] at this g1
    simp only [Option.getD_some] at this g1
    rw [this] at g1; cases g1
   obtain ⟨st', hev, hk⟩ : ∃ st', FL (apS st (base + i) (FD oL) l e) st' /\ K st' := by
    cases fuel with
    | zero => exact hrec.2
    | succ f => exact hrec.1 ((hrd0 _).2 hend)
   have he : e = .keep := by
    unfold Cv FD at hd
    simp only [CE] at hd
    exact hd.1
   subst he
   have hap : apS st (base + i) (FD oL) l .keep = st := rfl
   rw [hap] at hev
   have hR2 := hR.eqv hev
   have hRR : R A { st' with ctr := base + n } a w := by
    obtain ⟨⟨μ, x1, x2⟩, x3, x4⟩ := hR2
    exact ⟨⟨μ, x1.less fun id hid => .inl hid, x2⟩, x3, x4⟩
   unfold wpOp
   rw [hL]
   have hw : Region.wanted oL (yielded ops a.tmps) = true := by unfold Region.wanted; rw [hg]
   simp only [hw, if_true]
   obtain ⟨st2, hwk, hop⟩ := hK st' hk
   exact .inl (MH hE (NL hop) (hwk _ _ hRR) fun st'' a' w' hF hR' => U9 hend (hQ st'' a' w' hF hR') fuel)
  rw [heq i hiL] at ho
  have hlt : i < n := by rw [hn]; exact (Array.getElem?_eq_some_iff.1 ho).1
  have hd' : Cv P AB ops (st.at (base + i)) o l e := by
   unfold Cv at hd ⊢
   cases hgo : o.guard with
   | none => rw [hgo] at hd; exact hd
   | some g =>
    obtain ⟨j, want⟩ := g
    rw [hgo] at hd
    have hjL : j ≠ L := by
     have := Array.all_eq_true'.1 hgs o (Array.mem_of_getElem? ho)
     rw [hgo] at this
     simpa using this
    have hgl : DP (st.at (base + i)) ops' j = DP (st.at (base + i)) ops j := by unfold DP; rw [heq j hjL]
    simp only [hgl] at hd ⊢
    exact hd
  refine N5 (st := st.at (base + i)) hE ho ⟨hR.ex, hR.nt, hR.defers⟩ (.inr ⟨i, hlt, hun, rfl⟩) ⟨base + n, fun q hq => .inl hq⟩ hd' fun a' w' hR' => ?_
  refine ih _ _ _ _ (by simpa using hs) (fun k hk o2 ho2 x hx hb => ?_) (by rw [getD_set_ne true hiL]; exact hl) hrec ?_
  .by_cases hki : i = k
   .subst hki
    rw [ho] at ho2; cases ho2
    rw [ho] at ho'; cases ho'
    exact getD_set_true (hdep x hx hb)
   rw [getD_set_ne false hki] at hk
   exact getD_set_true (hc k hk o2 ho2 x hx hb)
  have hR'' : RF A (fun id => Fl base n listed id /\ id ≠ base + i) (apS st (base + i) o l e) a' w' := by
   obtain ⟨⟨μ, x1, x2⟩, x3, x4⟩ := hR'
   refine ⟨⟨μ, ?_, fun t ht => ?_⟩, ?_, x4⟩
   .rw [Bk] at x1 ⊢; exact x1
   .have := x2 t (by rw [FM] at ht ⊢; exact ht)
    rw [Bk, Cp] at this
    rw [Bk, Cp]; exact this
   rw [FM] at x3 ⊢; exact x3
  obtain ⟨⟨μ, x1, x2⟩, x3, x4⟩ := hR''
  refine ⟨⟨μ, x1.less fun id hid => ?_, x2⟩, x3, x4⟩
  rcases hid with hid | ⟨k, hk1, hk2, rfl⟩
  .exact ⟨.inl hid, by omega⟩
  have hik : i ≠ k := by
   rintro rfl
   simp [show i < listed.size by omega] at hk2
  exact ⟨.inr ⟨k, hk1, by rw [getD_set_ne true hik] at hk2; exact hk2, rfl⟩, by omega⟩
def Gs : List Oper -> Option Oper
 | [] => none
 | [o] => some o
 | _ :: o :: r => Gs (o :: r)
theorem JQ {o : Oper} : ∀ {l : List Oper}, Gs l = some o -> ∃ pre, l = pre ++ [o]
 | [a], h => by simp [Gs] at h; subst h; exact ⟨[], rfl⟩
 | a :: b :: l, h => by
  obtain ⟨pre, e⟩ := JQ (l := b :: l) (by simpa [Gs] using h)
  exact ⟨a :: pre, by rw [e]; rfl⟩
def PL (ops : List Oper) (others : List Nat) : Bool :=
 match Gs ops with
 | none => false
 | some o => o.guard.isNone && (TO ops.toArray (ops.length - 1) && ((List.range ops.length).all (fun i => Nat.beq i (ops.length - 1) || others.contains i) && ((others.all fun i => Nat.blt i ops.length) &&
   (PI .any ops.toArray [] (others ++ [ops.length - 1]) && M4 .any ops.toArray [ops.length - 1] others.reverse))))
theorem ZK (q : Bool) (hE : A8 P AB) (hm : P.follows .mixedOrders = true) {id : Nat} {ops : List Oper} {Q : Exit -> St -> Prop} {nt : Nat} {sl : List (Nat × LV)} {h : AO} {c : Nat} (others : List Nat) (n : Nat) {oL : Oper}
  (hq : (!q || AB.calm.isSome) = true) (hlast : Gs ops = some oL) (hcl : PL ops others = true) (hok : Fu q AB.own .any (Hm ops).toArray (others ++ [ops.length - 1]) (Array.replicate ops.length false) = true) (hl : Nat.beq (others.length + 1) ops.length = true) (hn : Nat.beq ops.length n = true)
  (k : C6 P A AB c n ⟨fun st => BJ P A AB st oL.dst oL.op ⟨Q .normal, ⟨⟩⟩, ⟨⟩⟩ (Ed (Hm ops) (others ++ [n - 1])) ⟨nt, sl, h, c⟩) : B3 P A (.region id ops.toArray true) Q ⟨nt, sl, h, c⟩ := fun a w hR => by
 have hn' := Nat.eq_of_beq_eq_true hn
 subst hn'
 have hq' : q = true -> ∃ b, AB.calm = some b := fun e => by subst e; exact Option.isSome_iff_exists.1 (by simpa using hq)
 obtain ⟨pre, rfl⟩ := JQ hlast
 unfold PL at hcl
 rw [hlast] at hcl
 simp only [Bool.and_eq_true, Option.isNone_iff_eq_none] at hcl
 obtain ⟨g0, g1, g2, g3, g4, g5⟩ := hcl
 have hlen : (pre ++ [oL]).length - 1 = pre.length := by simp
 rw [hlen] at g1 g2 g4 g5 hok k
 rw [KL] at hok k
 have hsz : (pre ++ [FD oL]).length = (pre ++ [oL]).length := by simp
 have hb : ((others ++ [pre.length]).all fun i => decide (i < (pre ++ [FD oL]).length)) = true := by
  rw [List.all_eq_true] at g3 ⊢
  intro i hi
  rcases List.mem_append.1 hi with hi | hi
  .have := Nat.le_of_ble_eq_true (g3 i hi)
   simp only [List.length_append, List.length_cons, List.length_nil, decide_eq_true_eq] at this ⊢
   omega
  simp at hi; subst hi; simp
 rw [<- hsz] at k hok
 have hd := Fw (others ++ [pre.length]) _ hb k
 refine wp_region_any hm ?_
 have hR' := (hR.drawn (w.drawn + 1)).toRF
 have hfr : ∀ k, AE (c + k) h = none := by
  intro k
  cases hx : AE (c + k) h with
  | none => rfl
  | some o =>
   obtain ⟨⟨μ, hh, _⟩, _, _⟩ := hR
   obtain ⟨loc, h1, _⟩ := hh.obj _ _ hx
   rw [hh.fresh _ (by simp [Fr])] at h1; cases h1
 have hD := Gb q hq' (others ++ [pre.length]) (Array.replicate (pre ++ [FD oL]).length false) ⟨nt, sl, h, c⟩ hok (fun k _ => hfr k) hd
 have hol : (others ++ [pre.length]).length = (pre ++ [oL]).length := by
  have := Nat.eq_of_beq_eq_true hl
  simpa using this
 rw [hol, hsz] at hD
 have hs2 : (pre ++ [oL]).toArray.size = (pre ++ [oL]).length := by simp
 rw [hs2]
 have hL0 : pre.length < (pre ++ [oL]).length := by simp
 refine PK (A := A) (n := (pre ++ [oL]).length) (L := pre.length) (oL := oL) (ops' := (pre ++ [FD oL]).toArray) (F := Q .normal) (base := c) hE (by simp) (by simp) (by simp) (by simp) g0 (fun i hi => ?_) g1 (others := others) (fun i hi => ?_) (fun i hi => ?_) hL0 g4 g5
  (fun st a w hF hRR => ⟨st, hRR, hF⟩) (fun st hK => ⟨_, A6.refl _, hK⟩) (pre ++ [oL]).length _ _ a _ (by simp) (fun i hi => ?_) ?_ hD ?_
 .simp only [List.getElem?_toArray]
  rcases Nat.lt_trichotomy i pre.length with h' | h' | h'
  .rw [List.getElem?_append_left h', List.getElem?_append_left h']
  .exact absurd h' hi
  rw [List.getElem?_eq_none (by simp; omega), List.getElem?_eq_none (by simp; omega)]
 .have := List.all_eq_true.1 g2 i (List.mem_range.2 hi)
  simp only [Bool.or_eq_true, List.contains_iff_mem] at this
  exact this.imp (fun h => Nat.eq_of_beq_eq_true h) fun h => h
 .exact Nat.le_of_ble_eq_true (List.all_eq_true.1 g3 i hi)
 .exfalso
  rw [Array.getD_eq_getD_getElem?] at hi
  rcases Nat.lt_or_ge i (pre ++ [oL]).length with h' | h'
  .rw [Array.getElem?_eq_getElem (by simpa using h')] at hi; simp at hi
  rw [Array.getElem?_eq_none (by simpa using h')] at hi; simp at hi
 .rw [Array.getD_eq_getD_getElem?, Array.getElem?_eq_getElem (by simp)]; simp
 obtain ⟨⟨μ, x1, x2⟩, x3, x4⟩ := hR'
 refine ⟨⟨μ, x1.less fun id hid => ?_, x2⟩, x3, x4⟩
 rcases hid with hid | ⟨k, _, _, rfl⟩
 .simp only [Fr]; omega
 simp [Fr]
theorem Ys (q : Bool) (hE : A8 P AB) (hm : P.follows .mixedOrders = true) {id : Nat} {ops : List Oper} {Q : Exit -> St -> Prop} {nt : Nat} {sl : List (Nat × LV)} {h : AO} {c : Nat} (others : List Nat) (n : Nat) {oL : Oper}
  (hq : (!q || AB.calm.isSome) = true) (hlast : Gs ops = some oL) (hcl : PL ops others = true) (hok : Fu q AB.own .any (Hm ops).toArray (others ++ [ops.length - 1]) (Array.replicate ops.length false) = true) (hl : Nat.beq (others.length + 1) ops.length = true) (hn : Nat.beq ops.length n = true)
  (k : C6 P A AB c n ⟨fun st => ∃ st', A6 A st st' /\ BJ P A AB st' oL.dst oL.op ⟨Q .normal, ⟨⟩⟩, ⟨⟩⟩ (Ed (Hm ops) (others ++ [n - 1])) ⟨nt, sl, h, c⟩) : B3 P A (.region id ops.toArray true) Q ⟨nt, sl, h, c⟩ := fun a w hR => by
 have hn' := Nat.eq_of_beq_eq_true hn
 subst hn'
 have hq' : q = true -> ∃ b, AB.calm = some b := fun e => by subst e; exact Option.isSome_iff_exists.1 (by simpa using hq)
 obtain ⟨pre, rfl⟩ := JQ hlast
 unfold PL at hcl
 rw [hlast] at hcl
 simp only [Bool.and_eq_true, Option.isNone_iff_eq_none] at hcl
 obtain ⟨g0, g1, g2, g3, g4, g5⟩ := hcl
 have hlen : (pre ++ [oL]).length - 1 = pre.length := by simp
 rw [hlen] at g1 g2 g4 g5 hok k
 rw [KL] at hok k
 have hsz : (pre ++ [FD oL]).length = (pre ++ [oL]).length := by simp
 have hb : ((others ++ [pre.length]).all fun i => decide (i < (pre ++ [FD oL]).length)) = true := by
  rw [List.all_eq_true] at g3 ⊢
  intro i hi
  rcases List.mem_append.1 hi with hi | hi
  .have := Nat.le_of_ble_eq_true (g3 i hi)
   simp only [List.length_append, List.length_cons, List.length_nil, decide_eq_true_eq] at this ⊢
   omega
  simp at hi; subst hi; simp
 rw [<- hsz] at k hok
 have hd := Fw (others ++ [pre.length]) _ hb k
 refine wp_region_any hm ?_
 have hR' := (hR.drawn (w.drawn + 1)).toRF
 have hfr : ∀ k, AE (c + k) h = none := by
  intro k
  cases hx : AE (c + k) h with
  | none => rfl
  | some o =>
   obtain ⟨⟨μ, hh, _⟩, _, _⟩ := hR
   obtain ⟨loc, h1, _⟩ := hh.obj _ _ hx
   rw [hh.fresh _ (by simp [Fr])] at h1; cases h1
 have hD := Gb q hq' (others ++ [pre.length]) (Array.replicate (pre ++ [FD oL]).length false) ⟨nt, sl, h, c⟩ hok (fun k _ => hfr k) hd
 have hol : (others ++ [pre.length]).length = (pre ++ [oL]).length := by
  have := Nat.eq_of_beq_eq_true hl
  simpa using this
 rw [hol, hsz] at hD
 have hs2 : (pre ++ [oL]).toArray.size = (pre ++ [oL]).length := by simp
 rw [hs2]
 have hL0 : pre.length < (pre ++ [oL]).length := by simp
 refine PK (A := A) (n := (pre ++ [oL]).length) (L := pre.length) (oL := oL) (ops' := (pre ++ [FD oL]).toArray) (F := Q .normal) (base := c) hE (by simp) (by simp) (by simp) (by simp) g0 (fun i hi => ?_) g1 (others := others) (fun i hi => ?_) (fun i hi => ?_) hL0 g4 g5
  (fun st a w hF hRR => ⟨st, hRR, hF⟩) (fun st hK => hK) (pre ++ [oL]).length _ _ a _ (by simp) (fun i hi => ?_) ?_ hD ?_
 .simp only [List.getElem?_toArray]
  rcases Nat.lt_trichotomy i pre.length with h' | h' | h'
  .rw [List.getElem?_append_left h', List.getElem?_append_left h']
  .exact absurd h' hi
  rw [List.getElem?_eq_none (by simp; omega), List.getElem?_eq_none (by simp; omega)]
 .have := List.all_eq_true.1 g2 i (List.mem_range.2 hi)
  simp only [Bool.or_eq_true, List.contains_iff_mem] at this
  exact this.imp (fun h => Nat.eq_of_beq_eq_true h) fun h => h
 .exact Nat.le_of_ble_eq_true (List.all_eq_true.1 g3 i hi)
 .exfalso
  rw [Array.getD_eq_getD_getElem?] at hi
  rcases Nat.lt_or_ge i (pre ++ [oL]).length with h' | h'
  .rw [Array.getElem?_eq_getElem (by simpa using h')] at hi; simp at hi
  rw [Array.getElem?_eq_none (by simpa using h')] at hi; simp at hi
 .rw [Array.getD_eq_getD_getElem?, Array.getElem?_eq_getElem (by simp)]; simp
 obtain ⟨⟨μ, x1, x2⟩, x3, x4⟩ := hR'
 refine ⟨⟨μ, x1.less fun id hid => ?_, x2⟩, x3, x4⟩
 rcases hid with hid | ⟨k, _, _, rfl⟩
 .simp only [Fr]; omega
 simp [Fr]
end
section
variable {α : Type} {enc : α -> List DV} {l r : List α} {h : AO} {e sz : Nat}
theorem BC {id : Nat} {n m : Int} (hr : GR l n m = some r) (hl : BU id h = some (.row e sz (l.map enc))) : F6 h (.lsl id sz n.toNat (m - n).toNat) = some (r.map enc) := by
 obtain ⟨h1, h2⟩ := Rz hr
 rw [BV] at hl
 simp only [F6, hl, List.length_map, h1, if_true]
 rw [<- List.map_drop, <- List.map_take, h2]
theorem BR {id : Nat} {m : Int} (hr : GR l 0 m = some r) (hl : BU id h = some (.row e sz (l.map enc))) : F6 h (.lsl id sz 0 r.length) = some (r.map enc) := by
 obtain ⟨h1, h2⟩ := U4 hr
 rw [BV] at hl
 simp only [F6, hl, List.length_map, h1, if_true]
 rw [<- List.map_drop, <- List.map_take, h2]
end
end Go.E
/- Drawn regions draw by draw, each operation as in the text's order (calls that make or turn objects of their own, too). Condition: no guards. -/
namespace Go.E
open Go Go.RowKit
section
variable {P : Program} {A : BF} {AB : A4} {md : Region.Mode} {ops : Array Oper} {Q : Exit -> St -> Prop}
def DS (P : Program) (A : BF) (md : Region.Mode) (ops : Array Oper) (Q : Exit -> St -> Prop) (fuel : Nat) (listed : Array Bool) (st : St) : Prop :=
 ∀ a w, R A st a w -> wpAny P md ops (fun e a' w' => ∃ st', R A st' a' w' /\ Q e st') fuel listed a w
theorem Yj (hE : A8 P AB) {fuel : Nat} {listed : Array Bool} {st : St} {i : Nat} {o : Oper} (ho : ops[i]? = some o) (hg : o.guard = none)
  (k : EF P A AB ⟨fun st' => DS P A md ops Q fuel (listed.setIfInBounds i true) st', ⟨⟩⟩ [⟨o.dst, o.op, none⟩] st) {a : Act} {w : World} (hR : R A st a w) :
  wpOp P ops (fun e a' w' => ∃ st', R A st' a' w' /\ Q e st') i (wpAny P md ops (fun e a' w' => ∃ st', R A st' a' w' /\ Q e st') fuel (listed.setIfInBounds i true)) a w := by
 unfold wpOp
 rw [ho]
 have hw : Region.wanted o (yielded ops a.tmps) = true := by unfold Region.wanted; rw [hg]
 simp only [hw, if_true]
 have k' : BJ P A AB st o.dst o.op ⟨EF P A AB ⟨fun st' => DS P A md ops Q fuel (listed.setIfInBounds i true) st', ⟨⟩⟩ [], ⟨⟩⟩ := k
 exact .inl (MH hE (NL k') hR fun st' a' w' hF hR' => by
  obtain ⟨hF⟩ := hF
  exact hF a' w' hR')
theorem ZO {fuel : Nat} {listed : Array Bool} {st : St} (hr : Region.ready md ops listed = []) (k : Q .normal st) : DS P A md ops Q fuel listed st := fun a w hR => by
 cases fuel with
 | zero => exact ⟨hr, st, hR, k⟩
 | succ f => exact ⟨fun _ => ⟨st, hR, k⟩, fun i hi => by rw [hr] at hi; cases hi⟩
theorem Y8 (hE : A8 P AB) {fuel : Nat} {listed : Array Bool} {st : St} (i : Nat) {o : Oper} (hr : Region.ready md ops listed = [i]) (ho : ops[i]? = some o) (hg : o.guard = none)
  (k : EF P A AB ⟨fun st' => DS P A md ops Q fuel (listed.setIfInBounds i true) st', ⟨⟩⟩ [⟨o.dst, o.op, none⟩] st) : DS P A md ops Q (fuel + 1) listed st := fun a w hR =>
 ⟨fun h => absurd (hr.symm.trans h) (by simp), fun j hj => by
  rw [hr] at hj
  simp only [List.mem_singleton] at hj
  subst hj
  exact Yj hE ho hg k hR⟩
end
end Go.E
/- maps.Clone as a call out of a data state: a new map with the same entries. For a map of one's own. -/
namespace Go.E
open Go Go.RowKit Go.Shelf Go.Proofs
section
variable {P : Program} {ρ : Ren}
theorem UV (L : SlLaysW.n5 P ρ) {h : AO} {ctr id : Nat} {m : List (DV × DV)} (hl : AE id h = some (.map m)) : IM P h ctr (ρ.f 5) [.lmap id] (.lmap ctr) ((ctr, .map m) :: h) := by
 refine ⟨?_, fun A F μ w vs hh hc _ hsz hr => ?_⟩
 .obtain ⟨nm, hn, hf⟩ := L.f5
  exact Gv hf rfl hn
 have hvs : ∃ a, vs = #[a] := by
  obtain ⟨l⟩ := vs
  match l, hsz with
  | [a], _ => exact ⟨a, rfl⟩
 obtain ⟨v0, rfl⟩ := hvs
 have h0 := hr 0 v0 _ rfl rfl
 cases h0 with
 | lmap id loc hm hn =>
  obtain ⟨loc', h1, h2⟩ := hh.obj id _ hl
  rw [hm] at h1; cases h1
  obtain ⟨_, es, clock, hb, h3, h4, h5⟩ := h2
  refine (AnyW.maps_Clone L loc.b es clock w hb).mono fun e w' ⟨he, hw⟩ => ?_
  subst hw
  have hno : μ ctr = none := hh.fresh ctr hc
  have hsub : ∀ id x, AE id ((ctr, A9.map m) :: h) = some x -> (id = ctr /\ x = .map m) \/ AE id h = some x := by
   intro id x hx
   simp only [AE] at hx
   split at hx
   .cases hx; exact .inl ⟨‹_›, rfl⟩
   exact .inr hx
  have hkm : BW (Bx μ h) w (w.alloc (.map es clock)) := ⟨by simp, fun b hb' _ => Dx w _ hb'⟩
  have hfr : JX μ h ((ctr, A9.map m) :: h) w ⟨false, w.heap.size, 0, 0, 0⟩ := fun _ => .inl (Nat.le_refl _)
  have hown := hh.sub_add ⟨false, w.heap.size, 0, 0, 0⟩ (.map m) ((ctr, .map m) :: h) hfr hsub
  have hadd := hh.add (w' := w.alloc (.map es clock)) hno ⟨false, w.heap.size, 0, 0, 0⟩ (.map m) ((ctr, .map m) :: h) (fun _ => by simp) hfr hsub hkm (fun id x lc hx hne hm' hnl => by
   rcases hsub id x hx with ⟨rfl, _⟩ | hx
   .exact absurd rfl hne
   .exact Dx w _ (hh.base id x lc hx hm' hnl).1) rfl rfl rfl
   ⟨rfl, es, clock, ER w _, h3, h4, fun i e p he hp => ⟨(h5 i e p he hp).1.mono hkm.own hown, (h5 i e p he hp).2.mono hkm.own hown⟩⟩
  exact ⟨_, _, he, hadd, .lmap ctr ⟨false, w.heap.size, 0, 0, 0⟩ (by simp [Bt]) rfl, fun v x hv => hv.mono hkm.own hown (G1 hno _)⟩
end
section
variable {P : Program} {A : BF} {AB : A4} {ρ : Ren} {nt : Nat} {sl : List (Nat × LV)} {h : AO} {c d : Nat} {f : St -> Prop} {hf : Gw f}
theorem Kz {k : Nat} (L : SlLaysW.n5 P ρ) (hk : ρ.f 5 = k) {fo a1 : Operand} {args : Array Operand} {ts : Array TypeId} {id : Nat} {m : List (DV × DV)} (hl : BU id h = some (.map m))
  (hfn : (CK fo, BG nt sl fo) = (true, .fn k [])) (ha : args.toList = [a1]) (h1 : BG nt sl a1 = .lmap id)
  (kk : f ⟨nt, (d, .lmap c) :: sl, (c, .map m) :: h, c + 1⟩) : Fk P A AB ⟨nt, sl, h, c⟩ (some d) (.call ⟨.value fo, args, ts⟩) ⟨f, hf⟩ := by
 obtain ⟨hdl, hfn⟩ := Prod.mk.inj hfn
 rw [BI (h := h) (c := c)] at hfn h1
 rw [BV] at hl
 subst hk
 have haa : args = #[a1] := by rw [<- Array.toList_inj, ha]
 subst haa
 show (if CK fo = true then _ else _)
 rw [if_pos hdl]
 refine ⟨.lmap c, (c, .map m) :: h, ⟨fo, _, [], rfl, hfn, ?_, fun q hq hn => ?_, fun b _ id' o _ hi _ hx => ?_⟩, kk⟩
 .show IM P h c _ ([St.eval _ a1] ++ []) _ _
  rw [h1, List.append_nil]
  exact UV L hl
 .simp only [AE, hq, if_false]; exact hn
 simp only [AE, hi, if_false]; exact hx
end
end Go.E
/- The program's data in plain Lean, and how they stand in cells. Written by a program (gen.py). No condition. -/
namespace Go.E
open Go Go.RowKit Go.Proofs Go.Shelf
theorem bq {α β : Type} {o : Option α} {f : α -> Option β} {b : β} {G : Prop} (h : o.bind f = some b) (k : ∀ a, o = some a -> f a = some b -> G) : G := by
 obtain ⟨a, h1, h2⟩ := bd h
 exact k a h1 h2
abbrev bx (l : List DV) : A9 := .box (l.map .p)
theorem Z {α : Type} {a : α} : a = a := rfl
theorem AZ {σ : Type} {A : BF} {S : σ -> St} {st : St} {s t : σ} (h : some s = some t) (hw : A6 A st (S s)) : NP A S t .normal st := by
 cases h; exact ZQ hw
theorem BD {σ Ans : Type} {A : BF} {S : σ -> St} {Q : Ans -> Exit -> St -> Prop} {st : St} {s : σ} {b : σ ⊕ Ans} (h : some (.inl s) = some b) (hw : A6 A st (S s)) : LP A S Q b .normal st := by
 cases h; exact ZP hw
theorem Bw {σ Ans : Type} {A : BF} {S : σ -> St} {Q : Ans -> Exit -> St -> Prop} {st : St} {x : Ans} {b : σ ⊕ Ans} {id : Nat} (h : some (.inr x) = some b) (k : ∀ a, some x = some a -> Q a (.exit id) st) : LP A S Q b (.exit id) st := by
 cases h; exact Y9 (k x rfl)
theorem Bp {σ Ans : Type} {A : BF} {S : σ -> St} {Q : Ans -> Exit -> St -> Prop} {st : St} {x : Ans} {b : σ ⊕ Ans} (h : some (.inr x) = some b) (k : ∀ a, some x = some a -> Q a .ret st) : LP A S Q b .ret st := by
 cases h; exact ZA (k x rfl)
theorem DJ {σ Ans : Type} {A : BF} {S : σ -> St} {Q : Ans -> Exit -> St -> Prop} {st : St} {o : Option Ans} {b : σ ⊕ Ans} {id : Nat} (h : o.map .inr = some b) (k : ∀ a, o = some a -> Q a (.exit id) st) : LP A S Q b (.exit id) st := by
 obtain ⟨a, h1, rfl⟩ := mp h; exact Y9 (k a h1)
theorem ZS {σ Ans : Type} {A : BF} {S : σ -> St} {Q : Ans -> Exit -> St -> Prop} {st : St} {o : Option Ans} {b : σ ⊕ Ans} (h : o.map .inr = some b) (k : ∀ a, o = some a -> Q a .ret st) : LP A S Q b .ret st := by
 obtain ⟨a, h1, rfl⟩ := mp h; exact ZA (k a h1)

instance : BEq ByteArray := ⟨fun a b => a.toList == b.toList⟩
def Ak (n : Int) : Int := IntKind.wrap .i64 n
def Wl (a b : Int) : Int := IntKind.wrap .i64 (BitVec.ofInt (IntKind.bits .i64) a ^^^ BitVec.ofInt (IntKind.bits .i64) b).toNat
def AJ (n : Int) : List DV := [.int .i64 n]
def Yt (b : Bool) : List DV := [.bool b]
def E3 (s : ByteArray) : List DV := [.str s]
def Ah {α : Type} (sz : Nat) (enc : α -> List DV) (l : List α) : DV := .slice sz (l.map enc)
def KK {α : Type} (sz : Nat) (enc : α -> List DV) (l : List α) : List DV := [.slice sz (l.map enc)]
structure AK where
 elem : Int
 fin : Int
 deriving DecidableEq
def A1 (x : AK) : List DV := [.int .i64 x.elem, .int .i64 x.fin]
theorem JK (x y : AK) : Ce (A1 x) (A1 y) = (x == y) := by
 rw [Bool.eq_iff_iff]
 rw [beq_iff_eq]
 simp only [A1, Ce, Dt, Bool.and_eq_true, beq_iff_eq, Bool.and_true]
 constructor
 .intro h
  obtain ⟨a1, a2⟩ := x; obtain ⟨b1, b2⟩ := y; simp only at h; simp [h]
 rintro rfl; simp
structure B9 where
 a : AK
 b : AK
 deriving DecidableEq
def Bu (x : B9) : List DV := [.int .i64 x.a.elem, .int .i64 x.a.fin, .int .i64 x.b.elem, .int .i64 x.b.fin]
structure Bv where
 name : ByteArray
 kind : Int
 length : Int
 deriving DecidableEq
def Bz (x : Bv) : List DV := [.str x.name, .int .i64 x.kind, .int .i64 x.length]
structure BK where
 name : ByteArray
 at_ : AK
 auto : Bool
 deriving DecidableEq
def BQ (x : BK) : List DV := [.str x.name, .int .i64 x.at_.elem, .int .i64 x.at_.fin, .bool x.auto]
structure CM where
 name : ByteArray
 elems : (List Int)
 deriving DecidableEq
def B4 (x : CM) : List DV := [.str x.name, .slice 1 (x.elems.map AJ)]
structure AW where
 elems : (List Bv)
 joins : (List B9)
 signals : (List BK)
 lines : (List CM)
 top : Int
 brake : Int
 margin : Int
 throw : Int
 hard : Bool
 deriving DecidableEq
def An (x : AW) : List DV := [.slice 3 (x.elems.map Bz), .slice 4 (x.joins.map Bu), .slice 4 (x.signals.map BQ), .slice 2 (x.lines.map B4), .int .i64 x.top, .int .i64 x.brake, .int .i64 x.margin, .int .i64 x.throw, .bool x.hard]
structure XJ where
 a0 : Int
 a1 : Int
 deriving DecidableEq
structure CT where
 p : AW
 next : (List (AK × AK))
 reads : (List (AK × Int))
 line : (List (Int × XJ))
 lead : (List (Int × Int))
 deriving DecidableEq
structure Ax where
 elem : Int
 in_ : Int
 out : Int
 deriving DecidableEq
def BH (x : Ax) : List DV := [.int .i64 x.elem, .int .i64 x.in_, .int .i64 x.out]
structure AN where
 elem : Int
 pos : Int
 deriving DecidableEq
def AM (x : AN) : List DV := [.int .i64 x.elem, .int .i64 x.pos]
theorem V4 (x y : AN) : Ce (AM x) (AM y) = (x == y) := by
 rw [Bool.eq_iff_iff]
 rw [beq_iff_eq]
 simp only [AM, Ce, Dt, Bool.and_eq_true, beq_iff_eq, Bool.and_true]
 constructor
 .intro h
  obtain ⟨a1, a2⟩ := x; obtain ⟨b1, b2⟩ := y; simp only at h; simp [h]
 rintro rfl; simp
structure AV where
 frm : Int
 to : Int
 fin : Int
 steps : (List Ax)
 needs : (List AN)
 guards : (List AN)
 zone : (List Int)
 holds : (List Int)
 bare : Bool
 deriving DecidableEq
def Av (x : AV) : List DV := [.int .i64 x.frm, .int .i64 x.to, .int .i64 x.fin, .slice 3 (x.steps.map BH), .slice 2 (x.needs.map AM), .slice 2 (x.guards.map AM), .slice 1 (x.zone.map AJ), .slice 1 (x.holds.map AJ), .bool x.bare]
structure De where
 out : Int
 pos : Int
 deriving DecidableEq
def La (x : De) : List DV := [.int .i64 x.out, .int .i64 x.pos]
structure Am where
 p : AW
 r : AV
 met : (List AK)
 deriving DecidableEq
structure Nb where
 plan : AW
 roads : (List AV)
 deriving DecidableEq
structure AS where
 elems : Int
 steps : (List (Int × (List Int)))
 zone : (List (Int × (List Int)))
 needs : (List (Int × (List AN)))
 guards : (List (Int × (List AN)))
 deriving DecidableEq
def A3 (x : AS) : List DV := [.int .i64 x.elems, .map (Ad (.int .i64) (Ah 1 AJ) x.steps), .map (Ad (.int .i64) (Ah 1 AJ) x.zone), .map (Ad (.int .i64) (Ah 2 AM) x.needs), .map (Ad (.int .i64) (Ah 2 AM) x.guards)]
structure FQ where
 do_ : Int
 owner : Int
 elem : Int
 r : AV
 deriving DecidableEq
def D4 (x : FQ) : List DV := [.int .i64 x.do_, .int .i64 x.owner, .int .i64 x.elem, .int .i64 x.r.frm, .int .i64 x.r.to, .int .i64 x.r.fin, .slice 3 (x.r.steps.map BH), .slice 2 (x.r.needs.map AM), .slice 2 (x.r.guards.map AM), .slice 1 (x.r.zone.map AJ), .slice 1 (x.r.holds.map AJ), .bool x.r.bare]
structure Ae where
 owner : Int
 steps : (List Int)
 zone : (List Int)
 needs : (List AN)
 guard : (List AN)
 deriving DecidableEq
def AI (x : Ae) : List DV := [.int .i64 x.owner, .slice 1 (x.steps.map AJ), .slice 1 (x.zone.map AJ), .slice 2 (x.needs.map AM), .slice 2 (x.guard.map AM)]
structure Ap where
 n : Int
 l : (List Ae)
 deriving DecidableEq
def BA (x : Ap) : List DV := [.int .i64 x.n, .slice 5 (x.l.map AI)]
theorem CH : IS AB 3 (.int .i64) := ⟨fun _ _ => rfl, fun _ => rfl⟩
def X2 : Go.Shelf.Ren := ⟨fun n => if n = 45 then 126 else n, fun n => match n with | 22 => 28 | 23 => 3 | n => n, fun n => n⟩
theorem X1 : SlLaysE0.n45 Tryz.prog X2 where
 mixed := mixed
 f45 := ⟨Tryz.f126.name, by decide, by exact Tryz.func126⟩
 t0 := Tryz.underlying0
 a0 := Tryz.isAgg0
 z0 := Tryz.sizeOf0
 v0 := Tryz.zeroValue0
 t3 := Tryz.underlying3
 a3 := Tryz.isAgg3
 z3 := Tryz.sizeOf3
 v3 := Tryz.zeroValue3
 t4 := Tryz.underlying4
 a4 := Tryz.isAgg4
 z4 := Tryz.sizeOf4
 v4 := Tryz.zeroValue4
 t22 := Tryz.underlying28
 a22 := Tryz.isAgg28
 z22 := Tryz.sizeOf28
 v22 := Tryz.zeroValue28
def X3 : Go.Shelf.Ren := ⟨fun n => match n with | 5 => 133 | 7 => 188 | n => n, fun n => match n with | 4 => 4 | 20 => 20 | 23 => 115 | 25 => 3 | 3 => 28 | n => n, fun n => n⟩
theorem Uw : SlLaysW.n5 Tryz.prog X3 where
 mixed := mixed
 f5 := ⟨Tryz.f133.name, by decide, by exact Tryz.func133⟩
 f7 := by exact Tryz.func188
 t4 := Tryz.underlying4
 a4 := Tryz.isAgg4
 z4 := Tryz.sizeOf4
 v4 := Tryz.zeroValue4
 t20 := Tryz.underlying20
 a20 := Tryz.isAgg20
 z20 := Tryz.sizeOf20
 v20 := Tryz.zeroValue20
 t23 := Tryz.underlying115
 a23 := Tryz.isAgg115
 z23 := Tryz.sizeOf115
 v23 := Tryz.zeroValue115
def X4 : Go.Shelf.Ren := ⟨fun n => match n with | 5 => 134 | 7 => 188 | n => n, fun n => match n with | 4 => 4 | 20 => 20 | 23 => 116 | 25 => 3 | 3 => 34 | n => n, fun n => n⟩
theorem Ux : SlLaysW.n5 Tryz.prog X4 where
 mixed := mixed
 f5 := ⟨Tryz.f134.name, by decide, by exact Tryz.func134⟩
 f7 := by exact Tryz.func188
 t4 := Tryz.underlying4
 a4 := Tryz.isAgg4
 z4 := Tryz.sizeOf4
 v4 := Tryz.zeroValue4
 t20 := Tryz.underlying20
 a20 := Tryz.isAgg20
 z20 := Tryz.sizeOf20
 v20 := Tryz.zeroValue20
 t23 := Tryz.underlying116
 a23 := Tryz.isAgg116
 z23 := Tryz.sizeOf116
 v23 := Tryz.zeroValue116
def Yu : Go.Shelf.Ren := ⟨fun n => match n with | 125 => 123 | 128 => 183 | 129 => 184 | 189 => 58 | 215 => 207 | 216 => 180 | 257 => 122 | 294 => 174 | 295 => 175 | 296 => 176 | 297 => 177 | 298 => 178 | 299 => 179 | 300 => 181 | 301 => 182 | 328 => 202 | 329 => 203 | 330 => 204 | 331 => 205 | 332 => 206 | 343 => 213 | n => n, fun n => match n with | 0 => 0 | 3 => 3 | 4 => 4 | 5 => 5 | 9 => 9 | 28 => 28 | 46 => 180 | 51 => 229 | 53 => 231 | 131 => 106 | 182 => 222 | 183 => 223 | 218 => 245 | 222 => 249 | 228 => 253 | 229 => 70 | n => n, fun n => n⟩
theorem Wp : Go.Proofs.Lays.n189 Tryz.prog Yu where
 mixed := mixed
 f125 := by exact Tryz.func123
 f128 := by exact Tryz.func183
 f129 := by exact Tryz.func184
 f189 := by exact Tryz.func58
 f215 := by exact Tryz.func207
 f216 := by exact Tryz.func180
 f257 := by exact Tryz.func122
 f294 := by exact Tryz.func174
 f295 := by exact Tryz.func175
 f296 := by exact Tryz.func176
 f297 := by exact Tryz.func177
 f298 := by exact Tryz.func178
 f299 := by exact Tryz.func179
 f300 := by exact Tryz.func181
 f301 := by exact Tryz.func182
 f328 := by exact Tryz.func202
 f329 := by exact Tryz.func203
 f330 := by exact Tryz.func204
 f331 := by exact Tryz.func205
 f332 := by exact Tryz.func206
 f343 := by exact Tryz.func213
 t0 := Tryz.underlying0
 a0 := Tryz.isAgg0
 z0 := Tryz.sizeOf0
 v0 := Tryz.zeroValue0
 t3 := Tryz.underlying3
 a3 := Tryz.isAgg3
 z3 := Tryz.sizeOf3
 v3 := Tryz.zeroValue3
 t4 := Tryz.underlying4
 a4 := Tryz.isAgg4
 z4 := Tryz.sizeOf4
 v4 := Tryz.zeroValue4
 t5 := Tryz.underlying5
 a5 := Tryz.isAgg5
 z5 := Tryz.sizeOf5
 v5 := Tryz.zeroValue5
 t9 := Tryz.underlying9
 a9 := Tryz.isAgg9
 z9 := Tryz.sizeOf9
 v9 := Tryz.zeroValue9
 t28 := Tryz.underlying28
 a28 := Tryz.isAgg28
 z28 := Tryz.sizeOf28
 v28 := Tryz.zeroValue28
 t46 := Tryz.underlying180
 a46 := Tryz.isAgg180
 z46 := Tryz.sizeOf180
 v46 := Tryz.zeroValue180
 t51 := Tryz.underlying229
 a51 := Tryz.isAgg229
 z51 := Tryz.sizeOf229
 v51 := Tryz.zeroValue229
 t53 := Tryz.underlying231
 a53 := Tryz.isAgg231
 z53 := Tryz.sizeOf231
 v53 := Tryz.zeroValue231
 t131 := Tryz.underlying106
 a131 := Tryz.isAgg106
 z131 := Tryz.sizeOf106
 v131 := Tryz.zeroValue106
 t182 := Tryz.underlying222
 a182 := Tryz.isAgg222
 z182 := Tryz.sizeOf222
 v182 := Tryz.zeroValue222
 t183 := Tryz.underlying223
 a183 := Tryz.isAgg223
 z183 := Tryz.sizeOf223
 v183 := Tryz.zeroValue223
 t218 := Tryz.underlying245
 a218 := Tryz.isAgg245
 z218 := Tryz.sizeOf245
 v218 := Tryz.zeroValue245
 t222 := Tryz.underlying249
 a222 := Tryz.isAgg249
 z222 := Tryz.sizeOf249
 v222 := Tryz.zeroValue249
 t228 := Tryz.underlying253
 a228 := Tryz.isAgg253
 z228 := Tryz.sizeOf253
 v228 := Tryz.zeroValue253
 t229 := Tryz.underlying70
 a229 := Tryz.isAgg70
 z229 := Tryz.sizeOf70
 v229 := Tryz.zeroValue70
end Go.E
/- Plain functions, and walks in step with them. Written by a program (gen.py). No condition. -/
set_option maxRecDepth 100000
set_option maxHeartbeats 1000000
namespace Go.E
open Go Go.RowKit Go.Proofs
noncomputable def Fz (a : Int) (b : Int) (c : Int) (d : Int) : Option B9 :=
 some (⟨(⟨a, b⟩ : AK), (⟨c, d⟩ : AK)⟩ : B9)
theorem IB (a : Int) (b : Int) (c : Int) (d : Int) (r : B9) (h : Fz a b c d = some r) : BZ Tryz.prog 103 [.int .i64 a, .int .i64 b, .int .i64 c, .int .i64 d] (· = .agg (Bu r)) := by
 refine fn AA Tryz.func103 Z Z 16 Z [.cell 8 154] Z [(0, .p (.int .i64 a)), (1, .p (.int .i64 b)), (2, .p (.int .i64 c)), (3, .p (.int .i64 d))] Z Z fun A hA => ?_
 unfold Fz at h
 refine rs AA <| rl Z <| rs AA <| rl Z <| AH ?_
 cases h
 exact er Z Le.rfl
noncomputable def G8 : Option AW :=
 (Fz 0 0 1 0).bind fun a => (Fz 1 1 2 0).bind fun b => (Fz 2 1 3 0).bind fun c => (Fz 3 1 5 0).bind fun d => (Fz 2 2 4 0).bind fun e => some (⟨[(⟨(⟨#[87]⟩ : ByteArray), 4, 0⟩ : Bv), (⟨(⟨#[65]⟩ : ByteArray), 1, 20⟩ : Bv), (⟨(⟨#[80]⟩ : ByteArray), 2, 10⟩ : Bv), (⟨(⟨#[66]⟩ : ByteArray), 1, 20⟩ : Bv), (⟨(⟨#[67]⟩ : ByteArray), 1, 30⟩ : Bv), (⟨(⟨#[69]⟩ : ByteArray), 4, 0⟩ : Bv)], [a, b, c, d, e], [(⟨(⟨#[119]⟩ : ByteArray), (⟨0, 0⟩ : AK), false⟩ : BK), (⟨(⟨#[97]⟩ : ByteArray), (⟨1, 1⟩ : AK), false⟩ : BK), (⟨(⟨#[101]⟩ : ByteArray), (⟨5, 0⟩ : AK), false⟩ : BK), (⟨(⟨#[98]⟩ : ByteArray), (⟨3, 0⟩ : AK), false⟩ : BK), (⟨(⟨#[99]⟩ : ByteArray), (⟨4, 0⟩ : AK), false⟩ : BK)], [], 10, 5, 15, 2, false⟩ : AW)
theorem T7 (r : AW) (h : G8 = some r) : BZ Tryz.prog 37 [] (· = .agg (An r)) := by
 refine fn AA Tryz.func37 Z Z 31 Z [.cell 0 27] Z [] Z Z fun A hA => ?_
 unfold G8 at h
 refine rs AA <| rl Z <| rs AA <| rl Z <| rs AA <| rl Z <| rs AA <| bq h fun l a f => sx Z (Ab (IB _ _ _ _ _ a) (.inl Z) Z Z Z <| bq f fun m b g => sx Z (Ab (IB _ _ _ _ _ b) (.inl Z) Z Z Z <| bq g fun n c i => sx Z (Ab (IB _ _ _ _ _ c) (.inl Z) Z Z Z <| bq i fun o d j => sx Z (Ab (IB _ _ _ _ _ d) (.inl Z) Z Z Z <| bq j fun q e k => sx Z (Ab (IB _ _ _ _ _ e) (.inl Z) Z Z Z <| rl Z <| rs AA <| rl Z <| rs AA <| rl Z <| AH ?_)))))
 cases k
 exact er (Ic Z (.agg (.cons (.own (enc := Bz) ([(⟨(⟨#[87]⟩ : ByteArray), 4, 0⟩ : Bv), (⟨(⟨#[65]⟩ : ByteArray), 1, 20⟩ : Bv), (⟨(⟨#[80]⟩ : ByteArray), 2, 10⟩ : Bv), (⟨(⟨#[66]⟩ : ByteArray), 1, 20⟩ : Bv), (⟨(⟨#[67]⟩ : ByteArray), 1, 30⟩ : Bv), (⟨(⟨#[69]⟩ : ByteArray), 4, 0⟩ : Bv)] : List Bv) Z Z) (.cons (.own (enc := Bu) ([l, m, n, o, q] : List B9) Z Z) (.cons (.own (enc := BQ) ([(⟨(⟨#[119]⟩ : ByteArray), (⟨0, 0⟩ : AK), false⟩ : BK), (⟨(⟨#[97]⟩ : ByteArray), (⟨1, 1⟩ : AK), false⟩ : BK), (⟨(⟨#[101]⟩ : ByteArray), (⟨5, 0⟩ : AK), false⟩ : BK), (⟨(⟨#[98]⟩ : ByteArray), (⟨3, 0⟩ : AK), false⟩ : BK), (⟨(⟨#[99]⟩ : ByteArray), (⟨4, 0⟩ : AK), false⟩ : BK)] : List BK) Z Z) (.cons (.p _) (.cons (.p _) (.cons (.p _) (.cons (.p _) (.cons (.p _) (.cons (.p _) .nil))))))))))) (Le.agg' (.cons Le.rfl (.cons Le.rfl (.cons Le.rfl (.cons (Le.nil _) (.cons Le.rfl (.cons Le.rfl (.cons Le.rfl (.cons Le.rfl (.cons Le.rfl .nil))))))))))
noncomputable def L2 (b : AW) (d : (Int × (List ByteArray))) (c : (Int × (List ByteArray))) (a : Int × (List ByteArray)) : Option ((Int × (List ByteArray)) ⊕ ((List ByteArray) × (List ByteArray) × (List ByteArray))) :=
 bif decide (a.1 < (b.lines.length : Int)) then (Ar b.lines a.1).bind fun e => (A5 a.2 [e.name]).bind fun f => some (.inl (Ak (a.1 + 1), f)) else some (.inr (d.2, c.2, a.2))
noncomputable def L3 (b : AW) (c : (Int × (List ByteArray))) (a : Int × (List ByteArray)) : Option ((Int × (List ByteArray)) ⊕ ((List ByteArray) × (List ByteArray) × (List ByteArray))) :=
 bif decide (a.1 < (b.signals.length : Int)) then (Ar b.signals a.1).bind fun d => (A5 a.2 [d.name]).bind fun e => some (.inl (Ak (a.1 + 1), e)) else (AY (L2 b c a) (0, ([] : List ByteArray))).map .inr
noncomputable def L4 (b : AW) (a : Int × (List ByteArray)) : Option ((Int × (List ByteArray)) ⊕ ((List ByteArray) × (List ByteArray) × (List ByteArray))) :=
 bif decide (a.1 < (b.elems.length : Int)) then (Ar b.elems a.1).bind fun c => (A5 a.2 [c.name]).bind fun d => some (.inl (Ak (a.1 + 1), d)) else (AY (L3 b a) (0, ([] : List ByteArray))).map .inr
noncomputable def LR (a : AW) : Option ((List ByteArray) × (List ByteArray) × (List ByteArray)) :=
 AY (L4 a) (0, ([] : List ByteArray))
theorem T8 (e : AW) (r : ((List ByteArray) × (List ByteArray) × (List ByteArray))) (h : LR e = some r) : BZ Tryz.prog 108 [.agg (An e)] (· = .tup [.slice 1 (r.1.map E3), .slice 1 (r.2.1.map E3), .slice 1 (r.2.2.map E3)]) := by
 refine fn AA Tryz.func108 Z Z 62 Z [.tmp 2, .tmp 3, .tmp 4] Z [(0, .p (.agg (An e)))] Z Z fun A hA => ?_
 unfold LR at h
 refine rs AA <| rl Z <| rs AA <| rl Z <| AC <| rs AA <| rl Z <| AG ?_
 apply lp (a := r) (fun b : (Int × (List ByteArray)) => ⟨62, [(1, .lpb 0 0), (5, .lsl 1 1 0 b.2.length), (6, .p (.nils)), (7, .p (.nils)), (8, li b.1)], [(0, bx (An e)), (1, .row 9 1 (b.2.map E3))], 2⟩) h
 . exact A6.trans (Bs 5 9 1 Z) (wf hA [(0, 0), (1, 1)] Z Z Z)
 intro b aq i
 unfold L4 at i
 refine AC <| rs AA <| rn 3 Z <| sx Z (A2 Z Z <| rl Z <| cd Z i (fun aj => ?_) (fun x => ?_))
 .exact AF <| AD <| AC <| AG <| rg AA <| rn 4 Z <| bq aj fun ak n v => sx Z (Ay n Z Z Z <| rn 3 Z <| bq v fun ar o w => sx Z (AP (enc := E3) (l := b.2) (m := [ak.name]) o (fun _ => ⟨Z, Z⟩) Z Z Z Z Z Z <| rl Z <| Aq <| AD <| rg AA <| rl Z <| BD w (wf hA [(0, 0), (1, 3)] Z Z Z)))
 refine Af <| Ai <| DJ x fun j y => Az <| AD <| AC <| rs AA <| rl Z <| AG ?_
 apply lp (a := j) (fun c : (Int × (List ByteArray)) => ⟨62, [(1, .lpb 0 0), (5, .lsl 1 1 0 b.2.length), (6, .lsl 2 1 0 c.2.length), (7, .p (.nils)), (9, li c.1)], [(0, bx (An e)), (1, .row 9 1 (b.2.map E3)), (2, .row 9 1 (c.2.map E3))], 3⟩) y
 . exact A6.trans (Bs 6 9 1 Z) (wf hA (gi 3 []) Z Z Z)
 intro c ao f
 unfold L3 at f
 refine AC <| rs AA <| rn 3 Z <| sx Z (A2 Z Z <| rl Z <| cd Z f (fun z => ?_) (fun ac => ?_))
 .exact AF <| AD <| AC <| AG <| rg AA <| rn 4 Z <| bq z fun al q aa => sx Z (Ay q Z Z Z <| rn 3 Z <| bq aa fun au s ab => sx Z (AP (enc := E3) (l := c.2) (m := [al.name]) s (fun _ => ⟨Z, Z⟩) Z Z Z Z Z Z <| rl Z <| Aq <| AD <| rg AA <| rl Z <| BD ab (wf hA [(0, 0), (1, 1), (2, 4)] Z Z Z)))
 refine Af <| Ai <| DJ ac fun k ad => Az <| AD <| AC <| rs AA <| rl Z <| AG ?_
 apply lp (a := k) (fun d : (Int × (List ByteArray)) => ⟨62, [(1, .lpb 0 0), (5, .lsl 1 1 0 b.2.length), (6, .lsl 2 1 0 c.2.length), (7, .lsl 3 1 0 d.2.length), (10, li d.1)], [(0, bx (An e)), (1, .row 9 1 (b.2.map E3)), (2, .row 9 1 (c.2.map E3)), (3, .row 9 1 (d.2.map E3))], 4⟩) ad
 . exact A6.trans (Bs 7 9 1 Z) (wf hA (gi 4 []) Z Z Z)
 intro d ap g
 unfold L2 at g
 refine AC <| rs AA <| rn 3 Z <| sx Z (A2 Z Z <| rl Z <| cd Z g (fun ae => ?_) (fun ah => ?_))
 .exact AF <| AD <| AC <| AG <| rg AA <| rn 4 Z <| bq ae fun am t af => sx Z (Ay t Z Z Z <| rn 3 Z <| bq af fun av u ag => sx Z (AP (enc := E3) (l := d.2) (m := [am.name]) u (fun _ => ⟨Z, Z⟩) Z Z Z Z Z Z <| rl Z <| Aq <| AD <| rg AA <| rl Z <| BD ag (wf hA (gi 3 [(3, 5)]) Z Z Z)))
 refine Af <| Ai <| Bw ah fun an ai => Az <| AD <| rs AA <| rl Z <| AH ?_
 cases ai
 exact er (Xs Z (.cons (.one (.own (enc := E3) b.2 Z Z)) (.cons (.one (.own (enc := E3) c.2 Z Z)) (.cons (.one (.own (enc := E3) d.2 Z Z)) .nil)))) Le.rfl
noncomputable def Dz (a : Int) (c : Int) (d : Int) : Option Bool :=
 ((bif decide (c <= a) then some (decide (a <= d)) else some false : Option (Bool))).bind fun (b : Bool) => some b
theorem FW (b : Int) (c : Int) (d : Int) (r : Bool) (h : Dz b c d = some r) : BZ Tryz.prog 154 [.int .i64 b, .int .i64 c, .int .i64 d] (· = .bool r) := by
 refine fn AA Tryz.func154 Z Z 15 Z [.tmp 6] Z [(0, .p (.int .i64 b)), (1, .p (.int .i64 c)), (2, .p (.int .i64 d))] Z Z fun A hA => ?_
 unfold Dz at h
 refine rs AA <| rl Z <| jb (fun a : Bool => ⟨15, [(6, lb a)], [], 0⟩) h (fun a e => ?_) (fun a i => ?_)
 .refine rg AA <| rn 4 Z <| gs 10 e Z Z Z (fun f => ?_) (fun g => ?_)
  .exact rl Z <| AZ f (wf hA [] Z Z Z)
  exact rl Z <| AZ g (wf hA [] Z Z Z)
 refine AH ?_
 have hr := Option.some.inj i; subst hr
 exact er Z Le.rfl
noncomputable def Mk (c : ByteArray) (b : Int) : Option (Int ⊕ Bool) :=
 bif decide (b < (c.size : Int)) then (Xq c b).bind fun a => ((bif decide (97 <= (a.toNat : Int)) then bif decide ((a.toNat : Int) <= 122) then some true else bif decide (65 <= (a.toNat : Int)) then some (decide ((a.toNat : Int) <= 90)) else some false else bif decide (65 <= (a.toNat : Int)) then some (decide ((a.toNat : Int) <= 90)) else some false : Option (Bool))).bind fun (d : Bool) => ((bif (!d) then bif (b == 0) then some true else bif decide ((a.toNat : Int) < 48) then some true else some (decide (57 < (a.toNat : Int))) else some false : Option (Bool))).bind fun (e : Bool) => bif e then some (.inr false) else some (.inl (Ak (b + 1))) else (((bif decide (1 <= (c.size : Int)) then some (decide ((c.size : Int) <= 8)) else some false : Option (Bool))).bind fun (f : Bool) => some f).map .inr
noncomputable def IC (a : ByteArray) : Option Bool :=
 AY (Mk a) 0
theorem Ml (b : ByteArray) (r : Bool) (h : IC b = some r) : BZ Tryz.prog 155 [.str b] (· = .bool r) := by
 refine fn AA Tryz.func155 Z Z 51 Z [.tmp 2] Z [(0, .p (.str b))] Z Z fun A hA => ?_
 unfold IC at h
 refine rs AA <| rl Z <| AC <| rs AA <| rl Z <| AG ?_
 apply lp (a := r) (fun c : Int => ⟨51, [(0, .p (.str b)), (3, li c)], [], 0⟩) h
 . exact wf hA [] Z Z Z
 intro c ar g
 unfold Mk at g
 refine AC <| rs AA <| rl Z <| cd Z g (fun j => ?_) (fun ai => ?_)
 .refine AF <| AD <| AC <| AG <| rs AA <| rn 2 Z <| bq j fun ao i k => sx Z (Xr i Z Z Z <| rl Z <| jb (fun d : Bool => ⟨51, [(0, .p (.str b)), (3, li c), (4, .p (.int .u8 (ao.toNat : Int))), (5, lb d)], [], 0⟩) k (fun d l => ?_) (fun d w => ?_))
  .refine rg AA <| rn 3 Z <| gs 17 l Z Z Z (fun m => ?_) (fun t => ?_)
   .refine rn 4 Z <| gs 21 m Z Z Z (fun n => ?_) (fun o => ?_)
    .exact rl Z <| AZ n (wf hA [] Z Z Z)
    refine rn 3 Z <| gs 24 o Z Z Z (fun q => ?_) (fun s => ?_)
    .exact rl Z <| AZ q (wf hA [] Z Z Z)
    exact rl Z <| AZ s (wf hA [] Z Z Z)
   refine rn 7 Z <| gs 24 t Z Z Z (fun u => ?_) (fun v => ?_)
   .exact rl Z <| AZ u (wf hA [] Z Z Z)
   exact rl Z <| AZ v (wf hA [] Z Z Z)
  refine jb (fun e : Bool => ⟨51, [(0, .p (.str b)), (3, li c), (42, lb e)], [], 0⟩) w (fun e x => ?_) (fun e ae => ?_)
  .refine rg AA <| rn 3 Z <| gs 31 x Z Z Z (fun y => ?_) (fun ad => ?_)
   .refine rn 3 Z <| gs 34 y Z Z Z (fun z => ?_) (fun aa => ?_)
    .exact rl Z <| AZ z (wf hA [] Z Z Z)
    refine rn 4 Z <| gs 38 aa Z Z Z (fun ab => ?_) (fun ac => ?_)
    .exact rl Z <| AZ ab (wf hA [] Z Z Z)
    exact rl Z <| AZ ac (wf hA [] Z Z Z)
   exact rl Z <| AZ ad (wf hA [] Z Z Z)
  refine cd Z ae (fun af => ?_) (fun ah => ?_)
  .refine rs AA <| rl Z <| AH <| Ag <| AL <| Bp af fun ap ag => Ag <| AL ?_
   cases ag
   exact er Z Le.rfl
  exact AF <| Aq <| AD <| rg AA <| rl Z <| BD ah (wf hA [] Z Z Z)
 refine Af <| Ai <| DJ ai fun aq aj => Az <| AD <| jb (fun f : Bool => ⟨51, [(2, lb f)], [], 0⟩) aj (fun f ak => ?_) (fun f an => ?_)
 .refine rg AA <| rn 4 Z <| gs 46 ak Z Z Z (fun al => ?_) (fun am => ?_)
  .exact rl Z <| AZ al (wf hA [] Z Z Z)
  exact rl Z <| AZ am (wf hA [] Z Z Z)
 refine AH ?_
 have hr := Option.some.inj an; subst hr
 exact er Z Le.rfl
noncomputable def F0 (a : Int) : Option Int :=
 bif (a == 1) then some 2 else bif (a == 2) then some 3 else bif (a == 3) then some 4 else bif (a == 4) then some 1 else some 0
theorem Mm (a : Int) (r : Int) (h : F0 a = some r) : BZ Tryz.prog 156 [.int .i64 a] (· = .int .i64 r) := by
 refine fn AA Tryz.func156 Z Z 12 Z [.tmp 2] Z [(0, .p (.int .i64 a))] Z Z fun A hA => ?_
 unfold F0 at h
 refine rs AA <| rl Z <| AC <| rs AA <| rl Z <| AG <| rs AA <| rl Z <| cd Z h (fun j => ?_) (fun b => ?_)
 .refine rs AA <| rl Z <| AH <| Ag <| AL ?_
  cases j
  exact er Z Le.rfl
 refine rs AA <| rl Z <| cd Z b (fun c => ?_) (fun d => ?_)
 .refine rs AA <| rl Z <| AH <| Ag <| AL ?_
  cases c
  exact er Z Le.rfl
 refine rs AA <| rl Z <| cd Z d (fun e => ?_) (fun f => ?_)
 .refine rs AA <| rl Z <| AH <| Ag <| AL ?_
  cases e
  exact er Z Le.rfl
 refine rs AA <| rl Z <| cd Z f (fun g => ?_) (fun i => ?_)
 .refine rs AA <| rl Z <| AH <| Ag <| AL ?_
  cases g
  exact er Z Le.rfl
 refine AF <| Aq <| AD <| rs AA <| rl Z <| AH ?_
 cases i
 exact er Z Le.rfl
noncomputable def Mn (b : AW) (a : Int) : Option (Int ⊕ Bool) :=
 bif decide (a < (b.lines.length : Int)) then (Ar b.lines a).bind fun c => (IC c.name).bind fun d => bif (!d) then some (.inr false) else some (.inl (Ak (a + 1))) else some (.inr true)
noncomputable def Mo (b : AW) (a : Int) : Option (Int ⊕ Bool) :=
 bif decide (a < (b.signals.length : Int)) then (Ar b.signals a).bind fun c => (IC c.name).bind fun d => bif (!d) then some (.inr false) else some (.inl (Ak (a + 1))) else (AY (Mn b) 0).map .inr
noncomputable def Mp (c : AW) (b : Int) : Option (Int ⊕ Bool) :=
 bif decide (b < (c.elems.length : Int)) then (Ar c.elems b).bind fun a => (((IC a.name).bind fun e => bif (!e) then some true else (F0 a.kind).bind fun f => bif (f == 0) then some true else bif (a.kind == 4) then bif (a.length != 0) then some true else bif (a.kind != 4) then (Dz a.length 1 4000).bind fun g => some (!g) else some false else bif (a.kind != 4) then (Dz a.length 1 4000).bind fun h => some (!h) else some false : Option (Bool))).bind fun (d : Bool) => bif d then some (.inr false) else some (.inl (Ak (b + 1))) else (AY (Mo c) 0).map .inr
noncomputable def Mq (a : AW) : Option Bool :=
 (((Dz a.top 1 60).bind fun c => bif (!c) then some true else (Dz a.brake 1 10).bind fun d => bif (!d) then some true else (Dz a.margin 1 4000).bind fun e => bif (!e) then some true else (Dz a.throw 1 20).bind fun f => bif (!f) then some true else some ((a.elems.length : Int) == 0) : Option (Bool))).bind fun (b : Bool) => bif b then some false else AY (Mp a) 0
theorem Uu (b : AW) (r : Bool) (h : Mq b = some r) : BZ Tryz.prog 109 [.agg (An b)] (· = .bool r) := by
 refine fn AA Tryz.func109 Z Z 108 Z [.tmp 2] Z [(0, .p (.agg (An b)))] Z Z fun A hA => ?_
 unfold Mq at h
 refine rs AA <| rl Z <| AC <| jb (fun d : Bool => ⟨108, [(1, .lpb 0 0), (34, lb d)], [(0, bx (An b))], 1⟩) h (fun d aj => ?_) (fun d bo => ?_)
 .refine rg AA <| rn 2 Z <| bq aj fun cc q ak => sx Z (Ab (FW _ _ _ _ q) (.inl Z) Z Z Z <| rn 2 Z <| gs 11 ak Z Z Z (fun al => ?_) (fun am => ?_))
  .exact rl Z <| AZ al (wf hA [(0, 0)] Z Z Z)
  refine rn 2 Z <| bq am fun ce s ao => sx Z (Ab (FW _ _ _ _ s) (.inl Z) Z Z Z <| rn 3 Z <| gs 17 ao Z Z Z (fun ap => ?_) (fun aq => ?_))
  .exact rl Z <| AZ ap (wf hA [(0, 0)] Z Z Z)
  refine rn 2 Z <| bq aq fun cf t ar => sx Z (Ab (FW _ _ _ _ t) (.inl Z) Z Z Z <| rn 3 Z <| gs 23 ar Z Z Z (fun av => ?_) (fun aw => ?_))
  .exact rl Z <| AZ av (wf hA [(0, 0)] Z Z Z)
  refine rn 2 Z <| bq aw fun cj x bc => sx Z (Ab (FW _ _ _ _ x) (.inl Z) Z Z Z <| rn 3 Z <| gs 29 bc Z Z Z (fun bl => ?_) (fun bn => ?_))
  .exact rl Z <| AZ bl (wf hA [(0, 0)] Z Z Z)
  exact rn 2 Z <| sx Z (A2 Z Z <| rl Z <| AZ bn (wf hA [(0, 0)] Z Z Z))
 refine cd Z bo (fun bp => ?_) (fun br => ?_)
 .refine rs AA <| rl Z <| AH <| AL ?_
  cases bp
  exact er Z Le.rfl
 refine AF <| AD <| AC <| rs AA <| rl Z <| AG ?_
 apply lp (a := r) (fun c : Int => ⟨108, [(1, .lpb 0 0), (3, li c)], [(0, bx (An b))], 1⟩) br
 . exact wf hA [(0, 0)] Z Z Z
 intro c b7 f
 unfold Mp at f
 refine AC <| rs AA <| rn 3 Z <| sx Z (A2 Z Z <| rl Z <| cd Z f (fun an => ?_) (fun bk => ?_))
 .refine AF <| AD <| AC <| AG <| rs AA <| rn 3 Z <| bq an fun cg u au => sx Z (Ay u Z Z Z <| rl Z <| jb (fun e : Bool => ⟨108, [(1, .lpb 0 0), (3, li c), (77, lb e)], [(0, bx (An b))], 1⟩) au (fun e ax => ?_) (fun e bg => ?_))
  .refine rg AA <| rn 2 Z <| bq ax fun ch v ay => sx Z (Ab (Ml _ _ v) (.inl Z) Z Z Z <| rn 2 Z <| gs 51 ay Z Z Z (fun az => ?_) (fun a0 => ?_))
   .exact rl Z <| AZ az (wf hA [(0, 0)] Z Z Z)
   refine rn 2 Z <| bq a0 fun ci w a1 => sx Z (Ab (Mm _ _ w) (.inl Z) Z Z Z <| rn 3 Z <| gs 57 a1 Z Z Z (fun a2 => ?_) (fun a3 => ?_))
   .exact rl Z <| AZ a2 (wf hA [(0, 0)] Z Z Z)
   refine rn 4 Z <| gs 61 a3 Z Z Z (fun a4 => ?_) (fun ba => ?_)
   .refine rn 6 Z <| gs 67 a4 Z Z Z (fun a5 => ?_) (fun a6 => ?_)
    .exact rl Z <| AZ a5 (wf hA [(0, 0)] Z Z Z)
    refine rn 4 Z <| gs 71 a6 Z Z Z (fun a7 => ?_) (fun a9 => ?_)
    .exact rn 2 Z <| bq a7 fun ck y a8 => sx Z (Ab (FW _ _ _ _ y) (.inl Z) Z Z Z <| rl Z <| AZ a8 (wf hA [(0, 0)] Z Z Z))
    exact rl Z <| AZ a9 (wf hA [(0, 0)] Z Z Z)
   refine rn 10 Z <| gs 71 ba Z Z Z (fun bb => ?_) (fun bf => ?_)
   .exact rn 2 Z <| bq bb fun cl z be => sx Z (Ab (FW _ _ _ _ z) (.inl Z) Z Z Z <| rl Z <| AZ be (wf hA [(0, 0)] Z Z Z))
   exact rl Z <| AZ bf (wf hA [(0, 0)] Z Z Z)
  refine cd Z bg (fun bh => ?_) (fun bj => ?_)
  .refine rs AA <| rl Z <| AH <| Ag <| AL <| Bp bh fun b5 bi => Ag <| AL ?_
   cases bi
   exact er Z Le.rfl
  exact AF <| Aq <| AD <| rg AA <| rl Z <| BD bj (wf hA [(0, 0)] Z Z Z)
 refine Af <| Ai <| DJ bk fun l bm => Az <| AD <| AC <| rs AA <| rl Z <| AG ?_
 apply lp (a := l) (fun j : Int => ⟨108, [(1, .lpb 0 0), (5, li j)], [(0, bx (An b))], 1⟩) bm
 . exact wf hA [(0, 0)] Z Z Z
 intro j b8 g
 unfold Mo at g
 refine AC <| rs AA <| rn 3 Z <| sx Z (A2 Z Z <| rl Z <| cd Z g (fun bs => ?_) (fun b0 => ?_))
 .refine AF <| AD <| AC <| AG <| rs AA <| rn 3 Z <| bq bs fun cm aa bt => sx Z (Ay aa Z Z Z <| rn 2 Z <| bq bt fun cn ab bu => sx Z (Ab (Ml _ _ ab) (.inl Z) Z Z Z <| rl Z <| cd Z bu (fun bv => ?_) (fun bz => ?_)))
  .refine rs AA <| rl Z <| AH <| Ag <| AL <| Bp bv fun b6 bw => Ag <| AL ?_
   cases bw
   exact er Z Le.rfl
  exact AF <| Aq <| AD <| rg AA <| rl Z <| BD bz (wf hA [(0, 0)] Z Z Z)
 refine Af <| Ai <| DJ b0 fun m b1 => Az <| AD <| AC <| rs AA <| rl Z <| AG ?_
 apply lp (a := m) (fun k : Int => ⟨108, [(1, .lpb 0 0), (6, li k)], [(0, bx (An b))], 1⟩) b1
 . exact wf hA [(0, 0)] Z Z Z
 intro k b9 i
 unfold Mn at i
 refine AC <| rs AA <| rn 3 Z <| sx Z (A2 Z Z <| rl Z <| cd Z i (fun b2 => ?_) (fun ah => ?_))
 .refine AF <| AD <| AC <| AG <| rs AA <| rn 3 Z <| bq b2 fun ca n ac => sx Z (Ay n Z Z Z <| rn 2 Z <| bq ac fun cb o ad => sx Z (Ab (Ml _ _ o) (.inl Z) Z Z Z <| rl Z <| cd Z ad (fun ae => ?_) (fun ag => ?_)))
  .refine rs AA <| rl Z <| AH <| Ag <| AL <| Bp ae fun b3 af => Ag <| AL ?_
   cases af
   exact er Z Le.rfl
  exact AF <| Aq <| AD <| rg AA <| rl Z <| BD ag (wf hA [(0, 0)] Z Z Z)
 refine Af <| Ai <| Bw ah fun b4 ai => Az <| AD <| rs AA <| rl Z <| AH ?_
 cases ai
 exact er Z Le.rfl
noncomputable def L5 (c : (List ByteArray)) (a : Int) (b : Int) : Option (Int ⊕ (Int ⊕ Bool)) :=
 bif decide (b < a) then (Ar c a).bind fun d => (Ar c b).bind fun e => bif (d.toList == e.toList) then some (.inr (.inr true)) else some (.inl (Ak (b + 1))) else some (.inr (.inl (Ak (a + 1))))
noncomputable def L6 (b : (List ByteArray)) (a : Int) : Option (Int ⊕ Bool) :=
 bif decide (a < (b.length : Int)) then AY (L5 b a) 0 else some (.inr false)
noncomputable def G9 (a : (List ByteArray)) : Option Bool :=
 AY (L6 a) 0
theorem LS (b : (List ByteArray)) (r : Bool) (h : G9 b = some r) : BZ Tryz.prog 110 [.slice 1 (b.map E3)] (· = .bool r) := by
 refine fn AA Tryz.func110 Z Z 25 Z [.tmp 2] Z [(0, .p (.slice 1 (b.map E3)))] Z Z fun A hA => ?_
 unfold G9 at h
 refine rs AA <| rl Z <| AC <| rs AA <| rl Z <| AG ?_
 apply lp (a := r) (fun c : Int => ⟨25, [(0, ls 1 E3 b), (3, li c)], [], 0⟩) h
 . exact wf hA [] Z Z Z
 intro c g d
 unfold L6 at d
 refine AC <| rs AA <| rn 2 Z <| sx Z (A2 Z Z <| rl Z <| cd Z d (fun k => ?_) (fun w => ?_))
 .refine AF <| AD <| AC <| AG <| rs AA <| rl Z <| AG ?_
  apply lp (a := g) (fun f : Int => ⟨25, [(0, ls 1 E3 b), (3, li c), (4, li f)], [], 0⟩) k
  . exact wf hA [] Z Z Z
  intro f ac e
  unfold L5 at e
  refine AC <| rs AA <| rl Z <| cd Z e (fun l => ?_) (fun u => ?_)
  .refine AF <| AD <| AC <| AG <| AC ?_
   refine Ck AA mixed [0, 1, 2, 3, 4, 5, 6, 7, 8] 9 (by kernel_rfl) Z Z Z ?_
   refine Al 2 Z <| bq l fun ad i m => AR Z (AX Z (Ay i Z Z Z <| Al 3 Z <| bq m fun ae j n => AR Z (AX Z (Ay j Z Z Z <| Ao Z <| AD <| cd Z n (fun o => ?_) (fun t => ?_)))))
   .refine rs AA <| rl Z <| AH <| Ag <| AL <| Bp o fun y q => Ag <| Ag <| AL <| Bp q fun z s => Ag <| AL ?_
    cases s
    exact er Z Le.rfl
   exact AF <| Aq <| AD <| rg AA <| rl Z <| BD t (wf hA [] Z Z Z)
  exact Af <| Ai <| Bw u fun aa v => Az <| Aq <| AD <| rg AA <| rl Z <| BD v (wf hA [] Z Z Z)
 refine Af <| Ai <| Bw w fun ab x => Az <| AD <| rs AA <| rl Z <| AH ?_
 cases x
 exact er Z Le.rfl
end Go.E
/- Plain functions, and walks in step with them. Written by a program (gen.py). No condition. -/
set_option maxRecDepth 100000
set_option maxHeartbeats 1000000
namespace Go.E
open Go Go.RowKit Go.Proofs
noncomputable def JJ (b : AW) (a : AK) : Option Bool :=
 ((bif decide (0 <= a.elem) then bif decide (a.elem < (b.elems.length : Int)) then bif decide (0 <= a.fin) then (Ar b.elems a.elem).bind fun d => (F0 d.kind).bind fun e => some (decide (a.fin < e)) else some false else some false else some false : Option (Bool))).bind fun (c : Bool) => some c
theorem OG (b : AW) (c : AK) (r : Bool) (h : JJ b c = some r) : BZ Tryz.prog 157 [.agg (An b), .agg (A1 c)] (· = .bool r) := by
 refine fn AA Tryz.func157 Z Z 34 Z [.tmp 4] Z [(0, .p (.agg (An b))), (1, .p (.agg (A1 c)))] Z Z fun A hA => ?_
 unfold JJ at h
 refine rs AA <| rl Z <| jb (fun a : Bool => ⟨34, [(4, lb a)], [], 0⟩) h (fun a f => ?_) (fun a q => ?_)
 .refine Ck AA mixed [0, 1, 2, 3, 4, 5, 6, 7, 8, 9, 10, 11, 12, 13, 14, 15, 16, 17, 18, 19, 20, 21, 22, 23, 24, 25, 26, 27, 28, 29] 30 (by kernel_rfl) Z Z Z ?_
  refine Al 4 Z <| Je 8 f Z Z Z (fun g => ?_) (fun o => ?_)
  .refine Al 4 Z <| AR Z (Oy Z Z <| Al 3 Z <| Je 16 g Z Z Z (fun i => ?_) (fun n => ?_))
   .refine Al 5 Z <| Je 21 i Z Z Z (fun j => ?_) (fun m => ?_)
    .exact Al 6 Z <| bq j fun s d k => AR Z (AX Z (Ay d Z Z Z <| Al 2 Z <| bq k fun t e l => AR Z (Bf (Mm _ _ e) (.inl Z) Z Z Z <| Ao Z <| AZ l (wf hA [] Z Z Z))))
    exact Ao Z <| AZ m (wf hA [] Z Z Z)
   exact Ao Z <| AZ n (wf hA [] Z Z Z)
  exact Ao Z <| AZ o (wf hA [] Z Z Z)
 refine AH ?_
 have hr := Option.some.inj q; subst hr
 exact er Z Le.rfl
noncomputable def Mr (d : AW) (e : AK) (c : Int) : Option (Int ⊕ (AK × Bool)) :=
 bif decide (c < (d.joins.length : Int)) then (Ar d.joins c).bind fun f => bif (f.a == e) then (Ar d.joins c).bind fun g => some (.inr (g.b, true)) else (Ar d.joins c).bind fun h => bif (h.b == e) then (Ar d.joins c).bind fun i => some (.inr (i.a, true)) else some (.inl (Ak (c + 1))) else some (.inr ((⟨0, 0⟩ : AK), false))
noncomputable def Cr (a : AW) (b : AK) : Option (AK × Bool) :=
 AY (Mr a b) 0
theorem DI (d : AW) (c : AK) (r : (AK × Bool)) (h : Cr d c = some r) : BZ Tryz.prog 104 [.agg (An d), .agg (A1 c)] (· = .tup [.agg (A1 r.1), .bool r.2]) := by
 refine fn AA Tryz.func104 Z Z 43 Z [.cell 4 96, .tmp 5] Z [(0, .p (.agg (An d))), (1, .p (.agg (A1 c)))] Z Z fun A hA => ?_
 unfold Cr at h
 refine rs AA <| rl Z <| AC <| rs AA <| rl Z <| AG ?_
 apply lp (a := r) (fun f : Int => ⟨43, [(2, .lpb 0 0), (3, .lpb 1 0), (4, .lpb 2 0), (6, li f)], [(0, bx (An d)), (1, .box [li c.elem, li c.fin]), (2, .box [li 0, li 0])], 3⟩) h
 . exact wf hA (gi 3 []) Z Z Z
 intro f af e
 unfold Mr at e
 refine AC <| rs AA <| rn 3 Z <| sx Z (A2 Z Z <| rl Z <| cd Z e (fun l => ?_) (fun y => ?_))
 .refine AF <| AD <| AC <| AG <| AC <| AC ?_
  refine Ck AA mixed [0, 1, 2, 3, 4, 5, 6, 7] 8 (by kernel_rfl) Z Z Z ?_
  refine Al 3 Z <| bq l fun aa g m => AR Z (AX Z (Ay g Z Z Z <| Al 3 Z <| AR Z (Kc (JK aa.a c) Z Z Z Z Z <| Ao Z <| AD <| cd Z m (fun n => ?_) (fun s => ?_))))
  .refine rs AA <| rn 3 Z <| bq n fun ag i o => sx Z (Ay i Z Z Z <| rl Z <| AH <| AL <| Ag <| AL <| Bp o fun ac q => Ag <| AL ?_)
   cases q
   exact er Z Le.rfl
  refine AF <| AD <| AC ?_
  refine Ck AA mixed [0, 1, 2, 3, 4, 5, 6, 7] 8 (by kernel_rfl) Z Z Z ?_
  refine Al 3 Z <| bq s fun ab j t => AR Z (AX Z (Ay j Z Z Z <| Al 3 Z <| AR Z (Kc (JK ab.b c) Z Z Z Z Z <| Ao Z <| AD <| cd Z t (fun u => ?_) (fun x => ?_))))
  .refine rs AA <| rn 3 Z <| bq u fun ah k v => sx Z (Ay k Z Z Z <| rl Z <| AH <| Ag <| AL <| Bp v fun ad w => Ag <| AL ?_)
   cases w
   exact er Z Le.rfl
  exact AF <| Aq <| AD <| rg AA <| rl Z <| BD x (wf hA (gi 3 []) Z Z Z)
 refine Af <| Ai <| Bw y fun ae z => Az <| AD <| rs AA <| rl Z <| AH ?_
 cases z
 exact er Z Le.rfl
noncomputable def D0 (b : AW) (a : Int) : Option Int :=
 ((bif decide (a < 0) then some true else some (decide ((b.elems.length : Int) <= a)) : Option (Bool))).bind fun (c : Bool) => bif c then some 0 else (Ar b.elems a).bind fun d => some d.kind
theorem Er (a : AW) (b : Int) (r : Int) (h : D0 a b = some r) : BZ Tryz.prog 144 [.agg (An a), .int .i64 b] (· = .int .i64 r) := by
 refine fn AA Tryz.func144 Z Z 20 Z [.tmp 4] Z [(0, .p (.agg (An a))), (1, .p (.int .i64 b))] Z Z fun A hA => ?_
 unfold D0 at h
 refine rs AA <| rl Z <| AC <| jb (fun c : Bool => ⟨20, [(1, li b), (2, .lpb 0 0), (13, lb c)], [(0, bx (An a))], 1⟩) h (fun c e => ?_) (fun c i => ?_)
 .refine rg AA <| rn 3 Z <| gs 7 e Z Z Z (fun f => ?_) (fun g => ?_)
  .exact rl Z <| AZ f (wf hA [(0, 0)] Z Z Z)
  exact rn 3 Z <| sx Z (A2 Z Z <| rl Z <| AZ g (wf hA [(0, 0)] Z Z Z))
 refine cd Z i (fun j => ?_) (fun k => ?_)
 .refine rs AA <| rl Z <| AH <| AL ?_
  cases j
  exact er Z Le.rfl
 refine AF <| AD <| rs AA <| rn 3 Z <| bq k fun m d l => sx Z (Ay d Z Z Z <| rl Z <| AH ?_)
 cases l
 exact er Z Le.rfl
noncomputable def Kh (c : (Int × (List AK))) (b : Int) (a : Int) : Option (Int ⊕ (Int ⊕ Bool)) :=
 bif decide (a < b) then (Ar c.2 a).bind fun d => (Ar c.2 b).bind fun e => bif (d == e) then some (.inr (.inr false)) else some (.inl (Ak (a + 1))) else some (.inr (.inl (Ak (b + 1))))
noncomputable def Ki (b : AW) (a : Int) : Option (Int ⊕ Bool) :=
 bif decide (a < (b.elems.length : Int)) then T0 (((Ar b.elems a).bind fun e => bif (e.kind == 4) then (Cr b (⟨a, 0⟩ : AK)).bind fun c => ((bif (!c.2) then some true else (D0 b c.1.elem).bind fun f => some (f == 4) : Option (Bool))).bind fun (d : Bool) => bif d then some (.inr (.inr false)) else some (.inl ()) else some (.inl ()) : Option (Unit ⊕ (Int ⊕ Bool)))) fun (g : Unit) => some (.inl (Ak (a + 1))) else some (.inr true)
noncomputable def Kj (c : AW) (a : (Int × (List AK))) (b : Int) : Option (Int ⊕ Bool) :=
 bif decide (b < (a.2.length : Int)) then (Ar a.2 b).bind fun d => (JJ c d).bind fun e => bif (!e) then some (.inr false) else AY (Kh a b) 0 else (AY (Ki c) 0).map .inr
noncomputable def Kk (d : AW) (c : Int × (List AK)) : Option ((Int × (List AK)) ⊕ Bool) :=
 bif decide (c.1 < (d.joins.length : Int)) then (Ar d.joins c.1).bind fun e => (Ar d.joins c.1).bind fun f => (A5 c.2 [e.a, f.b]).bind fun g => some (.inl (Ak (c.1 + 1), g)) else (AY (Kj d c) 0).map .inr
noncomputable def KE (a : AW) : Option Bool :=
 AY (Kk a) (0, ([] : List AK))
theorem Sl (d : AW) (r : Bool) (h : KE d = some r) : BZ Tryz.prog 111 [.agg (An d)] (· = .bool r) := by
 refine fn AA Tryz.func111 Z Z 89 Z [.tmp 2] Z [(0, .p (.agg (An d)))] Z Z fun A hA => ?_
 unfold KE at h
 refine rs AA <| rl Z <| rs AA <| rl Z <| AC <| rs AA <| rl Z <| AG ?_
 apply lp (a := r) (fun c : (Int × (List AK)) => ⟨89, [(1, .lpb 0 0), (3, .lsl 1 2 0 c.2.length), (4, li c.1)], [(0, bx (An d)), (1, .row 96 2 (c.2.map A1))], 2⟩) h
 . exact A6.trans (Bs 3 96 2 Z) (wf hA [(0, 0), (1, 1)] Z Z Z)
 intro c b2 o
 unfold Kk at o
 refine AC <| rs AA <| rn 3 Z <| sx Z (A2 Z Z <| rl Z <| cd Z o (fun ag => ?_) (fun aw => ?_))
 .refine AF <| AD <| AC <| AG ?_
  refine Ck AA mixed [0, 1, 2, 3, 4, 5, 6, 7, 8, 9, 10, 11, 12, 13, 14, 15] 16 (by kernel_rfl) Z Z Z ?_
  exact Al 4 Z <| bq ag fun bo z am => AR Z (AX Z (Ay z Z Z Z <| Al 5 Z <| bq am fun bp aa an => AR Z (AX Z (Ay aa Z Z Z <| Al 3 Z <| bq an fun b7 ab ap => AR Z (AQ Z (AP (enc := A1) (l := c.2) (m := [bo.a, bp.b]) ab (fun _ => ⟨Z, Z⟩) Z Z Z Z Z Z <| Ao Z <| Aq <| AD <| rg AA <| rl Z <| BD ap (wf hA [(0, 0), (1, 16)] Z Z Z)))))))
 refine Af <| Ai <| DJ aw fun v a3 => Az <| AD <| AC <| rs AA <| rl Z <| AG ?_
 apply lp (a := v) (fun f : Int => ⟨89, [(1, .lpb 0 0), (3, .lsl 1 2 0 c.2.length), (5, li f)], [(0, bx (An d)), (1, .row 96 2 (c.2.map A1))], 2⟩) a3
 . exact wf hA [(0, 0), (1, 1)] Z Z Z
 intro f w n
 unfold Kj at n
 refine AC <| rs AA <| rl Z <| cd Z n (fun af => ?_) (fun a1 => ?_)
 .refine AF <| AD <| AC <| AG <| AC <| AC ?_
  refine Ck AA mixed [0, 1, 2, 3, 4, 5, 6] 7 (by kernel_rfl) Z Z Z ?_
  refine Al 3 Z <| bq af fun b5 i ah => AR Z (AX Z (B1 i Z Z Z Z <| AR Z (EJ Z (CQ i Z Z Z <| bq ah fun b6 y ai => AR Z (Bf (OG _ _ _ y) (.inl Z) Z Z Z <| Ao Z <| AD <| cd Z ai (fun aj => ?_) (fun al => ?_))))))
  .refine rs AA <| rl Z <| AH <| AL <| Ag <| AL <| Bp aj fun bt ak => Ag <| AL ?_
   cases ak
   exact er Z Le.rfl
  refine AF <| AD <| rs AA <| rl Z <| AG ?_
  apply lp (a := w) (fun t : Int => ⟨89, [(1, .lpb 0 0), (3, .lsl 1 2 0 c.2.length), (5, li f), (6, li t)], [(0, bx (An d)), (1, .row 96 2 (c.2.map A1))], 2⟩) al
  . exact wf hA [(0, 0), (1, 1)] Z Z Z
  intro t b3 q
  unfold Kh at q
  refine AC <| rs AA <| rl Z <| cd Z q (fun ao => ?_) (fun az => ?_)
  .refine AF <| AD <| AC <| AG <| AC ?_
   refine Ck AA mixed [0, 1, 2, 3, 4, 5, 6, 7, 8] 9 (by kernel_rfl) Z Z Z ?_
   refine Al 2 Z <| bq ao fun br j aq => AR Z (AX Z (B1 j Z Z Z Z <| AR Z (EJ Z (CQ j Z Z Z <| Al 2 Z <| bq aq fun bs k ar => AR Z (AX Z (B1 k Z Z Z Z <| AR Z (EJ Z (CQ k Z Z Z <| AR Z (Kc (JK br bs) Z Z Z Z Z <| Ao Z <| AD <| cd Z ar (fun au => ?_) (fun ay => ?_))))))))))
   .refine rs AA <| rl Z <| AH <| Ag <| AL <| Bp au fun bu av => Ag <| Ag <| AL <| Bp av fun bv ax => Ag <| AL ?_
    cases ax
    exact er Z Le.rfl
   exact AF <| Aq <| AD <| rg AA <| rl Z <| BD ay (wf hA [(0, 0), (1, 1)] Z Z Z)
  exact Af <| Ai <| Bw az fun bw a0 => Az <| Aq <| AD <| rg AA <| rl Z <| BD a0 (wf hA [(0, 0), (1, 1)] Z Z Z)
 refine Af <| Ai <| DJ a1 fun u a2 => Az <| AD <| AC <| rs AA <| rl Z <| AG ?_
 apply lp (a := u) (fun e : Int => ⟨89, [(1, .lpb 0 0), (7, li e)], [(0, bx (An d))], 1⟩) a2
 . exact wf hA [(0, 0)] Z Z Z
 intro e x s
 unfold Ki at s
 refine AC <| rs AA <| rn 3 Z <| sx Z (A2 Z Z <| rl Z <| cd Z s (fun a4 => ?_) (fun bl => ?_))
 .refine AF <| AD ?_
  apply jn (a := x) (fun bn : Unit => ⟨89, [(1, .lpb 0 0), (7, li e)], [(0, bx (An d))], 1⟩) a4
  .intro b4 a5
   refine AG <| rs AA <| rn 3 Z <| bq a5 fun b8 ac a6 => sx Z (Ay ac Z Z Z <| rl Z <| cd Z a6 (fun a7 => ?_) (fun bj => ?_))
   .refine rs AA <| rn 3 Z <| bq a7 fun b9 ad a8 => sx Z (Ab (DI _ _ _ ad) (.inl Z) Z Z Z <| rl Z <| jb (fun g : Bool => ⟨89, [(1, .lpb 0 0), (7, li e), (88, lb g)], [(0, bx (An d))], 1⟩) a8 (fun g a9 => ?_) (fun g be => ?_))
    .refine rg AA <| rn 3 Z <| gs 82 a9 Z Z Z (fun ba => ?_) (fun bb => ?_)
     .exact rl Z <| AZ ba (wf hA [(0, 0)] Z Z Z)
     exact rn 3 Z <| bq bb fun ca ae bc => sx Z (Ab (Er _ _ _ ae) (.inl Z) Z Z Z <| rl Z <| AZ bc (wf hA [(0, 0)] Z Z Z))
    refine cd Z be (fun bf => ?_) (fun bi => ?_)
    .refine rs AA <| rl Z <| AH <| Ag <| Bp bf fun bz bg => Bp bg fun b0 bh => Ag <| AL ?_
     cases bh
     exact er Z Le.rfl
    exact AF <| Aq <| BD bi (wf hA [(0, 0)] Z Z Z)
   exact AF <| Aq <| BD bj (wf hA [(0, 0)] Z Z Z)
  intro bn bk
  exact rg AA <| rl Z <| BD bk (wf hA [(0, 0)] Z Z Z)
 refine Af <| Ai <| Bw bl fun b1 bm => Az <| AD <| rs AA <| rl Z <| AH ?_
 cases bm
 exact er Z Le.rfl
noncomputable def L7 (b : AW) (c : AK) (a : Int) : Option (Int ⊕ Int) :=
 bif decide (a < (b.signals.length : Int)) then (Ar b.signals a).bind fun d => bif (d.at_ == c) then some (.inr a) else some (.inl (Ak (a + 1))) else some (.inr (-1))
noncomputable def GC (a : AW) (b : AK) : Option Int :=
 AY (L7 a b) 0
theorem Im (c : AW) (b : AK) (r : Int) (h : GC c b = some r) : BZ Tryz.prog 146 [.agg (An c), .agg (A1 b)] (· = .int .i64 r) := by
 refine fn AA Tryz.func146 Z Z 22 Z [.tmp 4] Z [(0, .p (.agg (An c))), (1, .p (.agg (A1 b)))] Z Z fun A hA => ?_
 unfold GC at h
 refine rs AA <| rl Z <| AC <| rs AA <| rl Z <| AG ?_
 apply lp (a := r) (fun e : Int => ⟨22, [(2, .lpb 0 0), (3, .lpb 1 0), (5, li e)], [(0, bx (An c)), (1, .box [li b.elem, li b.fin])], 2⟩) h
 . exact wf hA [(0, 0), (1, 1)] Z Z Z
 intro e t d
 unfold L7 at d
 refine AC <| rs AA <| rn 3 Z <| sx Z (A2 Z Z <| rl Z <| cd Z d (fun n => ?_) (fun l => ?_))
 .refine AF <| AD <| AC <| AG <| AC ?_
  refine Ck AA mixed [0, 1, 2, 3, 4, 5, 6, 7] 8 (by kernel_rfl) Z Z Z ?_
  refine Al 3 Z <| bq n fun o f g => AR Z (AX Z (Ay f Z Z Z <| Al 3 Z <| AR Z (Kc (JK o.at_ b) Z Z Z Z Z <| Ao Z <| AD <| cd Z g (fun i => ?_) (fun k => ?_))))
  .refine rs AA <| rl Z <| AH <| Ag <| AL <| Bp i fun q j => Ag <| AL ?_
   have hr := Option.some.inj j; subst hr
   exact er Z Le.rfl
  exact AF <| Aq <| AD <| rg AA <| rl Z <| BD k (wf hA [(0, 0), (1, 1)] Z Z Z)
 refine Af <| Ai <| Bw l fun s m => Az <| AD <| rs AA <| rl Z <| AH ?_
 cases m
 exact er Z Le.rfl
noncomputable def Jq (b : AW) (a : Int) : Option (Int ⊕ Bool) :=
 bif decide (a < (b.elems.length : Int)) then (((Ar b.elems a).bind fun d => bif (d.kind == 4) then (GC b (⟨a, 0⟩ : AK)).bind fun e => some (decide (e < 0)) else some false : Option (Bool))).bind fun (c : Bool) => bif c then some (.inr false) else some (.inl (Ak (a + 1))) else some (.inr true)
noncomputable def Jr (a : AW) (b : Int) : Option (Int ⊕ Bool) :=
 bif decide (b < (a.signals.length : Int)) then (Ar a.signals b).bind fun c => (D0 a c.at_.elem).bind fun d => (((JJ a c.at_).bind fun h => bif (!h) then some true else bif (d != 1) then some (d != 4) else some false : Option (Bool))).bind fun (f : Bool) => bif f then some (.inr false) else (Cr a c.at_).bind fun e => ((bif (!e.2) then some true else (D0 a e.1.elem).bind fun i => bif (i == 4) then some true else (GC a c.at_).bind fun j => some (j != b) : Option (Bool))).bind fun (g : Bool) => bif g then some (.inr false) else some (.inl (Ak (b + 1))) else (AY (Jq a) 0).map .inr
noncomputable def JL (a : AW) : Option Bool :=
 AY (Jr a) 0
theorem Ru (b : AW) (r : Bool) (h : JL b = some r) : BZ Tryz.prog 112 [.agg (An b)] (· = .bool r) := by
 refine fn AA Tryz.func112 Z Z 81 Z [.tmp 2] Z [(0, .p (.agg (An b)))] Z Z fun A hA => ?_
 unfold JL at h
 refine rs AA <| rl Z <| AC <| rs AA <| rl Z <| AG ?_
 apply lp (a := r) (fun c : Int => ⟨81, [(1, .lpb 0 0), (3, li c)], [(0, bx (An b))], 1⟩) h
 . exact wf hA [(0, 0)] Z Z Z
 intro c bh j
 unfold Jr at j
 refine AC <| rs AA <| rn 3 Z <| sx Z (A2 Z Z <| rl Z <| cd Z j (fun ai => ?_) (fun a9 => ?_))
 .refine AF <| AD <| AC <| AG <| rs AA <| rn 3 Z <| bq ai fun k o aj => sx Z (Ay o Z Z Z <| rl Z <| rs AA <| rn 3 Z <| bq aj fun bk q ak => sx Z (Ab (Er _ _ _ q) (.inl Z) Z Z Z <| rl Z <| AC <| jb (fun f : Bool => ⟨81, [(1, .lpb 0 0), (3, li c), (4, .lpb 1 0), (37, lb f)], [(0, bx (An b)), (1, .box [li k.at_.elem, li k.at_.fin])], 2⟩) ak (fun f al => ?_) (fun f ar => ?_)))
  .refine rg AA <| rn 2 Z <| bq al fun bl s am => sx Z (Ab (OG _ _ _ s) (.inl Z) Z Z Z <| rn 2 Z <| gs 30 am Z Z Z (fun an => ?_) (fun ao => ?_))
   .exact rl Z <| AZ an (wf hA [(0, 0), (1, 1)] Z Z Z)
   refine rn 3 Z <| gs 33 ao Z Z Z (fun ap => ?_) (fun aq => ?_)
   .exact rl Z <| AZ ap (wf hA [(0, 0), (1, 1)] Z Z Z)
   exact rl Z <| AZ aq (wf hA [(0, 0), (1, 1)] Z Z Z)
  refine cd Z ar (fun au => ?_) (fun aw => ?_)
  .refine rs AA <| rl Z <| AH <| AL <| Ag <| AL <| Bp au fun be av => Ag <| AL ?_
   cases av
   exact er Z Le.rfl
  refine AF <| AD <| rs AA <| rn 2 Z <| bq aw fun bm t ax => sx Z (Ab (DI _ _ _ t) (.inl Z) Z Z Z <| rl Z <| jb (fun g : Bool => ⟨81, [(1, .lpb 0 0), (3, li c), (59, lb g)], [(0, bx (An b))], 1⟩) ax (fun g ay => ?_) (fun g a5 => ?_))
  .refine rg AA <| rn 3 Z <| gs 46 ay Z Z Z (fun az => ?_) (fun a0 => ?_)
   .exact rl Z <| AZ az (wf hA [(0, 0)] Z Z Z)
   refine rn 3 Z <| bq a0 fun bn u a1 => sx Z (Ab (Er _ _ _ u) (.inl Z) Z Z Z <| rn 3 Z <| gs 53 a1 Z Z Z (fun a2 => ?_) (fun a3 => ?_))
   .exact rl Z <| AZ a2 (wf hA [(0, 0)] Z Z Z)
   exact rn 2 Z <| bq a3 fun bo v a4 => sx Z (Ab (Im _ _ _ v) (.inl Z) Z Z Z <| rl Z <| AZ a4 (wf hA [(0, 0)] Z Z Z))
  refine cd Z a5 (fun a6 => ?_) (fun a8 => ?_)
  .refine rs AA <| rl Z <| AH <| Ag <| AL <| Bp a6 fun bf a7 => Ag <| AL ?_
   cases a7
   exact er Z Le.rfl
  exact AF <| Aq <| AD <| rg AA <| rl Z <| BD a8 (wf hA [(0, 0)] Z Z Z)
 refine Af <| Ai <| DJ a9 fun l ba => Az <| AD <| AC <| rs AA <| rl Z <| AG ?_
 apply lp (a := l) (fun d : Int => ⟨81, [(1, .lpb 0 0), (8, li d)], [(0, bx (An b))], 1⟩) ba
 . exact wf hA [(0, 0)] Z Z Z
 intro d bg i
 unfold Jq at i
 refine AC <| rs AA <| rn 3 Z <| sx Z (A2 Z Z <| rl Z <| cd Z i (fun w => ?_) (fun ag => ?_))
 .refine AF <| AD <| AC <| AG <| jb (fun e : Bool => ⟨81, [(1, .lpb 0 0), (8, li d), (80, lb e)], [(0, bx (An b))], 1⟩) w (fun e x => ?_) (fun e ac => ?_)
  .refine rg AA <| rn 3 Z <| bq x fun bi m y => sx Z (Ay m Z Z Z <| rn 4 Z <| gs 74 y Z Z Z (fun z => ?_) (fun ab => ?_))
   .exact rn 3 Z <| bq z fun bj n aa => sx Z (Ab (Im _ _ _ n) (.inl Z) Z Z Z <| rl Z <| AZ aa (wf hA [(0, 0)] Z Z Z))
   exact rl Z <| AZ ab (wf hA [(0, 0)] Z Z Z)
  refine cd Z ac (fun ad => ?_) (fun af => ?_)
  .refine rs AA <| rl Z <| AH <| Ag <| AL <| Bp ad fun bb ae => Ag <| AL ?_
   cases ae
   exact er Z Le.rfl
  exact AF <| Aq <| AD <| rg AA <| rl Z <| BD af (wf hA [(0, 0)] Z Z Z)
 refine Af <| Ai <| Bw ag fun bc ah => Az <| AD <| rs AA <| rl Z <| AH ?_
 cases ah
 exact er Z Le.rfl
noncomputable def GD (b : (List Int)) (c : Int) (a : Int) : Option (Int ⊕ Bool) :=
 bif decide (a < (b.length : Int)) then (Ar b a).bind fun d => bif (d == c) then some (.inr true) else some (.inl (Ak (a + 1))) else some (.inr false)
noncomputable def Cs (a : (List Int)) (b : Int) : Option Bool :=
 AY (GD a b) 0
theorem D3 (b : (List Int)) (c : Int) (r : Bool) (h : Cs b c = some r) : BZ Tryz.prog 16 [.slice 1 (b.map AJ), .int .i64 c] (· = .bool r) := by
 refine fn AA Tryz.func16 Z Z 18 Z [.tmp 4] Z [(0, .p (.slice 1 (b.map AJ))), (1, .p (.int .i64 c))] Z Z fun A hA => ?_
 unfold Cs at h
 refine rs AA <| rl Z <| AC <| rs AA <| rl Z <| AG ?_
 apply lp (a := r) (fun e : Int => ⟨18, [(0, ls 1 AJ b), (1, li c), (5, li e)], [], 0⟩) h
 . exact wf hA [] Z Z Z
 intro e s d
 unfold GD at d
 refine AC <| rs AA <| rn 2 Z <| sx Z (A2 Z Z <| rl Z <| cd Z d (fun n => ?_) (fun l => ?_))
 .refine AF <| AD <| AC <| AG <| rs AA <| rn 2 Z <| bq n fun t f g => sx Z (Ay f Z Z Z <| rl Z <| cd Z g (fun i => ?_) (fun k => ?_))
  .refine rs AA <| rl Z <| AH <| Ag <| AL <| Bp i fun o j => Ag <| AL ?_
   cases j
   exact er Z Le.rfl
  exact AF <| Aq <| AD <| rg AA <| rl Z <| BD k (wf hA [] Z Z Z)
 refine Af <| Ai <| Bw l fun q m => Az <| AD <| rs AA <| rl Z <| AH ?_
 cases m
 exact er Z Le.rfl
noncomputable def Kl (e : AW) (c : (List Int)) (a : Int × Int × (List Int)) : Option ((Int × Int × (List Int)) ⊕ ((List Int) × Bool)) :=
 bif decide (a.2.1 < (c.length : Int)) then (Ar c (Ak (a.2.1 - 1))).bind fun f => (Cr e (⟨f, a.1⟩ : AK)).bind fun b => ((bif (!b.2) then some true else (Ar c a.2.1).bind fun g => some (b.1.elem != g) : Option (Bool))).bind fun (d : Bool) => bif d then some (.inr ([], false)) else (A5 a.2.2 [b.1.fin]).bind fun h => some (.inl (Ak (1 - b.1.fin), Ak (a.2.1 + 1), h)) else some (.inr (a.2.2, true))
noncomputable def Km (c : AW) (b : (List Int)) (a : Int × Int) : Option ((Int × Int) ⊕ ((List Int) × Bool)) :=
 bif decide (0 <= a.2) then (((Ar b 0).bind fun g => (Cr c (⟨g, a.2⟩ : AK)).bind fun d => ((bif d.2 then (Ar b 1).bind fun h => some (d.1.elem == h) else some false : Option (Bool))).bind fun (f : Bool) => bif f then some a.2 else some a.1 : Option (Int))).bind fun (e : Int) => some (.inl (e, Ak (a.2 - 1))) else (bif decide (a.1 < 0) then some ([], false) else AY (Kl c b) (a.1, 1, [Ak (1 - a.1)])).map .inr
noncomputable def Kn (c : AW) (a : (List Int)) (b : Int) : Option (Int ⊕ ((List Int) × Bool)) :=
 bif decide (b < (a.length : Int)) then (Ar a b).bind fun d => (D0 c d).bind fun e => bif (e != 1) then some (.inr ([], false)) else some (.inl (Ak (b + 1))) else (bif ((a.length : Int) == 1) then some ([0], true) else AY (Km c a) ((-1), 1)).map .inr
noncomputable def KF (b : AW) (a : (List Int)) : Option ((List Int) × Bool) :=
 bif ((a.length : Int) == 0) then some ([], false) else AY (Kn b a) 0
theorem Sm (c : AW) (d : (List Int)) (r : ((List Int) × Bool)) (h : KF c d = some r) : BZ Tryz.prog 158 [.agg (An c), .slice 1 (d.map AJ)] (· = .tup [.slice 1 (r.1.map AJ), .bool r.2]) := by
 refine fn AA Tryz.func158 Z Z 102 Z [.tmp 4, .tmp 5] Z [(0, .p (.agg (An c))), (1, .p (.slice 1 (d.map AJ)))] Z Z fun A hA => ?_
 unfold KF at h
 refine rs AA <| rl Z <| AC <| rs AA <| rn 1 Z <| sx Z (A2 Z Z <| rl Z <| cd Z h (fun an => ?_) (fun ao => ?_))
 .refine rs AA <| rl Z <| AH <| AL ?_
  cases an
  exact er Z (Le.tup' (.cons (Le.nil _) (.cons Le.rfl .nil)))
 refine AF <| AD <| AC <| rs AA <| rl Z <| AG ?_
 apply lp (a := r) (fun q : Int => ⟨102, [(1, ls 1 AJ d), (2, .lpb 0 0), (6, li q)], [(0, bx (An c))], 1⟩) ao
 . exact wf hA [(0, 0)] Z Z Z
 intro q bp k
 unfold Kn at k
 refine AC <| rs AA <| rn 2 Z <| sx Z (A2 Z Z <| rl Z <| cd Z k (fun ad => ?_) (fun aj => ?_))
 .refine AF <| AD <| AC <| AG <| AC ?_
  refine Ck AA mixed [0, 1, 2, 3, 4, 5, 6] 7 (by kernel_rfl) Z Z Z ?_
  refine Al 3 Z <| bq ad fun bt u ae => AR Z (AX Z (Ay u Z Z Z <| Al 1 Z <| bq ae fun bu v af => AR Z (Bf (Er _ _ _ v) (.inl Z) Z Z Z <| Ao Z <| AD <| cd Z af (fun ag => ?_) (fun ai => ?_))))
  .refine rs AA <| rl Z <| AH <| Ag <| AL <| Bp ag fun bm ah => Ag <| AL ?_
   cases ah
   exact er Z (Le.tup' (.cons (Le.nil _) (.cons Le.rfl .nil)))
  exact AF <| Aq <| AD <| rg AA <| rl Z <| BD ai (wf hA [(0, 0)] Z Z Z)
 refine Af <| Ai <| DJ aj fun s ak => Az <| AD <| AC <| rs AA <| rn 1 Z <| sx Z (A2 Z Z <| rl Z <| cd Z ak (fun al => ?_) (fun am => ?_))
 .refine rs AA <| rl Z <| AH <| AL ?_
  cases al
  exact er (Xs Z (.cons (.one (.own (enc := AJ) ([0] : List Int) Z Z)) (.cons (.one (.p _)) .nil))) Le.rfl
 refine AF <| AD <| rs AA <| rl Z <| AC <| rs AA <| rl Z <| AG ?_
 apply lp (a := s) (fun e : (Int × Int) => ⟨102, [(1, ls 1 AJ d), (2, .lpb 0 0), (7, li e.1), (8, li e.2)], [(0, bx (An c))], 1⟩) am
 . exact wf hA [(0, 0)] Z Z Z
 intro e br n
 unfold Km at n
 refine AC <| rs AA <| rl Z <| cd Z n (fun ap => ?_) (fun a3 => ?_)
 .refine AF <| AD <| jb (fun f : Int => ⟨102, [(1, ls 1 AJ d), (2, .lpb 0 0), (7, li f), (8, li e.2)], [(0, bx (An c))], 1⟩) ap (fun f aq => ?_) (fun f a2 => ?_)
  .refine AG <| AC ?_
   refine Ck AA mixed [0, 1, 2, 3, 4, 5, 6, 7, 8, 9, 10, 11, 12] 13 (by kernel_rfl) Z Z Z ?_
   refine Al 2 Z <| bq aq fun bv w ar => AR Z (AX Z (Ay w Z Z Z <| Al 3 Z <| bq ar fun bw x au => AR Z (Bf (DI _ _ _ x) (.inl Z) Z Z Z <| Ao Z <| AD <| jb (fun g : Bool => ⟨102, [(1, ls 1 AJ d), (2, .lpb 0 0), (7, li e.1), (8, li e.2), (57, lb g)], [(0, bx (An c))], 1⟩) au (fun g av => ?_) (fun g az => ?_))))
   .refine Ck AA mixed [0, 1, 2, 3, 4, 5, 6, 7, 8] 9 (by kernel_rfl) Z Z Z ?_
    refine Al 2 Z <| Je 50 av Z Z Z (fun aw => ?_) (fun ay => ?_)
    .exact Al 3 Z <| bq aw fun bz y ax => AR Z (AX Z (Ay y Z Z Z <| Ao Z <| AZ ax (wf hA [(0, 0)] Z Z Z)))
    exact Ao Z <| AZ ay (wf hA [(0, 0)] Z Z Z)
   refine cd Z az (fun a0 => ?_) (fun a1 => ?_)
   .exact rg AA <| rl Z <| Aq <| AZ a0 (wf hA [(0, 0)] Z Z Z)
   exact AF <| Aq <| AZ a1 (wf hA [(0, 0)] Z Z Z)
  exact rg AA <| rl Z <| BD a2 (wf hA [(0, 0)] Z Z Z)
 refine Af <| Ai <| DJ a3 fun t a4 => Az <| AD <| AC <| rs AA <| rl Z <| cd Z a4 (fun a5 => ?_) (fun a6 => ?_)
 .refine rs AA <| rl Z <| AH <| AL ?_
  cases a5
  exact er Z (Le.tup' (.cons (Le.nil _) (.cons Le.rfl .nil)))
 refine AF <| AD <| rs AA <| rl Z <| AC <| rs AA <| rl Z <| AG ?_
 apply lp (a := t) (fun b : (Int × Int × (List Int)) => ⟨102, [(1, ls 1 AJ d), (2, .lpb 0 0), (7, li b.1), (11, .lsl 1 1 0 b.2.2.length), (12, li b.2.1)], [(0, bx (An c)), (1, .row 3 1 (b.2.2.map AJ))], 2⟩) a6
 . exact wf hA [(0, 0), (1, 1)] Z Z Z
 intro b bs o
 unfold Kl at o
 refine AC <| rs AA <| rn 2 Z <| sx Z (A2 Z Z <| rl Z <| cd Z o (fun a7 => ?_) (fun bk => ?_))
 .refine AF <| AD <| AC <| AG <| AC ?_
  refine Ck AA mixed [0, 1, 2, 3, 4, 5, 6, 7, 8, 9, 10, 11, 12, 13, 14] 15 (by kernel_rfl) Z Z Z ?_
  refine Al 4 Z <| bq a7 fun b0 z a8 => AR Z (AX Z (Ay z Z Z Z <| Al 3 Z <| bq a8 fun j aa a9 => AR Z (Bf (DI _ _ _ aa) (.inl Z) Z Z Z <| Ao Z <| AD <| AC <| jb (fun i : Bool => ⟨102, [(1, ls 1 AJ d), (2, .lpb 0 0), (11, .lsl 1 1 0 b.2.2.length), (12, li b.2.1), (13, .lpb 2 0), (92, lb i)], [(0, bx (An c)), (1, .row 3 1 (b.2.2.map AJ)), (2, .box [li j.1.elem, li j.1.fin])], 3⟩) a9 (fun i ba => ?_) (fun i bf => ?_))))
  .refine Ck AA mixed [0, 1, 2, 3, 4, 5, 6, 7, 8, 9, 10] 11 (by kernel_rfl) Z Z Z ?_
   refine Al 3 Z <| Je 84 ba Z Z Z (fun bb => ?_) (fun bc => ?_)
   .exact Ao Z <| AZ bb (wf hA [(0, 0), (1, 1), (2, 14)] Z Z Z)
   exact Al 4 Z <| bq bc fun b1 ab be => AR Z (AX Z (Ay ab Z Z Z <| Ao Z <| AZ be (wf hA [(0, 0), (1, 1), (2, 14)] Z Z Z)))
  refine cd Z bf (fun bg => ?_) (fun bi => ?_)
  .refine rs AA <| rl Z <| AH <| AL <| Ag <| AL <| Bp bg fun bn bh => Ag <| AL ?_
   cases bh
   exact er Z (Le.tup' (.cons (Le.nil _) (.cons Le.rfl .nil)))
  exact AF <| AD <| rs AA <| rn 4 Z <| bq bi fun b2 ac bj => sx Z (AP (enc := AJ) (l := b.2.2) (m := [j.1.fin]) ac (fun _ => ⟨Z, Z⟩) Z Z Z Z Z Z <| rl Z <| rg AA <| rl Z <| Aq <| AD <| rg AA <| rl Z <| BD bj (wf hA [(0, 0), (1, 4)] Z Z Z))
 refine Af <| Ai <| Bw bk fun bo bl => Az <| AD <| rs AA <| rl Z <| AH ?_
 cases bl
 exact er (Xs Z (.cons (.one (.own (enc := AJ) b.2.2 Z Z)) (.cons (.one (.p _)) .nil))) Le.rfl
end Go.E
/- Plain functions, and walks in step with them. Written by a program (gen.py). No condition. -/
set_option maxRecDepth 100000
set_option maxHeartbeats 1000000
namespace Go.E
open Go Go.RowKit Go.Proofs
noncomputable def L8 (d : AW) (c : (Int × (List Int))) (b : CM) (a : Int × (List Int)) : Option ((Int × (List Int)) ⊕ ((Int × (List Int)) ⊕ Bool)) :=
 bif decide (a.1 < (b.elems.length : Int)) then (Ar b.elems a.1).bind fun e => (Cs a.2 e).bind fun f => bif f then some (.inr (.inr false)) else (Ar b.elems a.1).bind fun g => (A5 a.2 [g]).bind fun h => some (.inl (Ak (a.1 + 1), h)) else ((KF d b.elems).bind fun i => bif (!i.2) then some (.inr false) else some (.inl (Ak (c.1 + 1), a.2))).map .inr
noncomputable def L9 (b : AW) (a : Int × (List Int)) : Option ((Int × (List Int)) ⊕ Bool) :=
 bif decide (a.1 < (b.lines.length : Int)) then (Ar b.lines a.1).bind fun c => AY (L8 b a c) (0, a.2) else some (.inr true)
noncomputable def LX (a : AW) : Option Bool :=
 AY (L9 a) (0, ([] : List Int))
theorem UA (d : AW) (r : Bool) (h : LX d = some r) : BZ Tryz.prog 113 [.agg (An d)] (· = .bool r) := by
 refine fn AA Tryz.func113 Z Z 49 Z [.tmp 2] Z [(0, .p (.agg (An d)))] Z Z fun A hA => ?_
 unfold LX at h
 refine rs AA <| rl Z <| rs AA <| rl Z <| AC <| rs AA <| rl Z <| AG ?_
 apply lp (a := r) (fun c : (Int × (List Int)) => ⟨49, [(1, .lpb 0 0), (3, .lsl 1 1 0 c.2.length), (4, li c.1)], [(0, bx (An d)), (1, .row 3 1 (c.2.map AJ))], 2⟩) h
 . exact A6.trans (Bs 3 3 1 Z) (wf hA [(0, 0), (1, 1)] Z Z Z)
 intro c g e
 unfold L9 at e
 refine AC <| rs AA <| rn 3 Z <| sx Z (A2 Z Z <| rl Z <| cd Z e (fun s => ?_) (fun aj => ?_))
 .refine AF <| AD <| AC <| AG <| rs AA <| rn 3 Z <| bq s fun al i t => sx Z (Ay i Z Z Z <| rl Z <| AC <| rs AA <| rl Z <| AG ?_)
  apply lp (a := g) (fun b : (Int × (List Int)) => ⟨49, [(1, .lpb 0 0), (3, .lsl 1 1 0 b.2.length), (4, li c.1), (5, ls 1 AJ al.elems), (6, li b.1)], [(0, bx (An d)), (1, .row 3 1 (b.2.map AJ))], 2⟩) t
  . exact wf hA [(0, 0), (1, 1)] Z Z Z
  intro b au f
  unfold L8 at f
  refine AC <| rs AA <| rn 2 Z <| sx Z (A2 Z Z <| rl Z <| cd Z f (fun u => ?_) (fun ad => ?_))
  .refine AF <| AD <| AC <| AG <| AC <| rs AA <| rn 3 Z <| bq u fun av j v => sx Z (Ay j Z Z Z <| rn 1 Z <| bq v fun aw k w => sx Z (Ab (D3 _ _ _ k) (.inl Z) Z Z (Cu.eq (.cons (.one (.own (enc := AJ) b.2 Z Z)) (.cons (.one (.p _)) .nil))) <| rl Z <| cd Z w (fun x => ?_) (fun aa => ?_)))
   .refine rs AA <| rl Z <| AH <| AL <| Ag <| AL <| Bp x fun an y => Ag <| AL <| Ag <| AL <| Bp y fun ao z => Ag <| AL ?_
    cases z
    exact er Z Le.rfl
   exact AF <| AD <| rg AA <| rn 3 Z <| bq aa fun am n ab => sx Z (Ay n Z Z Z <| rn 2 Z <| bq ab fun ax o ac => sx Z (AP (enc := AJ) (l := b.2) (m := [am]) o (fun _ => ⟨Z, Z⟩) Z Z Z Z Z Z <| rl Z <| Aq <| AD <| rg AA <| rl Z <| BD ac (wf hA [(0, 0), (1, 3)] Z Z Z)))
  refine Af <| Ai <| DJ ad fun ap ae => Az <| AD <| rs AA <| rn 2 Z <| bq ae fun ay q af => sx Z (Ab (Sm _ _ _ q) (.inr Z) Z Z Z <| rl Z <| rs AA <| rl Z <| cd Z af (fun ag => ?_) (fun ai => ?_))
  .refine rs AA <| rl Z <| AH <| Ag <| AL <| Bp ag fun aq ah => Ag <| AL ?_
   cases ah
   exact er Z Le.rfl
  exact AF <| Aq <| AD <| rg AA <| rl Z <| BD ai (wf hA [(0, 0), (1, 1)] Z Z Z)
 refine Af <| Ai <| Bw aj fun ar ak => Az <| AD <| rs AA <| rl Z <| AH ?_
 cases ak
 exact er Z Le.rfl
noncomputable def Ms (b : Int) (a : Int × Int) : Option ((Int × Int) ⊕ Int) :=
 bif decide (0 < a.1) then some (.inl (Ak (a.1 - b), Ak (a.2 + a.1))) else some (.inr a.2)
noncomputable def Js (b : Int) (a : Int) : Option Int :=
 ((bif decide (b < 0) then some true else bif decide (60 < b) then some true else bif decide (a < 1) then some true else some (decide (10 < a)) : Option (Bool))).bind fun (c : Bool) => bif c then some 0 else AY (Ms a) (Ak (b - a), 0)
theorem Uy (c : Int) (b : Int) (r : Int) (h : Js c b = some r) : BZ Tryz.prog 159 [.int .i64 c, .int .i64 b] (· = .int .i64 r) := by
 refine fn AA Tryz.func159 Z Z 32 Z [.tmp 4] Z [(0, .p (.int .i64 c)), (1, .p (.int .i64 b))] Z Z fun A hA => ?_
 unfold Js at h
 refine rs AA <| rl Z <| AC <| jb (fun e : Bool => ⟨32, [(0, li c), (1, li b), (19, lb e)], [], 0⟩) h (fun e g => ?_) (fun e o => ?_)
 .refine rg AA <| rn 3 Z <| gs 8 g Z Z Z (fun i => ?_) (fun j => ?_)
  .exact rl Z <| AZ i (wf hA [] Z Z Z)
  refine rn 4 Z <| gs 12 j Z Z Z (fun k => ?_) (fun l => ?_)
  .exact rl Z <| AZ k (wf hA [] Z Z Z)
  refine rn 4 Z <| gs 16 l Z Z Z (fun m => ?_) (fun n => ?_)
  .exact rl Z <| AZ m (wf hA [] Z Z Z)
  exact rl Z <| AZ n (wf hA [] Z Z Z)
 refine cd Z o (fun q => ?_) (fun s => ?_)
 .refine rs AA <| rl Z <| AH <| AL ?_
  cases q
  exact er Z Le.rfl
 refine AF <| AD <| rs AA <| rl Z <| AC <| rs AA <| rl Z <| AG ?_
 apply lp (a := r) (fun d : (Int × Int) => ⟨32, [(0, li d.1), (1, li b), (5, li d.2)], [], 0⟩) s
 . exact wf hA [] Z Z Z
 intro d x f
 unfold Ms at f
 refine AC <| rs AA <| rl Z <| cd Z f (fun t => ?_) (fun u => ?_)
 .exact AF <| AD <| AC <| AG <| rg AA <| rl Z <| Aq <| AD <| rg AA <| rl Z <| BD t (wf hA [] Z Z Z)
 refine Af <| Ai <| Bw u fun w v => Az <| AD <| rs AA <| rl Z <| AH ?_
 cases v
 exact er Z Le.rfl
noncomputable def KG (b : AW) (a : Int) : Option Int :=
 ((bif decide (a < 0) then some true else some (decide ((b.elems.length : Int) <= a)) : Option (Bool))).bind fun (c : Bool) => bif c then some 0 else (Ar b.elems a).bind fun d => some d.length
theorem Sn (a : AW) (b : Int) (r : Int) (h : KG a b = some r) : BZ Tryz.prog 160 [.agg (An a), .int .i64 b] (· = .int .i64 r) := by
 refine fn AA Tryz.func160 Z Z 20 Z [.tmp 4] Z [(0, .p (.agg (An a))), (1, .p (.int .i64 b))] Z Z fun A hA => ?_
 unfold KG at h
 refine rs AA <| rl Z <| AC <| jb (fun c : Bool => ⟨20, [(1, li b), (2, .lpb 0 0), (13, lb c)], [(0, bx (An a))], 1⟩) h (fun c e => ?_) (fun c i => ?_)
 .refine rg AA <| rn 3 Z <| gs 7 e Z Z Z (fun f => ?_) (fun g => ?_)
  .exact rl Z <| AZ f (wf hA [(0, 0)] Z Z Z)
  exact rn 3 Z <| sx Z (A2 Z Z <| rl Z <| AZ g (wf hA [(0, 0)] Z Z Z))
 refine cd Z i (fun j => ?_) (fun k => ?_)
 .refine rs AA <| rl Z <| AH <| AL ?_
  cases j
  exact er Z Le.rfl
 refine AF <| AD <| rs AA <| rn 3 Z <| bq k fun m d l => sx Z (Ay d Z Z Z <| rl Z <| AH ?_)
 cases l
 exact er Z Le.rfl
noncomputable def Mt (b : AW) (a : Int) : Option (Int ⊕ Bool) :=
 bif decide (a < (b.elems.length : Int)) then (((Ar b.elems a).bind fun d => bif (d.kind != 4) then (Ar b.elems a).bind fun e => some (decide (e.length < b.top)) else some false : Option (Bool))).bind fun (c : Bool) => bif c then some (.inr false) else some (.inl (Ak (a + 1))) else some (.inr true)
noncomputable def Mu (a : AW) (b : Int) : Option (Int ⊕ Bool) :=
 bif decide (b < (a.signals.length : Int)) then (Ar a.signals b).bind fun c => (((D0 a c.at_.elem).bind fun e => bif (e == 1) then (KG a c.at_.elem).bind fun f => some (decide (f < a.margin)) else some false : Option (Bool))).bind fun (d : Bool) => bif d then some (.inr false) else some (.inl (Ak (b + 1))) else (AY (Mt a) 0).map .inr
noncomputable def Mv (a : AW) : Option Bool :=
 (Js a.top a.brake).bind fun b => bif decide (a.margin < Ak (a.top + b)) then some false else AY (Mu a) 0
theorem Uz (b : AW) (r : Bool) (h : Mv b = some r) : BZ Tryz.prog 114 [.agg (An b)] (· = .bool r) := by
 refine fn AA Tryz.func114 Z Z 68 Z [.tmp 2] Z [(0, .p (.agg (An b)))] Z Z fun A hA => ?_
 unfold Mv at h
 refine rs AA <| rl Z <| AC <| AC ?_
 refine Ck AA mixed [0, 1, 2, 3, 4, 5, 6, 7, 8, 9, 10] 11 (by kernel_rfl) Z Z Z ?_
 refine Al 8 Z <| bq h fun a6 q s => AR Z (Bf (Uy _ _ _ q) (.inl Z) Z Z Z <| Ao Z <| AD <| cd Z s (fun t => ?_) (fun u => ?_))
 .refine rs AA <| rl Z <| AH <| AL ?_
  cases t
  exact er Z Le.rfl
 refine AF <| AD <| AC <| rs AA <| rl Z <| AG ?_
 apply lp (a := r) (fun c : Int => ⟨68, [(1, .lpb 0 0), (3, li c)], [(0, bx (An b))], 1⟩) u
 . exact wf hA [(0, 0)] Z Z Z
 intro c az g
 unfold Mu at g
 refine AC <| rs AA <| rn 3 Z <| sx Z (A2 Z Z <| rl Z <| cd Z g (fun v => ?_) (fun ag => ?_))
 .refine AF <| AD <| AC <| AG <| rs AA <| rn 3 Z <| bq v fun a1 k w => sx Z (Ay k Z Z Z <| rl Z <| jb (fun e : Bool => ⟨68, [(1, .lpb 0 0), (3, li c), (42, lb e)], [(0, bx (An b))], 1⟩) w (fun e x => ?_) (fun e ac => ?_))
  .refine Ck AA mixed [0, 1, 2, 3, 4, 5, 6, 7, 8, 9, 10, 11] 12 (by kernel_rfl) Z Z Z ?_
   refine Al 2 Z <| bq x fun a2 l y => AR Z (Bf (Er _ _ _ l) (.inl Z) Z Z Z <| Al 2 Z <| Je 35 y Z Z Z (fun z => ?_) (fun ab => ?_))
   .exact Al 2 Z <| bq z fun a3 m aa => AR Z (Bf (Sn _ _ _ m) (.inl Z) Z Z Z <| Ao Z <| AZ aa (wf hA [(0, 0)] Z Z Z))
   exact Ao Z <| AZ ab (wf hA [(0, 0)] Z Z Z)
  refine cd Z ac (fun ad => ?_) (fun af => ?_)
  .refine rs AA <| rl Z <| AH <| Ag <| AL <| Bp ad fun aw ae => Ag <| AL ?_
   cases ae
   exact er Z Le.rfl
  exact AF <| Aq <| AD <| rg AA <| rl Z <| BD af (wf hA [(0, 0)] Z Z Z)
 refine Af <| Ai <| DJ ag fun j ah => Az <| AD <| AC <| rs AA <| rl Z <| AG ?_
 apply lp (a := j) (fun d : Int => ⟨68, [(1, .lpb 0 0), (5, li d)], [(0, bx (An b))], 1⟩) ah
 . exact wf hA [(0, 0)] Z Z Z
 intro d a0 i
 unfold Mt at i
 refine AC <| rs AA <| rn 3 Z <| sx Z (A2 Z Z <| rl Z <| cd Z i (fun ai => ?_) (fun au => ?_))
 .refine AF <| AD <| AC <| AG <| jb (fun f : Bool => ⟨68, [(1, .lpb 0 0), (5, li d), (67, lb f)], [(0, bx (An b))], 1⟩) ai (fun f aj => ?_) (fun f ao => ?_)
  .refine Ck AA mixed [0, 1, 2, 3, 4, 5, 6, 7, 8, 9, 10, 11, 12, 13, 14, 15, 16, 17] 18 (by kernel_rfl) Z Z Z ?_
   refine Al 3 Z <| bq aj fun a4 n ak => AR Z (AX Z (Ay n Z Z Z <| Al 4 Z <| Je 57 ak Z Z Z (fun al => ?_) (fun an => ?_)))
   .exact Al 3 Z <| bq al fun a5 o am => AR Z (AX Z (Ay o Z Z Z <| Ao Z <| AZ am (wf hA [(0, 0)] Z Z Z)))
   exact Ao Z <| AZ an (wf hA [(0, 0)] Z Z Z)
  refine cd Z ao (fun ap => ?_) (fun ar => ?_)
  .refine rs AA <| rl Z <| AH <| Ag <| AL <| Bp ap fun ax aq => Ag <| AL ?_
   cases aq
   exact er Z Le.rfl
  exact AF <| Aq <| AD <| rg AA <| rl Z <| BD ar (wf hA [(0, 0)] Z Z Z)
 refine Af <| Ai <| Bw au fun ay av => Az <| AD <| rs AA <| rl Z <| AH ?_
 cases av
 exact er Z Le.rfl
noncomputable def LY (a : AW) : Option Int :=
 ((bif decide (40 < (a.elems.length : Int)) then some true else bif decide (24 < (a.signals.length : Int)) then some true else bif decide (4 < (a.lines.length : Int)) then some true else some (decide (80 < (a.joins.length : Int))) : Option (Bool))).bind fun (d : Bool) => bif d then some 3 else (LR a).bind fun b => (Mq a).bind fun l => bif (!l) then some 1 else (((G9 b.1).bind fun e => bif e then some true else (G9 b.2.1).bind fun f => bif f then some true else (G9 b.2.2).bind fun g => some g : Option (Bool))).bind fun (c : Bool) => bif c then some 4 else (KE a).bind fun h => bif (!h) then some 6 else (JL a).bind fun i => bif (!i) then some 7 else (LX a).bind fun j => bif (!j) then some 8 else (Mv a).bind fun k => bif (!k) then some 9 else some 0
theorem UB (a : AW) (r : Int) (h : LY a = some r) : BZ Tryz.prog 42 [.agg (An a)] (· = .int .i64 r) := by
 refine fn AA Tryz.func42 Z Z 65 Z [.tmp 2] Z [(0, .p (.agg (An a)))] Z Z fun A hA => ?_
 unfold LY at h
 refine rs AA <| rl Z <| AC <| jb (fun c : Bool => ⟨65, [(1, .lpb 0 0), (27, lb c)], [(0, bx (An a))], 1⟩) h (fun c am => ?_) (fun c av => ?_)
 .refine rg AA <| rn 2 Z <| sx Z (A2 Z Z <| rn 2 Z <| gs 10 am Z Z Z (fun an => ?_) (fun ao => ?_))
  .exact rl Z <| AZ an (wf hA [(0, 0)] Z Z Z)
  refine rn 2 Z <| sx Z (A2 Z Z <| rn 3 Z <| gs 16 ao Z Z Z (fun ap => ?_) (fun aq => ?_))
  .exact rl Z <| AZ ap (wf hA [(0, 0)] Z Z Z)
  refine rn 2 Z <| sx Z (A2 Z Z <| rn 3 Z <| gs 22 aq Z Z Z (fun ar => ?_) (fun au => ?_))
  .exact rl Z <| AZ ar (wf hA [(0, 0)] Z Z Z)
  exact rn 2 Z <| sx Z (A2 Z Z <| rl Z <| AZ au (wf hA [(0, 0)] Z Z Z))
 refine cd Z av (fun aw => ?_) (fun ax => ?_)
 .refine rs AA <| rl Z <| AH <| AL ?_
  cases aw
  exact er Z Le.rfl
 refine AF <| AD <| rs AA <| rn 1 Z <| bq ax fun a9 l ay => sx Z (Ab (T8 _ _ l) (.inr Z) Z Z Z <| rl Z <| AC <| AG <| rs AA <| rn 1 Z <| bq ay fun ba m az => sx Z (Ab (Uu _ _ m) (.inl Z) Z Z Z <| rl Z <| cd Z az (fun a0 => ?_) (fun a1 => ?_)))
 .refine rs AA <| rl Z <| AH <| Ag <| AL ?_
  cases a0
  exact er Z Le.rfl
 refine jb (fun b : Bool => ⟨65, [(1, .lpb 0 0), (38, lb b)], [(0, bx (An a))], 1⟩) a1 (fun b n => ?_) (fun b x => ?_)
 .refine rg AA <| rn 1 Z <| bq n fun a2 d o => sx Z (Ab (LS _ _ d) (.inl Z) Z Z Z <| rn 1 Z <| gs 41 o Z Z Z (fun q => ?_) (fun s => ?_))
  .exact rl Z <| AZ q (wf hA [(0, 0)] Z Z Z)
  refine rn 1 Z <| bq s fun a3 e t => sx Z (Ab (LS _ _ e) (.inl Z) Z Z Z <| rn 2 Z <| gs 45 t Z Z Z (fun u => ?_) (fun v => ?_))
  .exact rl Z <| AZ u (wf hA [(0, 0)] Z Z Z)
  exact rn 1 Z <| bq v fun a4 f w => sx Z (Ab (LS _ _ f) (.inl Z) Z Z Z <| rl Z <| AZ w (wf hA [(0, 0)] Z Z Z))
 refine cd Z x (fun y => ?_) (fun z => ?_)
 .refine rs AA <| rl Z <| AH <| Ag <| AL ?_
  cases y
  exact er Z Le.rfl
 refine rs AA <| rn 1 Z <| bq z fun a5 g aa => sx Z (Ab (Sl _ _ g) (.inl Z) Z Z Z <| rl Z <| cd Z aa (fun ab => ?_) (fun ac => ?_))
 .refine rs AA <| rl Z <| AH <| Ag <| AL ?_
  cases ab
  exact er Z Le.rfl
 refine rs AA <| rn 1 Z <| bq ac fun a6 i ad => sx Z (Ab (Ru _ _ i) (.inl Z) Z Z Z <| rl Z <| cd Z ad (fun ae => ?_) (fun af => ?_))
 .refine rs AA <| rl Z <| AH <| Ag <| AL ?_
  cases ae
  exact er Z Le.rfl
 refine rs AA <| rn 1 Z <| bq af fun a7 j ag => sx Z (Ab (UA _ _ j) (.inl Z) Z Z Z <| rl Z <| cd Z ag (fun ah => ?_) (fun ai => ?_))
 .refine rs AA <| rl Z <| AH <| Ag <| AL ?_
  cases ah
  exact er Z Le.rfl
 refine rs AA <| rn 1 Z <| bq ai fun a8 k aj => sx Z (Ab (Uz _ _ k) (.inl Z) Z Z Z <| rl Z <| cd Z aj (fun ak => ?_) (fun al => ?_))
 .refine rs AA <| rl Z <| AH <| Ag <| AL ?_
  cases ak
  exact er Z Le.rfl
 refine AF <| Aq <| AD <| rs AA <| rl Z <| AH ?_
 cases al
 exact er Z Le.rfl
noncomputable def Nv (a : Int) : Option Int :=
 bif (a == 1) then some 2 else bif (a == 2) then some 3 else bif (a == 3) then some 4 else bif (a == 4) then some 1 else some 0
end Go.E
/- Plain functions, and walks in step with them. Written by a program (gen.py). No condition. -/
set_option maxRecDepth 100000
set_option maxHeartbeats 1000000
namespace Go.E
open Go Go.RowKit Go.Proofs
noncomputable def GS (a : (List Bv)) : Option (List Bv) :=
 KC a (some []) ((A5 ([] : List Bv) a).bind fun b => some b)
noncomputable def GU (a : (List B9)) : Option (List B9) :=
 KC a (some []) ((A5 ([] : List B9) a).bind fun b => some b)
noncomputable def F4 (a : (List BK)) : Option (List BK) :=
 KC a (some []) ((A5 ([] : List BK) a).bind fun b => some b)
noncomputable def GV (a : (List CM)) : Option (List CM) :=
 KC a (some []) ((A5 ([] : List CM) a).bind fun b => some b)
noncomputable def B2 (a : (List Int)) : Option (List Int) :=
 KC a (some []) ((A5 ([] : List Int) a).bind fun b => some b)
theorem Mw (a : (List Int)) (r : (List Int)) (h : B2 a = some r) : BZ Tryz.prog 124 [.slice 1 (a.map AJ)] (· = .slice 1 (r.map AJ)) := by
 refine fn AA Tryz.func124 Z Z 8 Z [.tmp 2] Z [(0, .p (.slice 1 (a.map AJ)))] Z Z fun A hA => ?_
 unfold B2 at h
 refine rs AA <| rl Z <| AC <| rs AA <| rn 1 Z <| sx Z (O1 h Z Z Z (fun d => ?_) (fun e => ?_))
 .refine rl Z <| QG Z <| rs AA <| rl Z <| AH <| AL ?_
  cases d
  exact er Z (Le.nil _)
 refine rl Z <| Ov Z <| AF <| AD <| rs AA <| rn 2 Z <| bq e fun f b c => sx Z (AP (enc := AJ) (l := ([] : List Int)) (m := a) b (fun _ => ⟨Z, Z⟩) Z Z Z Z Z Z <| rl Z <| AH ?_)
 have hr := Option.some.inj c; subst hr
 exact er (Ic Z (.one (.own (enc := AJ) f Z Z))) Le.rfl
theorem MF (a : (List Int)) (r : (List Int)) (h : B2 a = some r) : EU Tryz.prog 124 [.slice 1 (a.map AJ)] 3 1 (r.map AJ) := by
 refine TG (enc := AJ) (fun _ => ⟨Z, Z⟩) Tryz.func124 Z Z 8 Z 2 Z [(0, .p (.slice 1 (a.map AJ)))] Z Z fun A hA => ?_
 unfold B2 at h
 refine rs AA <| rl Z <| AC <| rs AA <| rn 1 Z <| sx Z (O1 h Z Z Z (fun d => ?_) (fun e => ?_))
 .refine rl Z <| QG Z <| rs AA <| rl Z <| AH <| AL ?_
  cases d
  exact Xu Z
 refine rl Z <| Ov Z <| AF <| AD <| rs AA <| rn 2 Z <| bq e fun f b c => sx Z (AP (enc := AJ) (l := ([] : List Int)) (m := a) b (fun _ => ⟨Z, Z⟩) Z Z Z Z Z Z <| rl Z <| AH ?_)
 have hr := Option.some.inj c; subst hr
 exact TH Z Z Z
noncomputable def Gh (b : AW) (h : (List Bv)) (i : (List B9)) (c : (List BK)) (g : (List CM)) (a : Int × (List CM)) : Option ((Int × (List CM)) ⊕ AW) :=
 bif decide (a.1 < (g.length : Int)) then (Ar a.2 a.1).bind fun d => (B2 d.elems).bind fun e => (Ar a.2 a.1).bind fun f => some (.inl (Ak (a.1 + 1), IR a.2 a.1 (⟨f.name, e⟩ : CM))) else some (.inr (⟨h, i, c, a.2, b.top, b.brake, b.margin, b.throw, b.hard⟩ : AW))
noncomputable def LZ (a : AW) : Option AW :=
 (GS a.elems).bind fun d => (GU a.joins).bind fun e => (F4 a.signals).bind fun c => (GV a.lines).bind fun b => AY (Gh a d e c b) (0, b)
noncomputable def Pt (b : AW) (a : Int) : Option (AK × Bool) :=
 ((bif decide (a < 0) then some true else some (decide ((b.signals.length : Int) <= a)) : Option (Bool))).bind fun (c : Bool) => bif c then some ((⟨0, 0⟩ : AK), false) else (Ar b.signals a).bind fun d => some (d.at_, true)
theorem XI (a : AW) (b : Int) (r : (AK × Bool)) (h : Pt a b = some r) : BZ Tryz.prog 93 [.agg (An a), .int .i64 b] (· = .tup [.agg (A1 r.1), .bool r.2]) := by
 refine fn AA Tryz.func93 Z Z 22 Z [.cell 4 96, .tmp 5] Z [(0, .p (.agg (An a))), (1, .p (.int .i64 b))] Z Z fun A hA => ?_
 unfold Pt at h
 refine rs AA <| rl Z <| AC <| jb (fun c : Bool => ⟨22, [(1, li b), (2, .lpb 0 0), (4, .lpb 1 0), (14, lb c)], [(0, bx (An a)), (1, .box [li 0, li 0])], 2⟩) h (fun c e => ?_) (fun c i => ?_)
 .refine rg AA <| rn 3 Z <| gs 8 e Z Z Z (fun f => ?_) (fun g => ?_)
  .exact rl Z <| AZ f (wf hA [(0, 0), (1, 1)] Z Z Z)
  exact rn 3 Z <| sx Z (A2 Z Z <| rl Z <| AZ g (wf hA [(0, 0), (1, 1)] Z Z Z))
 refine cd Z i (fun j => ?_) (fun k => ?_)
 .refine rs AA <| rl Z <| AH <| AL ?_
  cases j
  exact er Z Le.rfl
 refine AF <| AD <| rs AA <| rn 3 Z <| bq k fun m d l => sx Z (Ay d Z Z Z <| rl Z <| AH ?_)
 cases l
 exact er Z Le.rfl
noncomputable def IF (a : AW) (b : Int) : Option Int :=
 (D0 a b).bind fun c => some c
theorem Mx (a : AW) (b : Int) (r : Int) (h : IF a b = some r) : BZ Tryz.prog 91 [.agg (An a), .int .i64 b] (· = .int .i64 r) := by
 refine fn AA Tryz.func91 Z Z 8 Z [.tmp 4] Z [(0, .p (.agg (An a))), (1, .p (.int .i64 b))] Z Z fun A hA => ?_
 unfold IF at h
 refine rs AA <| rl Z <| rs AA <| rn 2 Z <| bq h fun e c d => sx Z (Ab (Er _ _ _ c) (.inl Z) Z Z Z <| rl Z <| AH ?_)
 have hr := Option.some.inj d; subst hr
 exact er Z Le.rfl
noncomputable def GE (a : AV) (b : Ax) (c : Int) (f : Int) (g : Int) : Option AV :=
 (A5 ([] : List Ax) a.steps).bind fun i => (A5 i [b]).bind fun j => (A5 ([] : List AN) a.needs).bind fun d => ((bif (c != 0) then (A5 d [(⟨b.elem, c⟩ : AN)]).bind fun h => some h else some d : Option ((List AN)))).bind fun (e : (List AN)) => some (⟨a.frm, g, f, j, e, [], [], [], false⟩ : AV)
theorem Io (a : AV) (b : Ax) (f : Int) (g : Int) (i : Int) (r : AV) (h : GE a b f g i = some r) : BZ Tryz.prog 151 [.agg (Av a), .agg (BH b), .int .i64 f, .int .i64 g, .int .i64 i] (· = .agg (Av r)) := by
 refine fn AA Tryz.func151 Z Z 42 Z [.cell 10 36] Z [(0, .p (.agg (Av a))), (1, .p (.agg (BH b))), (2, .p (.int .i64 f)), (3, .p (.int .i64 g)), (4, .p (.int .i64 i))] Z Z fun A hA => ?_
 unfold GE at h
 refine rs AA <| rl Z <| rs AA <| rl Z <| AC <| bq h fun j c x => bq x fun k d y => ?_
 refine Rs AA mixed (.picks [1, 2] (.alt 0 [] (.alt 3 [4, 5, 6, 7, 8] .done (.alt 4 [] (.alt 3 [5, 6, 7, 8] .done (.alt 5 [3, 6, 7, 8] .done .nil)) .nil)) (.alt 4 [0] (.alt 3 [5, 6, 7, 8] .done (.alt 5 [3, 6, 7, 8] .done .nil)) .nil))) 9 ⟨42, [(2, li f), (5, .lpb 0 0), (6, .lpb 1 0), (10, .lpb 2 0), (11, .lpb 3 0)], [(0, bx (Av a)), (1, bx (BH b)), (2, .box [li 0, li 0, li 0, .p (.nils), .p (.nils), .p (.nils), .p (.nils), .p (.nils), lb false]), (3, .box [li a.frm, li i, li g, .lsl 4 3 0 k.length, .p (.nils), .p (.nils), .p (.nils), .p (.nils), lb false]), (4, .row 65 3 (k.map BH))], 5⟩ (by kernel_rfl) Z ?_ ?_
 .refine LU <| Ao Z <| Au ?_ ?_
  .refine Ao Z <| Au ?_ ?_
   .exact AR Z (AQ Z (AP (enc := BH) (l := ([] : List Ax)) (m := a.steps) c (fun _ => ⟨Z, Z⟩) Z Z Z Z Z Z <| Al 2 Z <| AR Z (AQ Z (AP (enc := BH) (l := j) (m := [b]) d (fun _ => ⟨Z, Z⟩) Z Z Z Z Z Z <| Ao Z <| BN (wf hA (gi 4 [(4, 10)]) Z Z Z)))))
   refine Au ?_ ?_
   .refine Ao Z <| Au ?_ ?_
    .exact AR Z (AQ Z (AP (enc := BH) (l := ([] : List Ax)) (m := a.steps) c (fun _ => ⟨Z, Z⟩) Z Z Z Z Z Z <| Al 1 Z <| AR Z (AQ Z (AP (enc := BH) (l := j) (m := [b]) d (fun _ => ⟨Z, Z⟩) Z Z Z Z Z Z <| Ao Z <| BN (wf hA (gi 4 [(4, 10)]) Z Z Z)))))
    refine Au ?_ ?_
    .exact Al 1 Z <| AR Z (AQ Z (AP (enc := BH) (l := ([] : List Ax)) (m := a.steps) c (fun _ => ⟨Z, Z⟩) Z Z Z Z Z Z <| AR Z (AQ Z (AP (enc := BH) (l := j) (m := [b]) d (fun _ => ⟨Z, Z⟩) Z Z Z Z Z Z <| Ao Z <| BN (wf hA (gi 4 [(4, 10)]) Z Z Z)))))
    exact Bj
   exact Bj
  refine Au ?_ ?_
  .refine Ao Z <| Au ?_ ?_
   .exact AR Z (AQ Z (AP (enc := BH) (l := ([] : List Ax)) (m := a.steps) c (fun _ => ⟨Z, Z⟩) Z Z Z Z Z Z <| Al 1 Z <| AR Z (AQ Z (AP (enc := BH) (l := j) (m := [b]) d (fun _ => ⟨Z, Z⟩) Z Z Z Z Z Z <| Ao Z <| BN (wf hA (gi 4 [(4, 10)]) Z Z Z)))))
   refine Au ?_ ?_
   .exact Al 1 Z <| AR Z (AQ Z (AP (enc := BH) (l := ([] : List Ax)) (m := a.steps) c (fun _ => ⟨Z, Z⟩) Z Z Z Z Z Z <| AR Z (AQ Z (AP (enc := BH) (l := j) (m := [b]) d (fun _ => ⟨Z, Z⟩) Z Z Z Z Z Z <| Ao Z <| BN (wf hA (gi 4 [(4, 10)]) Z Z Z)))))
   exact Bj
  exact Bj
 refine AD <| rs AA <| rn 3 Z <| bq y fun z n q => sx Z (AP (enc := AM) (l := ([] : List AN)) (m := a.needs) n (fun _ => ⟨Z, Z⟩) Z Z Z Z Z Z <| rl Z <| jb (fun e : (List AN) => ⟨42, [(10, .lpb 0 0), (11, .lpb 1 0)], [(0, .box [li 0, li 0, li 0, .p (.nils), .p (.nils), .p (.nils), .p (.nils), .p (.nils), lb false]), (1, .box [li a.frm, li i, li g, .lsl 2 3 0 k.length, .lsl 3 2 0 e.length, .p (.nils), .p (.nils), .p (.nils), lb false]), (2, .row 65 3 (k.map BH)), (3, .row 91 2 (e.map AM))], 4⟩) q (fun e s => ?_) (fun e w => ?_))
 .refine rs AA <| rl Z <| cd Z s (fun t => ?_) (fun v => ?_)
  .exact rg AA <| rn 7 Z <| bq t fun aa o u => sx Z (AP (enc := AM) (l := z) (m := [(⟨b.elem, f⟩ : AN)]) o (fun _ => ⟨Z, Z⟩) Z Z Z Z Z Z <| rl Z <| AZ u (wf hA [(0, 2), (1, 3), (2, 4), (3, 8)] Z Z Z))
  exact AF <| AZ v (wf hA [(0, 2), (1, 3), (2, 4), (3, 6)] Z Z Z)
 refine rs AA <| rl Z <| AH ?_
 cases w
 exact er (Ic Z (.agg (.cons (.p _) (.cons (.p _) (.cons (.p _) (.cons (.own (enc := BH) k Z Z) (.cons (.own (enc := AM) e Z Z) (.cons (.p _) (.cons (.p _) (.cons (.p _) (.cons (.p _) .nil))))))))))) (Le.agg' (.cons Le.rfl (.cons Le.rfl (.cons Le.rfl (.cons Le.rfl (.cons Le.rfl (.cons (Le.nil _) (.cons (Le.nil _) (.cons (Le.nil _) (.cons Le.rfl .nil))))))))))
noncomputable def Jt (c : AW) (d : Int) (a : Int) : Option (List De) :=
 (JJ c (⟨d, a⟩ : AK)).bind fun e => bif (!e) then some [] else (D0 c d).bind fun b => bif (b == 1) then some [(⟨Ak (1 - a), 0⟩ : De)] else bif (b == 3) then some [(⟨Wl a 1, 0⟩ : De)] else bif (b == 2) then bif (a == 0) then some [(⟨1, 1⟩ : De), (⟨2, 2⟩ : De)] else some [(⟨0, a⟩ : De)] else some []
theorem QQ (b : AW) (c : Int) (a : Int) (r : (List De)) (h : Jt b c a = some r) : BZ Tryz.prog 152 [.agg (An b), .int .i64 c, .int .i64 a] (· = .slice 2 (r.map La)) := by
 refine fn AA Tryz.func152 Z Z 38 Z [.tmp 6] Z [(0, .p (.agg (An b))), (1, .p (.int .i64 c)), (2, .p (.int .i64 a))] Z Z fun A hA => ?_
 unfold Jt at h
 refine rs AA <| rl Z <| AC <| rs AA <| rn 4 Z <| bq h fun v e f => sx Z (Ab (OG _ _ _ e) (.inl Z) Z Z Z <| rl Z <| cd Z f (fun g => ?_) (fun i => ?_))
 .refine rs AA <| rl Z <| AH <| AL ?_
  cases g
  exact er Z (Le.nil _)
 refine AF <| AD <| AC <| rs AA <| rn 2 Z <| bq i fun u d j => sx Z (Ab (Er _ _ _ d) (.inl Z) Z Z Z <| rl Z <| AG <| rs AA <| rl Z <| cd Z j (fun k => ?_) (fun l => ?_))
 .refine rs AA <| rl Z <| AH <| Ag <| AL ?_
  cases k
  exact er (Ic Z (.one (.own (enc := La) ([(⟨Ak (1 - a), 0⟩ : De)] : List De) Z Z))) Le.rfl
 refine rs AA <| rl Z <| cd Z l (fun m => ?_) (fun n => ?_)
 .refine rs AA <| rl Z <| AH <| Ag <| AL ?_
  cases m
  exact er (Ic Z (.one (.own (enc := La) ([(⟨Wl a 1, 0⟩ : De)] : List De) Z Z))) Le.rfl
 refine rs AA <| rl Z <| cd Z n (fun o => ?_) (fun t => ?_)
 .refine AC <| rs AA <| rl Z <| cd Z o (fun q => ?_) (fun s => ?_)
  .refine rs AA <| rl Z <| AH <| AL <| Ag <| AL ?_
   cases q
   exact er (Ic Z (.one (.own (enc := La) ([(⟨1, 1⟩ : De), (⟨2, 2⟩ : De)] : List De) Z Z))) Le.rfl
  refine AF <| AD <| rs AA <| rl Z <| AH <| Ag <| AL ?_
  cases s
  exact er (Ic Z (.one (.own (enc := La) ([(⟨0, a⟩ : De)] : List De) Z Z))) Le.rfl
 refine AF <| Aq <| AD <| rs AA <| rl Z <| AH ?_
 cases t
 exact er Z (Le.nil _)
noncomputable def MA (d : AW) (e : AV) (b : AK) (rc : (AW × AV × AK × (List Int)) -> Option (List AV)) (u : (List Int)) (c : (List De)) (a : Int × (List AV)) : Option ((Int × (List AV)) ⊕ (List AV)) :=
 bif decide (a.1 < (c.length : Int)) then (((Ar c a.1).bind fun g => (Ar c a.1).bind fun f => (GC d (⟨b.elem, g.out⟩ : AK)).bind fun h => bif decide (0 <= h) then (Ar c a.1).bind fun k => (GE e (⟨b.elem, b.fin, f.out⟩ : Ax) k.pos 1 h).bind fun l => (A5 a.2 [l]).bind fun m => some m else (Cr d (⟨b.elem, g.out⟩ : AK)).bind fun i => bif (!i.2) then (Ar c a.1).bind fun n => (GE e (⟨b.elem, b.fin, f.out⟩ : Ax) n.pos 3 (-1)).bind fun o => (A5 a.2 [o]).bind fun p => some p else (Ar c a.1).bind fun q => (GE e (⟨b.elem, b.fin, f.out⟩ : Ax) q.pos 0 (-1)).bind fun r => (rc (d, r, i.1, u)).bind fun s => (A5 a.2 s).bind fun t => some t : Option ((List AV)))).bind fun (j : (List AV)) => some (.inl (Ak (a.1 + 1), j)) else some (.inr a.2)
noncomputable def Ip (rc : (AW × AV × AK × (List Int)) -> Option (List AV)) (b : AW) (c : AV) (a : AK) (d : (List Int)) : Option (List AV) :=
 (((Cs d a.elem).bind fun f => bif f then some true else some ((c.steps.length : Int) == 12) : Option (Bool))).bind fun (e : Bool) => bif e then some [] else (A5 ([] : List Int) d).bind fun g => (A5 g [a.elem]).bind fun h => (IF b a.elem).bind fun i => bif (i == 4) then (GE c (⟨a.elem, a.fin, (-1)⟩ : Ax) 0 2 (-1)).bind fun j => some [j] else (Jt b a.elem a.fin).bind fun k => AY (MA b c a rc h k) (0, ([] : List AV))
noncomputable def Rv (b : AW) (c : AV) (d : AK) (e : (List Int)) : Option (List AV) :=
 Rw (fun (rc : (AW × AV × AK × (List Int)) -> Option (List AV)) (a : (AW × AV × AK × (List Int))) => Ip rc a.1 a.2.1 a.2.2.1 a.2.2.2) 1000 (b, c, d, e)
theorem UC (rc : (AW × AV × AK × (List Int)) -> Option (List AV)) (hrec : ∀ (d : AW) (e : AV) (b : AK) (c : (List Int)) (r : (List AV)), rc (d, e, b, c) = some r -> BZ Tryz.prog 105 [.agg (An d), .agg (Av e), .agg (A1 b), .slice 1 (c.map AJ)] (· = .slice 9 (r.map Av))) (d : AW) (e : AV) (b : AK) (c : (List Int)) (r : (List AV)) (h : Ip rc d e b c = some r) : BZ Tryz.prog 105 [.agg (An d), .agg (Av e), .agg (A1 b), .slice 1 (c.map AJ)] (· = .slice 9 (r.map Av)) := by
 refine fn AA Tryz.func105 Z Z 128 Z [.tmp 8] Z [(0, .p (.agg (An d))), (1, .p (.agg (Av e))), (2, .p (.agg (A1 b))), (3, .p (.slice 1 (c.map AJ)))] Z Z fun A hA => ?_
 unfold Ip at h
 refine rs AA <| rl Z <| AC <| jb (fun o : Bool => ⟨128, [(3, ls 1 AJ c), (4, .lpb 0 0), (5, .lpb 1 0), (6, .lpb 2 0), (26, lb o)], [(0, bx (An d)), (1, bx (Av e)), (2, .box [li b.elem, li b.fin])], 3⟩) h (fun o ba => ?_) (fun o bf => ?_)
 .refine rg AA <| rn 3 Z <| bq ba fun b9 ah bb => sx Z (Ab (D3 _ _ _ ah) (.inl Z) Z Z Z <| rn 1 Z <| gs 21 bb Z Z Z (fun bc => ?_) (fun be => ?_))
  .exact rl Z <| AZ bc (wf hA (gi 3 []) Z Z Z)
  exact rn 2 Z <| sx Z (A2 Z Z <| rl Z <| AZ be (wf hA (gi 3 []) Z Z Z))
 refine cd Z bf (fun bg => ?_) (fun bh => ?_)
 .refine rs AA <| rl Z <| AH <| AL ?_
  cases bg
  exact er Z (Le.nil _)
 refine AF <| AD <| AC <| bq bh fun j g bi => bq bi fun k i bj => ?_
 refine Rs AA mixed (.picks [1, 3] (.alt 0 [] (.alt 2 [4, 5, 6, 7] .done (.alt 4 [] (.alt 2 [5, 6, 7] .done (.alt 5 [2, 6, 7] .done .nil)) .nil)) (.alt 4 [0] (.alt 2 [5, 6, 7] .done (.alt 5 [2, 6, 7] .done .nil)) .nil))) 8 ⟨128, [(3, .lsl 0 1 0 k.length), (4, .lpb 1 0), (5, .lpb 2 0), (6, .lpb 3 0)], [(0, .row 3 1 (k.map AJ)), (1, bx (An d)), (2, bx (Av e)), (3, .box [li b.elem, li b.fin])], 4⟩ (by kernel_rfl) Z ?_ ?_
 .refine LU <| Ao Z <| Au ?_ ?_
  .refine Ao Z <| Au ?_ ?_
   .exact AR Z (AQ Z (AP (enc := AJ) (l := ([] : List Int)) (m := c) g (fun _ => ⟨Z, Z⟩) Z Z Z Z Z Z <| Al 2 Z <| AR Z (AQ Z (AP (enc := AJ) (l := j) (m := [b.elem]) i (fun _ => ⟨Z, Z⟩) Z Z Z Z Z Z <| Ao Z <| BN (wf hA [(0, 9), (1, 0), (2, 1), (3, 2)] Z Z Z)))))
   refine Au ?_ ?_
   .refine Ao Z <| Au ?_ ?_
    .exact AR Z (AQ Z (AP (enc := AJ) (l := ([] : List Int)) (m := c) g (fun _ => ⟨Z, Z⟩) Z Z Z Z Z Z <| Al 1 Z <| AR Z (AQ Z (AP (enc := AJ) (l := j) (m := [b.elem]) i (fun _ => ⟨Z, Z⟩) Z Z Z Z Z Z <| Ao Z <| BN (wf hA [(0, 9), (1, 0), (2, 1), (3, 2)] Z Z Z)))))
    refine Au ?_ ?_
    .exact Al 1 Z <| AR Z (AQ Z (AP (enc := AJ) (l := ([] : List Int)) (m := c) g (fun _ => ⟨Z, Z⟩) Z Z Z Z Z Z <| AR Z (AQ Z (AP (enc := AJ) (l := j) (m := [b.elem]) i (fun _ => ⟨Z, Z⟩) Z Z Z Z Z Z <| Ao Z <| BN (wf hA [(0, 9), (1, 0), (2, 1), (3, 2)] Z Z Z)))))
    exact Bj
   exact Bj
  refine Au ?_ ?_
  .refine Ao Z <| Au ?_ ?_
   .exact AR Z (AQ Z (AP (enc := AJ) (l := ([] : List Int)) (m := c) g (fun _ => ⟨Z, Z⟩) Z Z Z Z Z Z <| Al 1 Z <| AR Z (AQ Z (AP (enc := AJ) (l := j) (m := [b.elem]) i (fun _ => ⟨Z, Z⟩) Z Z Z Z Z Z <| Ao Z <| BN (wf hA [(0, 9), (1, 0), (2, 1), (3, 2)] Z Z Z)))))
   refine Au ?_ ?_
   .exact Al 1 Z <| AR Z (AQ Z (AP (enc := AJ) (l := ([] : List Int)) (m := c) g (fun _ => ⟨Z, Z⟩) Z Z Z Z Z Z <| AR Z (AQ Z (AP (enc := AJ) (l := j) (m := [b.elem]) i (fun _ => ⟨Z, Z⟩) Z Z Z Z Z Z <| Ao Z <| BN (wf hA [(0, 9), (1, 0), (2, 1), (3, 2)] Z Z Z)))))
   exact Bj
  exact Bj
 refine AD <| AC <| rs AA <| rn 3 Z <| bq bj fun ca ai bk => sx Z (Ab (Mx _ _ _ ai) (.inl Z) Z Z Z <| rl Z <| cd Z bk (fun bl => ?_) (fun bn => ?_))
 .refine rs AA <| rn 6 Z <| bq bl fun bt aj bm => sx Z (Ab (Io _ _ _ _ _ _ aj) (.inr Z) Z Z Z <| rl Z <| AH <| AL ?_)
  cases bm
  exact er (Ic Z (.one (.own (enc := Av) ([bt] : List AV) Z Z))) Le.rfl
 refine AF <| AD <| rs AA <| rl Z <| rs AA <| rn 5 Z <| bq bn fun s ak bo => sx Z (Ab (QQ _ _ _ _ ak) (.inr Z) Z Z Z <| rl Z <| AC <| rs AA <| rl Z <| AG ?_)
 apply lp (a := r) (fun f : (Int × (List AV)) => ⟨128, [(3, ls 1 AJ k), (4, .lpb 0 0), (5, .lpb 1 0), (6, .lpb 2 0), (9, .lsl 3 9 0 f.2.length), (10, ls 2 La s), (11, li f.1)], [(0, bx (An d)), (1, bx (Av e)), (2, .box [li b.elem, li b.fin]), (3, .row 36 9 (f.2.map Av))], 4⟩) bo
 . exact A6.trans (E4 0 (HA (enc := AJ) (l := k) Z) (.cons 3 .hit (.cons 4 (.same _) (.cons 5 (.same _) (.cons 6 (.same _) (.cons 9 (.same _) (.cons 10 (.same _) (.cons 11 (.same _) .nil))))))) (.cons 1 Z Z (.same _) (.cons 2 Z Z (.same _) (.cons 3 Z Z (.same _) .nil)))) (A6.trans (Bs 9 36 9 Z) (wf hA [(0, 1), (1, 2), (2, 3), (3, 4)] Z Z Z))
 intro f bv q
 unfold MA at q
 refine AC <| rs AA <| rn 2 Z <| sx Z (A2 Z Z <| rl Z <| cd Z q (fun al => ?_) (fun a8 => ?_))
 .refine AF <| AD <| jb (fun n : (List AV) => ⟨128, [(3, ls 1 AJ k), (4, .lpb 0 0), (5, .lpb 1 0), (6, .lpb 2 0), (9, .lsl 3 9 0 n.length), (10, ls 2 La s), (11, li f.1)], [(0, bx (An d)), (1, bx (Av e)), (2, .box [li b.elem, li b.fin]), (3, .row 36 9 (n.map Av))], 4⟩) al (fun n am => ?_) (fun n a7 => ?_)
  .refine AG <| AC ?_
   refine Ck AA mixed [0, 1, 2, 3, 4, 5, 6, 7, 8, 9] 10 (by kernel_rfl) Z Z Z ?_
   refine Al 4 Z <| bq am fun bw t an => AR Z (AX Z (Ay t Z Z Z <| Ao Z <| AD <| AC ?_))
   refine Ck AA mixed [0, 1, 2, 3, 4, 5, 6, 7, 8, 9, 10, 11] 12 (by kernel_rfl) Z Z Z ?_
   refine Al 6 Z <| bq an fun bz u ao => AR Z (AX Z (Ay u Z Z Z <| Ao Z <| AD <| AC <| rs AA <| rn 2 Z <| bq ao fun b0 v ap => sx Z (Ab (Im _ _ _ v) (.inl Z) Z Z Z <| rl Z <| rs AA <| rl Z <| cd Z ap (fun aq => ?_) (fun aw => ?_))))
   .refine AC ?_
    refine Ck AA mixed [0, 1, 2, 3, 4, 5, 6, 7, 8, 9, 10, 11, 12] 13 (by kernel_rfl) Z Z Z ?_
    exact Al 5 Z <| bq aq fun b1 w ar => AR Z (AX Z (Ay w Z Z Z <| Al 3 Z <| bq ar fun bp x au => AR Z (Bf (Io _ _ _ _ _ _ x) (.inr Z) Z Z Z <| Al 1 Z <| bq au fun b2 y av => AR Z (AQ Z (AP (enc := Av) (l := f.2) (m := [bp]) y (fun _ => ⟨Z, Z⟩) Z Z Z Z Z Z <| Ao Z <| AD <| Af <| Ai <| Az <| AZ av (wf hA (gi 3 [(3, 37)]) Z Z Z))))))
   refine AF <| AD <| rs AA <| rn 2 Z <| bq aw fun b3 z ax => sx Z (Ab (DI _ _ _ z) (.inl Z) Z Z Z <| rl Z <| AC <| rs AA <| rl Z <| cd Z ax (fun ay => ?_) (fun a2 => ?_))
   .refine AC ?_
    refine Ck AA mixed [0, 1, 2, 3, 4, 5, 6, 7, 8, 9, 10, 11] 12 (by kernel_rfl) Z Z Z ?_
    exact Al 5 Z <| bq ay fun b4 aa az => AR Z (AX Z (Ay aa Z Z Z <| Al 2 Z <| bq az fun br ab a0 => AR Z (Bf (Io _ _ _ _ _ _ ab) (.inr Z) Z Z Z <| Al 1 Z <| bq a0 fun b5 ac a1 => AR Z (AQ Z (AP (enc := Av) (l := f.2) (m := [br]) ac (fun _ => ⟨Z, Z⟩) Z Z Z Z Z Z <| Ao Z <| AD <| Af <| Ai <| Az <| AZ a1 (wf hA (gi 3 [(3, 37)]) Z Z Z))))))
   refine AF <| AD ?_
   refine Ck AA mixed [0, 1, 2, 3, 4, 5, 6, 7, 8, 9, 10, 11, 12, 13, 14] 15 (by kernel_rfl) Z Z Z ?_
   exact Al 6 Z <| bq a2 fun b6 ad a3 => AR Z (AX Z (Ay ad Z Z Z <| Al 2 Z <| bq a3 fun b7 ae a4 => AR Z (Bf (Io _ _ _ _ _ _ ae) (.inr Z) Z Z Z <| Al 2 Z <| bq a4 fun bs af a5 => AR Z (Bf (hrec _ _ _ _ _ af) (.inr Z) Z Z Z <| bq a5 fun b8 ag a6 => AR Z (AQ Z (AP (enc := Av) (l := f.2) (m := bs) ag (fun _ => ⟨Z, Z⟩) Z Z Z Z Z Z <| Ao Z <| Aq <| AZ a6 (wf hA (gi 3 [(3, 40)]) Z Z Z)))))))
  exact rg AA <| rl Z <| BD a7 (wf hA (gi 4 []) Z Z Z)
 refine Af <| Ai <| Bw a8 fun bu a9 => Az <| AD <| rs AA <| rl Z <| AH ?_
 cases a9
 exact er (Ic Z (.one (.own (enc := Av) f.2 Z Z))) Le.rfl
theorem V2 (b : AW) (c : AV) (d : AK) (e : (List Int)) (r : (List AV)) (h : Rv b c d e = some r) : BZ Tryz.prog 105 [.agg (An b), .agg (Av c), .agg (A1 d), .slice 1 (e.map AJ)] (· = .slice 9 (r.map Av)) :=
 recF_holds (F := fun (rc : (AW × AV × AK × (List Int)) -> Option (List AV)) (a : (AW × AV × AK × (List Int))) => Ip rc a.1 a.2.1 a.2.2.1 a.2.2.2) (C := fun (a : (AW × AV × AK × (List Int))) (r : (List AV)) => BZ Tryz.prog 105 [.agg (An a.1), .agg (Av a.2.1), .agg (A1 a.2.2.1), .slice 1 (a.2.2.2.map AJ)] (· = .slice 9 (r.map Av))) (fun rc hrec a r h => UC rc (fun f g i j r h => hrec (f, g, i, j) r h) a.1 a.2.1 a.2.2.1 a.2.2.2 r h) 1000 (b, c, d, e) r h
noncomputable def OH (a : AW) (c : Int) : Option (List AV) :=
 (Pt a c).bind fun b => bif (!b.2) then some [] else (Cr a b.1).bind fun d => bif (!d.2) then some [] else (Rv a (⟨c, 0, 0, [], [], [], [], [], false⟩ : AV) d.1 ([b.1.elem] : (List Int))).bind fun e => some e
theorem V3 (a : AW) (b : Int) (r : (List AV)) (h : OH a b = some r) : BZ Tryz.prog 38 [.agg (An a), .int .i64 b] (· = .slice 9 (r.map Av)) := by
 refine fn AA Tryz.func38 Z Z 33 Z [.tmp 4] Z [(0, .p (.agg (An a))), (1, .p (.int .i64 b))] Z Z fun A hA => ?_
 unfold OH at h
 refine rs AA <| rl Z <| rs AA <| rn 2 Z <| bq h fun n e k => sx Z (Ab (XI _ _ _ e) (.inl Z) Z Z Z <| rl Z <| AC <| rs AA <| rl Z <| cd Z k (fun l => ?_) (fun m => ?_))
 .refine rs AA <| rl Z <| AH <| AL ?_
  cases l
  exact er Z (Le.nil _)
 refine AF <| AD <| rs AA <| rn 2 Z <| bq m fun o c f => sx Z (Ab (DI _ _ _ c) (.inl Z) Z Z Z <| rl Z <| AC <| rs AA <| rl Z <| cd Z f (fun g => ?_) (fun i => ?_))
 .refine rs AA <| rl Z <| AH <| AL ?_
  cases g
  exact er Z (Le.nil _)
 refine AF <| AD <| rs AA <| rn 7 Z <| bq i fun q d j => sx Z (XC (BZ.le (V2 _ _ _ _ _ d) (.cons Le.rfl (.cons (Le.agg' (.cons Le.rfl (.cons Le.rfl (.cons Le.rfl (.cons (Le.nil _) (.cons (Le.nil _) (.cons (Le.nil _) (.cons (Le.nil _) (.cons (Le.nil _) (.cons Le.rfl .nil)))))))))) (.cons Le.rfl (.cons Le.rfl .nil))))) Z Z Z (Cu.eq (.cons (.one (.p _)) (.cons (.one (.p _)) (.cons (.one (.p _)) (.cons (.one (.own (enc := AJ) ([n.1.elem] : List Int) Z Z)) .nil))))) Z <| rl Z <| AH ?_)
 have hr := Option.some.inj j; subst hr
 exact er Z Le.rfl
noncomputable def GW (a : (List Ax)) : Option (List Ax) :=
 KC a (some []) ((A5 ([] : List Ax) a).bind fun b => some b)
noncomputable def BP (a : (List AN)) : Option (List AN) :=
 KC a (some []) ((A5 ([] : List AN) a).bind fun b => some b)
theorem GX (a : (List AN)) (r : (List AN)) (h : BP a = some r) : BZ Tryz.prog 46 [.slice 2 (a.map AM)] (· = .slice 2 (r.map AM)) := by
 refine fn AA Tryz.func46 Z Z 8 Z [.tmp 2] Z [(0, .p (.slice 2 (a.map AM)))] Z Z fun A hA => ?_
 unfold BP at h
 refine rs AA <| rl Z <| AC <| rs AA <| rn 1 Z <| sx Z (O1 h Z Z Z (fun d => ?_) (fun e => ?_))
 .refine rl Z <| QG Z <| rs AA <| rl Z <| AH <| AL ?_
  cases d
  exact er Z (Le.nil _)
 refine rl Z <| Ov Z <| AF <| AD <| rs AA <| rn 2 Z <| bq e fun f b c => sx Z (AP (enc := AM) (l := ([] : List AN)) (m := a) b (fun _ => ⟨Z, Z⟩) Z Z Z Z Z Z <| rl Z <| AH ?_)
 have hr := Option.some.inj c; subst hr
 exact er (Ic Z (.one (.own (enc := AM) f Z Z))) Le.rfl
theorem JW (a : (List AN)) (r : (List AN)) (h : BP a = some r) : EU Tryz.prog 46 [.slice 2 (a.map AM)] 91 2 (r.map AM) := by
 refine TG (enc := AM) (fun _ => ⟨Z, Z⟩) Tryz.func46 Z Z 8 Z 2 Z [(0, .p (.slice 2 (a.map AM)))] Z Z fun A hA => ?_
 unfold BP at h
 refine rs AA <| rl Z <| AC <| rs AA <| rn 1 Z <| sx Z (O1 h Z Z Z (fun d => ?_) (fun e => ?_))
 .refine rl Z <| QG Z <| rs AA <| rl Z <| AH <| AL ?_
  cases d
  exact Xu Z
 refine rl Z <| Ov Z <| AF <| AD <| rs AA <| rn 2 Z <| bq e fun f b c => sx Z (AP (enc := AM) (l := ([] : List AN)) (m := a) b (fun _ => ⟨Z, Z⟩) Z Z Z Z Z Z <| rl Z <| AH ?_)
 have hr := Option.some.inj c; subst hr
 exact TH Z Z Z
noncomputable def Hh (a : CT) : Option AW :=
 (LZ a.p).bind fun b => some b
noncomputable def Hi (b : CT) (a : Int) : Option Bv :=
 ((bif decide (a < 0) then some true else some (decide ((b.p.elems.length : Int) <= a)) : Option (Bool))).bind fun (c : Bool) => bif c then some (⟨ByteArray.empty, 0, 0⟩ : Bv) else (Ar b.p.elems a).bind fun d => some d
noncomputable def D5 (a : CT) (b : Int) : Option Int :=
 (Hi a b).bind fun c => some c.kind
end Go.E
/- Plain functions, and walks in step with them. Written by a program (gen.py). No condition. -/
set_option maxRecDepth 100000
set_option maxHeartbeats 1000000
namespace Go.E
open Go Go.RowKit Go.Proofs
noncomputable def Cg (a : CT) (b : AK) : Option (AK × Bool) :=
 some (((Aj a.next b).getD (⟨0, 0⟩ : AK)), (Aj a.next b).isSome)
noncomputable def Fh (g : CT) (e : (Int × (List AK))) (c : Ax) (b : (List Int)) (a : Int × (List AK)) : Option ((Int × (List AK)) ⊕ ((Int × (List AK)) ⊕ (List AK))) :=
 bif decide (a.1 < (b.length : Int)) then (((Ar b a.1).bind fun d => (Cg g (⟨c.elem, d⟩ : AK)).bind fun h => bif h.2 then (A5 a.2 [(⟨c.elem, d⟩ : AK)]).bind fun i => some i else some a.2 : Option ((List AK)))).bind fun (f : (List AK)) => some (.inl (Ak (a.1 + 1), f)) else some (.inr (.inl (Ak (e.1 + 1), a.2)))
noncomputable def HD (c : CT) (d : AV) (b : Int × (List AK)) : Option ((Int × (List AK)) ⊕ (List AK)) :=
 bif decide (b.1 < (d.steps.length : Int)) then (Ar d.steps b.1).bind fun a => (((D5 c a.elem).bind fun e => bif (e == 2) then some [Ak (3 - (if a.out > a.in_ then a.out else a.in_))] else bif (e == 3) then bif decide (1 < a.in_) then some [0, 1] else some [2, 3] else some ([] : List Int) : Option ((List Int)))).bind fun (f : (List Int)) => AY (Fh c b a f) (0, b.2) else some (.inr b.2)
noncomputable def JM (a : CT) (b : AV) : Option (List AK) :=
 AY (HD a b) (0, ([] : List AK))
noncomputable def My (a : Ax) (b : Int) : Option Bool :=
 some (a.elem == b)
noncomputable def Gi (b : AV) (c : Int) (a : Int) : Option (Int ⊕ Int) :=
 bif decide (a < (b.steps.length : Int)) then (Ar b.steps a).bind fun d => (My d c).bind fun e => bif e then some (.inr a) else some (.inl (Ak (a + 1))) else some (.inr (-1))
noncomputable def Lb (c : AV) (d : Int) : Option Bool :=
 ((((AY (Gi c d) 0 : Option (Int))).bind fun (b : Int) => some (decide (0 <= b)) : Option (Bool))).bind fun (a : Bool) => some a
noncomputable def HE (a : CT) (b : AK) : Option Int :=
 bif (Aj a.reads b).isSome then some ((Aj a.reads b).getD 0) else some (-1)
noncomputable def B7 (b : (List Int)) (c : Int) (a : Int) : Option (Int ⊕ Int) :=
 bif decide (a < (b.length : Int)) then (Ar b a).bind fun d => bif (c == d) then some (.inr a) else some (.inl (Ak (a + 1))) else some (.inr (-1))
noncomputable def CY (a : (List Int)) (b : Int) : Option Int :=
 AY (B7 a b) 0
theorem IG (b : (List Int)) (c : Int) (r : Int) (h : CY b c = some r) : BZ Tryz.prog 118 [.slice 1 (b.map AJ), .int .i64 c] (· = .int .i64 r) := by
 refine fn AA Tryz.func118 Z Z 19 Z [.tmp 4] Z [(0, .p (.slice 1 (b.map AJ))), (1, .p (.int .i64 c))] Z Z fun A hA => ?_
 unfold CY at h
 refine rs AA <| rl Z <| AC <| rs AA <| rn 1 Z <| sx Z (A2 Z Z <| rl Z <| AG ?_)
 apply lp (a := r) (fun e : Int => ⟨19, [(0, ls 1 AJ b), (1, li c), (7, li (b.length : Int)), (8, li e)], [], 0⟩) h
 . exact wf hA [] Z Z Z
 intro e s d
 unfold B7 at d
 refine rs AA <| rl Z <| AC <| cd Z d (fun n => ?_) (fun l => ?_)
 .refine AF <| AD <| AC <| AG <| rs AA <| rl Z <| rs AA <| rn 3 Z <| bq n fun t f g => sx Z (Ay f Z Z Z <| rl Z <| cd Z g (fun i => ?_) (fun k => ?_))
  .refine rs AA <| rl Z <| AH <| Ag <| AL <| Bp i fun o j => Ag <| AL ?_
   have hr := Option.some.inj j; subst hr
   exact er Z Le.rfl
  exact AF <| Aq <| AD <| rg AA <| rl Z <| BD k (wf hA [] Z Z Z)
 refine Af <| Ai <| Bw l fun q m => Az <| AD <| rs AA <| rl Z <| AH ?_
 cases m
 exact er Z Le.rfl
noncomputable def Bc (a : (List Int)) (b : Int) : Option Bool :=
 (CY a b).bind fun c => some (decide (0 <= c))
theorem Gz (a : (List Int)) (b : Int) (r : Bool) (h : Bc a b = some r) : BZ Tryz.prog 53 [.slice 1 (a.map AJ), .int .i64 b] (· = .bool r) := by
 refine fn AA Tryz.func53 Z Z 9 Z [.tmp 4] Z [(0, .p (.slice 1 (a.map AJ))), (1, .p (.int .i64 b))] Z Z fun A hA => ?_
 unfold Bc at h
 refine rs AA <| rl Z <| rs AA <| rn 2 Z <| bq h fun e c d => sx Z (Ab (IG _ _ _ c) (.inl Z) Z Z Z <| rl Z <| AH ?_)
 cases d
 exact er Z Le.rfl
noncomputable def C4 (b : (List AN)) (c : AN) (a : Int) : Option (Int ⊕ Int) :=
 bif decide (a < (b.length : Int)) then (Ar b a).bind fun d => bif (c == d) then some (.inr a) else some (.inl (Ak (a + 1))) else some (.inr (-1))
noncomputable def GY (a : (List AN)) (b : AN) : Option Int :=
 AY (C4 a b) 0
noncomputable def CS (a : (List AN)) (b : AN) : Option Bool :=
 (GY a b).bind fun c => some (decide (0 <= c))
noncomputable def Hj (c : CT) (d : Int) (a : Int) : Option (List De) :=
 ((bif decide (a < 0) then some true else (D5 c d).bind fun f => (Nv f).bind fun g => some (decide (g <= a)) : Option (Bool))).bind fun (e : Bool) => bif e then some [] else (D5 c d).bind fun b => bif (b == 1) then some [(⟨Ak (1 - a), 0⟩ : De)] else bif (b == 3) then (Ar ([1, 0, 3, 2] : List Int) a).bind fun h => some [(⟨h, 0⟩ : De)] else bif (b == 2) then bif (a == 0) then some [(⟨1, 1⟩ : De), (⟨2, 2⟩ : De)] else (Ar ([0, 1, 2] : List Int) a).bind fun i => some [(⟨0, i⟩ : De)] else some []
noncomputable def E8 (e : Int) (c : (List De)) (a : Int) : Option (Int ⊕ (Int × Bool)) :=
 bif decide (a < (c.length : Int)) then (Ar c a).bind fun b => ((bif (b.pos == 0) then some true else some (b.pos == e) : Option (Bool))).bind fun (d : Bool) => bif d then some (.inr (b.out, true)) else some (.inl (Ak (a + 1))) else some (.inr (0, false))
noncomputable def GL (a : CT) (b : Int) (c : Int) (d : Int) : Option (Int × Bool) :=
 (Hj a b c).bind fun e => AY (E8 d e) 0
noncomputable def Ko (b : CT) (c : Int) (d : Int) (e : Int) : Option (Int × Bool) :=
 (GL b c d e).bind fun a => some (a.1, a.2)
noncomputable def Dq (d : CT) (e : AV) (r : (List Ax)) (l : (List AN)) (am : AW) (a : Bool × (List (AK × Bool)) × (List AN) × (List Int) × (List Int) × (List AK)) : Option ((Bool × (List (AK × Bool)) × (List AN) × (List Int) × (List Int) × (List AK)) ⊕ AV) :=
 bif decide (0 < (a.2.2.2.2.2.length : Int)) then (Ar a.2.2.2.2.2 (Ak ((a.2.2.2.2.2.length : Int) - 1))).bind fun b => (GR a.2.2.2.2.2 0 (Ak ((a.2.2.2.2.2.length : Int) - 1))).bind fun c => (((Lb (⟨e.frm, e.to, e.fin, r, l, a.2.2.1, a.2.2.2.1, a.2.2.2.2.1, a.1⟩ : AV) b.elem).bind fun an => bif an then some true else some ((Aj a.2.1 b).getD false) : Option (Bool))).bind fun (y : Bool) => bif y then some (.inl (a.1, a.2.1, a.2.2.1, a.2.2.2.1, a.2.2.2.2.1, c)) else (HE d b).bind fun m => ((bif decide (0 <= m) then some (!am.hard) else some false : Option (Bool))).bind fun (z : Bool) => bif z then (((Bc a.2.2.2.2.1 m).bind fun ao => bif (!ao) then (A5 a.2.2.2.2.1 [m]).bind fun ap => some ap else some a.2.2.2.2.1 : Option ((List Int)))).bind fun (aa : (List Int)) => some (.inl (a.1, BO b true a.2.1, a.2.2.1, a.2.2.2.1, aa, c)) else (D5 d b.elem).bind fun s => bif (s == 4) then some (.inl (true, BO b true a.2.1, a.2.2.1, a.2.2.2.1, a.2.2.2.2.1, c)) else bif (s == 2) then bif (b.fin == 0) then (((((Bc a.2.2.2.1 b.elem).bind fun aq => bif aq then some (true, a.1, a.2.2.2.1) else bif decide (12 <= (a.2.2.2.1.length : Int)) then some (false, true, a.2.2.2.1) else (A5 a.2.2.2.1 [b.elem]).bind fun ar => some (true, a.1, ar) : Option (Bool × Bool × (List Int)))).bind fun (h : Bool × Bool × (List Int)) => bif h.1 then (((Cg d (⟨b.elem, 2⟩ : AK)).bind fun t => bif t.2 then (A5 c [t.1]).bind fun au => some au else some c : Option ((List AK)))).bind fun (n : (List AK)) => (((Cg d (⟨b.elem, 1⟩ : AK)).bind fun u => bif u.2 then (A5 n [u.1]).bind fun av => some av else some n : Option ((List AK)))).bind fun (ab : (List AK)) => some (h.2.1, h.2.2, ab) else some (h.2.1, h.2.2, c) : Option (Bool × (List Int) × (List AK)))).bind fun (k : Bool × (List Int) × (List AK)) => some (.inl (k.1, BO b true a.2.1, a.2.2.1, k.2.1, a.2.2.2.2.1, k.2.2)) else (((CS l (⟨b.elem, b.fin⟩ : AN)).bind fun ac => bif ac then some true else (CS a.2.2.1 (⟨b.elem, b.fin⟩ : AN)).bind fun ad => some ad : Option (Bool))).bind fun (v : Bool) => bif v then (((((Bc a.2.2.2.1 b.elem).bind fun ae => bif ae then some (true, a.1, a.2.2.2.1) else bif decide (12 <= (a.2.2.2.1.length : Int)) then some (false, true, a.2.2.2.1) else (A5 a.2.2.2.1 [b.elem]).bind fun af => some (true, a.1, af) : Option (Bool × Bool × (List Int)))).bind fun (f : Bool × Bool × (List Int)) => bif f.1 then (((Cg d (⟨b.elem, 0⟩ : AK)).bind fun o => bif o.2 then (A5 c [o.1]).bind fun ag => some ag else some c : Option ((List AK)))).bind fun (w : (List AK)) => some (f.2.1, f.2.2, w) else some (f.2.1, f.2.2, c) : Option (Bool × (List Int) × (List AK)))).bind fun (i : Bool × (List Int) × (List AK)) => some (.inl (i.1, BO b true a.2.1, a.2.2.1, i.2.1, a.2.2.2.2.1, i.2.2)) else (CS a.2.2.1 (⟨b.elem, Ak (3 - b.fin)⟩ : AN)).bind fun ah => bif (!ah) then (A5 a.2.2.1 [(⟨b.elem, Ak (3 - b.fin)⟩ : AN)]).bind fun ai => some (.inl (a.1, BO b true a.2.1, ai, a.2.2.2.1, a.2.2.2.2.1, c)) else some (.inl (a.1, BO b true a.2.1, a.2.2.1, a.2.2.2.1, a.2.2.2.2.1, c)) else (Ko d b.elem b.fin 0).bind fun p => ((bif p.2 then (((Bc a.2.2.2.1 b.elem).bind fun aj => bif aj then some (true, a.1, a.2.2.2.1) else bif decide (12 <= (a.2.2.2.1.length : Int)) then some (false, true, a.2.2.2.1) else (A5 a.2.2.2.1 [b.elem]).bind fun ak => some (true, a.1, ak) : Option (Bool × Bool × (List Int)))).bind fun (j : Bool × Bool × (List Int)) => some (j.1, j.2.1, j.2.2) else some (false, a.1, a.2.2.2.1) : Option (Bool × Bool × (List Int)))).bind fun (g : Bool × Bool × (List Int)) => bif g.1 then (((Cg d (⟨b.elem, p.1⟩ : AK)).bind fun q => bif q.2 then (A5 c [q.1]).bind fun al => some al else some c : Option ((List AK)))).bind fun (x : (List AK)) => some (.inl (g.2.1, BO b true a.2.1, a.2.2.1, g.2.2, a.2.2.2.2.1, x)) else some (.inl (g.2.1, BO b true a.2.1, a.2.2.1, g.2.2, a.2.2.2.2.1, c)) else some (.inr (⟨e.frm, e.to, e.fin, r, l, a.2.2.1, a.2.2.2.1, a.2.2.2.2.1, a.1⟩ : AV))
noncomputable def FR (b : CT) (c : AV) (i : (List Ax)) (j : (List AN)) (d : AW) (e : (List AK)) (a : Int × (List AK)) : Option ((Int × (List AK)) ⊕ AV) :=
 bif decide (0 <= a.1) then (Ar e a.1).bind fun f => (Cg b f).bind fun g => (A5 a.2 [g.1]).bind fun h => some (.inl (Ak (a.1 - 1), h)) else (AY (Dq b c i j d) (false, [], ([] : List AN), ([] : List Int), ([] : List Int), a.2)).map .inr
noncomputable def HF (b : CT) (a : AV) : Option AV :=
 (GW a.steps).bind fun d => (BP a.needs).bind fun e => (Hh b).bind fun f => (JM b (⟨a.frm, a.to, a.fin, d, e, [], [], [], false⟩ : AV)).bind fun c => AY (FR b a d e f c) (Ak ((c.length : Int) - 1), ([] : List AK))
noncomputable def Gr (b : (List Int)) (c : (List Int)) (a : Int) : Option (Int ⊕ Bool) :=
 bif decide (a < (b.length : Int)) then (Ar b a).bind fun d => (Ar c a).bind fun e => bif (d != e) then some (.inr false) else some (.inl (Ak (a + 1))) else some (.inr true)
noncomputable def DH (a : (List Int)) (b : (List Int)) : Option Bool :=
 bif ((a.length : Int) != (b.length : Int)) then some false else AY (Gr a b) 0
theorem IV (b : (List Int)) (c : (List Int)) (r : Bool) (h : DH b c = some r) : BZ Tryz.prog 39 [.slice 1 (b.map AJ), .slice 1 (c.map AJ)] (· = .bool r) := by
 refine fn AA Tryz.func39 Z Z 26 Z [.tmp 4] Z [(0, .p (.slice 1 (b.map AJ))), (1, .p (.slice 1 (c.map AJ)))] Z Z fun A hA => ?_
 unfold DH at h
 refine rs AA <| rl Z <| AC <| rs AA <| rn 1 Z <| sx Z (A2 Z Z <| rn 1 Z <| sx Z (A2 Z Z <| rl Z <| cd Z h (fun s => ?_) (fun t => ?_)))
 .refine rs AA <| rl Z <| AH <| AL ?_
  cases s
  exact er Z Le.rfl
 refine AF <| AD <| AC <| rs AA <| rl Z <| AG ?_
 apply lp (a := r) (fun e : Int => ⟨26, [(0, ls 1 AJ b), (1, ls 1 AJ c), (5, li e)], [], 0⟩) t
 . exact wf hA [] Z Z Z
 intro e w d
 unfold Gr at d
 refine AC <| rs AA <| rn 2 Z <| sx Z (A2 Z Z <| rl Z <| cd Z d (fun i => ?_) (fun o => ?_))
 .refine AF <| AD <| AC <| AG <| AC ?_
  refine Ck AA mixed [0, 1, 2, 3, 4, 5, 6, 7, 8] 9 (by kernel_rfl) Z Z Z ?_
  refine Al 2 Z <| bq i fun x f j => AR Z (AX Z (Ay f Z Z Z <| Al 3 Z <| bq j fun y g k => AR Z (AX Z (Ay g Z Z Z <| Ao Z <| AD <| cd Z k (fun l => ?_) (fun n => ?_)))))
  .refine rs AA <| rl Z <| AH <| Ag <| AL <| Bp l fun u m => Ag <| AL ?_
   cases m
   exact er Z Le.rfl
  exact AF <| Aq <| AD <| rg AA <| rl Z <| BD n (wf hA [] Z Z Z)
 refine Af <| Ai <| Bw o fun v q => Az <| AD <| rs AA <| rl Z <| AH ?_
 cases q
 exact er Z Le.rfl
noncomputable def Mz (b : AW) (a : Int × (List AV)) : Option ((Int × (List AV)) ⊕ ((List AV) × Int)) :=
 bif decide (a.1 < (b.signals.length : Int)) then (OH b a.1).bind fun d => (A5 a.2 d).bind fun c => bif decide (64 < (c.length : Int)) then some (.inr (([] : List AV), 3)) else some (.inl (Ak (a.1 + 1), c)) else some (.inr (a.2, 0))
noncomputable def M0 (a : AW) : Option ((List AV) × Int) :=
 AY (Mz a) (0, ([] : List AV))
theorem U0 (c : AW) (r : ((List AV) × Int)) (h : M0 c = some r) : EY Tryz.prog 44 [] 0 [.p (.agg (An c))] (.tup [.lsl 0 9 0 r.1.length, li r.2]) [(0, .row 36 9 (r.1.map Av))] 1 := by
 refine Nt AA Tryz.func44 22 [.tmp 2, .tmp 3] [(0, .p (.agg (An c)))] Z Z Z Z Z Z (fun A hA => ?_)
 unfold M0 at h
 refine rs AA <| rl Z <| rs AA <| rl Z <| AC <| rs AA <| rl Z <| AG ?_
 apply lp (a := r) (fun b : (Int × (List AV)) => ⟨22, [(1, .lpb 0 0), (4, .lsl 1 9 0 b.2.length), (5, li b.1)], [(0, bx (An c)), (1, .row 36 9 (b.2.map Av))], 2⟩) h
 . exact A6.trans (Bs 4 36 9 Z) (wj hA [(0, 0), (1, 1)] Z Z Z Z)
 intro b w d
 unfold Mz at d
 refine AC <| rs AA <| rn 3 Z <| sx Z (A2 Z Z <| rl Z <| cd Z d (fun g => ?_) (fun q => ?_))
 .refine AF <| AD <| AC <| AG <| rs AA <| rn 3 Z <| bq g fun t e i => sx Z (Ab (V3 _ _ _ e) (.inr Z) Z Z Z <| bq i fun x f j => sx Z (AP (enc := Av) (l := b.2) (m := t) f (fun _ => ⟨Z, Z⟩) Z Z Z Z Z Z <| rl Z <| rs AA <| rl Z <| cd Z j (fun k => ?_) (fun o => ?_)))
  .refine rs AA <| rl Z <| AH <| Ag <| AL <| Bp k fun u n => Ag <| AL ?_
   cases n
   exact C8 (nt := 22) (sl := [(2, .lsl 0 9 0 ([] : List AV).length), (3, li 3)]) (A6.trans (Bs 2 36 9 Z) (wj hA [(0, 3)] Z Z Z Z)) Z
  exact AF <| Aq <| AD <| rg AA <| rl Z <| BD o (wj hA [(0, 0), (1, 2)] Z Z Z Z)
 refine Af <| Ai <| Bw q fun v s => Az <| AD <| rs AA <| rl Z <| AH ?_
 cases s
 exact C8 (nt := 22) (sl := [(2, .lsl 0 9 0 b.2.length), (3, li 0)]) (wj hA [(0, 1)] Z Z Z Z) Z
noncomputable def Kp (e : AW) (c : (Int × (List AK))) (b : (List AK)) (a : Int × (List AK)) : Option ((Int × (List AK)) ⊕ ((Int × (List AK)) ⊕ (List AK))) :=
 bif decide (a.1 < (b.length : Int)) then (((Ar b a.1).bind fun f => (Cr e f).bind fun g => bif g.2 then (Ar b a.1).bind fun h => (A5 a.2 [h]).bind fun i => some i else some a.2 : Option ((List AK)))).bind fun (d : (List AK)) => some (.inl (Ak (a.1 + 1), d)) else some (.inr (.inl (Ak (c.1 + 1), a.2)))
noncomputable def Kq (d : AW) (e : AV) (b : Int × (List AK)) : Option ((Int × (List AK)) ⊕ (List AK)) :=
 bif decide (b.1 < (e.steps.length : Int)) then (Ar e.steps b.1).bind fun a => (((IF d a.elem).bind fun f => bif (f == 2) then (A5 ([] : List AK) [(⟨a.elem, Ak (3 - (if a.out > a.in_ then a.out else a.in_))⟩ : AK)]).bind fun h => some h else bif (f == 3) then ((bif decide (2 <= a.in_) then some 0 else some 2 : Option (Int))).bind fun (c : Int) => (A5 ([] : List AK) [(⟨a.elem, c⟩ : AK), (⟨a.elem, Ak (c + 1)⟩ : AK)]).bind fun i => some i else some ([] : List AK) : Option ((List AK)))).bind fun (g : (List AK)) => AY (Kp d b g) (0, b.2) else some (.inr b.2)
noncomputable def KH (a : AW) (b : AV) : Option (List AK) :=
 AY (Kq a b) (0, ([] : List AK))
theorem So (d : AW) (f : AV) (r : (List AK)) (h : KH d f = some r) : BZ Tryz.prog 142 [.agg (An d), .agg (Av f)] (· = .slice 2 (r.map A1)) := by
 refine fn AA Tryz.func142 Z Z 84 Z [.tmp 4] Z [(0, .p (.agg (An d))), (1, .p (.agg (Av f)))] Z Z fun A hA => ?_
 unfold KH at h
 refine rs AA <| rl Z <| rs AA <| rl Z <| AC <| rs AA <| rl Z <| AG ?_
 apply lp (a := r) (fun b : (Int × (List AK)) => ⟨84, [(2, .lpb 0 0), (3, .lpb 1 0), (5, .lsl 2 2 0 b.2.length), (6, li b.1)], [(0, bx (An d)), (1, bx (Av f)), (2, .row 96 2 (b.2.map A1))], 3⟩) h
 . exact A6.trans (Bs 5 96 2 Z) (wf hA (gi 3 []) Z Z Z)
 intro b t q
 unfold Kq at q
 refine AC <| rs AA <| rn 3 Z <| sx Z (A2 Z Z <| rl Z <| cd Z q (fun aa => ?_) (fun a2 => ?_))
 .refine AF <| AD <| AC <| AG <| rs AA <| rn 3 Z <| bq aa fun g u ab => sx Z (Ay u Z Z Z <| rl Z <| rs AA <| rl Z <| jb (fun c : (List AK) => ⟨84, [(2, .lpb 0 0), (3, .lpb 1 0), (5, .lsl 2 2 0 b.2.length), (6, li b.1), (8, .lsl 3 2 0 c.length)], [(0, bx (An d)), (1, bx (Av f)), (2, .row 96 2 (b.2.map A1)), (3, .row 96 2 (c.map A1))], 4⟩) ab (fun c ac => ?_) (fun c ao => ?_))
  .refine rs AA <| rn 3 Z <| bq ac fun a8 v ad => sx Z (Ab (Mx _ _ _ v) (.inl Z) Z Z Z <| rl Z <| AG <| rs AA <| rl Z <| cd Z ad (fun ae => ?_) (fun ag => ?_))
   .exact rg AA <| rn 11 Z <| bq ae fun a9 w af => sx Z (Un (e := 96) (sz := 2) (enc := A1) (m := [(⟨g.elem, Ak (3 - (if g.out > g.in_ then g.out else g.in_))⟩ : AK)]) w (fun _ => ⟨Z, Z⟩) Z Z Z <| rl Z <| Aq <| AZ af (wf hA (gi 3 [(3, 5)]) Z Z Z))
   refine rs AA <| rl Z <| cd Z ag (fun ah => ?_) (fun an => ?_)
   .refine rs AA <| rl Z <| jb (fun j : Int => ⟨84, [(2, .lpb 0 0), (3, .lpb 1 0), (5, .lsl 2 2 0 b.2.length), (6, li b.1), (7, .lpb 3 0), (8, .p (.nils)), (9, li j)], [(0, bx (An d)), (1, bx (Av f)), (2, .row 96 2 (b.2.map A1)), (3, bx (BH g))], 4⟩) ah (fun j ai => ?_) (fun j al => ?_)
    .refine rs AA <| rl Z <| cd Z ai (fun aj => ?_) (fun ak => ?_)
     .exact rg AA <| rl Z <| AZ aj (wf hA (gi 4 []) Z Z Z)
     exact AF <| AZ ak (wf hA (gi 4 []) Z Z Z)
    exact rg AA <| rn 11 Z <| bq al fun ba x am => sx Z (Un (e := 96) (sz := 2) (enc := A1) (m := [(⟨g.elem, j⟩ : AK), (⟨g.elem, Ak (j + 1)⟩ : AK)]) x (fun _ => ⟨Z, Z⟩) Z Z Z <| rl Z <| Aq <| AZ am (wf hA (gi 3 [(3, 5)]) Z Z Z))
   exact AF <| Aq <| AZ an (A6.trans (Bs 8 96 2 Z) (wf hA (gi 3 [(3, 4)]) Z Z Z))
  refine rs AA <| rl Z <| AG ?_
  apply lp (a := t) (fun i : (Int × (List AK)) => ⟨84, [(2, .lpb 0 0), (3, .lpb 1 0), (5, .lsl 2 2 0 i.2.length), (6, li b.1), (8, .lsl 3 2 0 c.length), (10, li i.1)], [(0, bx (An d)), (1, bx (Av f)), (2, .row 96 2 (i.2.map A1)), (3, .row 96 2 (c.map A1))], 4⟩) ao
  . exact wf hA (gi 4 []) Z Z Z
  intro i a7 s
  unfold Kp at s
  refine AC <| rs AA <| rl Z <| cd Z s (fun ap => ?_) (fun a0 => ?_)
  .refine AF <| AD <| jb (fun k : (List AK) => ⟨84, [(2, .lpb 0 0), (3, .lpb 1 0), (5, .lsl 2 2 0 k.length), (6, li b.1), (8, .lsl 3 2 0 c.length), (10, li i.1)], [(0, bx (An d)), (1, bx (Av f)), (2, .row 96 2 (k.map A1)), (3, .row 96 2 (c.map A1))], 4⟩) ap (fun k aq => ?_) (fun k az => ?_)
   .refine AG <| AC ?_
    refine Ck AA mixed [0, 1, 2, 3, 4, 5, 6, 7, 8, 9, 10, 11] 12 (by kernel_rfl) Z Z Z ?_
    refine Al 3 Z <| bq aq fun bb n ar => AR Z (AX Z (B1 n Z Z Z Z <| AR Z (EJ Z (CQ n Z Z Z <| bq ar fun bc y au => AR Z (Bf (DI _ _ _ y) (.inl Z) Z Z Z <| Ao Z <| AD <| rs AA <| rl Z <| cd Z au (fun av => ?_) (fun ay => ?_))))))
    .exact rg AA <| rn 3 Z <| bq av fun a4 o aw => sx Z (B1 o Z Z Z Z <| sx Z (CQ o Z Z Z <| rn 1 Z <| bq aw fun be z ax => sx Z (AP (enc := A1) (l := i.2) (m := [a4]) z (fun _ => ⟨Z, Z⟩) Z Z Z Z Z Z <| rl Z <| Aq <| AZ ax (wf hA [(0, 0), (1, 1), (2, 17), (3, 3)] Z Z Z))))
    exact AF <| Aq <| AZ ay (wf hA (gi 4 []) Z Z Z)
   exact rg AA <| rl Z <| BD az (wf hA (gi 4 []) Z Z Z)
  exact Af <| Ai <| Bw a0 fun a5 a1 => Az <| Aq <| AD <| rg AA <| rl Z <| BD a1 (wf hA (gi 3 []) Z Z Z)
 refine Af <| Ai <| Bw a2 fun a6 a3 => Az <| AD <| rs AA <| rl Z <| AH ?_
 cases a3
 exact er (Ic Z (.one (.own (enc := A1) b.2 Z Z))) Le.rfl
end Go.E
