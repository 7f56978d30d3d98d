/- slices.Delete as a call out of a data state: the row goes on under a new name. For an own slice, i up to j up to its length. -/
import Derived.Test.YtilbadmonidmhaaGreatDel
import Derived.Shelf.Sort.Plain
import Derived.Shelf.Slices.In.SortNone
import Derived.Shelf.Slices.CompactI
import Derived.Lib.RowBridge
import Derived.ScopeJumps
import Derived.Shelf.SlMaps.Clone
import Derived.Test.YtilbadmonidmhaaGreatJ2
set_option linter.unusedVariables false
set_option linter.unusedSimpArgs false
namespace Go.E
open Go Go.RowKit Go.Shelf Go.Proofs
theorem F3 (b : Nat) : ∀ (vs : List Value) (o : Nat) (w : World) (c : Array Value) (e : TypeId), w.heap[b]? = some (.cells c e (0, 0)) -> o + vs.length <= c.size ->
  ∃ c', (w.setCells b o vs).heap[b]? = some (.cells c' e (0, 0)) /\ c'.size = c.size /\ ∀ t, c'[t]? = if o <= t /\ t < o + vs.length then vs[t - o]? else c[t]?
 | [], o, w, c, e, h, _ => ⟨c, h, rfl, fun t => by rw [if_neg (by simp)]⟩
 | v :: r, o, w, c, e, h, hl => by
  simp only [List.length_cons] at hl
  have hb : (w.setCell ⟨b, o, none⟩ v).heap[b]? = some (.cells (c.setIfInBounds o v) e (0, 0)) := by
   simp [World.setCell, Array.getElem?_modify, h]
  obtain ⟨c', h1, h2, h3⟩ := F3 b r (o + 1) _ _ e hb (by simp; omega)
  refine ⟨c', h1, by rw [h2]; simp, fun t => ?_⟩
  rw [h3 t]
  simp only [List.length_cons]
  by_cases h4 : t = o
  .subst h4
   rw [if_neg (by omega), if_pos (by omega), Array.getElem?_setIfInBounds, if_pos rfl, if_pos (by omega)]
   simp
  by_cases h5 : o + 1 <= t /\ t < o + 1 + r.length
  .rw [if_pos h5, if_pos (by omega)]
   rw [show t - o = t - (o + 1) + 1 by omega, List.getElem?_cons_succ]
  rw [if_neg h5, if_neg (by omega), Array.getElem?_setIfInBounds, if_neg (fun e => h4 e.symm)]
theorem IG (b : Nat) : ∀ (vs : List Value) (o : Nat) (w : World), (w.setCells b o vs).heap.size = w.heap.size
 | [], _, _ => rfl
 | v :: r, o, w => by rw [World.setCells, IG b r]; simp [World.setCell]
theorem J2 (b : Nat) : ∀ (vs : List Value) (o : Nat) (w : World), (w.setCells b o vs).os = w.os
 | [], _, _ => rfl
 | v :: r, o, w => by rw [World.setCells, J2 b r]; rfl
theorem IH (b : Nat) : ∀ (vs : List Value) (o : Nat) (w : World), (w.setCells b o vs).tape = w.tape
 | [], _, _ => rfl
 | v :: r, o, w => by rw [World.setCells, IH b r]; rfl
theorem Gq (b : Nat) : ∀ (vs : List Value) (o : Nat) (w : World), (w.setCells b o vs).output = w.output
 | [], _, _ => rfl
 | v :: r, o, w => by rw [World.setCells, Gq b r]; rfl
theorem Hc (b : Nat) : ∀ (vs : List Value) (o : Nat) (w : World) (q : Nat), q ≠ b -> (w.setCells b o vs).heap[q]? = w.heap[q]?
 | [], _, _, _, _ => rfl
 | v :: r, o, w, q, h => by
  rw [World.setCells, Hc b r _ _ q h]
  simp only [World.setCell, Array.getElem?_modify]
  rw [if_neg (fun e => h e.symm)]
variable {P : Program} {ρ : Ren} {AB : A9} {A : BP}
theorem YN {e : Nat} {te : TI} (hok : G1 P e te) (hsz : 0 < te.size) : ∃ z i, (∀ w, (zeroValue e).run P w = .ok z w) /\ P.info? e = some i /\ i.size = te.size /\
  ∀ n, (Builtin.zeroCells z.cells n).toList.length = n * te.size /\ ∀ u ∈ (Builtin.zeroCells z.cells n).toList, u.oneCell' = true := by
 obtain ⟨i, z, hi, hs, hb, hz, hzs, hm, _⟩ := hok.info
 obtain ⟨h1, h2⟩ := M3 hm
 refine ⟨z, i, fun w => by simp [zeroValue, typeInfo, hi, hz], hi, hs, fun n => ⟨by simp [Builtin.zeroCells, hzs], fun u hu => ?_⟩⟩
 simp only [Builtin.zeroCells, Array.toList_map, List.mem_map] at hu
 obtain ⟨t, _, rfl⟩ := hu
 have hlt : t % z.cells.size < z.cells.size := Nat.mod_lt _ (by omega)
 rw [getElem!_pos z.cells _ hlt]
 have hd : ∃ d, te.zero[t % z.cells.size]? = some d := ⟨te.zero[t % z.cells.size]'(by rw [<- h1]; simpa using hlt), List.getElem?_eq_getElem _⟩
 obtain ⟨d, hd⟩ := hd
 have hc := h2 (t % z.cells.size) _ d (by rw [Array.getElem?_toList]; exact Array.getElem?_eq_getElem hlt) hd
 obtain ⟨k1, k2⟩ := FB hc (fun _ => True) default
 exact (k1.oneCell k2).1
theorem YO (hE : BB P AB) (L : SlLaysE0.n45 P ρ) {e : Nat} {te : TI} (he : ρ.t 23 = e) (h3 : AB.tt e = some te) (hsz : 0 < te.size) {h : AQ} {ctr id off len i j : Nat} {elems : List (List DV)}
  (hl : AF id h = some (.row e te.size elems)) (hfit : off + len <= elems.length) (hone : ∀ y ∈ (elems.drop off).take len, y.all DV.cell = true) (hij : i <= j) (hj : j <= len) {F : Nat -> Prop} {μ : Nat -> Option Bf} {w : World} {v0 : Value}
  (hh : HRel A μ h F w) (hc : F ctr) (h0 : Ag (Aj A μ h) μ w v0 (.lsl id te.size off len)) :
  Calls P (ρ.f 45) #[v0, .int .i64 i, .int .i64 j] w fun en w' => ∃ u μ', en = .returned u /\ HRel A μ' ((ctr, BE.row e te.size (((elems.drop off).take len).take i ++ ((elems.drop off).take len).drop j)) :: Eb id h) (fun q => F q /\ q ≠ ctr) w' /\ Ag (Aj A μ' ((ctr, BE.row e te.size (((elems.drop off).take len).take i ++ ((elems.drop off).take len).drop j)) :: Eb id h)) μ' w' u (.lsl ctr te.size 0 (len - (j - i))) /\ ∀ v x, Ag (Aj A μ h) μ w v x -> Ag (Aj A μ' ((ctr, BE.row e te.size (((elems.drop off).take len).take i ++ ((elems.drop off).take len).drop j)) :: Eb id h)) μ' w' v x := by
 have hok := hE.tt e te h3
 have hno := hh.fresh ctr hc
 have hsub : ∀ (o : BE) q x, AF q ((ctr, o) :: Eb id h) = some x -> (q = ctr /\ x = o) \/ AF q h = some x := fun o q x hx => by
  simp only [AF] at hx
  split at hx
  .cases hx; exact .inl ⟨‹_›, rfl⟩
  exact .inr (GM hx).2
 obtain ⟨sz, hs0⟩ : ∃ sz, te.size = sz := ⟨_, rfl⟩
 rw [hs0] at hl h0 hsz ⊢
 cases h0 with
 | lsln _ loc hm hn =>
  have : j = 0 := by omega
  subst this
  have : i = 0 := by omega
  subst this
  have hnil : ((elems.drop 0).take 0).take 0 ++ ((elems.drop 0).take 0).drop 0 = ([] : List (List DV)) := by simp
  rw [hnil]
  refine (run_delete0 L loc.sz (fun w => by rw [he, <- hs0]; exact hok.run_sizeOf w) none 0 0 0 w (by omega) (by omega) (by omega)).mono ?_
  rintro en w' ⟨rfl, rfl⟩
  let lc : Bf := ⟨true, 0, 0, loc.sz, 0⟩
  have hadd := hh.add hno lc (.row e loc.sz []) _ (fun h => by cases h) (fun h => by cases h) (hsub _) (Bd.refl _ _) (fun q x l hx hne hm hn => rfl) rfl rfl rfl ⟨rfl, by simp, .inl ⟨rfl, rfl⟩⟩
  exact ⟨_, _, rfl, hadd, .lsln ctr lc (by simp [B5]) rfl, fun v x hv => hv.mono (Bd.refl _ _) (hh.sub_add lc _ _ (fun h => by cases h) (hsub _)) (Iw hno lc)⟩
 | lsl _ _ _ cap ad loc hm hn hcap hlc had hbk hsp =>
  obtain ⟨loc', hm', hz, hel, hrow⟩ := hh.obj id _ hl
  rw [hm] at hm'; cases hm'
  rcases hrow with ⟨hn', _⟩ | ⟨_, c, hblk, hcs, hle, hcm, hrel⟩
  .rw [hn] at hn'; cases hn'
  have hlt := (hh.base id _ loc hl hm hn).1
  have hlen : ((elems.drop off).take len).length = len := by simp; omega
  have elt : ∀ q, q < len -> ((elems.drop off).take len)[q]? = elems[off + q]? := fun q hq => by rw [List.getElem?_take, if_pos hq, List.getElem?_drop]
  have hlen' : (((elems.drop off).take len).take i ++ ((elems.drop off).take len).drop j).length = len - (j - i) := by
   rw [List.length_append, List.length_take, List.length_drop, hlen]; omega
  have fin : ∀ (w' : World) (c' : Array Value), w'.heap[loc.b]? = some (.cells c' e (0, 0)) -> c'.size = c.size -> w'.heap.size = w.heap.size -> (∀ b, b ≠ loc.b -> w'.heap[b]? = w.heap[b]?) -> w'.os = w.os -> w'.tape = w.tape -> w'.output = w.output ->
    (∀ q m, q < i -> m < loc.sz -> c'[loc.o + (off + q) * loc.sz + m]? = c[loc.o + (off + q) * loc.sz + m]?) ->
    (∀ q m, q < len - j -> m < loc.sz -> c'[loc.o + (off + (i + q)) * loc.sz + m]? = c[loc.o + (off + (j + q)) * loc.sz + m]?) ->
    ∃ u μ', Ending.returned (.slice (some ad) (len - (j - i)) cap) = .returned u /\ HRel A μ' ((ctr, BE.row e loc.sz (((elems.drop off).take len).take i ++ ((elems.drop off).take len).drop j)) :: Eb id h) (fun q => F q /\ q ≠ ctr) w' /\ Ag (Aj A μ' ((ctr, BE.row e loc.sz (((elems.drop off).take len).take i ++ ((elems.drop off).take len).drop j)) :: Eb id h)) μ' w' u (.lsl ctr loc.sz 0 (len - (j - i))) /\ ∀ v x, Ag (Aj A μ h) μ w v x -> Ag (Aj A μ' ((ctr, BE.row e loc.sz (((elems.drop off).take len).take i ++ ((elems.drop off).take len).drop j)) :: Eb id h)) μ' w' v x := by
   intro w' c' hw' hc' hwsz hoth hos htape hout hold hmov
   let lc : Bf := ⟨false, loc.b, loc.o + off * loc.sz, loc.sz, cap⟩
   have hdead : AF id ((ctr, BE.row e loc.sz (((elems.drop off).take len).take i ++ ((elems.drop off).take len).drop j)) :: Eb id h) = none := by
    simp only [AF]
    rw [if_neg (fun e => by subst e; rw [hm] at hno; cases hno)]
    exact GN
   have hfresh : Ln μ h ((ctr, BE.row e loc.sz (((elems.drop off).take len).take i ++ ((elems.drop off).take len).drop j)) :: Eb id h) w lc := fun _ => .inr ⟨id, _, loc, hl, hdead, hm, hn, rfl⟩
   have hkept : Bd (CA μ h) w w' := ⟨by omega, fun b _ hmine => hoth b fun e => hmine ⟨id, _, loc, hl, hm, hn, e.symm⟩⟩
   have hs := hh.sub_add lc _ _ hfresh (hsub _)
   have hadd := hh.add hno lc _ _ (w' := w') (fun _ => by rw [hwsz]; exact hlt) hfresh (hsub _) hkept (fun q x l hx hne hmq hnq => by
    simp only [AF] at hx
    rw [if_neg hne] at hx
    obtain ⟨h7, h8⟩ := GM hx
    exact hoth _ fun e => h7 (hh.inj _ _ _ _ _ _ h8 hl hmq hm hnq hn e)) hos htape hout ⟨rfl, fun y hy => by
     rcases List.mem_append.1 hy with hy | hy
     .exact hel y (List.mem_of_mem_drop (List.mem_of_mem_take (List.mem_of_mem_take hy)))
     exact hel y (List.mem_of_mem_drop (List.mem_of_mem_take (List.mem_of_mem_drop hy))), .inr ⟨rfl, c', hw', by rw [hc', hcs, <- hcap, Nat.add_mul]; simp only [lc]; omega, by rw [hlen']; simp only [lc]; omega, by simp only [lc]; omega, fun q m y d v hy hd hv => by
     simp only [lc] at hv
     have hyl : y.length = loc.sz := by
      rcases List.mem_append.1 (List.mem_of_getElem? hy) with hy | hy
      .exact hel y (List.mem_of_mem_drop (List.mem_of_mem_take (List.mem_of_mem_take hy)))
      exact hel y (List.mem_of_mem_drop (List.mem_of_mem_take (List.mem_of_mem_drop hy)))
     have hm' : m < loc.sz := by have := (List.getElem?_eq_some_iff.1 hd).1; omega
     have hq := (List.getElem?_eq_some_iff.1 hy).1
     rw [hlen'] at hq
     rw [List.getElem?_append] at hy
     have hl1 : (((elems.drop off).take len).take i).length = i := by rw [List.length_take, hlen]; omega
     rw [hl1] at hy
     have e1 : loc.o + off * loc.sz + q * loc.sz + m = loc.o + (off + q) * loc.sz + m := by rw [Nat.add_mul]; omega
     rw [e1] at hv
     by_cases hqi : q < i
     .rw [if_pos hqi, List.getElem?_take, if_pos hqi, elt q (by omega)] at hy
      rw [hold q m hqi hm'] at hv
      exact (hrel (off + q) m y d v hy hd hv).mono hkept.own hs
     rw [if_neg hqi, List.getElem?_drop, elt _ (by omega)] at hy
     have := hmov (q - i) m (by omega) hm'
     rw [show i + (q - i) = q by omega] at this
     rw [this] at hv
     exact (hrel (off + (j + (q - i))) m y d v hy hd hv).mono hkept.own hs⟩⟩
   refine ⟨_, _, rfl, hadd, ?_, fun v x hv => hv.mono hkept.own hs (Iw hno lc)⟩
   refine .lsl ctr 0 _ cap ad lc (by simp [B5]) rfl (by simp [lc]) (by omega) (fun h0 => ?_) hbk hsp
   rw [had h0]; simp [lc]
  by_cases hne : i = j
  .subst hne
   have hm0 : maxLen <= 9223372036854775807 := by decide
   have hm2 : cap <= 9223372036854775807 := by omega
   refine (run_delete0 L loc.sz (fun w => by rw [he, <- hs0]; exact hok.run_sizeOf w) (some ad) len cap i w hlc hm2 hj).mono ?_
   rintro e' w' ⟨rfl, rfl⟩
   have := fin w' c hblk rfl rfl (fun _ _ => rfl) rfl rfl rfl (fun _ _ _ _ => rfl) (fun _ _ _ _ => rfl)
   simp only [Nat.sub_self, Nat.sub_zero] at this ⊢
   exact this
  have hlt' : i < j := by omega
  have had' := had (by omega)
  subst had'
  obtain ⟨z, i0, hz1, hz2, hz3, hz4⟩ := YN hok (by omega)
  rw [hs0] at hz3 hz4
  obtain ⟨hz5, hz6⟩ := hz4 (len - (i + (len - j)))
  have hm0 : maxLen <= 9223372036854775807 := by decide
  have hm2 : cap <= 9223372036854775807 := by omega
  have hin : ∀ t, t < len * loc.sz -> loc.o + off * loc.sz + t < c.size := fun t ht => by
   have : (off + len) * loc.sz <= loc.cap * loc.sz := Nat.mul_le_mul_right _ (by omega)
   rw [Nat.add_mul] at this; omega
  obtain ⟨cs, hcsd⟩ : ∃ cs, cs = (List.range (len * loc.sz)).map fun t => c.getD (loc.o + off * loc.sz + t) undef := ⟨_, rfl⟩
  have hcsl : cs.length = len * loc.sz := by rw [hcsd]; simp
  have hcsg : ∀ t u, cs[t]? = some u -> t < len * loc.sz /\ c[loc.o + off * loc.sz + t]? = some u := fun t u hu => by
   have ht := (List.getElem?_eq_some_iff.1 hu).1
   rw [hcsl] at ht
   refine ⟨ht, ?_⟩
   rw [hcsd] at hu
   simp only [List.getElem?_map, List.getElem?_range ht, Option.map_some, Option.some.injEq] at hu
   rw [<- hu, Array.getElem?_eq_getElem (hin t ht)]
   simp [Array.getD, hin t ht]
  have hrun := run_delete (P := P) L loc.sz (fun w => by rw [he, <- hs0]; exact hok.run_sizeOf w) z (fun w => by rw [he]; exact hz1 w) i0 (by rw [he]; exact hz2) hz3 _ loc.b (loc.o + off * loc.sz) len cap i j w cs hcsl
   (fun t u hu => Cx hblk (hcsg t u hu).2) (fun t _ => by simp [World.frozen?, hblk]) (fun u hu => by
    obtain ⟨t, ht⟩ := List.mem_iff_getElem?.1 hu
    obtain ⟨g1, g2⟩ := hcsg t u ht
    have q1 : t / loc.sz < len := Nat.div_lt_of_lt_mul (by rw [Nat.mul_comm]; exact g1)
    have q2 : t % loc.sz < loc.sz := Nat.mod_lt _ hsz
    have q3 := Nat.div_add_mod t loc.sz
    obtain ⟨y, hy⟩ : ∃ y, elems[off + t / loc.sz]? = some y := ⟨_, List.getElem?_eq_getElem (by omega)⟩
    have hyl := hel y (List.mem_of_getElem? hy)
    obtain ⟨d, hd⟩ : ∃ d, y[t % loc.sz]? = some d := ⟨_, List.getElem?_eq_getElem (by omega)⟩
    have hyc := hone y (List.mem_of_getElem? (i := t / loc.sz) (by rw [elt _ q1]; exact hy))
    refine ((hrel _ _ y d u hy hd ?_).oneCell (List.all_eq_true.1 hyc _ (List.mem_of_getElem? hd))).1
    rw [<- g2]; congr 1; rw [Nat.add_mul]; rw [Nat.mul_comm loc.sz] at q3; omega) rfl hz5 hz6 hlc hm2 hlt' hj
  refine hrun.mono ?_
  rintro e' w' ⟨rfl, hw'⟩
  have b1 : (i + (len - j)) * loc.sz + (len - (i + (len - j))) * loc.sz = len * loc.sz := by rw [<- Nat.add_mul]; congr 1; omega
  have b2 : i * loc.sz + (len - j) * loc.sz = (i + (len - j)) * loc.sz := (Nat.add_mul _ _ _).symm
  have b3 : (off + len) * loc.sz <= loc.cap * loc.sz := Nat.mul_le_mul_right _ (by omega)
  rw [Nat.add_mul] at b3
  have b4 : j * loc.sz + (len - j) * loc.sz = len * loc.sz := by rw [<- Nat.add_mul]; congr 1; omega
  have hdl : (cs.drop (j * loc.sz)).length = (len - j) * loc.sz := by rw [List.length_drop, hcsl]; omega
  obtain ⟨c1, k1, k2, k3⟩ := F3 loc.b (cs.drop (j * loc.sz)) (loc.o + off * loc.sz + i * loc.sz) w.drew c e hblk (by rw [hdl]; omega)
  obtain ⟨c2, m1, m2, m3⟩ := F3 loc.b (Builtin.zeroCells z.cells (len - (i + (len - j)))).toList (loc.o + off * loc.sz + (i + (len - j)) * loc.sz) _ c1 e k1 (by rw [hz5, k2]; omega)
  refine fin w' c2 (by rw [hw']; exact m1) (by rw [m2, k2]) ?_ ?_ ?_ ?_ ?_ ?_ ?_
  .rw [hw', IG, IG]; rfl
  .intro b hb; rw [hw', Hc _ _ _ _ _ hb, Hc _ _ _ _ _ hb]; rfl
  .rw [hw', J2, J2]; rfl
  .rw [hw', IH, IH]; rfl
  .rw [hw', Gq, Gq]; rfl
  .intro q m hq hmm
   have b5 : (q + 1) * loc.sz <= i * loc.sz := Nat.mul_le_mul_right _ hq
   rw [Nat.add_mul] at b5
   have b6 := Nat.add_mul off q loc.sz
   rw [m3, if_neg (by omega), k3, if_neg (by omega)]
  intro q m hq hmm
  have b5 : (q + 1) * loc.sz <= (len - j) * loc.sz := Nat.mul_le_mul_right _ hq
  rw [Nat.add_mul] at b5
  have b6 : loc.o + (off + (i + q)) * loc.sz + m = loc.o + off * loc.sz + i * loc.sz + (q * loc.sz + m) := by rw [Nat.add_mul, Nat.add_mul]; omega
  rw [m3, if_neg (by rw [b6]; omega), k3, if_pos (by rw [b6, hdl]; omega), b6, Nat.add_sub_cancel_left, List.getElem?_drop]
  have b7 : loc.o + (off + (j + q)) * loc.sz + m = loc.o + off * loc.sz + (j * loc.sz + (q * loc.sz + m)) := by rw [Nat.add_mul, Nat.add_mul]; omega
  have b8 : j * loc.sz + (q * loc.sz + m) < len * loc.sz := by omega
  obtain ⟨u, hu⟩ : ∃ u, cs[j * loc.sz + (q * loc.sz + m)]? = some u := ⟨_, List.getElem?_eq_getElem (by omega)⟩
  rw [hu, b7, (hcsg _ _ hu).2]
theorem Zq (hE : BB P AB) (L : SlLaysE0.n45 P ρ) {e : Nat} {te : TI} (he : ρ.t 23 = e) (h3 : AB.tt e = some te) (hsz : 0 < te.size) {h : AQ} {ctr id i j : Nat} {elems : List (List DV)} (hl : AF id h = some (.row e te.size elems)) (hone : ∀ y ∈ elems, y.all DV.cell = true) (hij : i <= j) (hj : j <= elems.length) :
  Kc P h ctr (ρ.f 45) [.lsl id te.size 0 elems.length, .p (.int .i64 i), .p (.int .i64 j)] (.lsl ctr te.size 0 (elems.length - (j - i))) ((ctr, .row e te.size (elems.take i ++ elems.drop j)) :: Eb id h) := by
 refine ⟨?_, fun A F μ w vs hh hc _ hsz' hr => ?_⟩
 .obtain ⟨nm, hn, hf⟩ := L.f45
  exact Ij hf rfl hn
 have hvs : ∃ a b c, vs = #[a, b, c] := by
  obtain ⟨l⟩ := vs
  match l, hsz' with
  | [a, b, c], _ => exact ⟨a, b, c, rfl⟩
 obtain ⟨v0, v1, v2, rfl⟩ := hvs
 have e1 := (hr 1 v1 _ rfl rfl).int_inv
 have e2 := (hr 2 v2 _ rfl rfl).int_inv
 have h0 := hr 0 v0 _ rfl rfl
 subst e1 e2
 have e0 : (elems.drop 0).take elems.length = elems := by simp
 have := YO (off := 0) (len := elems.length) hE L he h3 hsz hl (by omega) (by rw [e0]; exact hone) hij hj hh hc h0
 rw [e0] at this
 exact this
def Tx {α : Type} (l : List α) (i j : Int) : Option (List α) := if 0 <= i /\ i <= j /\ j <= l.length then some (l.take i.toNat ++ l.drop j.toNat) else none
section
variable {α : Type} {enc : α -> List DV} {l r : List α} {i j : Int} {nt : Nat} {sl : List (Nat × LV)} {h h' : AQ} {c d : Nat} {f : St -> Prop} {hf : Ik f}
theorem AAW (hE : BB P AB) {k : Nat} (L : SlLaysE0.n45 P ρ) (hk : ρ.f 45 = k) {t e sz : Nat} (he : ρ.t 23 = e) {fo a1 a2 a3 : Operand} {args : Array Operand} {ts : Array TypeId} {id n : Nat}
  (hr : Tx l i j = some r) (hen : TG enc sz) (hl : Ba id h = some (.row e sz (l.map enc))) (hn : n = l.length) (hd : P3 id h some = some h') (ht : Rl AB t e sz = true)
  (hfn : (Cl fo, BL nt sl fo) = (true, .fn k [])) (ha : args.toList = [a1, a2, a3]) (h1 : BL nt sl a1 = .lsl id sz 0 n) (h2 : BL nt sl a2 = .p (.int .i64 i)) (h3 : BL nt sl a3 = .p (.int .i64 j)) (hcm : Mc AB.calm (.lsl id sz 0 n) = true)
  (kk : f ⟨nt, (d, .lsl c sz 0 r.length) :: sl, (c, .row e sz (r.map enc)) :: h', c + 1⟩) : Gl P A AB ⟨nt, sl, h, c⟩ (some d) (.call ⟨.value fo, args, ts⟩) ⟨f, hf⟩ := by
 obtain ⟨ti, te, g1, g2, g3, g4, g5, g6⟩ := PP ht
 obtain ⟨hdl, hfn⟩ := Prod.mk.inj hfn
 rw [BN (h := h) (c := c)] at hfn h1 h2 h3
 rw [Ml, Option.some.injEq] at hd
 rw [Bb] at hl
 subst g4 hn hd hk
 have haa : args = #[a1, a2, a3] := by rw [<- Array.toList_inj, ha]
 subst haa
 unfold Tx at hr
 split at hr
 .rename_i hb
  obtain ⟨b1, b2, b3⟩ := hb
  simp only [Option.some.injEq] at hr
  subst hr
  obtain ⟨i, rfl⟩ := Int.eq_ofNat_of_zero_le b1
  obtain ⟨j, rfl⟩ := Int.eq_ofNat_of_zero_le (Int.le_trans b1 b2)
  show (if Cl fo = true then _ else _)
  rw [if_pos hdl]
  have hlen : (l.map enc).length = l.length := List.length_map ..
  refine ⟨.lsl c te.size 0 ((l.map enc).length - (j - i)), (c, .row e te.size ((l.map enc).take i ++ (l.map enc).drop j)) :: Eb id h, ⟨fo, _, [], rfl, hfn, ?_, fun q hq hn => ?_, fun b hb0 id' cells _ hi hbi hx => ?_⟩, ?_⟩
  .have := Zq (P := P) (ctr := c) hE L he g3 g5 hl (fun y hy => by
    obtain ⟨x, _, rfl⟩ := List.mem_map.1 hy
    exact (hen x).2) (show i <= j by omega) (by rw [hlen]; omega)
   show Kc P h c _ ([St.eval _ a1, St.eval _ a2, St.eval _ a3] ++ []) _ _
   rw [h1, h2, h3, List.append_nil, <- hlen]
   exact this
  .simp only [AF, hq, if_false, LC, hn]; split <;> rfl
  .have hne : id' ≠ id := fun e2 => by
    have hb0' : AB.calm = some b := hb0
    rw [hb0'] at hcm
    simp only [Mc] at hcm
    rw [e2, hcm] at hbi; cases hbi
   simp only [AF, hi, if_false]
   rw [Dp hne]; exact hx
  have e1 : ((l.take i ++ l.drop j).map enc) = (l.map enc).take i ++ (l.map enc).drop j := by simp [List.map_take, List.map_drop]
  have e2 : (l.take i ++ l.drop j).length = (l.map enc).length - (j - i) := by simp; omega
  simp only [Int.toNat_natCast] at kk
  rw [e1, e2] at kk
  exact kk
 cases hr
end
end Go.E
/- slices.Sort and slices.Compact of an own row of whole numbers, as calls out of a data state. For rows of fewer than 2^62 numbers. -/
namespace Go.E
open Go Go.RowKit Go.Shelf Go.Proofs Go.Sort
def JV (n : Int) : List DV := [.int .i64 n]
def QN (x : Int) : List Int -> List Int
 | [] => [x]
 | y :: l => if x <= y then x :: y :: l else y :: QN x l
def En : List Int -> List Int
 | [] => []
 | x :: l => QN x (En l)
theorem PD (x : Int) : ∀ l, (QN x l).Perm (x :: l)
 | [] => .refl _
 | y :: l => by
  unfold QN
  split
  .exact .refl _
  exact ((PD x l).cons y).trans (.swap x y l)
theorem Dc : ∀ l, (En l).Perm l
 | [] => .refl _
 | x :: l => (PD x (En l)).trans ((Dc l).cons x)
theorem S0 (x : Int) : ∀ l, l.Pairwise (· <= ·) -> (QN x l).Pairwise (· <= ·)
 | [], _ => by simp [QN]
 | y :: l, h => by
  unfold QN
  rw [List.pairwise_cons] at h
  split
  .rename_i hxy
   refine List.pairwise_cons.2 ⟨fun z hz => ?_, List.pairwise_cons.2 h⟩
   rcases List.mem_cons.1 hz with rfl | hz
   .exact hxy
   exact Int.le_trans hxy (h.1 z hz)
  rename_i hxy
  refine List.pairwise_cons.2 ⟨fun z hz => ?_, S0 x l h.2⟩
  rcases List.mem_cons.1 ((PD x l).mem_iff.1 hz) with rfl | hz
  .omega
  exact h.1 z hz
theorem JM : ∀ l, (En l).Pairwise (· <= ·)
 | [] => by simp [En]
 | x :: l => S0 x _ (JM l)
theorem Y4 (l : List Int) : l.mergeSort (fun x y => decide (x <= y)) = En l := by
 refine List.Perm.eq_of_pairwise (le := fun a b : Int => a <= b) (fun a b _ _ h1 h2 => Int.le_antisymm h1 h2) ?_ (JM l) ((List.mergeSort_perm _ _).trans (Dc l).symm)
 have := List.pairwise_mergeSort (le := fun x y : Int => decide (x <= y)) (by simp; intro a b c; omega) (by simp; omega) l
 simpa using this
def JL (l : List Int) : Option (List Int) := if l.length < 4611686018427387904 then some (En l) else none
theorem SX {l r : List Int} (h : JL l = some r) : l.length = r.length := by
 unfold JL at h
 split at h
 .cases h; exact (Dc l).length_eq.symm
 cases h
section
variable {P : Program} {ρ : Ren} {AB : A9} {A : BP}
theorem row_holds {O : Nat -> Prop} {w : World} {b o : Nat} {c : Array Value} {e : TypeId} {zs : List Int} {n : Nat} (hb : w.heap[b]? = some (.cells c e (0, 0))) (hc : c.size = o + n) (hn : zs.length <= n)
  (hrel : ∀ (i j : Nat) (x : List DV) (d : DV) (v : Value), (zs.map JV)[i]? = some x -> x[j]? = some d -> c[o + i * 1 + j]? = some v -> A3 O w v d) : Holds (Value.int .i64) w b o zs.toArray := by
 intro j hj
 have hj' : j < zs.length := by simpa using hj
 have hlt : o + j < c.size := by omega
 have hz : (zs.map JV)[j]? = some (JV zs[j]) := by simp [hj']
 have := hrel j 0 _ (.int .i64 zs[j]) c[o + j] hz rfl (by simp [hlt])
 have key : ∀ u, A3 O w u (.int .i64 zs[j]) -> u = .int .i64 zs[j] := fun u h => by cases h; rfl
 refine ⟨?_, by simp [World.frozen?, hb]⟩
 rw [Cx hb (Array.getElem?_eq_getElem hlt), key _ this]
 simp [hj']
theorem Wo (hE : BB P AB) (L : Lays.n189 P ρ) {e : Nat} {te : TI} (h3 : AB.tt e = some te) (h1 : te.size = 1) {h : AQ} {ctr id : Nat} {zs ys : List Int}
  (hl : AF id h = some (.row e 1 (zs.map JV))) (hs : JL zs = some ys) {K : LV -> AQ -> Nat -> Prop} (hK : K (.p (.tup [])) (Bv id (.row e 1 (ys.map JV)) h) ctr) :
  DQ P A h ctr (ρ.f 189) [.lsl id 1 0 zs.length] K := by
 unfold JL at hs
 rw [<- Y4] at hs
 split at hs
 .rename_i hlen
  cases hs
  refine ⟨Ij L.f189 rfl rfl, fun μ w vs hh hsz hr => ?_⟩
  have hvs : ∃ a, vs = #[a] := by
   obtain ⟨l⟩ := vs
   match l, hsz with
   | [a], _ => exact ⟨a, rfl⟩
  obtain ⟨v0, rfl⟩ := hvs
  have h0 := hr 0 v0 _ rfl rfl
  have htup : ∀ w', Ag (Aj A μ (Bv id (.row e 1 ((zs.mergeSort fun x y => decide (x <= y)).map JV)) h)) μ w' (.tuple #[]) (.p (.tup [])) := fun w' => .p _ _ (.tup #[] [] rfl (by simp))
  obtain ⟨loc, hm, hz, hel, hrow⟩ := hh.obj id _ hl
  have empty : zs = [] -> ∀ p cap, v0 = .slice p 0 cap -> Calls P (ρ.f 189) #[v0] w fun en w' => ∃ u l h' c' μ', en = .returned u /\ K l h' c' /\ HRel A μ' h' (Fr c') w' /\ Ag (Aj A μ' h') μ' w' u l /\ ∀ v x, Ag (Aj A μ h) μ w v x -> Ag (Aj A μ' h') μ' w' v x := by
   rintro rfl p cap rfl
   refine (Any.slices_Sort_int_none L p cap w).mono ?_
   rintro en w' ⟨rfl, rfl⟩
   have hu : ∀ q, AF q (Bv id (.row e 1 ((([] : List Int).mergeSort fun x y => decide (x <= y)).map JV)) h) = AF q h := fun q => by
    by_cases hq : q = id
    .subst hq; rw [IF hl, hl]; simp
    rw [Dr hq]
   have hmine : CA μ (Bv id (.row e 1 ((([] : List Int).mergeSort fun x y => decide (x <= y)).map JV)) h) = CA μ h := by
    funext b; simp only [CA, hu]
   have hown : Aj A μ (Bv id (.row e 1 ((([] : List Int).mergeSort fun x y => decide (x <= y)).map JV)) h) = Aj A μ h := by funext b; simp only [Aj, hmine]
   refine ⟨_, _, _, _, μ, rfl, hK, ?_, htup _, fun v x hv => by rw [hown]; exact hv⟩
   refine ⟨fun q o hq => ?_, fun q q' o o' l l' hq hq' => ?_, hh.fresh, fun q o l hq => ?_, hh.size, hh.block, hh.os, hh.tape, hh.output, hh.ext⟩
   .rw [hu] at hq; rw [hown]; exact hh.obj q o hq
   .rw [hu] at hq hq'; exact hh.inj q q' o o' l l' hq hq'
   rw [hu] at hq; exact hh.base q o l hq
  rcases hrow with ⟨hn, hz0⟩ | ⟨hn, c, hblk, hcs, hle, hcm, hrel⟩
  .have hzs : zs = [] := by simpa using hz0
   subst hzs
   generalize hgen : (LV.lsl id 1 0 ([] : List Int).length) = lv at h0
   cases h0 with
   | lsln => exact empty rfl _ _ rfl
   | lsl _ _ _ cap ad loc' hm' hn' hcap hlc had hbk hsp =>
    simp only [LV.lsl.injEq, List.length_nil] at hgen
    obtain ⟨-, -, -, e4⟩ := hgen
    subst e4
    exact empty rfl _ _ rfl
   | _ => cases hgen
  by_cases hne : zs = []
  .subst hne
   generalize hgen : (LV.lsl id 1 0 ([] : List Int).length) = lv at h0
   cases h0 with
   | lsln => exact empty rfl _ _ rfl
   | lsl _ _ _ cap ad loc' hm' hn' hcap hlc had hbk hsp =>
    simp only [LV.lsl.injEq, List.length_nil] at hgen
    obtain ⟨-, -, -, e4⟩ := hgen
    subst e4
    exact empty rfl _ _ rfl
   | _ => cases hgen
  have hpos : 0 < zs.length := List.length_pos_iff.2 hne
  generalize hgen : (LV.lsl id 1 0 zs.length) = lv at h0
  cases h0 with
  | lsl id' off len cap ad loc' hm' hn' hcap hlc had hbk hsp =>
   simp only [LV.lsl.injEq] at hgen
   obtain ⟨e1, e2, e3, e4⟩ := hgen
   subst e1 e3 e4
   rw [hm] at hm'; cases hm'
   have had' := had (by omega)
   simp only [Nat.zero_mul, Nat.add_zero] at had'
   subst had'
   have hlt := (hh.base id _ loc hl hm hn).1
   simp only [List.length_map] at hle
   have hH := row_holds (zs := zs) (o := loc.o) (n := loc.cap) hblk (by rw [hcs]; omega) hle (by rw [<- hz] at hrel ⊢; exact hrel)
   refine (Any.slices_Sort_int L loc.b loc.o cap zs w hH hlt hlen).mono ?_
   rintro en w' ⟨rfl, q, os, rfl⟩
   have hsl : (zs.mergeSort fun x y => decide (x <= y)).length = zs.length := List.length_mergeSort _
   rw [Lib.putRow_eq_setCells (Value.int .i64) w loc.b loc.o zs.toArray (zs.mergeSort fun x y => decide (x <= y)) q hH (by simp [hsl])]
   obtain ⟨c1, k1, k2, k3⟩ := F3 loc.b ((zs.mergeSort fun x y => decide (x <= y)).map (Value.int .i64)) loc.o (w.drewN q) c e hblk (by simp [hsl]; omega)
   have hw := hh.write (w' := (w.drewN q).setCells loc.b loc.o ((zs.mergeSort fun x y => decide (x <= y)).map (Value.int .i64))) (o := .row e 1 ((zs.mergeSort fun x y => decide (x <= y)).map JV)) hl hm hn
    (by rw [IG]; rfl) (fun b hb => by rw [Hc _ _ _ _ _ hb]; rfl) (by rw [J2]; rfl) (by rw [IH]; rfl) (by rw [Gq]; rfl)
    ⟨hz, fun y hy => by obtain ⟨n, _, rfl⟩ := List.mem_map.1 hy; rfl, .inr ⟨hn, c1, k1, by rw [k2]; exact hcs, by simpa [hsl] using hle, hcm, fun i j x d v hx hd hv => by
     simp only [List.getElem?_map, Option.map_eq_some_iff] at hx
     obtain ⟨n, hn', rfl⟩ := hx
     have hj : j = 0 := by
      have := (List.getElem?_eq_some_iff.1 hd).1
      simp [JV] at this; omega
     subst hj
     simp only [JV, List.getElem?_cons_zero, Option.some.injEq] at hd
     subst hd
     have hi := (List.getElem?_eq_some_iff.1 hn').1
     rw [k3, if_pos (by simp; omega)] at hv
     rw [show loc.o + i * 1 + 0 - loc.o = i by omega, List.getElem?_map, hn'] at hv
     cases hv
     exact .int _ _⟩⟩
   obtain ⟨w1, w2, w3⟩ := hw
   have hk := w1.keep (w' := grow ((w.drewN q).setCells loc.b loc.o ((zs.mergeSort fun x y => decide (x <= y)).map (Value.int .i64))) os) (h' := Bv id (.row e 1 ((zs.mergeSort fun x y => decide (x <= y)).map JV)) h) (μ' := μ) (F' := Fr ctr) (fun _ _ h => h) w1.fresh (fun _ _ h => h)
    (fun b hb => by show (_ ++ os)[b]? = _; rw [Array.getElem?_append_left hb]) (by show _ <= (_ ++ os).size; simp) rfl rfl rfl
   refine ⟨_, _, _, _, μ, rfl, hK, hk.1, htup _, fun v x hv => ?_⟩
   have hv1 := hv.mono w2.own (fun b _ => w3 b) (fun _ _ h => h)
   refine hv1.mono (Bd.mk ?_ ?_) (fun b _ hb => hb) (fun _ _ h => h)
   .show _ <= (_ ++ os).size; simp
   intro b hb _; show (_ ++ os)[b]? = _; rw [Array.getElem?_append_left hb]
  | lsln =>
   simp only [LV.lsl.injEq] at hgen
   obtain ⟨-, -, -, e4⟩ := hgen
   omega
  | _ => cases hgen
 cases hs
end
section
variable {P : Program} {ρ : Ren} {AB : A9} {A : BP} {l r : List Int} {nt : Nat} {sl : List (Nat × LV)} {h h' : AQ} {c d : Nat} {f : St -> Prop} {hf : Ik f}
theorem XN (hE : BB P AB) {k : Nat} (L : Lays.n189 P ρ) (hk : ρ.f 189 = k) {t e : Nat} {fo : Operand} {args : Array Operand} {ts : Array TypeId} {id n : Nat} {enc : Int -> List DV} (henc : enc = JV)
  (hr : JL l = some r) (hl : Ba id h = some (.row e 1 (l.map enc))) (hn : n = l.length) (hd : Bv id (.row e 1 (r.map enc)) h = h') (ht : Rl AB t e 1 = true)
  (hfn : BL nt sl fo = .fn k []) (ha : Dl nt sl args.toList some = some [.lsl id 1 0 n])
  (kk : f ⟨nt, (d, .p (.tup [])) :: sl, h', c⟩) : BQ P A AB ⟨nt, sl, h, c⟩ (some d) (.call ⟨.value fo, args, ts⟩) ⟨f, hf⟩ := by
 obtain ⟨ti, te, h1, h2, h3, h4, h5, h6⟩ := PP ht
 rw [BN (h := h) (c := c)] at hfn
 rw [Bb] at hl
 subst henc hn hd hk
 show Mj _ _
 rw [hfn]
 show Iz P A h c _ (args.toList.map _ ++ []) _
 rw [Ep ha, List.append_nil]
 exact Wo hE L h3 h4 hl hr kk
end
end Go.E
/- A scope in which the run jumps back to one label, and on to another. No condition. -/
namespace Go.E
open Go Go.RowKit
section
variable {P : Program} {A : BP} {st : St} {σ Ans : Type}
end
def Hx {α : Type} (l : List α) (lo hi : Int) : Option (List α) := Im l lo hi
theorem UD {α : Type} {l r : List α} {lo hi : Int} (h : Hx l lo hi = some r) : lo.toNat + (hi - lo).toNat <= l.length /\ (l.drop lo.toNat).take (hi - lo).toNat = r := by
 unfold Hx Im at h
 split at h
 .rename_i hb
  cases h
  refine ⟨by omega, ?_⟩
  rw [List.drop_take]
  congr 1
  omega
 cases h
section
variable {P : Program} {A : BP} {AB : A9} {α : Type} {enc : α -> List DV} {l r : List α} {nt : Nat} {sl : List (Nat × LV)} {h : AQ} {c d : Nat} {f : St -> Prop} {hf : Ik f} {x : Operand} {t sz : Nat}
theorem Cn {lo hi : Option Operand} {n m : Int} {id k : Nat} (hr : Hx l n m = some r) (ht : NO AB t sz = true) (hk : k = l.length) (hx : BL nt sl x = .lsl id sz 0 k)
  (hlo : Oe nt sl 0 lo = some n) (hhi : Oe nt sl l.length hi = some m)
  (kk : f ⟨nt, (d, .lsl id sz n.toNat (m - n).toNat) :: sl, h, c⟩) : BQ P A AB ⟨nt, sl, h, c⟩ (some d) (.slice t x lo hi none) ⟨f, hf⟩ := by
 obtain ⟨ti, e, te, h1, h2, h3, h4⟩ := NQ ht
 have hs : Im l n m = some r := hr
 subst hk
 rw [BN (h := h) (c := c)] at hx
 simp only [Im] at hs
 split at hs
 .rename_i hb
  show LH AB t _ _ _ _
  rw [hx]
  refine AW.2 ⟨ti, h1, Cc.2 ⟨e, h2, AW.2 ⟨te, h3, h4, .inr rfl, ?_⟩⟩⟩
  refine PO hhi (PO hlo ⟨hb, ?_⟩)
  rw [Nat.zero_add]; exact kk
 cases hs
end
end Go.E
/- Aj rows cut short; nil cells of own boxes; functions that call themselves. No condition. -/
namespace Go.E
open Go Go.RowKit
section
variable {A : BP} {μ : Nat -> Option Bf} {h : List (Nat × BE)} {F : Nat -> Prop} {w : World}
theorem HRel.swap (hh : HRel A μ h F w) {id : Nat} {o o' : BE} (hx : AF id h = some o) (hor : ∀ loc, μ id = some loc -> ED (Aj A μ h) μ w loc o -> ED (Aj A μ h) μ w loc o') :
  HRel A μ (Bv id o' h) F w /\ ∀ b, Aj A μ (Bv id o' h) b -> Aj A μ h b := by
 have hlook : ∀ j y, AF j (Bv id o' h) = some y -> (j = id /\ y = o') \/ (j ≠ id /\ AF j h = some y) := by
  intro j y hy
  by_cases e : j = id
  .subst e; rw [IF hx] at hy; cases hy; exact .inl ⟨rfl, rfl⟩
  rw [Dr e] at hy; exact .inr ⟨e, hy⟩
 have hmine : ∀ b, CA μ (Bv id o' h) b -> CA μ h b := by
  rintro b ⟨j, y, lc, h1, h2, h3, h4⟩
  rcases hlook j y h1 with ⟨rfl, rfl⟩ | ⟨_, h1⟩
  .exact ⟨j, o, lc, hx, h2, h3, h4⟩
  exact ⟨j, y, lc, h1, h2, h3, h4⟩
 have hown : ∀ b, Aj A μ (Bv id o' h) b -> Aj A μ h b := fun b hb => hb.imp (fun h => h) (hmine b)
 have f : ∀ j y, AF j (Bv id o' h) = some y -> ∃ y, AF j h = some y := by
  intro j y hy
  rcases hlook j y hy with ⟨rfl, rfl⟩ | ⟨_, hy⟩
  .exact ⟨_, hx⟩
  exact ⟨_, hy⟩
 refine ⟨⟨?_, ?_, hh.fresh, ?_, hh.size, hh.block, hh.os, hh.tape, hh.output, hh.ext⟩, hown⟩
 .intro j y hy
  rcases hlook j y hy with ⟨rfl, rfl⟩ | ⟨e, hy⟩
  .obtain ⟨lc, h1, h2⟩ := hh.obj j o hx
   exact ⟨lc, h1, (hor lc h1 h2).mono (Bd.refl _ _) (fun b _ hb => hown b hb) (fun _ _ h => h) fun _ => rfl⟩
  obtain ⟨lc, h1, h2⟩ := hh.obj j y hy
  exact ⟨lc, h1, h2.mono (Bd.refl _ _) (fun b _ hb => hown b hb) (fun _ _ h => h) fun _ => rfl⟩
 .intro j j' y y' lc lc' h1 h2 m1 m2 n1 n2 he
  obtain ⟨z, hz⟩ := f j y h1
  obtain ⟨z', hz'⟩ := f j' y' h2
  exact hh.inj _ _ _ _ _ _ hz hz' m1 m2 n1 n2 he
 intro j y lc h1 m1 n1
 obtain ⟨z, hz⟩ := f j y h1
 exact hh.base _ _ _ hz m1 n1
end
section
variable {A : BP} {nt : Nat} {sl : List (Nat × LV)} {h h' : AQ} {c : Nat}
theorem FG (id j e sz : Nat) {cells cells' : List LV} (hl : Ba id h = some (.box cells)) (hj : cells[j]? = some (.p .nils)) (hc : cells.set j (.lsl c sz 0 0) = cells')
  (hu : Ke id (.box cells') h some = some h') : BA A ⟨nt, sl, h, c⟩ ⟨nt, sl, (c, .row e sz []) :: h', c + 1⟩ := fun a w ⟨⟨μ, hh, hr⟩, hnt, hdef⟩ => by
 rw [Bb] at hl
 rw [Hb, Option.some.injEq] at hu
 subst hu hc
 have hno := hh.fresh c (Nat.le_refl _)
 let loc : Bf := ⟨true, 0, 0, sz, 0⟩
 have hsub : ∀ id x, AF id ((c, BE.row e sz []) :: h) = some x -> (id = c /\ x = .row e sz []) \/ AF id h = some x := by
  intro id x hx
  simp only [AF] at hx
  split at hx
  .cases hx; exact .inl ⟨‹_›, rfl⟩
  exact .inr hx
 have hadd := hh.add hno loc (.row e sz []) ((c, .row e sz []) :: h) (fun hn => by cases hn) (fun hn => by cases hn) hsub (Bd.refl _ _) (fun _ _ _ _ _ _ _ => rfl) rfl rfl rfl ⟨rfl, by simp, .inl ⟨rfl, rfl⟩⟩
 have hown := hh.sub_add loc (.row e sz []) ((c, .row e sz []) :: h) (fun hn => by cases hn) hsub
 have hadd' := hadd.less (F' := Fr (c + 1)) fun id hid => by simp only [Fr] at hid ⊢; omega
 have hne : id ≠ c := hh.live_ne hno hl
 have hl' : AF id ((c, BE.row e sz []) :: h) = some (.box cells) := by simp only [AF, if_neg hne]; exact hl
 obtain ⟨g1, g2⟩ := hadd'.swap hl' (o' := .box (cells.set j (.lsl c sz 0 0))) fun lc _ ⟨k1, cs, t, k2, k3, k4⟩ => by
  refine ⟨k1, cs, t, k2, by rw [List.length_set]; exact k3, fun i v l hv hl => ?_⟩
  rw [List.getElem?_set] at hl
  split at hl
  .split at hl
   .cases hl
    subst_vars
    have := k4 _ v _ hv hj
    rw [this.nils_inv]
    exact .lsln c loc (by simp [B5]) rfl
   cases hl
  exact k4 i v l hv hl
 have hup : Bv id (.box (cells.set j (.lsl c sz 0 0))) ((c, BE.row e sz []) :: h) = (c, .row e sz []) :: Bv id (.box (cells.set j (.lsl c sz 0 0))) h := by
  simp only [Bv, if_neg hne]
 rw [hup] at g1 g2
 exact ⟨⟨_, g1, fun u hu => (hr u hu).mono (Bd.refl _ _) (fun b hb hb' => hown b hb (g2 b hb')) (Iw hno loc)⟩, hnt, hdef⟩
end
section
variable {P : Program} {A : BP} {AB : A9} {α : Type} {enc : α -> List DV} {l r : List α} {nt : Nat} {sl : List (Nat × LV)} {h : AQ} {c d : Nat} {f : St -> Prop} {hf : Ik f} {x : Operand} {t sz : Nat}
theorem WK {hi : Option Operand} {m : Int} {id k : Nat} (hr : Hx l 0 m = some r) (ht : NO AB t sz = true) (hk : k = l.length) (hx : BL nt sl x = .lsl id sz 0 k)
  (hhi : Oe nt sl l.length hi = some m)
  (kk : f ⟨nt, (d, .lsl id sz 0 r.length) :: sl, h, c⟩) : BQ P A AB ⟨nt, sl, h, c⟩ (some d) (.slice t x none hi none) ⟨f, hf⟩ := by
 refine Cn (lo := none) hr ht hk hx rfl hhi ?_
 have e : (m - 0).toNat = r.length := by
  obtain ⟨h1, h2⟩ := UD hr
  rw [<- h2]
  simp at h1 ⊢; omega
 rw [e]
 exact kk
end
theorem XO {α : Type} {l r : List α} {m : Int} (h : Hx l 0 m = some r) : 0 + r.length <= l.length /\ (l.drop 0).take r.length = r := by
 obtain ⟨h1, h2⟩ := UD h
 simp only [Int.toNat_zero, List.drop_zero, Nat.zero_add, Int.sub_zero] at h1 h2 ⊢
 have : r.length = m.toNat := by rw [<- h2]; simp; omega
 rw [this]
 exact ⟨h1, h2⟩
section
variable (id : Nat) (src d : LV)
mutual
inductive PB : LV -> LV -> Prop
 | same (v : LV) : PB v v
 | hit : PB src d
 | nil (z : Nat) : PB (.p .nils) (.p (.slice z []))
 | agg {a b : List LV} : PY a b -> PB (.agg a) (.agg b)
inductive PY : List LV -> List LV -> Prop
 | nil : PY [] []
 | cons {x y : LV} {a b : List LV} : PB x y -> PY a b -> PY (x :: a) (y :: b)
end
inductive QK (sl : List (Nat × LV)) : List (Nat × LV) -> Prop
 | nil : QK sl []
 | cons (t : Nat) {v : LV} {r : List (Nat × LV)} : PB src d (Bo sl t) v -> QK sl r -> QK sl ((t, v) :: r)
inductive Wn : BE -> BE -> Prop
 | same (o : BE) : Wn o o
 | box {a b : List LV} : PY src d a b -> Wn (.box a) (.box b)
inductive QL (h : AQ) : AQ -> Prop
 | nil : QL h []
 | cons (i : Nat) {o o' : BE} {r : AQ} (hne : Nat.beq i id = false) (hl : Ba i h = some o) : Wn src d o o' -> QL h r -> QL h ((i, o') :: r)
end
section
variable {A : BP} {nt : Nat} {sl sl' : List (Nat × LV)} {h h' : AQ} {c : Nat} {id : Nat} {src d : LV}
mutual
theorem Ua {O O' : Nat -> Prop} {μ μ' : Nat -> Option Bf} {w : World} (hμ : ∀ id l, μ id = some l -> μ' id = some l) (hO : ∀ b, b < w.heap.size -> O' b -> O b) (hd : ∀ v, Ag O μ w v src -> Ag O' μ' w v d) : ∀ {x y : LV}, PB src d x y -> ∀ v, Ag O μ w v x -> Ag O' μ' w v y
 | _, _, .same _, v, h => h.mono (Bd.refl _ _) hO hμ
 | _, _, .hit, v, h => hd v h
 | _, _, .nil z, v, h => by
  rw [h.nils_inv]
  exact .p _ _ (.snil z)
 | _, _, .agg (a := ls) (b := b) q, v, h => by
  cases h with
  | agg vs _ hsz hr =>
   obtain ⟨g1, g2⟩ := PC hμ hO hd q
   exact .agg vs _ (by omega) fun i v l hv hl => by
    have hi := (List.getElem?_eq_some_iff.1 hl).1
    obtain ⟨x, hx⟩ : ∃ x, ls[i]? = some x := ⟨ls[i]'(by omega), List.getElem?_eq_getElem _⟩
    exact g2 i x l hx hl v (hr i v x hv hx)
theorem PC {O O' : Nat -> Prop} {μ μ' : Nat -> Option Bf} {w : World} (hμ : ∀ id l, μ id = some l -> μ' id = some l) (hO : ∀ b, b < w.heap.size -> O' b -> O b) (hd : ∀ v, Ag O μ w v src -> Ag O' μ' w v d) : ∀ {a b : List LV}, PY src d a b -> a.length = b.length /\ ∀ (i : Nat) (x y : LV), a[i]? = some x -> b[i]? = some y -> ∀ v, Ag O μ w v x -> Ag O' μ' w v y
 | _, _, .nil => ⟨rfl, fun i x y h => by simp at h⟩
 | _, _, .cons q r => by
  obtain ⟨g1, g2⟩ := PC hμ hO hd r
  refine ⟨by simp [g1], fun i x y hx hy => ?_⟩
  cases i with
  | zero => simp at hx hy; subst hx hy; exact Ua hμ hO hd q
  | succ i => exact g2 i x y (by simpa using hx) (by simpa using hy)
end
theorem Sx : ∀ {sl' : List (Nat × LV)}, QK src d sl sl' -> ∀ t l, AF t sl' = some l -> PB src d (Bo sl t) l
 | _, .nil, t, l, h => by simp [AF] at h
 | _, .cons u q r, t, l, h => by
  simp only [AF] at h
  split at h
  .cases h; subst_vars; exact q
  exact Sx r t l h
theorem Sy : ∀ {h' : AQ}, QL id src d h h' -> ∀ i o', AF i h' = some o' -> i ≠ id /\ ∃ o, AF i h = some o /\ Wn src d o o'
 | _, .nil, i, o, h => by simp [AF] at h
 | _, .cons u hne hl q r, i, o, h => by
  simp only [AF] at h
  split at h
  .cases h; subst_vars
   rw [Bb] at hl
   exact ⟨fun e => by subst e; simp at hne, _, hl, q⟩
  exact Sy r i o h
theorem Sz (id : Nat) {d0 : DV} (hd : ∀ μ w (O' : Nat -> Prop), HRel A μ h (Fr c) w -> (∀ b, O' b -> Aj A μ (B1 [id] h) b) -> ∀ v, Ag (Aj A μ h) μ w v src -> A3 O' w v d0) (hs : QK src (.p d0) sl sl') (hh : QL id src (.p d0) h h') : BA A ⟨nt, sl, h, c⟩ ⟨nt, sl', h', c⟩ := fun a w ⟨⟨μ, hR, hr⟩, hnt, hdef⟩ => by
 have hlk := fun i o' => Sy hh i o'
 have hmine : ∀ b, CA μ h' b -> CA μ (B1 [id] h) b := by
  rintro b ⟨j, y, lc, h1, h2, h3, h4⟩
  obtain ⟨g1, o, g2, -⟩ := hlk j y h1
  refine ⟨j, o, lc, ?_, h2, h3, h4⟩
  show AF j (Eb id h) = some o
  rw [Dp g1]; exact g2
 have hown1 : ∀ b, Aj A μ h' b -> Aj A μ (B1 [id] h) b := fun b hb => hb.imp (fun h => h) (hmine b)
 have hown : ∀ b, Aj A μ h' b -> Aj A μ h b := fun b hb => IU b (hown1 b hb)
 have hp : ∀ v, Ag (Aj A μ h) μ w v src -> Ag (Aj A μ h') μ w v (.p d0) := fun v hv => .p _ _ (hd μ w _ hR hown1 v hv)
 refine ⟨⟨μ, ⟨?_, ?_, hR.fresh, ?_, hR.size, hR.block, hR.os, hR.tape, hR.output, hR.ext⟩, fun t ht => ?_⟩, hnt, hdef⟩
 .intro j o' hj
  obtain ⟨g1, o, g2, q⟩ := hlk j o' hj
  obtain ⟨lc, h1, h2⟩ := hR.obj j o g2
  refine ⟨lc, h1, ?_⟩
  cases q with
  | same _ => exact h2.mono (Bd.refl _ _) (fun b _ hb => hown b hb) (fun _ _ h => h) fun _ => rfl
  | box q =>
   obtain ⟨k1, cs, ty, k2, k3, k4⟩ := h2
   obtain ⟨q1, q2⟩ := PC (O' := Aj A μ h') (w := w) (fun _ _ h => h) (fun b _ hb => hown b hb) hp q
   refine ⟨k1, cs, ty, k2, by omega, fun i v l hv hl => ?_⟩
   have hi := (List.getElem?_eq_some_iff.1 hl).1
   rename_i a b
   have hx : a[i]? = some (a[i]'(by omega)) := List.getElem?_eq_getElem _
   exact q2 i _ l hx hl v (k4 i v _ hv hx)
 .intro j j' y y' lc lc' h1 h2 m1 m2 n1 n2 he
  obtain ⟨-, z, hz, -⟩ := hlk j y h1
  obtain ⟨-, z', hz', -⟩ := hlk j' y' h2
  exact hR.inj _ _ _ _ _ _ hz hz' m1 m2 n1 n2 he
 .intro j y lc h1 m1 n1
  obtain ⟨-, z, hz, -⟩ := hlk j y h1
  exact hR.base _ _ _ hz m1 n1
 show Ag _ _ _ _ (match AF t sl' with | some v => v | none => .any)
 cases hl : AF t sl' with
 | none => exact .any _
 | some l => exact Ua (fun _ _ h => h) (fun b _ hb => hown b hb) hp (Sx hs t l hl) _ (hr t ht)
theorem F5 (id : Nat) {d0 : DV} (hd : Fs h src = some d0 /\ JZ src = [id]) (hs : QK src (.p d0) sl sl') (hh : QL id src (.p d0) h h') : BA A ⟨nt, sl, h, c⟩ ⟨nt, sl', h', c⟩ :=
 Sz id (fun μ w O' hR hown v hv => (Lo hR (l := [id]) hv hd.1 (by rw [hd.2]; simp)).mono (Bd.refl _ _) fun b _ hb => hown b hb) hs hh
theorem Y3 {O : Nat -> Prop} {μ : Nat -> Option Bf} {w : World} {v : Value} {id sz off n : Nat} (h : Ag O μ w v (.lsl id sz off n)) : ∃ loc, μ id = some loc := by
 cases h with
 | lsln _ loc hm hn => exact ⟨loc, hm⟩
 | lsl _ _ _ cap a loc hm => exact ⟨loc, hm⟩
theorem Ez (hs : QK (.lsl c 0 0 0) (.p .nils) sl sl') (hh : QL c (.lsl c 0 0 0) (.p .nils) h h') : BA A ⟨nt, sl, h, c⟩ ⟨nt, sl', h', c⟩ :=
 Sz c (fun μ w O' hR hown v hv => by
  have hno := hR.fresh c (Nat.le_refl _)
  obtain ⟨loc, hm⟩ := Y3 hv
  rw [hno] at hm; cases hm) hs hh
theorem I7 {α : Type} {enc : α -> List DV} {l : List α} {e : Nat} {sz : Nat} (hl : Ba id h = some (.row e sz (l.map enc))) : Fs h (.lsl id sz 0 l.length) = some (.slice sz (l.map enc)) /\ JZ (.lsl id sz 0 l.length) = [id] := by
 refine ⟨?_, rfl⟩
 rw [Bb] at hl
 simp only [Fs, hl, Nat.zero_add, List.length_map, Nat.le_refl, and_self, if_true, List.drop_zero]
 rw [List.take_of_length_le (by simp)]
end
section
variable {P : Program} {A : BP} {AB : A9}
theorem DQ.ownF {h : AQ} {ctr k : Nat} {args : List LV} {ds : List DV} {e sz : Nat} {elems : List (List DV)} {K : LV -> AQ -> Nat -> Prop} (hds : Bz h args = some ds) (hf : FV P k ds e sz elems)
  (hfl : ∀ x ∈ elems, ∀ d ∈ x, d.flat = true) (hK : K (.lsl ctr sz 0 elems.length) ((ctr, .row e sz elems) :: h) (ctr + 1)) : DQ P A h ctr k args K := by
 refine ⟨hf.enters, fun μ w vs hh hsz hr => ?_⟩
 obtain ⟨g1, g2⟩ := FC hh (l := args.flatMap (D8 h)) hds (fun id hid => hid)
 generalize args.flatMap (D8 h) = dl at g2
 have hO : ∀ b, Aj A μ (B1 dl h) b -> b < w.heap.size := by
  intro b hb
  rcases IU b hb with hb | ⟨id, x, lc, h1, h2, h3, rfl⟩
  .exact Nat.lt_of_lt_of_le (A.hO b hb).1 hh.size
  exact (hh.base id x lc h1 h2 h3).1
 refine (hf.run (Aj A μ (B1 dl h)) w vs hO (by omega) fun i v d hv hd => ?_).mono fun en w' ⟨v, he, hn, hb⟩ => ?_
 .have hi := (List.getElem?_eq_some_iff.1 hd).1
  have hx : args[i]? = some (args[i]'(by omega)) := List.getElem?_eq_getElem _
  exact g2 i v _ d hx hd (hr i v _ hv hx)
 have hno : μ ctr = none := hh.fresh ctr (Nat.le_refl _)
 obtain ⟨hlen, hn⟩ := hn
 have hkm : Bd (CA μ h) w w' := ⟨hb.size, fun b hb' _ => hb.block b hb'⟩
 have hsub : ∀ id x, AF id ((ctr, BE.row e sz elems) :: h) = some x -> (id = ctr /\ x = .row e sz elems) \/ AF id h = some x := by
  intro id x hx
  simp only [AF] at hx
  split at hx
  .cases hx; exact .inl ⟨‹_›, rfl⟩
  exact .inr hx
 have hold : ∀ id x lc, AF id ((ctr, BE.row e sz elems) :: h) = some x -> id ≠ ctr -> μ id = some lc -> lc.nil = false -> w'.heap[lc.b]? = w.heap[lc.b]? := by
  intro id x lc hx hne hm hnl
  rcases hsub id x hx with ⟨rfl, _⟩ | hx
  .exact absurd rfl hne
  exact hb.block _ (hh.base id x lc hx hm hnl).1
 have fin : ∀ (loc : Bf), (loc.nil = false -> loc.b < w'.heap.size /\ w.heap.size <= loc.b) ->
   (∀ O' : Nat -> Prop, ED O' (B5 μ ctr loc) w' loc (.row e sz elems)) ->
   (∀ O', Ag O' (B5 μ ctr loc) w' v (.lsl ctr sz 0 elems.length)) ->
   ∃ u l h' c' μ', en = .returned u /\ K l h' c' /\ HRel A μ' h' (Fr c') w' /\ Ag (Aj A μ' h') μ' w' u l /\ ∀ v x, Ag (Aj A μ h) μ w v x -> Ag (Aj A μ' h') μ' w' v x := by
  intro loc hloc ho hu
  have hfr : Ln μ h ((ctr, BE.row e sz elems) :: h) w loc := fun hn => .inl (hloc hn).2
  have hown := hh.sub_add loc (.row e sz elems) ((ctr, .row e sz elems) :: h) hfr hsub
  have hadd := hh.add (w' := w') hno loc (.row e sz elems) ((ctr, .row e sz elems) :: h) (fun hn => (hloc hn).1) hfr hsub hkm hold hb.os hb.tape hb.output (ho _)
  exact ⟨v, _, _, _, _, he, hK, hadd.less (fun id hid => by simp only [Fr] at hid ⊢; omega), hu _, fun v x hv => hv.mono hkm.own hown (Iw hno loc)⟩
 rcases hn with ⟨rfl, rfl⟩ | ⟨a, b, o, cap, c, rfl, h1, h2, h3, h4, h5, h6, h7, h8, h9, h10⟩
 .exact fin ⟨true, 0, 0, sz, 0⟩ (fun hn => by cases hn) (fun O' => ⟨rfl, hlen, .inl ⟨rfl, rfl⟩⟩) (fun O' => .lsln ctr ⟨true, 0, 0, sz, 0⟩ (by simp [B5]) rfl)
 refine fin ⟨false, b, o, sz, cap⟩ (fun _ => ⟨h2, h1⟩) (fun O' => ⟨rfl, hlen, .inr ⟨rfl, c, h6, h7, h8, h9, fun i j x d u hx hd hu => ?_⟩⟩) (fun O' => ?_)
 .exact (h10 i j x d u hx hd hu).flat (hfl x (List.mem_of_getElem? hx) d (List.mem_of_getElem? hd)) _ _
 exact .lsl ctr 0 elems.length cap a ⟨false, b, o, sz, cap⟩ (by simp [B5]) rfl (by simp) h8 (fun hc => by rw [h3 hc]; simp) h4 h5
end
section
variable {P : Program} {A : BP} {AB : A9} {α : Type} {enc : α -> List DV} {nt : Nat} {sl : List (Nat × LV)} {h : AQ} {c d : Nat} {f : St -> Prop} {hf : Ik f}
theorem UC {fo : Operand} {args : Array Operand} {ts : Array TypeId} {k e sz : Nat} {caps ls : List LV} {ds : List DV} {r : List α} (hF : FV P k ds e sz (r.map enc)) (hfl : ∀ x : α, (enc x).all (·.flat) = true)
  (hfn : BL nt sl fo = .fn k caps) (hl : Dl nt sl args.toList some = some ls) (hds : Bz h (ls ++ caps) = some ds)
  (kk : f ⟨nt, (d, .lsl c sz 0 r.length) :: sl, (c, .row e sz (r.map enc)) :: h, c + 1⟩) : BQ P A AB ⟨nt, sl, h, c⟩ (some d) (.call ⟨.value fo, args, ts⟩) ⟨f, hf⟩ := by
 rw [BN (h := h) (c := c)] at hfn
 show Mj _ _
 rw [hfn]
 show Iz P A h c k (args.toList.map _ ++ caps) _
 rw [Ep hl]
 refine DQ.ownF hds hF (fun x hx d hd => ?_) ?_
 .obtain ⟨a, _, rfl⟩ := List.mem_map.1 hx
  exact List.all_eq_true.1 (hfl a) d hd
 rw [List.length_map]
 exact kk
end
noncomputable def Ot {α β : Type} (F : (α -> Option β) -> α -> Option β) (n : Nat) : α -> Option β := Nat.rec (fun _ => none) (fun _ ih => F ih) n
theorem recF_holds {α β : Type} {F : (α -> Option β) -> α -> Option β} {C : α -> β -> Prop} (h : ∀ rec : α -> Option β, (∀ a r, rec a = some r -> C a r) -> ∀ a r, F rec a = some r -> C a r) : ∀ n a r, Ot F n a = some r -> C a r
 | 0, a, r, e => by cases e
 | n + 1, a, r, e => h (Ot F n) (recF_holds h n) a r e
end Go.E
/- Drawn regions of which the orders do not all come to one by waiting: a tree of orders. No condition. -/
namespace Go.E
open Go Go.RowKit
inductive IT where
 | done
 | nil
 | picks (l : List Nat) (t : IT)
 | alt (i : Nat) (l : List Nat) (t r : IT)
def Ll (listed : Array Bool) : List Nat -> Array Bool
 | [] => listed
 | i :: l => Ll (listed.setIfInBounds i true) l
def Iv (q w : Bool) (md : Region.Mode) (ops : Array Oper) : List Nat -> Array Bool -> Bool
 | [], _ => true
 | i :: rest, listed => (match ops[i]? with
  | none => false
  | some oi => (Region.ready md ops listed == [i]) || ((Region.ready md ops listed).contains i && PI q w md ops listed i oi (NA md ops listed i))) &&
  Iv q w md ops rest (listed.setIfInBounds i true)
def IT.heads : IT -> List Nat
 | .alt i _ _ r => i :: r.heads
 | _ => []
def Ku (q w : Bool) (md : Region.Mode) (ops : Array Oper) : IT -> Bool -> Array Bool -> Nat -> Bool
 | .done, b, listed, n => !b && (Region.ready md ops listed).isEmpty && n == 0
 | .nil, b, _, _ => b
 | .picks l t, b, listed, n => !b && Iv q w md ops l listed && decide (l.length <= n) && Ku q w md ops t false (Ll listed l) (n - l.length)
 | .alt i l t r, b, listed, n => (b || decide (0 < n) && !(Region.ready md ops listed).isEmpty && (Region.ready md ops listed).all fun j => (i :: r.heads).contains j) &&
   (decide (i < ops.size) && Iv q w md ops l (listed.setIfInBounds i true) && decide (l.length <= (bif b then n else n - 1)) &&
    Ku q w md ops t false (Ll (listed.setIfInBounds i true) l) ((bif b then n else n - 1) - l.length) && Ku q w md ops r true listed (bif b then n else n - 1))
section
variable (P : Program) (A : BP) (AB : A9) (base n : Nat) (K : St -> Prop) (ops : List Oper)
def M0 : IT -> St -> Prop
 | .done, st => K st
 | .nil, _ => True
 | .picks l t, st => DW P A AB base n ⟨M0 t, ⟨⟩⟩ (FP ops l) st
 | .alt i l t r, st => DW P A AB base n ⟨M0 t, ⟨⟩⟩ (FP ops (i :: l)) st /\ M0 r st
end
section
variable {P : Program} {A : BP} {AB : A9} {md : Region.Mode} {base : Nat} {K : St -> Prop}
theorem NV {ops : List Oper} {n : Nat} {l : List Nat} {t : IT} {st : St} (k : DW P A AB base n ⟨M0 P A AB base n K ops t, ⟨⟩⟩ (FP ops l) st) : M0 P A AB base n K ops (.picks l t) st := k
theorem Ax {ops : List Oper} {n : Nat} {i : Nat} {l : List Nat} {t r : IT} {st : St} (k : DW P A AB base n ⟨M0 P A AB base n K ops t, ⟨⟩⟩ (FP ops (i :: l)) st) (k' : M0 P A AB base n K ops r st) : M0 P A AB base n K ops (.alt i l t r) st := ⟨k, k'⟩
theorem BT {ops : List Oper} {n c c' nt : Nat} {sl : List (Nat × LV)} {h : AQ} {S : St} (k : BA A ⟨nt, sl, h, c + n⟩ S) : M0 P A AB c n (fun st => BA A { st with ctr := c + n } S) ops .done ⟨nt, sl, h, c'⟩ := k
theorem Bq {ops : List Oper} {n : Nat} {st : St} : M0 P A AB base n K ops .nil st := trivial
theorem QO {q w : Bool} {ops : Array Oper} : ∀ {l : List Nat} {listed : Array Bool}, Iv q w md ops l listed = true -> ∀ i ∈ l, i < ops.size
 | [], _, _, i, hi => by simp at hi
 | j :: l, listed, h, i, hi => by
  simp only [Iv, Bool.and_eq_true] at h
  rcases List.mem_cons.1 hi with rfl | hi
  .cases ho : ops[i]? with
   | none => rw [ho] at h; simp at h
   | some o => exact (Array.getElem?_eq_some_iff.1 ho).1
  exact QO h.2 i hi
theorem N0 (q : Bool) (hq : q = true -> ∃ b, AB.calm = some b) {ops : Array Oper} {T Q : St -> Prop} (fuel : Nat) : ∀ (l : List Nat) (listed : Array Bool) (st : St), Iv q AB.own md ops l listed = true -> (∀ k, listed.getD k true = false -> AF (base + k) st.heap = none) ->
  (∀ st', (∀ k, (Ll listed l).getD k true = false -> AF (base + k) st'.heap = none) -> T st' -> IV P AB md ops base Q fuel (Ll listed l) st') ->
  Gp P AB ops base T l st -> IV P AB md ops base Q (l.length + fuel) listed st
 | [], listed, st, _, hfresh, hT, h => by
  rw [List.length_nil, Nat.zero_add]
  exact hT st hfresh h
 | i :: rest, listed, st, hok, hfresh, hT, h => by
  obtain ⟨o, l, e, ho, hd, hrest⟩ := NB h
  simp only [Iv, ho, Bool.and_eq_true, Bool.or_eq_true] at hok
  have hrec : IV P AB md ops base Q (rest.length + fuel) (listed.setIfInBounds i true) (apS st (base + i) o l e) := by
   refine N0 q hq fuel rest _ _ hok.2 (fun k hk => ?_) hT hrest
   have hik : i ≠ k := by
    rintro rfl
    rcases Nat.lt_or_ge i listed.size with h' | h'
    .simp [h'] at hk
    simp [Array.getElem?_eq_none h'] at hk
   rw [Br]
   exact Lp hd (by simp only [St.at]; omega) (hfresh k (by rw [getD_set_ne true hik] at hk; exact hk))
  rw [show (i :: rest).length + fuel = rest.length + fuel + 1 by simp; omega]
  rcases hok.1 with h1 | h1
  .have hr : Region.ready md ops listed = [i] := by simpa using h1
   refine ⟨fun h0 => (by rw [hr] at h0; cases h0), fun j hj => ?_⟩
   rw [hr] at hj
   simp at hj
   subst hj
   exact ⟨o, l, e, ho, hd, hrec⟩
  obtain ⟨h1, h2⟩ := h1
  simp only [PI, Bool.and_eq_true, List.all_eq_true, List.mem_range] at h2
  obtain ⟨h2, h3⟩ := h2
  generalize hBe : NA md ops listed i = B at h2 h3
  refine QY q hq ho (fun j => B.contains j) (fun j hj => ?_) (rest.length + fuel) listed st (fun j hj => ?_) (fun j oj hoj hji hun hBj => ?_) hfresh (by simpa using h1) hd hrec
  .have := h2 j (by simpa using hj)
   obtain ⟨⟨a1, a2⟩, a3⟩ := this
   refine ⟨by simpa using a1, fun oj hoj => ?_⟩
   rw [hoj] at a3
   obtain ⟨x, hx, hx2⟩ := Array.any_eq_true'.1 a3
   simp only [Bool.and_eq_true, Bool.or_eq_true, beq_iff_eq] at hx2
   exact ⟨x, hx, hx2.1, hx2.2⟩
  .have := (h2 j (by simpa using hj)).1.2
   simpa using this
  have := h3 j (Array.getElem?_eq_some_iff.1 hoj).1
  simp only [Bool.or_eq_true, beq_iff_eq, hji, false_or, hun, Bool.false_eq_true] at this
  rw [hBj] at this
  simp only [Bool.false_eq_true, false_or, hoj, Bool.and_eq_true] at this
  refine ⟨this.1, this.2.1, fun ho => ?_⟩
  have := this.2.2
  rw [ho] at this; simpa using this
theorem Kb (q : Bool) (hq : q = true -> ∃ b, AB.calm = some b) {ops : List Oper} : ∀ (T : IT) (listed : Array Bool) (st : St) (n : Nat), (∀ k, listed.getD k true = false -> AF (base + k) st.heap = none) -> M0 P A AB base ops.length K ops T st ->
  (Ku q AB.own md ops.toArray T false listed n = true -> IV P AB md ops.toArray base K n listed st) /\
  (Ku q AB.own md ops.toArray T true listed n = true -> ∀ i ∈ T.heads, ∃ o l e, ops.toArray[i]? = some o /\ DH P AB ops.toArray (st.at (base + i)) o l e /\ IV P AB md ops.toArray base K n (listed.setIfInBounds i true) (apS st (base + i) o l e))
 | .done, listed, st, n, hfresh, h => by
  refine ⟨fun hok => ?_, fun hok => by simp [Ku] at hok⟩
  simp only [Ku, Bool.not_false, Bool.true_and, Bool.and_eq_true, beq_iff_eq, List.isEmpty_iff] at hok
  obtain ⟨h1, rfl⟩ := hok
  exact ⟨h1, st, GP.refl st, h⟩
 | .nil, listed, st, n, hfresh, h => ⟨fun hok => by simp [Ku] at hok, fun _ i hi => by simp [IT.heads] at hi⟩
 | .picks l t, listed, st, n, hfresh, h => by
  refine ⟨fun hok => ?_, fun hok => by simp [Ku] at hok⟩
  simp only [Ku, Bool.not_false, Bool.true_and, Bool.and_eq_true, decide_eq_true_eq] at hok
  obtain ⟨⟨h1, h2⟩, h3⟩ := hok
  have hb : (l.all fun i => decide (i < ops.length)) = true := List.all_eq_true.2 fun i hi => by simpa using QO h1 i hi
  have := N0 q hq (md := md) (Q := K) (n - l.length) l listed st h1 hfresh (fun st' hf' hT => ?_) (G9 l st hb h)
  .rwa [show l.length + (n - l.length) = n by omega] at this
  refine M9 _ _ { st' with ctr := base + ops.length } _ ⟨rfl, fun _ => rfl, fun _ => rfl⟩ ?_
  exact (Kb q hq t (Ll listed l) { st' with ctr := base + ops.length } (n - l.length) hf' hT).1 h3
 | .alt i l t r, listed, st, n, hfresh, ⟨h, h'⟩ => by
  have key : ∀ m, (decide (i < ops.toArray.size) && Iv q AB.own md ops.toArray l (listed.setIfInBounds i true) && decide (l.length <= m) && Ku q AB.own md ops.toArray t false (Ll (listed.setIfInBounds i true) l) (m - l.length) && Ku q AB.own md ops.toArray r true listed m) = true ->
    ∀ j ∈ i :: r.heads, ∃ o l e, ops.toArray[j]? = some o /\ DH P AB ops.toArray (st.at (base + j)) o l e /\ IV P AB md ops.toArray base K m (listed.setIfInBounds j true) (apS st (base + j) o l e) := by
   intro m hok j hj
   simp only [Bool.and_eq_true, decide_eq_true_eq] at hok
   obtain ⟨⟨⟨⟨h0, h1⟩, h2⟩, h3⟩, h4⟩ := hok
   rcases List.mem_cons.1 hj with rfl | hj
   .have hb : ((j :: l).all fun i => decide (i < ops.length)) = true := List.all_eq_true.2 fun i hi => by
     rcases List.mem_cons.1 hi with rfl | hi
     .simpa using h0
     simpa using QO h1 i hi
    obtain ⟨o, lv, e, ho, hd, hrest⟩ := NB (G9 (j :: l) st hb h)
    refine ⟨o, lv, e, ho, hd, ?_⟩
    have := N0 q hq (md := md) (Q := K) (m - l.length) l (listed.setIfInBounds j true) (apS st (base + j) o lv e) h1 (fun k hk => ?_) (fun st' hf' hT => ?_) hrest
    .rwa [show l.length + (m - l.length) = m by omega] at this
    .have hik : j ≠ k := by
      rintro rfl
      rcases Nat.lt_or_ge j listed.size with h' | h'
      .simp [h'] at hk
      simp [Array.getElem?_eq_none h'] at hk
     rw [Br]
     exact Lp hd (by simp only [St.at]; omega) (hfresh k (by rw [getD_set_ne true hik] at hk; exact hk))
    refine M9 _ _ { st' with ctr := base + ops.length } _ ⟨rfl, fun _ => rfl, fun _ => rfl⟩ ?_
    exact (Kb q hq t _ { st' with ctr := base + ops.length } (m - l.length) hf' hT).1 h3
   exact (Kb q hq r listed st m hfresh h').2 h4 j hj
  refine ⟨fun hok => ?_, fun hok => ?_⟩
  .rw [Ku, Bool.false_or] at hok
   obtain ⟨h1, h2⟩ := Bool.and_eq_true_iff.1 hok
   simp only [Bool.and_eq_true, decide_eq_true_eq, Bool.not_eq_true', List.all_eq_true] at h1
   obtain ⟨⟨h3, h4⟩, h5⟩ := h1
   obtain ⟨m, rfl⟩ : ∃ m, n = m + 1 := ⟨n - 1, by omega⟩
   refine ⟨fun h0 => by rw [h0] at h4; simp at h4, fun j hj => ?_⟩
   exact key m (by simpa using h2) j (by simpa using h5 j hj)
  simp only [Ku, Bool.true_or, Bool.true_and, cond_true] at hok
  exact key n hok
theorem T7 (hE : BB P AB) (hm : P.follows .mixedOrders = true) {id : Nat} {ops : List Oper} {Q : Exit -> St -> Prop} {nt : Nat} {sl : List (Nat × LV)} {h : AQ} {c : Nat} (T : IT) (n : Nat) (S : St)
  (hok : Ku false AB.own .any ops.toArray T false (Array.replicate ops.length false) ops.length = true) (hn : Nat.beq ops.length n = true)
  (k : M0 P A AB c n (fun st => BA A { st with ctr := c + n } S) ops T ⟨nt, sl, h, c⟩) (kk : Q .normal S) : CD P A (.region id ops.toArray true) Q ⟨nt, sl, h, c⟩ := fun a w hR => by
 have hn' := Nat.eq_of_beq_eq_true hn
 subst hn'
 refine wp_region_any hm ?_
 have hR' := (hR.drawn (w.drawn + 1)).toRF
 have hfr : ∀ k, AF (c + k) h = none := by
  intro k
  cases hx : AF (c + k) h with
  | none => rfl
  | some o =>
   obtain ⟨⟨μ, hh, _⟩, _, _⟩ := hR
   obtain ⟨loc, h1, _⟩ := hh.obj _ _ hx
   rw [hh.fresh _ (by simp [Fr])] at h1; cases h1
 have hD := (Kb false (fun h => by cases h) (md := .any) T (Array.replicate ops.length false) ⟨nt, sl, h, c⟩ ops.length (fun k _ => hfr k) k).1 hok
 rw [show ops.toArray.size = ops.length by simp]
 refine IE (A := A) (n := ops.length) hE (by simp) (fun st' a' w' listed hk hR'' => ?_) ops.length _ ⟨nt, sl, h, c⟩ a _ (by simp) hD ?_
 .refine ⟨S, ?_, kk⟩
  obtain ⟨⟨μ, x1, x2⟩, x3, x4⟩ := hR''
  exact hk a' w' ⟨⟨μ, x1.less fun id hid => .inl hid, x2⟩, x3, x4⟩
 obtain ⟨⟨μ, x1, x2⟩, x3, x4⟩ := hR'
 refine ⟨⟨μ, x1.less fun id hid => ?_, x2⟩, x3, x4⟩
 rcases hid with hid | ⟨k, _, _, rfl⟩
 .simp only [Fr]; omega
 simp [Fr]
theorem ZG (hE : BB P AB) (hm : P.follows .mixedOrders = true) {id : Nat} {ops : List Oper} {Q : Exit -> St -> Prop} {nt : Nat} {sl : List (Nat × LV)} {h : AQ} {c : Nat} (T : IT) (n : Nat) (S : St)
  (hq : AB.calm.isSome = true) (hok : Ku true AB.own .any ops.toArray T false (Array.replicate ops.length false) ops.length = true) (hn : Nat.beq ops.length n = true)
  (k : M0 P A AB c n (fun st => BA A { st with ctr := c + n } S) ops T ⟨nt, sl, h, c⟩) (kk : Q .normal S) : CD P A (.region id ops.toArray true) Q ⟨nt, sl, h, c⟩ := fun a w hR => by
 have hn' := Nat.eq_of_beq_eq_true hn
 subst hn'
 refine wp_region_any hm ?_
 have hR' := (hR.drawn (w.drawn + 1)).toRF
 have hfr : ∀ k, AF (c + k) h = none := by
  intro k
  cases hx : AF (c + k) h with
  | none => rfl
  | some o =>
   obtain ⟨⟨μ, hh, _⟩, _, _⟩ := hR
   obtain ⟨loc, h1, _⟩ := hh.obj _ _ hx
   rw [hh.fresh _ (by simp [Fr])] at h1; cases h1
 have hD := (Kb true (fun _ => Option.isSome_iff_exists.1 hq) (md := .any) T (Array.replicate ops.length false) ⟨nt, sl, h, c⟩ ops.length (fun k _ => hfr k) k).1 hok
 rw [show ops.toArray.size = ops.length by simp]
 refine IE (A := A) (n := ops.length) hE (by simp) (fun st' a' w' listed hk hR'' => ?_) ops.length _ ⟨nt, sl, h, c⟩ a _ (by simp) hD ?_
 .refine ⟨S, ?_, kk⟩
  obtain ⟨⟨μ, x1, x2⟩, x3, x4⟩ := hR''
  exact hk a' w' ⟨⟨μ, x1.less fun id hid => .inl hid, x2⟩, x3, x4⟩
 obtain ⟨⟨μ, x1, x2⟩, x3, x4⟩ := hR'
 refine ⟨⟨μ, x1.less fun id hid => ?_, x2⟩, x3, x4⟩
 rcases hid with hid | ⟨k, _, _, rfl⟩
 .simp only [Fr]; omega
 simp [Fr]
end
end Go.E
/- Aj objects handed to a function that turns them: its contract (DQ of the objects alone), and its use among other objects (VV, DD). No condition. -/
namespace Go.E
open Go Go.RowKit
def KU (ρ : Nat -> Nat) : LV -> LV
 | .lsl id sz off len => .lsl (ρ id) sz off len
 | .lpb id off => .lpb (ρ id) off
 | .lpe id i off => .lpe (ρ id) i off
 | .lmap id => .lmap (ρ id)
 | x => x
def miV : LV -> Option Nat
 | .lsl id _ _ _ => some id
 | .lpb id _ => some id
 | .lpe id _ _ => some id
 | .lmap id => some id
 | _ => none
def mfV : LV -> Bool
 | .p _ => true
 | .lsl _ _ _ _ => true
 | .lpb _ _ => true
 | .lpe _ _ _ => true
 | .lmap _ => true
 | .und => true
 | .any => true
 | _ => false
def Mu (ρ : Nat -> Nat) : BE -> BE
 | .box cs => .box (cs.map (KU ρ))
 | o => o
def Kt (gl : List (Nat × Nat)) (m : Nat) (l : LV) : Bool := mfV l && (match miV l with
 | none => true
 | some i => Nat.ble m i || (AF i gl).isSome)
def UF (gl : List (Nat × Nat)) (m : Nat) : BE -> Bool
 | .box cs => cs.all (Kt gl m)
 | _ => true
def mrA (ρ : Nat -> Nat) : LV -> LV
 | .agg l => .agg (l.map (KU ρ))
 | l => KU ρ l
def moA (gl : List (Nat × Nat)) (m : Nat) : LV -> Bool
 | .agg l => l.all (Kt gl m)
 | l => Kt gl m l
def Ox (ρ : Nat -> Nat) : LV -> LV
 | .tup l => .tup (l.map (mrA ρ))
 | l => mrA ρ l
def SZ (gl : List (Nat × Nat)) (m : Nat) : LV -> Bool
 | .tup l => l.all (moA gl m)
 | l => moA gl m l
def EB (ρ : Nat -> Nat) : AQ -> AQ
 | [] => []
 | (i, o) :: h => (ρ i, Mu ρ o) :: EB ρ h
def Cg (gl : List (Nat × Nat)) (nw : Nat -> Nat) (i : Nat) : Nat := match AF i gl with
 | some j => j
 | none => nw i
def E9 (gl : List (Nat × Nat)) (m c i : Nat) : Nat := Cg gl (fun i => c + (i - m)) i
def Sa (m s c i : Nat) : Nat := if i = m then s else c + (i - m)
def Ko (gl : List (Nat × Nat)) (m s c i : Nat) : Nat := Cg gl (Sa m s c) i
def IB (ρ : Nat -> Nat) (h : AQ) : AQ -> Prop
 | [] => True
 | (i, o) :: r => AF (ρ i) h = some (Mu ρ o) /\ IB ρ h r
def Nf (gl : List (Nat × Nat)) (m m1 : Nat) (H H1 : AQ) : Bool :=
 Nat.ble m m1 && H.all (fun p => Nat.ble (p.1 + 1) m && (AF p.1 gl).isSome && UF gl m p.2) && gl.all (fun p => (AF p.1 H).isSome && gl.all fun q => p.1 == q.1 || p.2 != q.2) && H1.all (fun p => (Nat.ble m p.1 || (AF p.1 gl).isSome) && UF gl m p.2)
theorem DP {α : Type} {i : Nat} {o : α} : ∀ {l : List (Nat × α)}, AF i l = some o -> (i, o) ∈ l
 | [], h => by simp [AF] at h
 | (k, v) :: l, h => by
  unfold AF at h
  split at h
  .rename_i e; cases h; subst e; simp
  exact List.mem_cons_of_mem _ (DP h)
theorem Pl {ρ : Nat -> Nat} {h : AQ} {i : Nat} {o : BE} : ∀ {H : AQ}, IB ρ h H -> AF i H = some o -> AF (ρ i) h = some (Mu ρ o)
 | [], _, hl => by simp [AF] at hl
 | (k, v) :: H, hk, hl => by
  unfold AF at hl
  split at hl
  .rename_i e; cases hl; subst e; exact hk.1
  exact Pl hk.2 hl
theorem Ng {ρ : Nat -> Nat} {id : Nat} {o : BE} : ∀ {H : AQ}, AF id (EB ρ H) = some o -> ∃ i o1, AF i H = some o1 /\ ρ i = id /\ o = Mu ρ o1
 | [], h => by simp [EB, AF] at h
 | (k, v) :: H, h => by
  unfold EB AF at h
  split at h
  .rename_i e; cases h; exact ⟨k, v, by simp [AF], e.symm, rfl⟩
  rename_i e
  obtain ⟨i, o1, h1, h2, h3⟩ := Ng h
  refine ⟨i, o1, ?_, h2, h3⟩
  unfold AF
  rw [if_neg (fun e2 => e (by rw [<- h2, e2]))]
  exact h1
theorem UG {α : Type} {id : Nat} {o : α} : ∀ {a b : List (Nat × α)}, AF id (a ++ b) = some o -> AF id a = some o \/ AF id b = some o
 | [], b, h => .inr h
 | (k, v) :: a, b, h => by
  rw [List.cons_append] at h
  have e1 : ∀ l : List (Nat × α), AF id ((k, v) :: l) = if id = k then some v else AF id l := fun _ => rfl
  rw [e1] at h
  by_cases e : id = k
  .rw [if_pos e] at h; rw [e1, if_pos e]; exact .inl h
  rw [if_neg e] at h; rw [e1, if_neg e]; exact UG h
section
variable {O : Nat -> Prop} {μ μ' : Nat -> Option Bf} {w : World} {ρ : Nat -> Nat}
theorem VW {v : Value} {l : LV} (hf : mfV l = true) (hμ : ∀ i loc, miV l = some i -> μ (ρ i) = some loc -> μ' i = some loc) (h : Ag O μ w v (KU ρ l)) : Ag O μ' w v l := by
 cases l with
 | p d => cases h with | p _ _ h => exact .p _ _ h
 | lsl id sz off len =>
  cases h with
  | lsln _ loc hm hn => exact .lsln id loc (hμ _ _ rfl hm) hn
  | lsl _ _ _ cap a loc hm hn hcap hl ha hb hs => exact .lsl id off len cap a loc (hμ _ _ rfl hm) hn hcap hl ha hb hs
 | lpb id off => cases h with | lpb _ _ loc hm hn => exact .lpb id off loc (hμ _ _ rfl hm) hn
 | lpe id i off => cases h with | lpe _ _ _ loc hm hn => exact .lpe id i off loc (hμ _ _ rfl hm) hn
 | lmap id => cases h with | lmap _ loc hm hn => exact .lmap id loc (hμ _ _ rfl hm) hn
 | und => cases h; exact .und
 | any => exact .any v
 | agg l => cases hf
 | tup l => cases hf
 | fn f l => cases hf
theorem UH {v : Value} {l : LV} (hf : mfV l = true) (hμ : ∀ i loc, miV l = some i -> μ' i = some loc -> μ (ρ i) = some loc) (h : Ag O μ' w v l) : Ag O μ w v (KU ρ l) := by
 cases l with
 | p d => cases h with | p _ _ h => exact .p _ _ h
 | lsl id sz off len =>
  cases h with
  | lsln _ loc hm hn => exact .lsln _ loc (hμ _ _ rfl hm) hn
  | lsl _ _ _ cap a loc hm hn hcap hl ha hb hs => exact .lsl _ off len cap a loc (hμ _ _ rfl hm) hn hcap hl ha hb hs
 | lpb id off => cases h with | lpb _ _ loc hm hn => exact .lpb _ off loc (hμ _ _ rfl hm) hn
 | lpe id i off => cases h with | lpe _ _ _ loc hm hn => exact .lpe _ i off loc (hμ _ _ rfl hm) hn
 | lmap id => cases h with | lmap _ loc hm hn => exact .lmap _ loc (hμ _ _ rfl hm) hn
 | und => cases h; exact .und
 | any => exact .any v
 | agg l => cases hf
 | tup l => cases hf
 | fn f l => cases hf
theorem Zx {gl : List (Nat × Nat)} {m : Nat} {loc : Bf} {o : BE} (hf : UF gl m o = true) (hμ : ∀ i lc, (m <= i \/ ∃ j, AF i gl = some j) -> μ (ρ i) = some lc -> μ' i = some lc) (h : ED O μ w loc (Mu ρ o)) : ED O μ' w loc o := by
 cases o with
 | row e sz el => exact h
 | map mp => exact h
 | iter cur left => exact h
 | box cs =>
  obtain ⟨hn, c, t, h1, h2, h3⟩ := h
  refine ⟨hn, c, t, h1, by simpa using h2, fun i v l hv hl => ?_⟩
  have hok := List.all_eq_true.1 hf l (List.mem_of_getElem? hl)
  simp only [Kt, Bool.and_eq_true] at hok
  refine VW hok.1 (fun j lc hj hm => hμ j lc ?_ hm) (h3 i v _ hv (by rw [List.getElem?_map, hl]; rfl))
  have h4 := hok.2
  rw [hj] at h4
  simp only [Bool.or_eq_true, Nat.ble_eq] at h4
  exact h4.imp (fun x => x) fun h5 => Option.isSome_iff_exists.1 h5
theorem YW {gl : List (Nat × Nat)} {m : Nat} {loc : Bf} {o : BE} (hf : UF gl m o = true) (hμ : ∀ i lc, (m <= i \/ ∃ j, AF i gl = some j) -> μ' i = some lc -> μ (ρ i) = some lc) (h : ED O μ' w loc o) : ED O μ w loc (Mu ρ o) := by
 cases o with
 | row e sz el => exact h
 | map mp => exact h
 | iter cur left => exact h
 | box cs =>
  obtain ⟨hn, c, t, h1, h2, h3⟩ := h
  refine ⟨hn, c, t, h1, by simpa using h2, fun i v l hv hl => ?_⟩
  rw [List.getElem?_map] at hl
  cases hc : cs[i]? with
  | none => rw [hc] at hl; cases hl
  | some x =>
   rw [hc] at hl
   cases hl
   have hok := List.all_eq_true.1 hf x (List.mem_of_getElem? hc)
   simp only [Kt, Bool.and_eq_true] at hok
   refine UH hok.1 (fun j lc hj hm => hμ j lc ?_ hm) (h3 i v x hv hc)
   have h4 := hok.2
   rw [hj] at h4
   simp only [Bool.or_eq_true, Nat.ble_eq] at h4
   exact h4.imp (fun x => x) fun h5 => Option.isSome_iff_exists.1 h5
end
section
variable {P : Program}
theorem VX {k : Nat} {H H1 : AQ} {m m1 : Nat} {ls : List LV} {L : LV} (hM : ∀ A : BP, (∀ id, A.μ0 id ≠ none -> id < m) -> DQ P A H m k ls (fun l h c => l = L /\ h = H1 /\ c = m1))
  (gl : List (Nat × Nat)) (nw : Nat -> Nat) {A : BP} {h : AQ} {F : Nat -> Prop} (hF : ∀ i, m <= i -> F (nw i)) (hinj : ∀ i i', m <= i -> m <= i' -> nw i = nw i' -> i = i') (hB : Nf gl m m1 H H1 = true) (hobj : IB (Cg gl nw) h H) (hls : ls.all (Kt gl m) = true) (hL : SZ gl m L = true)
  {μ : Nat -> Option Bf} {w : World} {vs : Array Value} (hh : HRel A μ h F w) (hsz : vs.size = ls.length) (hr : ∀ (i : Nat) (v : Value) (x : LV), vs[i]? = some v -> (ls.map (KU (Cg gl nw)))[i]? = some x -> Ag (Aj A μ h) μ w v x) :
  Calls P k vs w fun en w' => ∃ u μ', en = .returned u /\ HRel A μ' (EB (Cg gl nw) H1 ++ B1 (gl.map (·.2)) h) (fun q => F q /\ ∀ i, m <= i -> i < m1 -> q ≠ nw i) w' /\ Ag (Aj A μ' (EB (Cg gl nw) H1 ++ B1 (gl.map (·.2)) h)) μ' w' u (Ox (Cg gl nw) L) /\ ∀ v x, Ag (Aj A μ h) μ w v x -> Ag (Aj A μ' (EB (Cg gl nw) H1 ++ B1 (gl.map (·.2)) h)) μ' w' v x := by
 simp only [Nf, Bool.and_eq_true, List.all_eq_true, Nat.ble_eq, Bool.or_eq_true, beq_iff_eq, bne_iff_ne] at hB
 obtain ⟨⟨⟨hm, hH⟩, hgl⟩, hH1⟩ := hB
 have key : ∀ i o, AF i H = some o -> i < m /\ (∃ j, AF i gl = some j) /\ UF gl m o = true := fun i o hl => by
  obtain ⟨⟨h1, h2⟩, h3⟩ := hH _ (DP hl)
  exact ⟨h1, Option.isSome_iff_exists.1 h2, h3⟩
 have gkey : ∀ i j, AF i gl = some j -> ∃ o, AF i H = some o := fun i j hl => Option.isSome_iff_exists.1 (hgl _ (DP hl)).1
 have ginj : ∀ i i' j, AF i gl = some j -> AF i' gl = some j -> i = i' := fun i i' j h1 h2 => by
  have := (hgl _ (DP h1)).2 _ (DP h2)
  rcases this with h | h
  .exact h
  exact absurd rfl h
 have rg : ∀ i j, AF i gl = some j -> Cg gl nw i = j := fun i j hl => by unfold Cg; rw [hl]
 have rn : ∀ i, m <= i -> Cg gl nw i = nw i := fun i hi => by
  unfold Cg
  cases hl : AF i gl with
  | none => rfl
  | some j =>
   obtain ⟨o, ho⟩ := gkey i j hl
   have := (key i o ho).1
   omega
 have hno : ∀ i, m <= i -> μ (nw i) = none := fun i hi => hh.fresh _ (hF i hi)
 let μ' : Nat -> Option Bf := fun i => match AF i gl with | some j => μ j | none => none
 have μg : ∀ i j, AF i gl = some j -> μ' i = μ j := fun i j hl => by simp only [μ', hl]
 have μlt : ∀ i loc, μ' i = some loc -> ∃ j, AF i gl = some j /\ μ j = some loc := by
  intro i loc hi
  cases hl : AF i gl with
  | none => simp only [μ', hl] at hi; cases hi
  | some j => exact ⟨j, rfl, by rw [<- μg i j hl]; exact hi⟩
 have hobj' : ∀ i o, AF i H = some o -> ∃ j, AF i gl = some j /\ AF j h = some (Mu (Cg gl nw) o) := fun i o hl => by
  obtain ⟨_, ⟨j, hj⟩, _⟩ := key i o hl
  have := Pl hobj hl
  rw [rg i j hj] at this
  exact ⟨j, hj, this⟩
 have mine : ∀ b, CA μ' H b -> CA μ h b /\ ∃ i j o loc, AF i H = some o /\ AF i gl = some j /\ AF j h = some (Mu (Cg gl nw) o) /\ μ j = some loc /\ loc.nil = false /\ loc.b = b := by
  rintro b ⟨i, o, loc, h1, h2, h3, h4⟩
  obtain ⟨j, hj, hj2⟩ := hobj' i o h1
  rw [μg i j hj] at h2
  exact ⟨⟨j, _, loc, hj2, h2, h3, h4⟩, i, j, o, loc, h1, hj, hj2, h2, h3, h4⟩
 have ownlt : ∀ b, Aj A μ h b -> b < w.heap.size := by
  rintro b (hb | ⟨id, o, loc, h1, h2, h3, rfl⟩)
  .exact Nat.lt_of_lt_of_le (A.hO b hb).1 hh.size
  exact (hh.base id o loc h1 h2 h3).1
 let A' : BP := ⟨w, fun b => Aj A μ h b /\ ¬ CA μ' H b, CA μ' H, μ', fun b hb => ⟨ownlt b hb.1, hb.2⟩⟩
 have own1 : ∀ b, Aj A' μ' H b -> Aj A μ h b := by
  rintro b (hb | hb)
  .exact hb.1
  exact .inr (mine b hb).1
 have own2 : ∀ b, Aj A μ h b -> Aj A' μ' H b := fun b hb => by
  by_cases hc : CA μ' H b
  .exact .inr hc
  exact .inl ⟨hb, hc⟩
 have hh' : HRel A' μ' H (Fr m) w := by
  refine ⟨?_, ?_, ?_, ?_, Nat.le_refl _, fun _ _ _ => rfl, rfl, rfl, rfl, fun _ _ hm' => hm'⟩
  .intro i o hl
   obtain ⟨j, hj, hj2⟩ := hobj' i o hl
   obtain ⟨loc, h1, h2⟩ := hh.obj j _ hj2
   refine ⟨loc, by rw [μg i j hj]; exact h1, ?_⟩
   have h3 : ED (Aj A' μ' H) μ w loc (Mu (Cg gl nw) o) := h2.mono (Bd.refl _ _) (fun b _ hb => own1 b hb) (fun _ _ h => h) (fun _ => rfl)
   refine Zx (key i o hl).2.2 (fun i' lc hi' hm' => ?_) h3
   rcases hi' with hi' | ⟨j', hj'⟩
   .rw [rn i' hi', hno i' hi'] at hm'; cases hm'
   rw [rg i' j' hj'] at hm'
   rw [μg i' j' hj']; exact hm'
  .intro i i' o o' loc loc' h1 h2 m1' m2' n1 n2 he
   obtain ⟨j, hj, hj2⟩ := hobj' i o h1
   obtain ⟨j', hj', hj2'⟩ := hobj' i' o' h2
   rw [μg i j hj] at m1'
   rw [μg i' j' hj'] at m2'
   have := hh.inj _ _ _ _ _ _ hj2 hj2' m1' m2' n1 n2 he
   subst this
   exact ginj _ _ _ hj hj'
  .intro i hi
   cases hm' : μ' i with
   | none => rfl
   | some loc =>
    obtain ⟨j, hj, _⟩ := μlt i loc hm'
    obtain ⟨o, ho⟩ := gkey i j hj
    have := (key i o ho).1
    simp only [Fr] at hi; omega
  intro i o loc h1 h2 h3
  have hmine : CA μ' H loc.b := ⟨i, o, loc, h1, h2, h3, rfl⟩
  exact ⟨ownlt _ (.inr (mine _ hmine).1), fun hb => hb.2 hmine, .inr hmine⟩
 have hargs : ∀ (i : Nat) (v : Value) (l : LV), vs[i]? = some v -> ls[i]? = some l -> Ag (Aj A' μ' H) μ' w v l := by
  intro i v l hv hl
  have hok := List.all_eq_true.1 hls l (List.mem_of_getElem? hl)
  simp only [Kt, Bool.and_eq_true] at hok
  have h1 := (hr i v _ hv (by rw [List.getElem?_map, hl]; rfl)).mono (O' := Aj A' μ' H) (Bd.refl _ _) (fun b _ hb => own1 b hb) (fun _ _ h => h)
  refine VW hok.1 (fun i' lc hi' hm' => ?_) h1
  have h4 := hok.2
  rw [hi'] at h4
  simp only [Bool.or_eq_true, Nat.ble_eq] at h4
  rcases h4 with h4 | h4
  .rw [rn i' h4, hno i' h4] at hm'; cases hm'
  obtain ⟨j', hj'⟩ := Option.isSome_iff_exists.1 h4
  rw [rg i' j' hj'] at hm'
  rw [μg i' j' hj']; exact hm'
 have hμ0 : ∀ id, A'.μ0 id ≠ none -> id < m := by
  intro id hid
  cases hm' : μ' id with
  | none => exact absurd hm' hid
  | some loc =>
   obtain ⟨j, hj, _⟩ := μlt id loc hm'
   obtain ⟨o, ho⟩ := gkey id j hj
   exact (key id o ho).1
 refine ((hM A' hμ0).2 μ' w vs hh' hsz hargs).mono ?_
 rintro e w' ⟨u, l, h1, c1, μ'', he, ⟨rfl, rfl, rfl⟩, hh2, hu, -⟩
 let μ3 : Nat -> Option Bf := fun id => open Classical in if hx : ∃ i, m <= i /\ nw i = id then μ'' (Classical.choose hx) else μ id
 have μ3n : ∀ i, m <= i -> μ3 (nw i) = μ'' i := fun i hi => by
  have hx : ∃ i', m <= i' /\ nw i' = nw i := ⟨i, hi, rfl⟩
  simp only [μ3, dif_pos hx]
  have hc := Classical.choose_spec hx
  rw [hinj _ _ hc.1 hi hc.2]
 have ext : ∀ i loc, μ' i = some loc -> μ'' i = some loc := fun i loc hi => hh2.ext i loc hi
 have μ3o : ∀ id loc, μ id = some loc -> μ3 id = some loc := fun id loc hm' => by
  have hx : ¬ ∃ i, m <= i /\ nw i = id := fun ⟨i, h1, h2⟩ => by rw [<- h2, hno i h1] at hm'; cases hm'
  simp only [μ3, dif_neg hx, hm']
 have name : ∀ i lc, (m <= i \/ ∃ j, AF i gl = some j) -> μ'' i = some lc -> μ3 (Cg gl nw i) = some lc := by
  intro i lc hi hm'
  rcases hi with hi | ⟨j, hj⟩
  .rw [rn i hi, μ3n i hi]
   exact hm'
  obtain ⟨o, ho⟩ := gkey i j hj
  obtain ⟨j', hj', hj2⟩ := hobj' i o ho
  rw [hj] at hj'
  cases hj'
  obtain ⟨loc, g1, _⟩ := hh.obj j _ hj2
  have := ext i loc (by rw [μg i j hj]; exact g1)
  rw [hm'] at this
  cases this
  rw [rg i j hj]
  exact μ3o j _ g1
 have new : ∀ id o, AF id (EB (Cg gl nw) h1) = some o -> ∃ i o1, AF i h1 = some o1 /\ Cg gl nw i = id /\ o = Mu (Cg gl nw) o1 /\ (m <= i \/ ∃ j, AF i gl = some j) /\ UF gl m o1 = true := by
  intro id o hl
  obtain ⟨i, o1, g1, g2, g3⟩ := Ng hl
  obtain ⟨g4, g5⟩ := hH1 _ (DP g1)
  exact ⟨i, o1, g1, g2, g3, g4.imp (fun x => x) fun h5 => Option.isSome_iff_exists.1 h5, g5⟩
 have cases' : ∀ id o, AF id (EB (Cg gl nw) h1 ++ B1 (gl.map (·.2)) h) = some o -> (∃ i o1, AF i h1 = some o1 /\ Cg gl nw i = id /\ o = Mu (Cg gl nw) o1 /\ (m <= i \/ ∃ j, AF i gl = some j) /\ UF gl m o1 = true) \/ (id ∉ gl.map (·.2) /\ AF id h = some o) := by
  intro id o hl
  rcases UG hl with hl | hl
  .exact .inl (new id o hl)
  exact .inr (G2 hl)
 have other : ∀ id o loc, id ∉ gl.map (·.2) -> AF id h = some o -> μ id = some loc -> loc.nil = false -> ¬ CA μ' H loc.b := by
  intro id o loc hid hl hm' hn hmine
  obtain ⟨_, i, j, o', loc', g1, g2, g3, g4, g5, g6⟩ := mine _ hmine
  have := hh.inj _ _ _ _ _ _ g3 hl g4 hm' g5 hn g6
  subst this
  exact hid (List.mem_map.2 ⟨(i, j), DP g2, rfl⟩)
 have hkept : Bd (Aj A μ h) w w' := ⟨hh2.size, fun b hb hO => hh2.block b hb fun hm' => hO (.inr (mine b hm').1)⟩
 have nmine : ∀ b, CA μ3 (EB (Cg gl nw) h1 ++ B1 (gl.map (·.2)) h) b -> CA μ'' h1 b \/ (Aj A μ h b /\ ¬ CA μ' H b) := by
  rintro b ⟨id, o, loc, g1, g2, g3, g4⟩
  rcases cases' id o g1 with ⟨i, o1, k1, k2, k3, k4, k5⟩ | ⟨k1, k2⟩
  .left
   obtain ⟨lc, q1, _⟩ := hh2.obj i o1 k1
   have := name i lc k4 q1
   rw [k2, g2] at this
   cases this
   exact ⟨i, o1, loc, k1, q1, g3, g4⟩
  right
  obtain ⟨lc, q1, _⟩ := hh.obj id o k2
  have := μ3o id lc q1
  rw [g2] at this
  cases this
  rw [<- g4]
  exact ⟨.inr ⟨id, o, loc, k2, q1, g3, rfl⟩, other id o loc k1 k2 q1 g3⟩
 have own3 : ∀ b, Aj A μ3 (EB (Cg gl nw) h1 ++ B1 (gl.map (·.2)) h) b -> Aj A' μ'' h1 b := by
  rintro b (hb | hb)
  .refine .inl ⟨.inl hb, fun hm' => ?_⟩
   obtain ⟨_, i, j, o', loc', g1, g2, g3, g4, g5, rfl⟩ := mine _ hm'
   exact (hh.base j _ loc' g3 g4 g5).2.1 hb
  rcases nmine b hb with hb | hb
  .exact .inr hb
  exact .inl hb
 have own4 : ∀ b, b < w.heap.size -> Aj A μ3 (EB (Cg gl nw) h1 ++ B1 (gl.map (·.2)) h) b -> Aj A μ h b := by
  rintro b hlt' (hb | hb)
  .exact .inl hb
  rcases nmine b hb with ⟨i, o1, loc, k1, k2, k3, rfl⟩ | hb
  .rcases (hh2.base i o1 loc k1 k2 k3).2.2 with hx | hx
   .exact absurd hx (by show ¬ w.heap.size <= _; omega)
   exact .inr (mine _ hx).1
  exact hb.1
 have hu2 : Ag (Aj A μ3 (EB (Cg gl nw) h1 ++ B1 (gl.map (·.2)) h)) μ'' w' u l := hu.mono (Bd.refl _ _) (fun b _ hb => own3 b hb) (fun _ _ h => h)
 have one : ∀ v x, Kt gl m x = true -> Ag (Aj A μ3 (EB (Cg gl nw) h1 ++ B1 (gl.map (·.2)) h)) μ'' w' v x -> Ag (Aj A μ3 (EB (Cg gl nw) h1 ++ B1 (gl.map (·.2)) h)) μ3 w' v (KU (Cg gl nw) x) := by
  intro v x hx hv
  simp only [Kt, Bool.and_eq_true] at hx
  refine UH hx.1 (fun i' lc' hi' hm' => name i' lc' ?_ hm') hv
  have h4 := hx.2
  rw [hi'] at h4
  simp only [Bool.or_eq_true, Nat.ble_eq] at h4
  exact h4.imp (fun x => x) fun h5 => Option.isSome_iff_exists.1 h5
 refine ⟨u, μ3, he, ⟨?_, ?_, ?_, ?_, Nat.le_trans hh.size hh2.size, ?_, hh2.os.trans hh.os, hh2.tape.trans hh.tape, hh2.output.trans hh.output, fun id loc hm' => μ3o id loc (hh.ext id loc hm')⟩, ?_, fun v x hv => hv.mono hkept own4 μ3o⟩
 .intro id o hl
  rcases cases' id o hl with ⟨i, o1, k1, k2, rfl, k4, k5⟩ | ⟨k1, k2⟩
  .obtain ⟨lc, q1, q2⟩ := hh2.obj i o1 k1
   refine ⟨lc, by rw [<- k2]; exact name i lc k4 q1, ?_⟩
   have q3 : ED (Aj A μ3 (EB (Cg gl nw) h1 ++ B1 (gl.map (·.2)) h)) μ'' w' lc o1 := q2.mono (Bd.refl _ _) (fun b _ hb => own3 b hb) (fun _ _ h => h) (fun _ => rfl)
   exact YW k5 (fun i' lc' hi' hm' => name i' lc' hi' hm') q3
  obtain ⟨lc, q1, q2⟩ := hh.obj id o k2
  refine ⟨lc, μ3o id lc q1, q2.mono hkept own4 μ3o fun hn => ?_⟩
  exact hh2.block _ (hh.base id o lc k2 q1 hn).1 (other id o lc k1 k2 q1 hn)
 .intro id id' o o' loc loc' g1 g2 m1' m2' n1 n2 hb
  rcases cases' id o g1 with ⟨i, o1, k1, k2, k3, k4, k5⟩ | ⟨k1, k2⟩
  .obtain ⟨lc, q1, _⟩ := hh2.obj i o1 k1
   have e1 := name i lc k4 q1
   rw [k2, m1'] at e1
   cases e1
   rcases cases' id' o' g2 with ⟨i', o1', k1', k2', k3', k4', k5'⟩ | ⟨k1', k2'⟩
   .obtain ⟨lc', q1', _⟩ := hh2.obj i' o1' k1'
    have e1' := name i' lc' k4' q1'
    rw [k2', m2'] at e1'
    cases e1'
    have := hh2.inj _ _ _ _ _ _ k1 k1' q1 q1' n1 n2 hb
    rw [<- k2, <- k2', this]
   exfalso
   obtain ⟨lc', q1', _⟩ := hh.obj id' o' k2'
   have e1' := μ3o id' lc' q1'
   rw [m2'] at e1'
   cases e1'
   have hno := other id' o' loc' k1' k2' q1' n2
   have hsz' := (hh.base id' o' loc' k2' q1' n2).1
   rcases (hh2.base i o1 loc k1 q1 n1).2.2 with hx | hx
   .have : w.heap.size <= loc.b := hx
    omega
   rw [hb] at hx; exact hno hx
  obtain ⟨lc, q1, _⟩ := hh.obj id o k2
  have e1 := μ3o id lc q1
  rw [m1'] at e1
  cases e1
  rcases cases' id' o' g2 with ⟨i', o1', k1', k2', k3', k4', k5'⟩ | ⟨k1', k2'⟩
  .exfalso
   obtain ⟨lc', q1', _⟩ := hh2.obj i' o1' k1'
   have e1' := name i' lc' k4' q1'
   rw [k2', m2'] at e1'
   cases e1'
   have hno := other id o loc k1 k2 q1 n1
   have hsz' := (hh.base id o loc k2 q1 n1).1
   rcases (hh2.base i' o1' loc' k1' q1' n2).2.2 with hx | hx
   .have : w.heap.size <= loc'.b := hx
    omega
   rw [<- hb] at hx; exact hno hx
  obtain ⟨lc', q1', _⟩ := hh.obj id' o' k2'
  have e1' := μ3o id' lc' q1'
  rw [m2'] at e1'
  cases e1'
  exact hh.inj _ _ _ _ _ _ k2 k2' q1 q1' n1 n2 hb
 .rintro id ⟨hid, hid2⟩
  by_cases hx : ∃ i, m <= i /\ nw i = id
  .obtain ⟨i, h1', h2'⟩ := hx
   rw [<- h2', μ3n i h1']
   refine hh2.fresh _ ?_
   simp only [Fr]
   exact Nat.le_of_not_lt fun hlt => hid2 i h1' hlt h2'.symm
  simp only [μ3, dif_neg hx]
  exact hh.fresh id hid
 .intro id o loc g1 g2 g3
  rcases cases' id o g1 with ⟨i, o1, k1, k2, k3, k4, k5⟩ | ⟨k1, k2⟩
  .obtain ⟨lc, q1, _⟩ := hh2.obj i o1 k1
   have e1 := name i lc k4 q1
   rw [k2, g2] at e1
   cases e1
   obtain ⟨b1, b2, b3⟩ := hh2.base i o1 loc k1 q1 g3
   refine ⟨b1, fun hO => b2 ⟨.inl hO, fun hm' => ?_⟩, ?_⟩
   .obtain ⟨_, i', j', o', loc', g1', g2', g3', g4', g5', g6'⟩ := mine _ hm'
    rw [<- g6'] at hO
    exact (hh.base j' _ loc' g3' g4' g5').2.1 hO
   rcases b3 with hx | hx
   .exact .inl (Nat.le_trans hh.size hx)
   obtain ⟨_, i', j', o', loc', g1', g2', g3', g4', g5', g6'⟩ := mine _ hx
   rw [<- g6']
   exact (hh.base j' _ loc' g3' g4' g5').2.2
  obtain ⟨lc, q1, _⟩ := hh.obj id o k2
  have e1 := μ3o id lc q1
  rw [g2] at e1
  cases e1
  obtain ⟨b1, b2, b3⟩ := hh.base id o loc k2 q1 g3
  exact ⟨Nat.lt_of_lt_of_le b1 hh2.size, b2, b3⟩
 .intro b hb hnf
  have hnm : ¬ CA μ' H b := by
   intro hm'
   obtain ⟨_, i', j', o', loc', g1', g2', g3', g4', g5', g6'⟩ := mine _ hm'
   have := (hh.base j' _ loc' g3' g4' g5').2.2
   rw [g6'] at this
   rcases this with hx | hx
   .omega
   exact hnf hx
  rw [hh2.block b (Nat.lt_of_lt_of_le hb hh.size) hnm]
  exact hh.block b hb hnf
 have oneA : ∀ v x, moA gl m x = true -> Ag (Aj A μ3 (EB (Cg gl nw) h1 ++ B1 (gl.map (·.2)) h)) μ'' w' v x -> Ag (Aj A μ3 (EB (Cg gl nw) h1 ++ B1 (gl.map (·.2)) h)) μ3 w' v (mrA (Cg gl nw) x) := by
  intro v x hx hv
  cases x with
  | agg xs =>
   cases hv with
   | agg vs' _ hsz' hxs =>
    refine .agg vs' _ (by simpa using hsz') fun i v x hv hx' => ?_
    rw [List.getElem?_map] at hx'
    cases hc : xs[i]? with
    | none => rw [hc] at hx'; cases hx'
    | some y =>
     rw [hc] at hx'
     cases hx'
     exact one v y (List.all_eq_true.1 hx y (List.mem_of_getElem? hc)) (hxs i v y hv hc)
  | p d => exact one v _ hx hv
  | lsl id sz off len => exact one v _ hx hv
  | lpb id off => exact one v _ hx hv
  | lpe id i off => exact one v _ hx hv
  | lmap id => exact one v _ hx hv
  | und => exact one v _ hx hv
  | any => exact one v _ hx hv
  | tup l => exact one v _ hx hv
  | fn f l => exact one v _ hx hv
 cases l with
 | tup xs =>
  cases hu2 with
  | tup vs' _ hsz' hxs =>
   refine .tup vs' _ (by simpa using hsz') fun i v x hv hx => ?_
   rw [List.getElem?_map] at hx
   cases hc : xs[i]? with
   | none => rw [hc] at hx; cases hx
   | some y =>
    rw [hc] at hx
    cases hx
    exact oneA v y (List.all_eq_true.1 hL y (List.mem_of_getElem? hc)) (hxs i v y hv hc)
 | p d => exact oneA u (.p d) hL hu2
 | lsl id sz off len => exact oneA u (.lsl id sz off len) hL hu2
 | lpb id off => exact oneA u (.lpb id off) hL hu2
 | lpe id i off => exact oneA u (.lpe id i off) hL hu2
 | lmap id => exact oneA u (.lmap id) hL hu2
 | und => exact oneA u .und hL hu2
 | any => exact oneA u .any hL hu2
 | agg l => exact oneA u (.agg l) hL hu2
 | fn f l => exact oneA u (.fn f l) hL hu2
theorem VY {k : Nat} {H H1 : AQ} {m m1 : Nat} {ls : List LV} {L : LV} (hM : ∀ A : BP, (∀ id, A.μ0 id ≠ none -> id < m) -> DQ P A H m k ls (fun l h c => l = L /\ h = H1 /\ c = m1))
  (gl : List (Nat × Nat)) {A : BP} {h : AQ} {c : Nat} {F : Nat -> Prop} (hF : ∀ q, c <= q -> F q) (hB : Nf gl m m1 H H1 = true) (hobj : IB (E9 gl m c) h H) (hls : ls.all (Kt gl m) = true) (hL : SZ gl m L = true)
  {μ : Nat -> Option Bf} {w : World} {vs : Array Value} (hh : HRel A μ h F w) (hsz : vs.size = ls.length) (hr : ∀ (i : Nat) (v : Value) (x : LV), vs[i]? = some v -> (ls.map (KU (E9 gl m c)))[i]? = some x -> Ag (Aj A μ h) μ w v x) :
  Calls P k vs w fun en w' => ∃ u μ', en = .returned u /\ HRel A μ' (EB (E9 gl m c) H1 ++ B1 (gl.map (·.2)) h) (fun q => F q /\ (q < c \/ c + (m1 - m) <= q)) w' /\ Ag (Aj A μ' (EB (E9 gl m c) H1 ++ B1 (gl.map (·.2)) h)) μ' w' u (Ox (E9 gl m c) L) /\ ∀ v x, Ag (Aj A μ h) μ w v x -> Ag (Aj A μ' (EB (E9 gl m c) H1 ++ B1 (gl.map (·.2)) h)) μ' w' v x := by
 refine (VX hM gl (fun i => c + (i - m)) (fun i hi => hF _ (by omega)) (fun i i' h1 h2 h3 => by omega) hB hobj hls hL hh hsz hr).mono ?_
 rintro e w' ⟨u, μ', he, g, hu, hk⟩
 refine ⟨u, μ', he, ⟨g.obj, g.inj, fun id hid => g.fresh id ⟨hid.1, fun i h1 h2 h3 => ?_⟩, g.base, g.size, g.block, g.os, g.tape, g.output, g.ext⟩, hu, hk⟩
 have := hid.2; omega
theorem VV {k : Nat} {H H1 : AQ} {m m1 : Nat} {ls : List LV} {L : LV} (hM : ∀ A : BP, (∀ id, A.μ0 id ≠ none -> id < m) -> DQ P A H m k ls (fun l h c => l = L /\ h = H1 /\ c = m1))
  (gl : List (Nat × Nat)) {A : BP} {h : AQ} {c : Nat} {K : LV -> AQ -> Nat -> Prop} (hB : Nf gl m m1 H H1 = true) (hobj : IB (E9 gl m c) h H) (hls : ls.all (Kt gl m) = true) (hL : SZ gl m L = true)
  (hK : K (Ox (E9 gl m c) L) (EB (E9 gl m c) H1 ++ B1 (gl.map (·.2)) h) (c + (m1 - m))) : DQ P A h c k (ls.map (KU (E9 gl m c))) K := by
 refine ⟨(hM ⟨default, fun _ => False, fun _ => False, fun _ => none, fun _ h => h.elim⟩ (fun _ h => absurd rfl h)).1, fun μ w vs hh hsz hr => ?_⟩
 refine (VY hM gl (fun q hq => by simp only [Fr]; omega) hB hobj hls hL hh (by simpa using hsz) hr).mono ?_
 rintro e w' ⟨u, μ', he, g, hu, hk⟩
 exact ⟨u, _, _, _, μ', he, hK, ⟨g.obj, g.inj, fun id hid => g.fresh id (by simp only [Fr] at hid ⊢; omega), g.base, g.size, g.block, g.os, g.tape, g.output, g.ext⟩, hu, hk⟩
theorem AAn {k : Nat} {H H1 : AQ} {m : Nat} {ls : List LV} {L : LV} (hM : ∀ A : BP, (∀ id, A.μ0 id ≠ none -> id < m) -> DQ P A H m k ls (fun l h c => l = L /\ h = H1 /\ c = m))
  (gl : List (Nat × Nat)) {h h' : AQ} {ctr : Nat} {args : List LV} {l : LV} (hB : Nf gl m m H H1 = true) (hobj : ∀ c, IB (E9 gl m c) h H) (hls : ls.all (Kt gl m) = true) (hL : SZ gl m L = true)
  (ha : ∀ c, ls.map (KU (E9 gl m c)) = args) (hl : ∀ c, Ox (E9 gl m c) L = l) (hh' : ∀ c, EB (E9 gl m c) H1 ++ B1 (gl.map (·.2)) h = h') : Kc P h ctr k args l h' := by
 refine ⟨(hM ⟨default, fun _ => False, fun _ => False, fun _ => none, fun _ h => h.elim⟩ (fun _ h => absurd rfl h)).1, fun A F μ w vs hh hc hF hsz hr => ?_⟩
 obtain ⟨c, hF⟩ := hF
 rw [<- ha c] at hsz hr
 have := VY hM gl hF hB (hobj c) hls hL hh (by simpa using hsz) hr
 rw [hh' c, hl c] at this
 refine this.mono ?_
 rintro e w' ⟨u, μ', he, g, hu, hk⟩
 exact ⟨u, μ', he, ⟨g.obj, g.inj, fun id hid => g.fresh id ⟨hid.1, by omega⟩, g.base, g.size, g.block, g.os, g.tape, g.output, g.ext⟩, hu, hk⟩
end
def FF (P : Program) (k : Nat) (H : AQ) (c : Nat) (args : List LV) (L : LV) (H1 : AQ) (C : Nat) : Prop :=
 ∀ A : BP, (∀ id, A.μ0 id ≠ none -> id < c) -> DQ P A H c k args fun l h c' => l = L /\ h = H1 /\ c' = C
section
variable {P : Program} {AB : A9}
theorem Ph (hE : BB P AB) {k : Nat} {fn : Func} {cd : Code} (hfun : P.funcs[k]? = some fn) (nt' : Nat) (rs : List ResultVar) (sl' : List (Nat × LV)) (hb : fn.body = some cd) (hn : (fn.name == "runtime.NumGoroutine") = false) (hnt : Nat.beq fn.ntmps nt' = true) (hrs : fn.results.toList = rs)
  {H H1 : AQ} {c C : Nat} {ls : List LV} {L : LV} (hlen : Nat.ble ls.length nt' = true) (hsl : Ly 0 ls = sl')
  (body : ∀ A : BP, (∀ id, A.μ0 id ≠ none -> id < c) -> CD P A cd (IP AB.tt rs A L H1 C) ⟨nt', sl', H, c⟩) : FF P k H c ls L H1 C := by
 intro A hA
 subst hsl
 refine Tu hE hfun hb hn nt' (Nat.eq_of_beq_eq_true hnt) rs hrs (Nat.le_of_ble_eq_true hlen) fun A' hA' => ?_
 refine G5 (VO (body A' hA')) fun e s q => ?_
 have fin : (I4 AB.tt rs s = some L /\ s.heap = H1 /\ s.ctr = C) -> ∃ l, I4 AB.tt rs s = some l /\ l = L /\ s.heap = H1 /\ s.ctr = C := fun ⟨q1, q2, q3⟩ => ⟨_, q1, rfl, q2, q3⟩
 cases e <;> first | exact fin q | exact q.elim
section
variable {A : BP} {f : St -> Prop} {hf : Ik f} {nt : Nat} {sl : List (Nat × LV)} {h : AQ} {c : Nat}
theorem DD {k : Nat} {H H1 : AQ} {m m1 : Nat} {ls : List LV} {L L' : LV} (hM : FF P k H m ls L H1 m1) (gl : List (Nat × Nat)) {h' : AQ} {c' : Nat} {dst : Option Tmp} {fo : Operand} {args : Array Operand} {ts : Array TypeId}
  (hB : Nf gl m m1 H H1 = true) (hobj : IB (E9 gl m c) h H) (hls : ls.all (Kt gl m) = true) (hfn : BL nt sl fo = .fn k []) (hl : Dl nt sl args.toList some = some (ls.map (KU (E9 gl m c))))
  (hh : EB (E9 gl m c) H1 ++ B1 (gl.map (·.2)) h = h') (hc : c + (m1 - m) = c') (hL : SZ gl m L = true) (hL' : Ox (E9 gl m c) L = L') (kk : f (match dst with | some d => ⟨nt, (d, L') :: sl, h', c'⟩ | none => ⟨nt, sl, h', c'⟩)) :
  BQ P A AB ⟨nt, sl, h, c⟩ dst (.call ⟨.value fo, args, ts⟩) ⟨f, hf⟩ := by
 rw [BN (h := h) (c := c)] at hfn
 show Mj _ _
 rw [hfn]
 show Iz P A h c k (args.toList.map _ ++ []) _
 rw [Ep hl, List.append_nil]
 refine VV hM gl hB hobj hls hL ?_
 rw [hh, hc, hL']
 show f (St.go ⟨nt, sl, h, c⟩ dst L' h' c')
 rw [Ls]
 cases dst <;> exact kk
theorem Kp {α : Type} {id : Nat} : ∀ {a b : List (Nat × α)}, AF id a = none -> AF id (a ++ b) = AF id b
 | [], _, _ => rfl
 | (k, v) :: a, b, h => by
  unfold AF at h
  split at h
  .cases h
  rename_i e
  show (if id = k then some v else AF id (a ++ b)) = _
  rw [if_neg e]
  exact Kp h
theorem N8 {l : List Nat} : ∀ {h : AQ} {id : Nat}, id ∉ l -> AF id (B1 l h) = AF id h := by
 induction l with
 | nil => intro h id _; rfl
 | cons i l ih =>
  intro h id hi
  simp only [List.mem_cons, not_or] at hi
  show AF id (B1 l (Eb i h)) = _
  rw [ih hi.2, Dp hi.1]
def mvF {β : Type} (gl : List (Nat × Nat)) (v : LV) (k : LV -> Option β) : Option β := match v with
 | .lsl id sz off len => (match AF id gl with | some j => k (.lsl j sz off len) | none => none)
 | .lpb id off => (match AF id gl with | some j => k (.lpb j off) | none => none)
 | .lpe id i off => (match AF id gl with | some j => k (.lpe j i off) | none => none)
 | .lmap id => (match AF id gl with | some j => k (.lmap j) | none => none)
 | x => k x
def YX {β : Type} (gl : List (Nat × Nat)) : List LV -> (List LV -> Option β) -> Option β
 | [], k => k []
 | v :: r, k => mvF gl v fun v' => YX gl r fun r' => k (v' :: r')
def moF {β : Type} (gl : List (Nat × Nat)) (o : BE) (k : BE -> Option β) : Option β := match o with
 | .box cs => YX gl cs fun cs' => k (.box cs')
 | o => k o
def XU {β : Type} (gl : List (Nat × Nat)) : AQ -> (AQ -> Option β) -> Option β
 | [], k => k []
 | (i, o) :: h, k => match AF i gl with
  | some j => moF gl o fun o' => XU gl h fun r => k ((j, o') :: r)
  | none => none
def RB {β : Type} : List (Nat × Nat) -> AQ -> (AQ -> Option β) -> Option β
 | [], h, k => k h
 | p :: l, h, k => P3 p.2 h fun h2 => RB l h2 k
def RC {β : Type} : AQ -> AQ -> (AQ -> Option β) -> Option β
 | [], b, k => k b
 | x :: a, b, k => RC a b fun r => k (x :: r)
theorem AAo {β : Type} {gl : List (Nat × Nat)} {ρ : Nat -> Nat} (hρ : ∀ i j, AF i gl = some j -> ρ i = j) {v : LV} {k : LV -> Option β} {z : β} (h : mvF gl v k = some z) : k (KU ρ v) = some z := by
 have key : ∀ (i : Nat) (f : Nat -> LV), (match AF i gl with | some j => k (f j) | none => none) = some z -> k (f (ρ i)) = some z := fun i f h => by
  cases e : AF i gl with
  | none => rw [e] at h; cases h
  | some j => rw [e] at h; rw [hρ i j e]; exact h
 cases v with
 | lsl id sz off len => exact key id (fun j => .lsl j sz off len) h
 | lpb id off => exact key id (fun j => .lpb j off) h
 | lpe id i off => exact key id (fun j => .lpe j i off) h
 | lmap id => exact key id (fun j => .lmap j) h
 | p d => exact h
 | und => exact h
 | any => exact h
 | agg l => exact h
 | tup l => exact h
 | fn f l => exact h
theorem VZ {β : Type} {gl : List (Nat × Nat)} {ρ : Nat -> Nat} (hρ : ∀ i j, AF i gl = some j -> ρ i = j) {z : β} : ∀ {l : List LV} {k : List LV -> Option β}, YX gl l k = some z -> k (l.map (KU ρ)) = some z
 | [], _, h => h
 | v :: r, k, h => VZ hρ (l := r) (k := fun r' => k (KU ρ v :: r')) (AAo hρ h)
theorem AAp {β : Type} {gl : List (Nat × Nat)} {ρ : Nat -> Nat} (hρ : ∀ i j, AF i gl = some j -> ρ i = j) {o : BE} {k : BE -> Option β} {z : β} (h : moF gl o k = some z) : k (Mu ρ o) = some z := by
 cases o <;> first | exact h | exact VZ hρ h
theorem UI {β : Type} {gl : List (Nat × Nat)} {ρ : Nat -> Nat} (hρ : ∀ i j, AF i gl = some j -> ρ i = j) {z : β} : ∀ {l : AQ} {k : AQ -> Option β}, XU gl l k = some z -> k (EB ρ l) = some z /\ ∀ p ∈ l, (AF p.1 gl).isSome = true
 | [], _, h => ⟨h, fun _ hp => by simp at hp⟩
 | (i, o) :: r, k, h => by
  unfold XU at h
  split at h
  .rename_i j e
   have h1 := AAp hρ h
   obtain ⟨h2, h3⟩ := UI hρ (l := r) (k := fun r => k ((j, Mu ρ o) :: r)) h1
   refine ⟨?_, fun p hp => ?_⟩
   .have : ρ i = j := hρ i j e
    simp only [EB, this]; exact h2
   rcases List.mem_cons.1 hp with rfl | hp
   .simp only [e, Option.isSome_some]
   exact h3 p hp
  cases h
theorem QA {β : Type} : ∀ {l : List (Nat × Nat)} {h : AQ} {k : AQ -> Option β}, RB l h k = k (B1 (l.map (·.2)) h)
 | [], _, _ => rfl
 | p :: l, h, k => by
  simp only [RB, Ml, QA, List.map_cons, B1]
theorem QB {β : Type} : ∀ {a b : AQ} {k : AQ -> Option β}, RC a b k = k (a ++ b)
 | [], _, _ => rfl
 | x :: a, b, k => by simp only [RC, QB, List.cons_append]
def AAq (gl : List (Nat × Nat)) (H1 h : AQ) : Option AQ := XU gl H1 fun a => RB gl h fun b => RC a b some
theorem AAr {gl : List (Nat × Nat)} {m c : Nat} : ∀ i j, AF i gl = some j -> E9 gl m c i = j := fun i j e => by unfold E9 Cg; rw [e]
theorem Oy {α : Type} {i k : Nat} {v x : α} : ∀ {l : List (Nat × α)}, AF i (l ++ [(k, v)]) = some x -> AF i l = some x \/ (AF i l = none /\ i = k /\ x = v)
 | [], h => by
  simp only [List.nil_append, AF] at h
  split at h
  .cases h; exact .inr ⟨rfl, ‹_›, rfl⟩
  cases h
 | (a, b) :: l, h => by
  simp only [List.cons_append, AF] at h ⊢
  split at h
  .rw [if_pos ‹_›]; exact .inl h
  rw [if_neg ‹_›]; exact Oy h
theorem Va {gl : List (Nat × Nat)} {m s c : Nat} : ∀ i j, AF i (gl ++ [(m, s)]) = some j -> Ko gl m s c i = j := fun i j e => by
 unfold Ko Cg
 rcases Oy e with e | ⟨e1, rfl, rfl⟩
 .rw [e]
 rw [e1]; simp [Sa]
theorem Rr {gl : List (Nat × Nat)} {H1 h h' : AQ} (hu : AAq gl H1 h = some h') (m c : Nat) : EB (E9 gl m c) H1 ++ B1 (gl.map (·.2)) h = h' /\ ∀ p ∈ H1, (AF p.1 gl).isSome = true := by
 obtain ⟨h1, h2⟩ := UI (AAr (m := m) (c := c)) hu
 rw [QA, QB] at h1
 exact ⟨Option.some.inj h1, h2⟩
theorem NW {k : Nat} {H H1 : AQ} {m : Nat} {ls args' : List LV} {L L' : LV} (hM : FF P k H m ls L H1 m) (gl : List (Nat × Nat)) {h' : AQ} {dst : Option Tmp} {fo : Operand} {args : Array Operand} {ts : Array TypeId}
  (hB : Nf gl m m H H1 = true) (hobj : ∀ c, IB (E9 gl m c) h H) (hls : ls.all (Kt gl m) = true) (hfn : (Cl fo, BL nt sl fo) = (true, .fn k [])) (hl : Dl nt sl args.toList some = some args') (ha : ∀ c, ls.map (KU (E9 gl m c)) = args')
  (hu : AAq gl H1 h = some h') (hL : SZ gl m L = true) (hL' : Ox (E9 gl m 0) L = L') (hLc : ∀ c, Ox (E9 gl m c) L = Ox (E9 gl m 0) L) (hk1 : (h'.all fun p => (AF p.1 h).isSome) = true)
  (hcm : (gl.all fun p => match AB.calm with | none => true | some b => b p.2) = true) (kk : f (match dst with | some d => ⟨nt, (d, L') :: sl, h', c + 1⟩ | none => ⟨nt, sl, h', c + 1⟩)) :
  Gl P A AB ⟨nt, sl, h, c⟩ dst (.call ⟨.value fo, args, ts⟩) ⟨f, hf⟩ := by
 obtain ⟨hdl, hfn⟩ := Prod.mk.inj hfn
 rw [BN (h := h) (c := c)] at hfn
 show (if Cl fo = true then _ else _)
 rw [if_pos hdl]
 refine ⟨L', h', ⟨fo, k, [], rfl, hfn, ?_, fun q hq hn => ?_, fun b hb id cells _ hi hbi hx => ?_⟩, ?_⟩
 .show Kc P h c k (args.toList.map _ ++ []) L' h'
  rw [Ep hl, List.append_nil]
  exact AAn hM gl hB hobj hls hL ha (fun c => (hLc c).trans hL') (fun c => (Rr hu m c).1)
 .cases hx : AF q h' with
  | none => rfl
  | some o =>
   have := List.all_eq_true.1 hk1 _ (DP hx)
   simp only at this
   have hn' : AF q h = none := hn
   rw [hn'] at this; cases this
 .have hnot : id ∉ gl.map (·.2) := fun hm => by
   obtain ⟨p, hp, rfl⟩ := List.mem_map.1 hm
   have := List.all_eq_true.1 hcm p hp
   rw [hb] at this
   simp only at this
   rw [this] at hbi; cases hbi
  rw [<- (Rr hu m 0).1]
  have hno : AF id (EB (E9 gl m 0) H1) = none := by
   cases hx2 : AF id (EB (E9 gl m 0) H1) with
   | none => rfl
   | some o =>
    obtain ⟨i, o1, g1, g2, _⟩ := Ng hx2
    obtain ⟨j, hj⟩ := Option.isSome_iff_exists.1 ((Rr hu m 0).2 _ (DP g1))
    refine absurd (List.mem_map.2 ⟨(i, j), DP hj, ?_⟩) hnot
    rw [<- g2]; unfold E9 Cg; rw [hj]
  rw [Kp hno, N8 hnot]
  exact hx
 show f (St.go ⟨nt, sl, h, c⟩ dst L' h' (c + 1))
 rw [Ls]
 cases dst <;> exact kk
def ZN (gl : List (Nat × Nat)) (m s : Nat) (H1 h : AQ) : Option AQ := XU (gl ++ [(m, s)]) H1 fun a => RB gl h fun b => RC a b some
theorem QC {gl : List (Nat × Nat)} {m s : Nat} {H1 h h' : AQ} (hu : ZN gl m s H1 h = some h') (c : Nat) : EB (Ko gl m s c) H1 ++ B1 (gl.map (·.2)) h = h' /\ ∀ p ∈ H1, (AF p.1 (gl ++ [(m, s)])).isSome = true := by
 obtain ⟨h1, h2⟩ := UI (Va (c := c)) hu
 rw [QA, QB] at h1
 exact ⟨Option.some.inj h1, h2⟩
theorem AAs {k : Nat} {H H1 : AQ} {m : Nat} {ls : List LV} {L : LV} (hM : FF P k H m ls L H1 (m + 1))
  (gl : List (Nat × Nat)) {h h' : AQ} {ctr : Nat} {args : List LV} {l : LV} (hB : Nf gl m (m + 1) H H1 = true) (hobj : ∀ c, IB (Ko gl m ctr c) h H) (hls : ls.all (Kt gl m) = true) (hL : SZ gl m L = true)
  (ha : ∀ c, ls.map (KU (Ko gl m ctr c)) = args) (hl : ∀ c, Ox (Ko gl m ctr c) L = l) (hh' : ∀ c, EB (Ko gl m ctr c) H1 ++ B1 (gl.map (·.2)) h = h') : Kc P h ctr k args l h' := by
 refine ⟨(hM ⟨default, fun _ => False, fun _ => False, fun _ => none, fun _ h => h.elim⟩ (fun _ h => absurd rfl h)).1, fun A F μ w vs hh hc hF hsz hr => ?_⟩
 obtain ⟨c0, hF⟩ := hF
 rw [<- ha (max c0 (ctr + 1))] at hsz hr
 have := VX hM gl (Sa m ctr (max c0 (ctr + 1))) (fun i hi => by
   unfold Sa; split
   .exact hc
   exact hF _ (by omega)) (fun i i' h1 h2 h3 => by unfold Sa at h3; split at h3 <;> split at h3 <;> omega) hB (hobj _) hls hL hh (by simpa using hsz) hr
 have e1 : EB (Cg gl (Sa m ctr (max c0 (ctr + 1)))) H1 ++ B1 (gl.map (·.2)) h = h' := hh' _
 have e2 : Ox (Cg gl (Sa m ctr (max c0 (ctr + 1)))) L = l := hl _
 rw [e1, e2] at this
 refine this.mono ?_
 rintro e w' ⟨u, μ', he, g, hu, hk⟩
 refine ⟨u, μ', he, ⟨g.obj, g.inj, fun id hid => g.fresh id ⟨hid.1, fun i h1 h2 h3 => hid.2 ?_⟩, g.base, g.size, g.block, g.os, g.tape, g.output, g.ext⟩, hu, hk⟩
 have hi : i = m := by omega
 subst hi
 rw [h3]; simp [Sa]
theorem SU {k : Nat} {H H1 : AQ} {m : Nat} {ls args' : List LV} {L L' : LV} (hM : FF P k H m ls L H1 (m + 1)) (gl : List (Nat × Nat)) {h' : AQ} {dst : Option Tmp} {fo : Operand} {args : Array Operand} {ts : Array TypeId}
  (hB : Nf gl m (m + 1) H H1 = true) (hobj : ∀ q, IB (Ko gl m c q) h H) (hls : ls.all (Kt gl m) = true) (hfn : (Cl fo, BL nt sl fo) = (true, .fn k [])) (hl : Dl nt sl args.toList some = some args') (ha : ∀ q, ls.map (KU (Ko gl m c q)) = args')
  (hu : ZN gl m c H1 h = some h') (hL : SZ gl m L = true) (hL' : ∀ q, Ox (Ko gl m c q) L = L') (hk1 : (h'.all fun p => Nat.beq p.1 c || (AF p.1 h).isSome) = true)
  (hcm : (match AB.calm with | none => true | some b => (b c) && gl.all fun p => b p.2) = true) (kk : f (match dst with | some d => ⟨nt, (d, L') :: sl, h', c + 1⟩ | none => ⟨nt, sl, h', c + 1⟩)) :
  Gl P A AB ⟨nt, sl, h, c⟩ dst (.call ⟨.value fo, args, ts⟩) ⟨f, hf⟩ := by
 obtain ⟨hdl, hfn⟩ := Prod.mk.inj hfn
 rw [BN (h := h) (c := c)] at hfn
 show (if Cl fo = true then _ else _)
 rw [if_pos hdl]
 refine ⟨L', h', ⟨fo, k, [], rfl, hfn, ?_, fun q hq hn => ?_, fun b hb id cells _ hi hbi hx => ?_⟩, ?_⟩
 .show Kc P h c k (args.toList.map _ ++ []) L' h'
  rw [Ep hl, List.append_nil]
  exact AAs hM gl hB hobj hls hL ha hL' (fun c' => (QC hu c').1)
 .cases hx : AF q h' with
  | none => rfl
  | some o =>
   have := List.all_eq_true.1 hk1 _ (DP hx)
   simp only [Bool.or_eq_true] at this
   have hn' : AF q h = none := hn
   rw [hn'] at this
   rcases this with h1 | h1
   .exact absurd (Nat.eq_of_beq_eq_true h1) hq
   cases h1
 .have hb' : AB.calm = some b := hb
  rw [hb'] at hcm
  simp only [Bool.and_eq_true] at hcm
  have hnot : id ∉ gl.map (·.2) := fun hm => by
   obtain ⟨p, hp, rfl⟩ := List.mem_map.1 hm
   have := List.all_eq_true.1 hcm.2 p hp
   rw [this] at hbi; cases hbi
  rw [<- (QC hu 0).1]
  have hno : AF id (EB (Ko gl m c 0) H1) = none := by
   cases hx2 : AF id (EB (Ko gl m c 0) H1) with
   | none => rfl
   | some o =>
    obtain ⟨i, o1, g1, g2, _⟩ := Ng hx2
    obtain ⟨j, hj⟩ := Option.isSome_iff_exists.1 ((QC hu 0).2 _ (DP g1))
    have hr := Va (c := 0) i j hj
    rcases Oy hj with hj' | ⟨_, _, hj'⟩
    .refine absurd (List.mem_map.2 ⟨(i, j), DP hj', ?_⟩) hnot
     rw [<- g2, hr]
    rw [hr, hj'] at g2
    exact absurd g2.symm hi
  rw [Kp hno, N8 hnot]
  exact hx
 show f (St.go ⟨nt, sl, h, c⟩ dst L' h' (c + 1))
 rw [Ls]
 cases dst <;> exact kk
end
end
end Go.E
/- Loops over maps, in whatever order (JK); iterators. No condition. -/
namespace Go.E
open Go Go.RowKit
section
variable {σ α Ans : Type}
def Eg (left : σ -> List α) (z : σ -> Option (σ ⊕ Ans)) (g : σ -> α -> List α -> Option (σ ⊕ Ans)) : Nat -> σ -> Ans -> Prop
 | 0, _, _ => False
 | n + 1, s, r => (left s = [] -> z s = some (.inr r) \/ ∃ s', z s = some (.inl s') /\ Eg left z g n s' r) /\
   ∀ (j : Nat) y, (left s)[j]? = some y -> g s y ((left s).eraseIdx j) = some (.inr r) \/ ∃ s', g s y ((left s).eraseIdx j) = some (.inl s') /\ Eg left z g n s' r
open Classical in
noncomputable def JK (left : σ -> List α) (z : σ -> Option (σ ⊕ Ans)) (g : σ -> α -> List α -> Option (σ ⊕ Ans)) (s : σ) : Option Ans :=
 if h : ∃ r, ∃ n, Eg left z g n s r then some (Classical.choose h) else none
theorem WN {left : σ -> List α} {z : σ -> Option (σ ⊕ Ans)} {g : σ -> α -> List α -> Option (σ ⊕ Ans)} {s : σ} {r : Ans} (h : JK left z g s = some r) : ∃ n, Eg left z g n s r := by
 unfold JK at h
 split at h
 .rename_i hx
  cases h
  exact Classical.choose_spec hx
 cases h
theorem Eg.uniq {left : σ -> List α} {z : σ -> Option (σ ⊕ Ans)} {g : σ -> α -> List α -> Option (σ ⊕ Ans)} : ∀ {n m : Nat} {s : σ} {r r' : Ans}, Eg left z g n s r -> Eg left z g m s r' -> r = r'
 | 0, _, _, _, _, h, _ => h.elim
 | _ + 1, 0, _, _, _, _, h => h.elim
 | n + 1, m + 1, s, r, r', h1, h2 => by
  have fin : ∀ o : Option (σ ⊕ Ans), (o = some (.inr r) \/ ∃ s', o = some (.inl s') /\ Eg left z g n s' r) -> (o = some (.inr r') \/ ∃ s', o = some (.inl s') /\ Eg left z g m s' r') -> r = r' := by
   rintro o (e1 | ⟨s1, e1, a1⟩) (e2 | ⟨s2, e2, a2⟩)
   .rw [e1] at e2; cases e2; rfl
   .rw [e1] at e2; cases e2
   .rw [e1] at e2; cases e2
   rw [e1] at e2; cases e2; exact a1.uniq a2
  cases hl : left s with
  | nil => exact fin _ (h1.1 hl) (h2.1 hl)
  | cons y l =>
   have hy : (left s)[0]? = some y := by rw [hl]; rfl
   exact fin _ (h1.2 0 y hy) (h2.2 0 y hy)
theorem YU {left : σ -> List α} {z : σ -> Option (σ ⊕ Ans)} {g : σ -> α -> List α -> Option (σ ⊕ Ans)} {s : σ} {r : Ans} {n : Nat} (h : Eg left z g n s r) : JK left z g s = some r := by
 have hx : ∃ r, ∃ n, Eg left z g n s r := ⟨r, n, h⟩
 unfold JK
 rw [dif_pos hx]
 obtain ⟨m, hm⟩ := Classical.choose_spec hx
 rw [hm.uniq h]
theorem L4 {left : σ -> List α} {z : σ -> Option (σ ⊕ Ans)} {g : σ -> α -> List α -> Option (σ ⊕ Ans)} (I : σ -> Prop) {r : Ans}
  (h0 : ∀ s, I s -> left s = [] -> z s = some (.inr r)) (h1 : ∀ s (j : Nat) y, I s -> (left s)[j]? = some y -> g s y ((left s).eraseIdx j) = some (.inr r) \/ ∃ s', g s y ((left s).eraseIdx j) = some (.inl s') /\ left s' = (left s).eraseIdx j /\ I s') {s : σ} (hs : I s) : JK left z g s = some r := by
 have key : ∀ (k : Nat) (s : σ), (left s).length = k -> I s -> Eg left z g (k + 1) s r := by
  intro k
  induction k with
  | zero =>
   intro s hk hs
   have hl : left s = [] := List.length_eq_zero_iff.1 hk
   exact ⟨fun _ => .inl (h0 s hs hl), fun j y hy => by rw [hl] at hy; simp at hy⟩
  | succ k ih =>
   intro s hk hs
   refine ⟨fun hl => by rw [hl] at hk; simp at hk, fun j y hy => ?_⟩
   rcases h1 s j y hs hy with h | ⟨s', e1, e2, e3⟩
   .exact .inl h
   have hj : j < (left s).length := (List.getElem?_eq_some_iff.1 hy).1
   exact .inr ⟨s', e1, ih s' (by rw [e2, List.length_eraseIdx, if_pos hj]; omega) e3⟩
 exact YU (key _ s rfl hs)
end
section
variable {P : Program} {A : BP} {AB : A9} {st : St} {σ α Ans : Type}
def NX (A : BP) (l : List α) (I0 : St) (I1 : α -> List α -> St) (e : Exit) (st : St) : Prop :=
 e = .normal /\ ((l = [] /\ BA A st I0) \/ ∃ (j : Nat) (y : α), l[j]? = some y /\ BA A st (I1 y (l.eraseIdx j)))
theorem ZJ {l : List α} {I0 : St} {I1 : α -> List α -> St} (hl : l = []) (w : BA A st I0) : NX A l I0 I1 .normal st := ⟨rfl, .inl ⟨hl, w⟩⟩
theorem ZK {l : List α} {I0 : St} {I1 : α -> List α -> St} {j : Nat} {y : α} (hl : l[j]? = some y) (w : BA A st (I1 y (l.eraseIdx j))) : NX A l I0 I1 .normal st := ⟨rfl, .inr ⟨j, y, hl, w⟩⟩
theorem ZI {c1 c2 : Code} {Q : Ans -> Exit -> St -> Prop} {a : Ans} (I : σ -> St) (I0 : σ -> St) (I1 : σ -> α -> List α -> St) {left : σ -> List α} {z : σ -> Option (σ ⊕ Ans)} {g : σ -> α -> List α -> Option (σ ⊕ Ans)} {s0 : σ}
  (h : JK left z g s0 = some a) (hw : BA A st (I s0)) (hn : ∀ s, CD P A c1 (NX A (left s) (I0 s) (I1 s)) (I s))
  (h0 : ∀ s b, z s = some b -> CD P A c2 (LP A I Q b) (I0 s)) (h1 : ∀ s y l b, g s y l = some b -> CD P A c2 (LP A I Q b) (I1 s y l)) : CD P A (.loop (.seq c1 c2)) (Q a) st := by
 obtain ⟨n, hn'⟩ := WN h
 refine TZ (ι := Nat × σ) (fun i s => Eg left z g i.1 i.2 a /\ BA A s (I i.2)) (fun i => i.1) (n, s0) ⟨hn', hw⟩ ?_
 rintro ⟨n, s⟩ st' ⟨hi, hws⟩
 refine Ec hws ?_
 cases n with
 | zero => exact hi.elim
 | succ n =>
  have fin : ∀ (o : Option (σ ⊕ Ans)) (S : St), (∀ b, o = some b -> CD P A c2 (LP A I Q b) S) -> (o = some (.inr a) \/ ∃ s', o = some (.inl s') /\ Eg left z g n s' a) ->
    CD P A c2 (PG (fun st' => ∃ i' : Nat × σ, (Eg left z g i'.1 i'.2 a /\ BA A st' (I i'.2)) /\ i'.1 < n + 1) (Q a)) S := by
   rintro o S hS (e | ⟨s', e, hr⟩)
   .refine G5 (hS _ e) fun e st'' q => ?_
    obtain ⟨he, hq⟩ := q
    cases e <;> first | exact absurd rfl he | exact hq
   refine G5 (hS _ e) fun e st'' q => ?_
   obtain ⟨he, hw'⟩ := q
   subst he
   exact ⟨(n, s'), ⟨hr, hw'⟩, Nat.lt_succ_self n⟩
  refine AC (G5 (hn s) fun e st'' q => ?_)
  obtain ⟨he, q⟩ := q
  subst he
  rcases q with ⟨hl, hw'⟩ | ⟨j, y, hy, hw'⟩
  .exact Ec hw' (fin _ _ (h0 s) (hi.1 hl))
  exact Ec hw' (fin _ _ (h1 s y _) (hi.2 j y hy))
end
section
variable {P : Program} {A : BP} {AB : A9} {f : St -> Prop} {hf : Ik f} {nt : Nat} {sl : List (Nat × LV)} {h : AQ} {c : Nat} {d : Tmp} {κ υ : Type} {ke : κ -> DV} {ve : υ -> DV}
def WO (AB : A9) (t : Nat) : Bool := match AB.tt t with
 | some ti => match ti.sh with | .mp _ _ => true | _ => false
 | none => false
theorem YV {t : Nat} (h : WO AB t = true) : ∃ ti a b, AB.tt t = some ti /\ ti.sh = .mp a b := by
 unfold WO at h
 split at h
 .rename_i ti e
  split at h
  .rename_i a b e2; exact ⟨ti, a, b, e, e2⟩
  cases h
 cases h
theorem TM {t : Nat} {x : Operand} {mp : List (κ × υ)} (ht : WO AB t = true) (hx : BL nt sl x = .p (.map (Ab ke ve mp))) (k : f ⟨nt, (d, .lpb c 0) :: sl, (c, .iter none (Ab ke ve mp)) :: h, c + 1⟩) :
  BQ P A AB ⟨nt, sl, h, c⟩ (some d) (.range t x) ⟨f, hf⟩ := by
 obtain ⟨ti, a, b, h1, h2⟩ := YV ht
 rw [BN (h := h) (c := c)] at hx
 refine AW.2 ⟨ti, h1, EX.2 ⟨a, b, h2, ?_⟩⟩
 show X7 _ _
 rw [hx]
 exact k
theorem WP (mp : List (κ × υ)) (j : Nat) : (Ab ke ve mp).eraseIdx j = Ab ke ve (mp.eraseIdx j) := by
 unfold Ab
 rw [List.eraseIdx_eq_take_drop_succ, List.eraseIdx_eq_take_drop_succ, List.map_append, List.map_take, List.map_drop]
theorem AAg {cur : Option (DV × DV)} {x : Operand} {id : Nat} {mp : List (κ × υ)} (b : Bool) (hx : BL nt sl x = .lpb id 0) (hl : Ba id h = some (.iter cur (Ab ke ve mp))) {H : Option (DV × DV) -> List (κ × υ) -> AQ} (hu : ∀ q l, Ke id (.iter q (Ab ke ve l)) h some = some (H q l))
  (k0 : mp = [] -> f ⟨nt, (d, .tup [.p (.bool false)]) :: sl, h, c⟩)
  (k1 : ∀ (j : Nat) (y : κ × υ), mp[j]? = some y -> f ⟨nt, (d, .tup [.p (.bool true), .p (ke y.1), .p (ve y.2)]) :: sl, H (if b then some (ke y.1, ve y.2) else none) (mp.eraseIdx j), c⟩) :
  BQ P A AB ⟨nt, sl, h, c⟩ (some d) (.next x false) ⟨f, hf⟩ := by
 rw [BN (h := h) (c := c)] at hx
 rw [Bb] at hl
 show V3 h (St.eval ⟨nt, sl, h, c⟩ x) (fun _ => f (St.go ⟨nt, sl, h, c⟩ (some d) (.tup [.p (.bool false)]) h c)) (fun id left j p => ∃ cur', (cur' = none \/ cur' = some p) /\ f (St.go ⟨nt, sl, h, c⟩ (some d) (.tup [.p (.bool true), .p p.1, .p p.2]) (Bv id (.iter cur' (left.eraseIdx j)) h) c))
 rw [hx]
 unfold V3
 simp only [hl]
 refine ⟨fun e => ?_, fun j p hp => ?_⟩
 .refine k0 ?_
  cases mp with
  | nil => rfl
  | cons _ _ => simp [Ab] at e
 unfold Ab at hp
 rw [List.getElem?_map] at hp
 cases hy : mp[j]? with
 | none => rw [hy] at hp; cases hp
 | some y =>
  rw [hy] at hp
  cases hp
  have hu' := hu (if b then some (ke y.1, ve y.2) else none) (mp.eraseIdx j)
  rw [Hb] at hu'
  have hu2 := Option.some.inj hu'
  refine ⟨if b then some (ke y.1, ve y.2) else none, by cases b <;> simp, ?_⟩
  rw [WP, hu2]
  exact k1 j y hy
theorem Q4 {x : Operand} {id : Nat} {mp : List (κ × υ)} (hx : BL nt sl x = .lpb id 0) (hl : Ba id h = some (.iter none (Ab ke ve mp))) {H : κ × υ -> List (κ × υ) -> AQ} (hu : ∀ y l, Ke id (.iter (some (ke y.1, ve y.2)) (Ab ke ve l)) h some = some (H y l))
  (k0 : mp = [] -> f ⟨nt, (d, .tup [.p (.bool false)]) :: sl, h, c⟩)
  (k1 : ∀ (j : Nat) (y : κ × υ), mp[j]? = some y -> f ⟨nt, (d, .tup [.p (.bool true), .p (ke y.1), .p (ve y.2)]) :: sl, H y (mp.eraseIdx j), c⟩) :
  BQ P A AB ⟨nt, sl, h, c⟩ (some d) (.next x false) ⟨f, hf⟩ :=
 AAg true hx hl (H := fun q l => (Ke id (.iter q (Ab ke ve l)) h some).getD []) (fun q l => by rw [Hb]; rfl) k0 fun j y hy => by
  simp only [if_true, hu, Option.getD_some]; exact k1 j y hy
theorem TN {p : DV × DV} {left : List (DV × DV)} {x : Operand} {id : Nat} (hx : BL nt sl x = .lpb id 0) (hl : Ba id h = some (.iter (some p) left)) {h' : AQ} (hu : Ke id (.iter none left) h some = some h')
  (k : f ⟨nt, (d, .tup [.p p.1, .p p.2]) :: sl, h', c⟩) : BQ P A AB ⟨nt, sl, h, c⟩ (some d) (.entry x) ⟨f, hf⟩ := by
 rw [BN (h := h) (c := c)] at hx
 rw [Bb] at hl
 rw [Hb] at hu
 have hu2 := Option.some.inj hu
 show V4 h (St.eval ⟨nt, sl, h, c⟩ x) (fun id p left => f (St.go ⟨nt, sl, h, c⟩ (some d) (.tup [.p p.1, .p p.2]) (Bv id (.iter none left) h) c))
 rw [hx]
 unfold V4
 simp only [hl]
 rw [hu2]
 exact k
end
end Go.E
/- Drawn regions whose last operation waits for all others: it is run as in the text's order (a call that turns an object, a call that hands back an own row). Condition: the checks, by kernel. -/
namespace Go.E
open Go Go.RowKit
def GG (o : Oper) : Oper := { o with dst := none, op := .move (.tmp 0), guard := none }
def Jt : List Oper -> List Oper
 | [] => []
 | [o] => [GG o]
 | o :: o' :: r => o :: Jt (o' :: r)
theorem MT (o : Oper) : ∀ l : List Oper, Jt (l ++ [o]) = l ++ [GG o]
 | [] => rfl
 | [a] => rfl
 | a :: b :: l => by
  have := MT o (b :: l)
  simp only [List.cons_append] at this ⊢
  rw [Jt, this]
def Q7 (md : Region.Mode) (ops : Array Oper) : List Nat -> List Nat -> Bool
 | _, [] => true
 | done, i :: r => (match ops[i]? with
  | some o => o.after.all fun x => !Region.binds md x || done.contains x.on
  | none => false) && Q7 md ops (i :: done) r
def Ov (md : Region.Mode) (ops : Array Oper) : List Nat -> List Nat -> Bool
 | _, [] => true
 | later, j :: r => (later.any fun k => match ops[k]? with
  | some o => o.after.any fun x => Region.binds md x && x.on == j
  | none => false) && Ov md ops (j :: later) r
def VU (ops : Array Oper) (L : Nat) : Bool := ops.all fun o => match o.guard with
 | some (j, _) => !(j == L)
 | none => true
def XS (md : Region.Mode) (ops : Array Oper) (listed : Array Bool) : Prop := ∀ i, listed.getD i false = true -> ∀ o, ops[i]? = some o -> ∀ x ∈ o.after, Region.binds md x = true -> listed.getD x.on false = true
section
variable {P : Program} {A : BP} {AB : A9} {md : Region.Mode} {ops : Array Oper} {base : Nat} {K : St -> Prop}
theorem Q8 {listed : Array Bool} (hr : Region.ready md ops listed = []) : ∀ (order done : List Nat), (∀ i ∈ done, listed.getD i false = true) -> (∀ i ∈ order, i < listed.size) -> Q7 md ops done order = true -> ∀ i ∈ order, listed.getD i false = true
 | [], _, _, _, _, i, hi => by simp at hi
 | k :: r, done, hd, hs, ht, i, hi => by
  simp only [Q7, Bool.and_eq_true] at ht
  have hk : listed.getD k false = true := by
   cases hl : listed.getD k false with
   | true => rfl
   | false =>
    exfalso
    cases ho : ops[k]? with
    | none => rw [ho] at ht; simp at ht
    | some o =>
     rw [ho] at ht
     have hks := hs k (by simp)
     have : k ∈ Region.ready md ops listed := mem_ready.2 ⟨by
      simp only [Array.getD_eq_getD_getElem?, Array.getElem?_eq_getElem hks, Option.getD_some] at hl ⊢; exact hl, o, ho, fun x hx hb => by
      have h1 := Array.all_eq_true'.1 ht.1 x hx
      simp only [hb, Bool.not_true, Bool.false_or, List.contains_iff_mem] at h1
      exact hd _ h1⟩
     rw [hr] at this
     cases this
  rcases List.mem_cons.1 hi with rfl | hi
  .exact hk
  exact Q8 hr r (k :: done) (fun j hj => by
  rcases List.mem_cons.1 hj with rfl | hj
  .exact hk
  exact hd j hj) (fun j hj => hs j (by simp [hj])) ht.2 i hi
theorem Ow {listed : Array Bool} (hc : XS md ops listed) : ∀ (others later : List Nat), (∀ k ∈ later, ∀ o, ops[k]? = some o -> ∀ x ∈ o.after, Region.binds md x = true -> listed.getD x.on false = true) -> Ov md ops later others = true -> ∀ j ∈ others, listed.getD j false = true
 | [], _, _, _, j, hj => by simp at hj
 | k :: r, later, hl, h, j, hj => by
  simp only [Ov, Bool.and_eq_true, List.any_eq_true] at h
  obtain ⟨⟨m, hm, h1⟩, h2⟩ := h
  have hk : listed.getD k false = true := by
   cases ho : ops[m]? with
   | none => rw [ho] at h1; cases h1
   | some o =>
    rw [ho] at h1
    obtain ⟨x, hx, hx2⟩ := Array.any_eq_true'.1 h1
    simp only [Bool.and_eq_true, beq_iff_eq] at hx2
    rw [<- hx2.2]
    exact hl m hm o ho x hx hx2.1
  rcases List.mem_cons.1 hj with rfl | hj
  .exact hk
  exact Ow hc r (k :: later) (fun i hi => by
   rcases List.mem_cons.1 hi with rfl | hi
   .exact hc _ hk
   exact hl i hi) h2 j hj
theorem XT {Q' : Exit -> Act -> World -> Prop} {listed : Array Bool} (hr : Region.ready md ops listed = []) {a : Act} {w : World} (h : Q' .normal a w) : ∀ fuel, wpAny P md ops Q' fuel listed a w
 | 0 => ⟨hr, h⟩
 | fuel + 1 => ⟨fun _ => h, fun i hi => by rw [hr] at hi; cases hi⟩
theorem Q9 (hE : BB P AB) {ops' : Array Oper} {n L : Nat} {oL : Oper} (hn : n = ops.size) (hn' : n = ops'.size) (hL : ops[L]? = some oL) (hL' : ops'[L]? = some (GG oL)) (hg : oL.guard = none) (heq : ∀ i, i ≠ L -> ops'[i]? = ops[i]?) (hgs : VU ops L = true)
  {others : List Nat} (hall : ∀ i, i < n -> i = L \/ i ∈ others) (hin : ∀ i ∈ others, i < n) (hLn : L < n) (ht : Q7 md ops [] (others ++ [L]) = true) (hch : Ov md ops [L] others.reverse = true)
  {Q' : Exit -> Act -> World -> Prop} {F : St -> Prop} (hQ : ∀ st a w, F st -> R A st a w -> Q' .normal a w) (hK : ∀ st, K st -> ∃ st', BA A { st with ctr := base + n } st' /\ BQ P A AB st' oL.dst oL.op ⟨F, ⟨⟩⟩) :
  ∀ (fuel : Nat) (listed : Array Bool) (st : St) (a : Act) (w : World), listed.size = n -> XS md ops listed -> listed.getD L true = false -> IV P AB md ops' base K fuel listed st -> RF A (Fl base n listed) st a w -> wpAny P md ops Q' fuel listed a w := by
 have hrd : ∀ listed i, i ∈ Region.ready md ops' listed ↔ i ∈ Region.ready md ops listed := fun listed i => by
  rw [mem_ready, mem_ready]
  by_cases e : i = L
  .subst e
   rw [hL, hL']
   constructor
   .rintro ⟨h1, o, h2, h3⟩; cases h2; exact ⟨h1, oL, rfl, h3⟩
   rintro ⟨h1, o, h2, h3⟩; cases h2; exact ⟨h1, GG oL, rfl, h3⟩
  rw [heq i e]
 have hrd0 : ∀ listed, Region.ready md ops' listed = [] ↔ Region.ready md ops listed = [] := fun listed => by
  simp only [List.eq_nil_iff_forall_not_mem, hrd]
 have hne : ∀ listed : Array Bool, listed.size = n -> listed.getD L true = false -> Region.ready md ops listed ≠ [] := fun listed hs hl h0 => by
  have := Q8 h0 (others ++ [L]) [] (fun i hi => by simp at hi) (fun i hi => by
   rcases List.mem_append.1 hi with hi | hi
   .have := hin i hi; omega
   simp at hi; omega) ht L (by simp)
  rw [Array.getD_eq_getD_getElem?, Array.getElem?_eq_getElem (by omega : L < listed.size)] at this hl
  simp only [Option.getD_some] at this hl
  rw [this] at hl; cases hl
 intro fuel
 induction fuel with
 | zero => intro listed st a w hs _ hl hD _; exact absurd ((hrd0 _).1 hD.1) (hne _ hs hl)
 | succ fuel ih =>
  intro listed st a w hs hc hl hD hR
  refine ⟨fun h0 => absurd h0 (hne _ hs hl), fun i hi => ?_⟩
  obtain ⟨o, l, e, ho, hd, hrec⟩ := hD.2 i ((hrd _ _).2 hi)
  obtain ⟨hun, o', ho', hdep⟩ := mem_ready.1 hi
  by_cases hiL : i = L
  .subst hiL
   rw [hL] at ho'; cases ho'
   rw [hL'] at ho; cases ho
   have hoth : ∀ j ∈ others, listed.getD j false = true := fun j hj => Ow hc others.reverse [i] (fun k hk o hok x hx hb => by
    simp at hk; subst hk
    rw [hL] at hok; cases hok
    exact hdep x hx hb) hch j (List.mem_reverse.2 hj)
   have hend : Region.ready md ops (listed.setIfInBounds i true) = [] := by
    rw [List.eq_nil_iff_forall_not_mem]
    intro j hj
    obtain ⟨g1, o2, g2, _⟩ := mem_ready.1 hj
    have hjn : j < n := by rw [hn]; exact (Array.getElem?_eq_some_iff.1 g2).1
    by_cases hji : i = j
    .subst hji
     simp [show i < listed.size by omega] at g1
    rw [getD_set_ne true hji] at g1
    rcases hall j hjn with rfl | h
    .exact hji rfl
    have := hoth j h
    rw [Array.getD_eq_getD_getElem?, Array.getElem?_eq_getElem (by omega : j < listed.size)] at this g1
    simp only [Option.getD_some] at this g1
    rw [this] at g1; cases g1
   obtain ⟨st', hev, hk⟩ : ∃ st', GP (apS st (base + i) (GG oL) l e) st' /\ K st' := by
    cases fuel with
    | zero => exact hrec.2
    | succ f => exact hrec.1 ((hrd0 _).2 hend)
   have he : e = .keep := by
    unfold DH GG at hd
    simp only [CU] at hd
    exact hd.1
   subst he
   have hap : apS st (base + i) (GG oL) l .keep = st := rfl
   rw [hap] at hev
   have hR2 := hR.eqv hev
   have hRR : R A { st' with ctr := base + n } a w := by
    obtain ⟨⟨μ, x1, x2⟩, x3, x4⟩ := hR2
    exact ⟨⟨μ, x1.less fun id hid => .inl hid, x2⟩, x3, x4⟩
   unfold wpOp
   rw [hL]
   have hw : Region.wanted oL (yielded ops a.tmps) = true := by unfold Region.wanted; rw [hg]
   simp only [hw, if_true]
   obtain ⟨st2, hwk, hop⟩ := hK st' hk
   exact .inl (OF hE (PF hop) (hwk _ _ hRR) fun st'' a' w' hF hR' => XT hend (hQ st'' a' w' hF hR') fuel)
  rw [heq i hiL] at ho
  have hlt : i < n := by rw [hn]; exact (Array.getElem?_eq_some_iff.1 ho).1
  have hd' : DH P AB ops (st.at (base + i)) o l e := by
   unfold DH at hd ⊢
   cases hgo : o.guard with
   | none => rw [hgo] at hd; exact hd
   | some g =>
    obtain ⟨j, want⟩ := g
    rw [hgo] at hd
    have hjL : j ≠ L := by
     have := Array.all_eq_true'.1 hgs o (Array.mem_of_getElem? ho)
     rw [hgo] at this
     simpa using this
    have hgl : Dq (st.at (base + i)) ops' j = Dq (st.at (base + i)) ops j := by unfold Dq; rw [heq j hjL]
    simp only [hgl] at hd ⊢
    exact hd
  refine Pu (st := st.at (base + i)) hE ho ⟨hR.ex, hR.nt, hR.defers⟩ (.inr ⟨i, hlt, hun, rfl⟩) ⟨base + n, fun q hq => .inl hq⟩ hd' fun a' w' hR' => ?_
  refine ih _ _ _ _ (by simpa using hs) (fun k hk o2 ho2 x hx hb => ?_) (by rw [getD_set_ne true hiL]; exact hl) hrec ?_
  .by_cases hki : i = k
   .subst hki
    rw [ho] at ho2; cases ho2
    rw [ho] at ho'; cases ho'
    exact getD_set_true (hdep x hx hb)
   rw [getD_set_ne false hki] at hk
   exact getD_set_true (hc k hk o2 ho2 x hx hb)
  have hR'' : RF A (fun id => Fl base n listed id /\ id ≠ base + i) (apS st (base + i) o l e) a' w' := by
   obtain ⟨⟨μ, x1, x2⟩, x3, x4⟩ := hR'
   refine ⟨⟨μ, ?_, fun t ht => ?_⟩, ?_, x4⟩
   .rw [Br] at x1 ⊢; exact x1
   .have := x2 t (by rw [GQ] at ht ⊢; exact ht)
    rw [Br, DA] at this
    rw [Br, DA]; exact this
   rw [GQ] at x3 ⊢; exact x3
  obtain ⟨⟨μ, x1, x2⟩, x3, x4⟩ := hR''
  refine ⟨⟨μ, x1.less fun id hid => ?_, x2⟩, x3, x4⟩
  rcases hid with hid | ⟨k, hk1, hk2, rfl⟩
  .exact ⟨.inl hid, by omega⟩
  have hik : i ≠ k := by
   rintro rfl
   simp [show i < listed.size by omega] at hk2
  exact ⟨.inr ⟨k, hk1, by rw [getD_set_ne true hik] at hk2; exact hk2, rfl⟩, by omega⟩
def Ic : List Oper -> Option Oper
 | [] => none
 | [o] => some o
 | _ :: o :: r => Ic (o :: r)
theorem Lc {o : Oper} : ∀ {l : List Oper}, Ic l = some o -> ∃ pre, l = pre ++ [o]
 | [a], h => by simp [Ic] at h; subst h; exact ⟨[], rfl⟩
 | a :: b :: l, h => by
  obtain ⟨pre, e⟩ := Lc (l := b :: l) (by simpa [Ic] using h)
  exact ⟨a :: pre, by rw [e]; rfl⟩
def RA (ops : List Oper) (others : List Nat) : Bool :=
 match Ic ops with
 | none => false
 | some o => o.guard.isNone && (VU ops.toArray (ops.length - 1) && ((List.range ops.length).all (fun i => Nat.beq i (ops.length - 1) || others.contains i) && ((others.all fun i => Nat.blt i ops.length) &&
   (Q7 .any ops.toArray [] (others ++ [ops.length - 1]) && Ov .any ops.toArray [ops.length - 1] others.reverse))))
theorem AB4 (q : Bool) (hE : BB P AB) (hm : P.follows .mixedOrders = true) {id : Nat} {ops : List Oper} {Q : Exit -> St -> Prop} {nt : Nat} {sl : List (Nat × LV)} {h : AQ} {c : Nat} (others : List Nat) (n : Nat) {oL : Oper}
  (hq : (!q || AB.calm.isSome) = true) (hlast : Ic ops = some oL) (hcl : RA ops others = true) (hok : G6 q AB.own .any (Jt ops).toArray (others ++ [ops.length - 1]) (Array.replicate ops.length false) = true) (hl : Nat.beq (others.length + 1) ops.length = true) (hn : Nat.beq ops.length n = true)
  (k : DW P A AB c n ⟨fun st => BQ P A AB st oL.dst oL.op ⟨Q .normal, ⟨⟩⟩, ⟨⟩⟩ (FP (Jt ops) (others ++ [n - 1])) ⟨nt, sl, h, c⟩) : CD P A (.region id ops.toArray true) Q ⟨nt, sl, h, c⟩ := fun a w hR => by
 have hn' := Nat.eq_of_beq_eq_true hn
 subst hn'
 have hq' : q = true -> ∃ b, AB.calm = some b := fun e => by subst e; exact Option.isSome_iff_exists.1 (by simpa using hq)
 obtain ⟨pre, rfl⟩ := Lc hlast
 unfold RA at hcl
 rw [hlast] at hcl
 simp only [Bool.and_eq_true, Option.isNone_iff_eq_none] at hcl
 obtain ⟨g0, g1, g2, g3, g4, g5⟩ := hcl
 have hlen : (pre ++ [oL]).length - 1 = pre.length := by simp
 rw [hlen] at g1 g2 g4 g5 hok k
 rw [MT] at hok k
 have hsz : (pre ++ [GG oL]).length = (pre ++ [oL]).length := by simp
 have hb : ((others ++ [pre.length]).all fun i => decide (i < (pre ++ [GG oL]).length)) = true := by
  rw [List.all_eq_true] at g3 ⊢
  intro i hi
  rcases List.mem_append.1 hi with hi | hi
  .have := Nat.le_of_ble_eq_true (g3 i hi)
   simp only [List.length_append, List.length_cons, List.length_nil, decide_eq_true_eq] at this ⊢
   omega
  simp at hi; subst hi; simp
 rw [<- hsz] at k hok
 have hd := G9 (others ++ [pre.length]) _ hb k
 refine wp_region_any hm ?_
 have hR' := (hR.drawn (w.drawn + 1)).toRF
 have hfr : ∀ k, AF (c + k) h = none := by
  intro k
  cases hx : AF (c + k) h with
  | none => rfl
  | some o =>
   obtain ⟨⟨μ, hh, _⟩, _, _⟩ := hR
   obtain ⟨loc, h1, _⟩ := hh.obj _ _ hx
   rw [hh.fresh _ (by simp [Fr])] at h1; cases h1
 have hD := ID q hq' (others ++ [pre.length]) (Array.replicate (pre ++ [GG oL]).length false) ⟨nt, sl, h, c⟩ hok (fun k _ => hfr k) hd
 have hol : (others ++ [pre.length]).length = (pre ++ [oL]).length := by
  have := Nat.eq_of_beq_eq_true hl
  simpa using this
 rw [hol, hsz] at hD
 have hs2 : (pre ++ [oL]).toArray.size = (pre ++ [oL]).length := by simp
 rw [hs2]
 have hL0 : pre.length < (pre ++ [oL]).length := by simp
 refine Q9 (A := A) (n := (pre ++ [oL]).length) (L := pre.length) (oL := oL) (ops' := (pre ++ [GG oL]).toArray) (F := Q .normal) (base := c) hE (by simp) (by simp) (by simp) (by simp) g0 (fun i hi => ?_) g1 (others := others) (fun i hi => ?_) (fun i hi => ?_) hL0 g4 g5
  (fun st a w hF hRR => ⟨st, hRR, hF⟩) (fun st hK => ⟨_, BA.refl _, hK⟩) (pre ++ [oL]).length _ _ a _ (by simp) (fun i hi => ?_) ?_ hD ?_
 .simp only [List.getElem?_toArray]
  rcases Nat.lt_trichotomy i pre.length with h' | h' | h'
  .rw [List.getElem?_append_left h', List.getElem?_append_left h']
  .exact absurd h' hi
  rw [List.getElem?_eq_none (by simp; omega), List.getElem?_eq_none (by simp; omega)]
 .have := List.all_eq_true.1 g2 i (List.mem_range.2 hi)
  simp only [Bool.or_eq_true, List.contains_iff_mem] at this
  exact this.imp (fun h => Nat.eq_of_beq_eq_true h) fun h => h
 .exact Nat.le_of_ble_eq_true (List.all_eq_true.1 g3 i hi)
 .exfalso
  rw [Array.getD_eq_getD_getElem?] at hi
  rcases Nat.lt_or_ge i (pre ++ [oL]).length with h' | h'
  .rw [Array.getElem?_eq_getElem (by simpa using h')] at hi; simp at hi
  rw [Array.getElem?_eq_none (by simpa using h')] at hi; simp at hi
 .rw [Array.getD_eq_getD_getElem?, Array.getElem?_eq_getElem (by simp)]; simp
 obtain ⟨⟨μ, x1, x2⟩, x3, x4⟩ := hR'
 refine ⟨⟨μ, x1.less fun id hid => ?_, x2⟩, x3, x4⟩
 rcases hid with hid | ⟨k, _, _, rfl⟩
 .simp only [Fr]; omega
 simp [Fr]
theorem ABa (q : Bool) (hE : BB P AB) (hm : P.follows .mixedOrders = true) {id : Nat} {ops : List Oper} {Q : Exit -> St -> Prop} {nt : Nat} {sl : List (Nat × LV)} {h : AQ} {c : Nat} (others : List Nat) (n : Nat) {oL : Oper}
  (hq : (!q || AB.calm.isSome) = true) (hlast : Ic ops = some oL) (hcl : RA ops others = true) (hok : G6 q AB.own .any (Jt ops).toArray (others ++ [ops.length - 1]) (Array.replicate ops.length false) = true) (hl : Nat.beq (others.length + 1) ops.length = true) (hn : Nat.beq ops.length n = true)
  (k : DW P A AB c n ⟨fun st => ∃ st', BA A st st' /\ BQ P A AB st' oL.dst oL.op ⟨Q .normal, ⟨⟩⟩, ⟨⟩⟩ (FP (Jt ops) (others ++ [n - 1])) ⟨nt, sl, h, c⟩) : CD P A (.region id ops.toArray true) Q ⟨nt, sl, h, c⟩ := fun a w hR => by
 have hn' := Nat.eq_of_beq_eq_true hn
 subst hn'
 have hq' : q = true -> ∃ b, AB.calm = some b := fun e => by subst e; exact Option.isSome_iff_exists.1 (by simpa using hq)
 obtain ⟨pre, rfl⟩ := Lc hlast
 unfold RA at hcl
 rw [hlast] at hcl
 simp only [Bool.and_eq_true, Option.isNone_iff_eq_none] at hcl
 obtain ⟨g0, g1, g2, g3, g4, g5⟩ := hcl
 have hlen : (pre ++ [oL]).length - 1 = pre.length := by simp
 rw [hlen] at g1 g2 g4 g5 hok k
 rw [MT] at hok k
 have hsz : (pre ++ [GG oL]).length = (pre ++ [oL]).length := by simp
 have hb : ((others ++ [pre.length]).all fun i => decide (i < (pre ++ [GG oL]).length)) = true := by
  rw [List.all_eq_true] at g3 ⊢
  intro i hi
  rcases List.mem_append.1 hi with hi | hi
  .have := Nat.le_of_ble_eq_true (g3 i hi)
   simp only [List.length_append, List.length_cons, List.length_nil, decide_eq_true_eq] at this ⊢
   omega
  simp at hi; subst hi; simp
 rw [<- hsz] at k hok
 have hd := G9 (others ++ [pre.length]) _ hb k
 refine wp_region_any hm ?_
 have hR' := (hR.drawn (w.drawn + 1)).toRF
 have hfr : ∀ k, AF (c + k) h = none := by
  intro k
  cases hx : AF (c + k) h with
  | none => rfl
  | some o =>
   obtain ⟨⟨μ, hh, _⟩, _, _⟩ := hR
   obtain ⟨loc, h1, _⟩ := hh.obj _ _ hx
   rw [hh.fresh _ (by simp [Fr])] at h1; cases h1
 have hD := ID q hq' (others ++ [pre.length]) (Array.replicate (pre ++ [GG oL]).length false) ⟨nt, sl, h, c⟩ hok (fun k _ => hfr k) hd
 have hol : (others ++ [pre.length]).length = (pre ++ [oL]).length := by
  have := Nat.eq_of_beq_eq_true hl
  simpa using this
 rw [hol, hsz] at hD
 have hs2 : (pre ++ [oL]).toArray.size = (pre ++ [oL]).length := by simp
 rw [hs2]
 have hL0 : pre.length < (pre ++ [oL]).length := by simp
 refine Q9 (A := A) (n := (pre ++ [oL]).length) (L := pre.length) (oL := oL) (ops' := (pre ++ [GG oL]).toArray) (F := Q .normal) (base := c) hE (by simp) (by simp) (by simp) (by simp) g0 (fun i hi => ?_) g1 (others := others) (fun i hi => ?_) (fun i hi => ?_) hL0 g4 g5
  (fun st a w hF hRR => ⟨st, hRR, hF⟩) (fun st hK => hK) (pre ++ [oL]).length _ _ a _ (by simp) (fun i hi => ?_) ?_ hD ?_
 .simp only [List.getElem?_toArray]
  rcases Nat.lt_trichotomy i pre.length with h' | h' | h'
  .rw [List.getElem?_append_left h', List.getElem?_append_left h']
  .exact absurd h' hi
  rw [List.getElem?_eq_none (by simp; omega), List.getElem?_eq_none (by simp; omega)]
 .have := List.all_eq_true.1 g2 i (List.mem_range.2 hi)
  simp only [Bool.or_eq_true, List.contains_iff_mem] at this
  exact this.imp (fun h => Nat.eq_of_beq_eq_true h) fun h => h
 .exact Nat.le_of_ble_eq_true (List.all_eq_true.1 g3 i hi)
 .exfalso
  rw [Array.getD_eq_getD_getElem?] at hi
  rcases Nat.lt_or_ge i (pre ++ [oL]).length with h' | h'
  .rw [Array.getElem?_eq_getElem (by simpa using h')] at hi; simp at hi
  rw [Array.getElem?_eq_none (by simpa using h')] at hi; simp at hi
 .rw [Array.getD_eq_getD_getElem?, Array.getElem?_eq_getElem (by simp)]; simp
 obtain ⟨⟨μ, x1, x2⟩, x3, x4⟩ := hR'
 refine ⟨⟨μ, x1.less fun id hid => ?_, x2⟩, x3, x4⟩
 rcases hid with hid | ⟨k, _, _, rfl⟩
 .simp only [Fr]; omega
 simp [Fr]
end
section
variable {α : Type} {enc : α -> List DV} {l r : List α} {h : AQ} {e sz : Nat}
theorem BK {id : Nat} {n m : Int} (hr : Hx l n m = some r) (hl : Ba id h = some (.row e sz (l.map enc))) : HX h (.lsl id sz n.toNat (m - n).toNat) = some (r.map enc) := by
 obtain ⟨h1, h2⟩ := UD hr
 rw [Bb] at hl
 simp only [HX, hl, List.length_map, h1, if_true]
 rw [<- List.map_drop, <- List.map_take, h2]
theorem BV {id : Nat} {m : Int} (hr : Hx l 0 m = some r) (hl : Ba id h = some (.row e sz (l.map enc))) : HX h (.lsl id sz 0 r.length) = some (r.map enc) := by
 obtain ⟨h1, h2⟩ := XO hr
 rw [Bb] at hl
 simp only [HX, hl, List.length_map, h1, if_true]
 rw [<- List.map_drop, <- List.map_take, h2]
end
end Go.E
/- Drawn regions draw by draw, each operation as in the text's order (calls that make or turn objects of their own, too). Condition: no guards. -/
namespace Go.E
open Go Go.RowKit
section
variable {P : Program} {A : BP} {AB : A9} {md : Region.Mode} {ops : Array Oper} {Q : Exit -> St -> Prop}
def DS (P : Program) (A : BP) (md : Region.Mode) (ops : Array Oper) (Q : Exit -> St -> Prop) (fuel : Nat) (listed : Array Bool) (st : St) : Prop :=
 ∀ a w, R A st a w -> wpAny P md ops (fun e a' w' => ∃ st', R A st' a' w' /\ Q e st') fuel listed a w
theorem Bl {fuel : Nat} {listed : Array Bool} {st st' : St} (hw : BA A st st') (h : DS P A md ops Q fuel listed st') : DS P A md ops Q fuel listed st := fun a w hR => h a w (hw a w hR)
theorem Vp (hE : BB P AB) {fuel : Nat} {listed : Array Bool} {st : St} {i : Nat} {o : Oper} (ho : ops[i]? = some o) (hg : o.guard = none)
  (k : EU P A AB ⟨fun st' => DS P A md ops Q fuel (listed.setIfInBounds i true) st', ⟨⟩⟩ [⟨o.dst, o.op, none⟩] st) {a : Act} {w : World} (hR : R A st a w) :
  wpOp P ops (fun e a' w' => ∃ st', R A st' a' w' /\ Q e st') i (wpAny P md ops (fun e a' w' => ∃ st', R A st' a' w' /\ Q e st') fuel (listed.setIfInBounds i true)) a w := by
 unfold wpOp
 rw [ho]
 have hw : Region.wanted o (yielded ops a.tmps) = true := by unfold Region.wanted; rw [hg]
 simp only [hw, if_true]
 have k' : BQ P A AB st o.dst o.op ⟨EU P A AB ⟨fun st' => DS P A md ops Q fuel (listed.setIfInBounds i true) st', ⟨⟩⟩ [], ⟨⟩⟩ := k
 exact .inl (OF hE (PF k') hR fun st' a' w' hF hR' => by
  obtain ⟨hF⟩ := hF
  exact hF a' w' hR')
theorem ABy (hm : P.follows .mixedOrders = true) {id : Nat} {l : List Oper} {st : St} (n : Nat) (hn : Nat.beq l.length n = true)
  (k : DS P A .any l.toArray Q n (Array.replicate n false) st) : CD P A (.region id l.toArray true) Q st := fun a w hR => by
 have hn' := Nat.eq_of_beq_eq_true hn
 subst hn'
 refine wp_region_any hm ?_
 exact k _ _ (hR.drawn (w.drawn + 1))
theorem ds0 {fuel : Nat} {listed : Array Bool} {st : St} (hr : Region.ready md ops listed = []) (k : Q .normal st) : DS P A md ops Q fuel listed st := fun a w hR => by
 cases fuel with
 | zero => exact ⟨hr, st, hR, k⟩
 | succ f => exact ⟨fun _ => ⟨st, hR, k⟩, fun i hi => by rw [hr] at hi; cases hi⟩
theorem N2 (hE : BB P AB) {fuel : Nat} {listed : Array Bool} {st : St} (i : Nat) {o : Oper} (hr : Region.ready md ops listed = [i]) (ho : ops[i]? = some o) (hg : o.guard = none)
  (k : EU P A AB ⟨fun st' => DS P A md ops Q fuel (listed.setIfInBounds i true) st', ⟨⟩⟩ [⟨o.dst, o.op, none⟩] st) : DS P A md ops Q (fuel + 1) listed st := fun a w hR =>
 ⟨fun h => absurd (hr.symm.trans h) (by simp), fun j hj => by
  rw [hr] at hj
  simp only [List.mem_singleton] at hj
  subst hj
  exact Vp hE ho hg k hR⟩
theorem MZ (hE : BB P AB) {fuel : Nat} {listed : Array Bool} {st : St} (i j : Nat) {o o' : Oper} (hr : Region.ready md ops listed = [i, j]) (ho : ops[i]? = some o) (hg : o.guard = none) (ho' : ops[j]? = some o') (hg' : o'.guard = none)
  (k : EU P A AB ⟨fun st' => DS P A md ops Q fuel (listed.setIfInBounds i true) st', ⟨⟩⟩ [⟨o.dst, o.op, none⟩] st)
  (k' : EU P A AB ⟨fun st' => DS P A md ops Q fuel (listed.setIfInBounds j true) st', ⟨⟩⟩ [⟨o'.dst, o'.op, none⟩] st) : DS P A md ops Q (fuel + 1) listed st := fun a w hR =>
 ⟨fun h => absurd (hr.symm.trans h) (by simp), fun m hm => by
  rw [hr] at hm
  simp only [List.mem_cons, List.not_mem_nil, or_false] at hm
  rcases hm with rfl | rfl
  .exact Vp hE ho hg k hR
  exact Vp hE ho' hg' k' hR⟩
theorem C4 {fuel fuel' : Nat} {listed listed' : Array Bool} {st st' : St} (h : DS P A md ops Q fuel' listed' st') (k : DS P A md ops Q fuel' listed' st' -> DS P A md ops Q fuel listed st) : DS P A md ops Q fuel listed st := k h
end
end Go.E
/- maps.Clone as a call out of a data state: a new map with the same entries. For a map of one's own. -/
namespace Go.E
open Go Go.RowKit Go.Shelf Go.Proofs
section
variable {P : Program} {ρ : Ren}
theorem Wq (L : SlLaysW.n5 P ρ) {h : AQ} {ctr id : Nat} {m : List (DV × DV)} (hl : AF id h = some (.map m)) : Kc P h ctr (ρ.f 5) [.lmap id] (.lmap ctr) ((ctr, .map m) :: h) := by
 refine ⟨?_, fun A F μ w vs hh hc _ hsz hr => ?_⟩
 .obtain ⟨nm, hn, hf⟩ := L.f5
  exact Ij hf rfl hn
 have hvs : ∃ a, vs = #[a] := by
  obtain ⟨l⟩ := vs
  match l, hsz with
  | [a], _ => exact ⟨a, rfl⟩
 obtain ⟨v0, rfl⟩ := hvs
 have h0 := hr 0 v0 _ rfl rfl
 cases h0 with
 | lmap id loc hm hn =>
  obtain ⟨loc', h1, h2⟩ := hh.obj id _ hl
  rw [hm] at h1; cases h1
  obtain ⟨_, es, clock, hb, h3, h4, h5⟩ := h2
  refine (AnyW.maps_Clone L loc.b es clock w hb).mono fun e w' ⟨he, hw⟩ => ?_
  subst hw
  have hno : μ ctr = none := hh.fresh ctr hc
  have hsub : ∀ id x, AF id ((ctr, BE.map m) :: h) = some x -> (id = ctr /\ x = .map m) \/ AF id h = some x := by
   intro id x hx
   simp only [AF] at hx
   split at hx
   .cases hx; exact .inl ⟨‹_›, rfl⟩
   exact .inr hx
  have hkm : Bd (CA μ h) w (w.alloc (.map es clock)) := ⟨by simp, fun b hb' _ => ET w _ hb'⟩
  have hfr : Ln μ h ((ctr, BE.map m) :: h) w ⟨false, w.heap.size, 0, 0, 0⟩ := fun _ => .inl (Nat.le_refl _)
  have hown := hh.sub_add ⟨false, w.heap.size, 0, 0, 0⟩ (.map m) ((ctr, .map m) :: h) hfr hsub
  have hadd := hh.add (w' := w.alloc (.map es clock)) hno ⟨false, w.heap.size, 0, 0, 0⟩ (.map m) ((ctr, .map m) :: h) (fun _ => by simp) hfr hsub hkm (fun id x lc hx hne hm' hnl => by
   rcases hsub id x hx with ⟨rfl, _⟩ | hx
   .exact absurd rfl hne
   .exact ET w _ (hh.base id x lc hx hm' hnl).1) rfl rfl rfl
   ⟨rfl, es, clock, FA w _, h3, h4, fun i e p he hp => ⟨(h5 i e p he hp).1.mono hkm.own hown, (h5 i e p he hp).2.mono hkm.own hown⟩⟩
  exact ⟨_, _, he, hadd, .lmap ctr ⟨false, w.heap.size, 0, 0, 0⟩ (by simp [B5]) rfl, fun v x hv => hv.mono hkm.own hown (Iw hno _)⟩
end
section
variable {P : Program} {A : BP} {AB : A9} {ρ : Ren} {nt : Nat} {sl : List (Nat × LV)} {h : AQ} {c d : Nat} {f : St -> Prop} {hf : Ik f}
theorem M2 {k : Nat} (L : SlLaysW.n5 P ρ) (hk : ρ.f 5 = k) {fo a1 : Operand} {args : Array Operand} {ts : Array TypeId} {id : Nat} {m : List (DV × DV)} (hl : Ba id h = some (.map m))
  (hfn : (Cl fo, BL nt sl fo) = (true, .fn k [])) (ha : args.toList = [a1]) (h1 : BL nt sl a1 = .lmap id)
  (kk : f ⟨nt, (d, .lmap c) :: sl, (c, .map m) :: h, c + 1⟩) : Gl P A AB ⟨nt, sl, h, c⟩ (some d) (.call ⟨.value fo, args, ts⟩) ⟨f, hf⟩ := by
 obtain ⟨hdl, hfn⟩ := Prod.mk.inj hfn
 rw [BN (h := h) (c := c)] at hfn h1
 rw [Bb] at hl
 subst hk
 have haa : args = #[a1] := by rw [<- Array.toList_inj, ha]
 subst haa
 show (if Cl fo = true then _ else _)
 rw [if_pos hdl]
 refine ⟨.lmap c, (c, .map m) :: h, ⟨fo, _, [], rfl, hfn, ?_, fun q hq hn => ?_, fun b _ id' o _ hi _ hx => ?_⟩, kk⟩
 .show Kc P h c _ ([St.eval _ a1] ++ []) _ _
  rw [h1, List.append_nil]
  exact Wq L hl
 .simp only [AF, hq, if_false]; exact hn
 simp only [AF, hi, if_false]; exact hx
end
end Go.E
/- The program's data in plain Lean, and how they stand in cells. Written by a program (gen.py). No condition. -/
namespace Go.E
open Go Go.RowKit Go.Proofs Go.Shelf
theorem bq {α β : Type} {o : Option α} {f : α -> Option β} {b : β} {G : Prop} (h : o.bind f = some b) (k : ∀ a, o = some a -> f a = some b -> G) : G := by
 obtain ⟨a, h1, h2⟩ := bd h
 exact k a h1 h2
abbrev bx (l : List DV) : BE := .box (l.map .p)
theorem Z {α : Type} {a : α} : a = a := rfl
theorem Ad {σ : Type} {A : BP} {S : σ -> St} {st : St} {s t : σ} (h : some s = some t) (hw : BA A st (S s)) : NP A S t .normal st := by
 cases h; exact npn hw
theorem BJ {σ Ans : Type} {A : BP} {S : σ -> St} {Q : Ans -> Exit -> St -> Prop} {st : St} {s : σ} {b : σ ⊕ Ans} (h : some (.inl s) = some b) (hw : BA A st (S s)) : LP A S Q b .normal st := by
 cases h; exact lpn hw
theorem B6 {σ Ans : Type} {A : BP} {S : σ -> St} {Q : Ans -> Exit -> St -> Prop} {st : St} {x : Ans} {b : σ ⊕ Ans} {id : Nat} (h : some (.inr x) = some b) (k : ∀ a, some x = some a -> Q a (.exit id) st) : LP A S Q b (.exit id) st := by
 cases h; exact lpx (k x rfl)
theorem Bp {σ Ans : Type} {A : BP} {S : σ -> St} {Q : Ans -> Exit -> St -> Prop} {st : St} {x : Ans} {b : σ ⊕ Ans} (h : some (.inr x) = some b) (k : ∀ a, some x = some a -> Q a .ret st) : LP A S Q b .ret st := by
 cases h; exact lpt (k x rfl)
theorem DY {σ Ans : Type} {A : BP} {S : σ -> St} {Q : Ans -> Exit -> St -> Prop} {st : St} {o : Option Ans} {b : σ ⊕ Ans} {id : Nat} (h : o.map .inr = some b) (k : ∀ a, o = some a -> Q a (.exit id) st) : LP A S Q b (.exit id) st := by
 obtain ⟨a, h1, rfl⟩ := mp h; exact lpx (k a h1)
theorem ACA {σ Ans : Type} {A : BP} {S : σ -> St} {Q : Ans -> Exit -> St -> Prop} {st : St} {o : Option Ans} {b : σ ⊕ Ans} (h : o.map .inr = some b) (k : ∀ a, o = some a -> Q a .ret st) : LP A S Q b .ret st := by
 obtain ⟨a, h1, rfl⟩ := mp h; exact lpt (k a h1)

instance : BEq ByteArray := ⟨fun a b => a.toList == b.toList⟩
def Ae (n : Int) : Int := IntKind.wrap .i64 n
def ZH (a b : Int) : Int := IntKind.wrap .i64 (BitVec.ofInt (IntKind.bits .i64) a ^^^ BitVec.ofInt (IntKind.bits .i64) b).toNat
def AI (n : Int) : List DV := [.int .i64 n]
def CT (n : Int) : List DV := [.int .u8 n]
def ABb (b : Bool) : List DV := [.bool b]
def FY (s : ByteArray) : List DV := [.str s]
def Ac {α : Type} (sz : Nat) (enc : α -> List DV) (l : List α) : DV := .slice sz (l.map enc)
def Km {α : Type} (sz : Nat) (enc : α -> List DV) (l : List α) : List DV := [.slice sz (l.map enc)]
structure AE where
 elem : Int
 fin : Int
 deriving DecidableEq
def A6 (x : AE) : List DV := [.int .i64 x.elem, .int .i64 x.fin]
theorem LX (x y : AE) : C0 (A6 x) (A6 y) = (x == y) := by
 rw [Bool.eq_iff_iff]
 rw [beq_iff_eq]
 simp only [A6, C0, EJ, Bool.and_eq_true, beq_iff_eq, Bool.and_true]
 constructor
 .intro h
  obtain ⟨a1, a2⟩ := x; obtain ⟨b1, b2⟩ := y; simp only at h; simp [h]
 rintro rfl; simp
structure Bx where
 a : AE
 b : AE
 deriving DecidableEq
def B3 (x : Bx) : List DV := [.int .i64 x.a.elem, .int .i64 x.a.fin, .int .i64 x.b.elem, .int .i64 x.b.fin]
structure By where
 name : ByteArray
 kind : Int
 length : Int
 deriving DecidableEq
def Bg (x : By) : List DV := [.str x.name, .int .i64 x.kind, .int .i64 x.length]
structure BI where
 name : ByteArray
 at_ : AE
 auto : Bool
 deriving DecidableEq
def BR (x : BI) : List DV := [.str x.name, .int .i64 x.at_.elem, .int .i64 x.at_.fin, .bool x.auto]
structure CN where
 name : ByteArray
 elems : (List Int)
 deriving DecidableEq
def B8 (x : CN) : List DV := [.str x.name, .slice 1 (x.elems.map AI)]
structure AO where
 elems : (List By)
 joins : (List Bx)
 signals : (List BI)
 lines : (List CN)
 top : Int
 brake : Int
 margin : Int
 throw : Int
 hard : Bool
 deriving DecidableEq
def Ak (x : AO) : List DV := [.slice 3 (x.elems.map Bg), .slice 4 (x.joins.map B3), .slice 4 (x.signals.map BR), .slice 2 (x.lines.map B8), .int .i64 x.top, .int .i64 x.brake, .int .i64 x.margin, .int .i64 x.throw, .bool x.hard]
structure Gh where
 a0 : Int
 a1 : Int
 deriving DecidableEq
structure CX where
 p : AO
 next : (List (AE × AE))
 reads : (List (AE × Int))
 line : (List (Int × Gh))
 lead : (List (Int × Int))
 deriving DecidableEq
structure A1 where
 elem : Int
 in_ : Int
 out : Int
 deriving DecidableEq
def BH (x : A1) : List DV := [.int .i64 x.elem, .int .i64 x.in_, .int .i64 x.out]
structure AM where
 elem : Int
 pos : Int
 deriving DecidableEq
def AK (x : AM) : List DV := [.int .i64 x.elem, .int .i64 x.pos]
theorem YT (x y : AM) : C0 (AK x) (AK y) = (x == y) := by
 rw [Bool.eq_iff_iff]
 rw [beq_iff_eq]
 simp only [AK, C0, EJ, Bool.and_eq_true, beq_iff_eq, Bool.and_true]
 constructor
 .intro h
  obtain ⟨a1, a2⟩ := x; obtain ⟨b1, b2⟩ := y; simp only at h; simp [h]
 rintro rfl; simp
structure AU where
 frm : Int
 to : Int
 fin : Int
 steps : (List A1)
 needs : (List AM)
 guards : (List AM)
 zone : (List Int)
 holds : (List Int)
 bare : Bool
 deriving DecidableEq
def As (x : AU) : List DV := [.int .i64 x.frm, .int .i64 x.to, .int .i64 x.fin, .slice 3 (x.steps.map BH), .slice 2 (x.needs.map AK), .slice 2 (x.guards.map AK), .slice 1 (x.zone.map AI), .slice 1 (x.holds.map AI), .bool x.bare]
structure DM where
 out : Int
 pos : Int
 deriving DecidableEq
def NZ (x : DM) : List DV := [.int .i64 x.out, .int .i64 x.pos]
structure Ai where
 p : AO
 r : AU
 met : (List AE)
 deriving DecidableEq
structure Nb where
 plan : AO
 roads : (List AU)
 deriving DecidableEq
structure AY where
 elems : Int
 steps : (List (Int × (List Int)))
 zone : (List (Int × (List Int)))
 needs : (List (Int × (List AM)))
 guards : (List (Int × (List AM)))
 deriving DecidableEq
def A8 (x : AY) : List DV := [.int .i64 x.elems, .map (Ab (.int .i64) (Ac 1 AI) x.steps), .map (Ab (.int .i64) (Ac 1 AI) x.zone), .map (Ab (.int .i64) (Ac 2 AK) x.needs), .map (Ab (.int .i64) (Ac 2 AK) x.guards)]
structure Al where
 owner : Int
 steps : (List Int)
 zone : (List Int)
 needs : (List AM)
 guard : (List AM)
 deriving DecidableEq
def AL (x : Al) : List DV := [.int .i64 x.owner, .slice 1 (x.steps.map AI), .slice 1 (x.zone.map AI), .slice 2 (x.needs.map AK), .slice 2 (x.guard.map AK)]
structure Aw where
 n : Int
 l : (List Al)
 deriving DecidableEq
def BF (x : Aw) : List DV := [.int .i64 x.n, .slice 5 (x.l.map AL)]
theorem Ca : Kg AB 3 (.int .i64) := ⟨fun _ _ => rfl, fun _ => rfl⟩
def AAd : Go.Shelf.Ren := ⟨fun n => if n = 45 then 126 else n, fun n => match n with | 22 => 28 | 23 => 3 | n => n, fun n => n⟩
theorem AAc : SlLaysE0.n45 Tryz.prog AAd where
 mixed := mixed
 f45 := ⟨Tryz.f126.name, by decide, by exact Tryz.func126⟩
 t0 := Tryz.underlying0
 a0 := Tryz.isAgg0
 z0 := Tryz.sizeOf0
 v0 := Tryz.zeroValue0
 t3 := Tryz.underlying3
 a3 := Tryz.isAgg3
 z3 := Tryz.sizeOf3
 v3 := Tryz.zeroValue3
 t4 := Tryz.underlying4
 a4 := Tryz.isAgg4
 z4 := Tryz.sizeOf4
 v4 := Tryz.zeroValue4
 t22 := Tryz.underlying28
 a22 := Tryz.isAgg28
 z22 := Tryz.sizeOf28
 v22 := Tryz.zeroValue28
def AAe : Go.Shelf.Ren := ⟨fun n => match n with | 5 => 133 | 7 => 188 | n => n, fun n => match n with | 4 => 4 | 20 => 20 | 23 => 115 | 25 => 3 | 3 => 28 | n => n, fun n => n⟩
theorem XG : SlLaysW.n5 Tryz.prog AAe where
 mixed := mixed
 f5 := ⟨Tryz.f133.name, by decide, by exact Tryz.func133⟩
 f7 := by exact Tryz.func188
 t4 := Tryz.underlying4
 a4 := Tryz.isAgg4
 z4 := Tryz.sizeOf4
 v4 := Tryz.zeroValue4
 t20 := Tryz.underlying20
 a20 := Tryz.isAgg20
 z20 := Tryz.sizeOf20
 v20 := Tryz.zeroValue20
 t23 := Tryz.underlying115
 a23 := Tryz.isAgg115
 z23 := Tryz.sizeOf115
 v23 := Tryz.zeroValue115
def AAf : Go.Shelf.Ren := ⟨fun n => match n with | 5 => 134 | 7 => 188 | n => n, fun n => match n with | 4 => 4 | 20 => 20 | 23 => 116 | 25 => 3 | 3 => 34 | n => n, fun n => n⟩
theorem XH : SlLaysW.n5 Tryz.prog AAf where
 mixed := mixed
 f5 := ⟨Tryz.f134.name, by decide, by exact Tryz.func134⟩
 f7 := by exact Tryz.func188
 t4 := Tryz.underlying4
 a4 := Tryz.isAgg4
 z4 := Tryz.sizeOf4
 v4 := Tryz.zeroValue4
 t20 := Tryz.underlying20
 a20 := Tryz.isAgg20
 z20 := Tryz.sizeOf20
 v20 := Tryz.zeroValue20
 t23 := Tryz.underlying116
 a23 := Tryz.isAgg116
 z23 := Tryz.sizeOf116
 v23 := Tryz.zeroValue116
def ABc : Go.Shelf.Ren := ⟨fun n => match n with | 125 => 123 | 128 => 183 | 129 => 184 | 189 => 58 | 215 => 207 | 216 => 180 | 257 => 122 | 294 => 174 | 295 => 175 | 296 => 176 | 297 => 177 | 298 => 178 | 299 => 179 | 300 => 181 | 301 => 182 | 328 => 202 | 329 => 203 | 330 => 204 | 331 => 205 | 332 => 206 | 343 => 213 | n => n, fun n => match n with | 0 => 0 | 3 => 3 | 4 => 4 | 5 => 5 | 9 => 9 | 28 => 28 | 46 => 180 | 51 => 229 | 53 => 231 | 131 => 106 | 182 => 222 | 183 => 223 | 218 => 245 | 222 => 249 | 228 => 253 | 229 => 70 | n => n, fun n => n⟩
theorem ZL : Go.Proofs.Lays.n189 Tryz.prog ABc where
 mixed := mixed
 f125 := by exact Tryz.func123
 f128 := by exact Tryz.func183
 f129 := by exact Tryz.func184
 f189 := by exact Tryz.func58
 f215 := by exact Tryz.func207
 f216 := by exact Tryz.func180
 f257 := by exact Tryz.func122
 f294 := by exact Tryz.func174
 f295 := by exact Tryz.func175
 f296 := by exact Tryz.func176
 f297 := by exact Tryz.func177
 f298 := by exact Tryz.func178
 f299 := by exact Tryz.func179
 f300 := by exact Tryz.func181
 f301 := by exact Tryz.func182
 f328 := by exact Tryz.func202
 f329 := by exact Tryz.func203
 f330 := by exact Tryz.func204
 f331 := by exact Tryz.func205
 f332 := by exact Tryz.func206
 f343 := by exact Tryz.func213
 t0 := Tryz.underlying0
 a0 := Tryz.isAgg0
 z0 := Tryz.sizeOf0
 v0 := Tryz.zeroValue0
 t3 := Tryz.underlying3
 a3 := Tryz.isAgg3
 z3 := Tryz.sizeOf3
 v3 := Tryz.zeroValue3
 t4 := Tryz.underlying4
 a4 := Tryz.isAgg4
 z4 := Tryz.sizeOf4
 v4 := Tryz.zeroValue4
 t5 := Tryz.underlying5
 a5 := Tryz.isAgg5
 z5 := Tryz.sizeOf5
 v5 := Tryz.zeroValue5
 t9 := Tryz.underlying9
 a9 := Tryz.isAgg9
 z9 := Tryz.sizeOf9
 v9 := Tryz.zeroValue9
 t28 := Tryz.underlying28
 a28 := Tryz.isAgg28
 z28 := Tryz.sizeOf28
 v28 := Tryz.zeroValue28
 t46 := Tryz.underlying180
 a46 := Tryz.isAgg180
 z46 := Tryz.sizeOf180
 v46 := Tryz.zeroValue180
 t51 := Tryz.underlying229
 a51 := Tryz.isAgg229
 z51 := Tryz.sizeOf229
 v51 := Tryz.zeroValue229
 t53 := Tryz.underlying231
 a53 := Tryz.isAgg231
 z53 := Tryz.sizeOf231
 v53 := Tryz.zeroValue231
 t131 := Tryz.underlying106
 a131 := Tryz.isAgg106
 z131 := Tryz.sizeOf106
 v131 := Tryz.zeroValue106
 t182 := Tryz.underlying222
 a182 := Tryz.isAgg222
 z182 := Tryz.sizeOf222
 v182 := Tryz.zeroValue222
 t183 := Tryz.underlying223
 a183 := Tryz.isAgg223
 z183 := Tryz.sizeOf223
 v183 := Tryz.zeroValue223
 t218 := Tryz.underlying245
 a218 := Tryz.isAgg245
 z218 := Tryz.sizeOf245
 v218 := Tryz.zeroValue245
 t222 := Tryz.underlying249
 a222 := Tryz.isAgg249
 z222 := Tryz.sizeOf249
 v222 := Tryz.zeroValue249
 t228 := Tryz.underlying253
 a228 := Tryz.isAgg253
 z228 := Tryz.sizeOf253
 v228 := Tryz.zeroValue253
 t229 := Tryz.underlying70
 a229 := Tryz.isAgg70
 z229 := Tryz.sizeOf70
 v229 := Tryz.zeroValue70
end Go.E
/- Plain functions, and walks in step with them. Written by a program (gen.py). No condition. -/
set_option maxRecDepth 100000
set_option maxHeartbeats 1000000
namespace Go.E
open Go Go.RowKit Go.Proofs
noncomputable def HD (a : Int) (b : Int) (c : Int) (d : Int) : Option Bx :=
 some (⟨(⟨a, b⟩ : AE), (⟨c, d⟩ : AE)⟩ : Bx)
theorem KN (a : Int) (b : Int) (c : Int) (d : Int) (r : Bx) (h : HD a b c d = some r) : Bc Tryz.prog 103 [.int .i64 a, .int .i64 b, .int .i64 c, .int .i64 d] (· = .agg (B3 r)) := by
 refine fn AA Tryz.func103 Z Z 16 Z [.cell 8 154] Z [(0, .p (.int .i64 a)), (1, .p (.int .i64 b)), (2, .p (.int .i64 c)), (3, .p (.int .i64 d))] Z Z fun A hA => ?_
 unfold HD at h
 refine rs AA <| rl Z <| rs AA <| rl Z <| AJ ?_
 cases h
 exact er Z Le.rfl
noncomputable def I5 : Option AO :=
 (HD 0 0 1 0).bind fun a => (HD 1 1 2 0).bind fun b => (HD 2 1 3 0).bind fun c => (HD 3 1 5 0).bind fun d => (HD 2 2 4 0).bind fun e => some (⟨[(⟨(⟨#[87]⟩ : ByteArray), 4, 0⟩ : By), (⟨(⟨#[65]⟩ : ByteArray), 1, 20⟩ : By), (⟨(⟨#[80]⟩ : ByteArray), 2, 10⟩ : By), (⟨(⟨#[66]⟩ : ByteArray), 1, 20⟩ : By), (⟨(⟨#[67]⟩ : ByteArray), 1, 30⟩ : By), (⟨(⟨#[69]⟩ : ByteArray), 4, 0⟩ : By)], [a, b, c, d, e], [(⟨(⟨#[119]⟩ : ByteArray), (⟨0, 0⟩ : AE), false⟩ : BI), (⟨(⟨#[97]⟩ : ByteArray), (⟨1, 1⟩ : AE), false⟩ : BI), (⟨(⟨#[101]⟩ : ByteArray), (⟨5, 0⟩ : AE), false⟩ : BI), (⟨(⟨#[98]⟩ : ByteArray), (⟨3, 0⟩ : AE), false⟩ : BI), (⟨(⟨#[99]⟩ : ByteArray), (⟨4, 0⟩ : AE), false⟩ : BI)], [], 10, 5, 15, 2, false⟩ : AO)
theorem WI (r : AO) (h : I5 = some r) : Bc Tryz.prog 37 [] (· = .agg (Ak r)) := by
 refine fn AA Tryz.func37 Z Z 31 Z [.cell 0 27] Z [] Z Z fun A hA => ?_
 unfold I5 at h
 refine rs AA <| rl Z <| rs AA <| rl Z <| rs AA <| rl Z <| rs AA <| bq h fun l a f => sx Z (Ah (KN _ _ _ _ _ a) (.inl Z) Z Z Z <| bq f fun m b g => sx Z (Ah (KN _ _ _ _ _ b) (.inl Z) Z Z Z <| bq g fun n c i => sx Z (Ah (KN _ _ _ _ _ c) (.inl Z) Z Z Z <| bq i fun o d j => sx Z (Ah (KN _ _ _ _ _ d) (.inl Z) Z Z Z <| bq j fun q e k => sx Z (Ah (KN _ _ _ _ _ e) (.inl Z) Z Z Z <| rl Z <| rs AA <| rl Z <| rs AA <| rl Z <| AJ ?_)))))
 cases k
 exact er (Ks Z (.agg (.cons (.own (enc := Bg) ([(⟨(⟨#[87]⟩ : ByteArray), 4, 0⟩ : By), (⟨(⟨#[65]⟩ : ByteArray), 1, 20⟩ : By), (⟨(⟨#[80]⟩ : ByteArray), 2, 10⟩ : By), (⟨(⟨#[66]⟩ : ByteArray), 1, 20⟩ : By), (⟨(⟨#[67]⟩ : ByteArray), 1, 30⟩ : By), (⟨(⟨#[69]⟩ : ByteArray), 4, 0⟩ : By)] : List By) Z Z) (.cons (.own (enc := B3) ([l, m, n, o, q] : List Bx) Z Z) (.cons (.own (enc := BR) ([(⟨(⟨#[119]⟩ : ByteArray), (⟨0, 0⟩ : AE), false⟩ : BI), (⟨(⟨#[97]⟩ : ByteArray), (⟨1, 1⟩ : AE), false⟩ : BI), (⟨(⟨#[101]⟩ : ByteArray), (⟨5, 0⟩ : AE), false⟩ : BI), (⟨(⟨#[98]⟩ : ByteArray), (⟨3, 0⟩ : AE), false⟩ : BI), (⟨(⟨#[99]⟩ : ByteArray), (⟨4, 0⟩ : AE), false⟩ : BI)] : List BI) Z Z) (.cons (.p _) (.cons (.p _) (.cons (.p _) (.cons (.p _) (.cons (.p _) (.cons (.p _) .nil))))))))))) (Le.agg' (.cons Le.rfl (.cons Le.rfl (.cons Le.rfl (.cons (Le.nil _) (.cons Le.rfl (.cons Le.rfl (.cons Le.rfl (.cons Le.rfl (.cons Le.rfl .nil))))))))))
noncomputable def Hv (b : AO) (a : Int) : Option (Int ⊕ Bool) :=
 bif decide (a < (b.signals.length : Int)) then (An b.signals a).bind fun c => bif decide (100 < (c.name.size : Int)) then some (.inr false) else some (.inl (Ae (a + 1))) else some (.inr true)
noncomputable def Hw (b : AO) (a : Int) : Option (Int ⊕ Bool) :=
 bif decide (a < (b.elems.length : Int)) then (An b.elems a).bind fun c => bif decide (100 < (c.name.size : Int)) then some (.inr false) else some (.inl (Ae (a + 1))) else (AP (Hv b) 0).map .inr
noncomputable def J3 (b : AO) (a : Int) : Option (Int ⊕ Bool) :=
 bif decide (a < (b.lines.length : Int)) then (((An b.lines a).bind fun d => bif decide (60 < (d.elems.length : Int)) then some true else (An b.lines a).bind fun e => some (decide (100 < (e.name.size : Int))) : Option (Bool))).bind fun (c : Bool) => bif c then some (.inr false) else some (.inl (Ae (a + 1))) else (AP (Hw b) 0).map .inr
noncomputable def Ji (a : AO) : Option Bool :=
 ((bif decide (60 < (a.elems.length : Int)) then some true else bif decide (120 < (a.joins.length : Int)) then some true else bif decide (60 < (a.signals.length : Int)) then some true else some (decide (20 < (a.lines.length : Int))) : Option (Bool))).bind fun (b : Bool) => bif b then some false else AP (J3 a) 0
theorem YQ (b : AO) (r : Bool) (h : Ji b = some r) : Bc Tryz.prog 41 [.agg (Ak b)] (· = .bool r) := by
 refine fn AA Tryz.func41 Z Z 83 Z [.tmp 2] Z [(0, .p (.agg (Ak b)))] Z Z fun A hA => ?_
 unfold Ji at h
 refine rs AA <| rl Z <| AC <| jb (fun d : Bool => ⟨83, [(1, .lpb 0 0), (27, lb d)], [(0, bx (Ak b))], 1⟩) h (fun d u => ?_) (fun d am => ?_)
 .refine rg AA <| rn 2 Z <| sx Z (Ay Z Z <| rn 2 Z <| gs 10 u Z Z Z (fun v => ?_) (fun ac => ?_))
  .exact rl Z <| Ad v (wf hA [(0, 0)] Z Z Z)
  refine rn 2 Z <| sx Z (Ay Z Z <| rn 3 Z <| gs 16 ac Z Z Z (fun ai => ?_) (fun aj => ?_))
  .exact rl Z <| Ad ai (wf hA [(0, 0)] Z Z Z)
  refine rn 2 Z <| sx Z (Ay Z Z <| rn 3 Z <| gs 22 aj Z Z Z (fun ak => ?_) (fun al => ?_))
  .exact rl Z <| Ad ak (wf hA [(0, 0)] Z Z Z)
  exact rn 2 Z <| sx Z (Ay Z Z <| rl Z <| Ad al (wf hA [(0, 0)] Z Z Z))
 refine cd Z am (fun an => ?_) (fun ao => ?_)
 .refine rs AA <| rl Z <| AJ <| AN ?_
  cases an
  exact er Z Le.rfl
 refine AG <| AD <| AC <| rs AA <| rl Z <| AH ?_
 apply lp (a := r) (fun c : Int => ⟨83, [(1, .lpb 0 0), (3, li c)], [(0, bx (Ak b))], 1⟩) ao
 . exact wf hA [(0, 0)] Z Z Z
 intro c a9 f
 unfold J3 at f
 refine AC <| rs AA <| rn 3 Z <| sx Z (Ay Z Z <| rl Z <| cd Z f (fun t => ?_) (fun ag => ?_))
 .refine AG <| AD <| AC <| AH <| jb (fun e : Bool => ⟨83, [(1, .lpb 0 0), (3, li c), (52, lb e)], [(0, bx (Ak b))], 1⟩) t (fun e w => ?_) (fun e ab => ?_)
  .refine rg AA <| rn 3 Z <| bq w fun bc n x => sx Z (Az n Z Z Z <| rn 2 Z <| sx Z (Ay Z Z <| rn 2 Z <| gs 43 x Z Z Z (fun y => ?_) (fun z => ?_)))
   .exact rl Z <| Ad y (wf hA [(0, 0)] Z Z Z)
   exact rn 3 Z <| bq z fun be o aa => sx Z (Az o Z Z Z <| rl Z <| Ad aa (wf hA [(0, 0)] Z Z Z))
  refine cd Z ab (fun ad => ?_) (fun af => ?_)
  .refine rs AA <| rl Z <| AJ <| Ao <| AN <| Bp ad fun a5 ae => Ao <| AN ?_
   cases ae
   exact er Z Le.rfl
  exact AG <| Av <| AD <| rg AA <| rl Z <| BJ af (wf hA [(0, 0)] Z Z Z)
 refine Am <| Aq <| DY ag fun l ah => A4 <| AD <| AC <| rs AA <| rl Z <| AH ?_
 apply lp (a := l) (fun j : Int => ⟨83, [(1, .lpb 0 0), (4, li j)], [(0, bx (Ak b))], 1⟩) ah
 . exact wf hA [(0, 0)] Z Z Z
 intro j ba g
 unfold Hw at g
 refine AC <| rs AA <| rn 3 Z <| sx Z (Ay Z Z <| rl Z <| cd Z g (fun ap => ?_) (fun aw => ?_))
 .refine AG <| AD <| AC <| AH <| rs AA <| rn 3 Z <| bq ap fun bf q aq => sx Z (Az q Z Z Z <| rl Z <| cd Z aq (fun ar => ?_) (fun av => ?_))
  .refine rs AA <| rl Z <| AJ <| Ao <| AN <| Bp ar fun a6 au => Ao <| AN ?_
   cases au
   exact er Z Le.rfl
  exact AG <| Av <| AD <| rg AA <| rl Z <| BJ av (wf hA [(0, 0)] Z Z Z)
 refine Am <| Aq <| DY aw fun m ax => A4 <| AD <| AC <| rs AA <| rl Z <| AH ?_
 apply lp (a := m) (fun k : Int => ⟨83, [(1, .lpb 0 0), (5, li k)], [(0, bx (Ak b))], 1⟩) ax
 . exact wf hA [(0, 0)] Z Z Z
 intro k bb i
 unfold Hv at i
 refine AC <| rs AA <| rn 3 Z <| sx Z (Ay Z Z <| rl Z <| cd Z i (fun ay => ?_) (fun a3 => ?_))
 .refine AG <| AD <| AC <| AH <| rs AA <| rn 3 Z <| bq ay fun bg s az => sx Z (Az s Z Z Z <| rl Z <| cd Z az (fun a0 => ?_) (fun a2 => ?_))
  .refine rs AA <| rl Z <| AJ <| Ao <| AN <| Bp a0 fun a7 a1 => Ao <| AN ?_
   cases a1
   exact er Z Le.rfl
  exact AG <| Av <| AD <| rg AA <| rl Z <| BJ a2 (wf hA [(0, 0)] Z Z Z)
 refine Am <| Aq <| B6 a3 fun a8 a4 => A4 <| AD <| rs AA <| rl Z <| AJ ?_
 cases a4
 exact er Z Le.rfl
noncomputable def Er (b : AO) (d : (Int × (List ByteArray))) (c : (Int × (List ByteArray))) (a : Int × (List ByteArray)) : Option ((Int × (List ByteArray)) ⊕ ((List ByteArray) × (List ByteArray) × (List ByteArray))) :=
 bif decide (a.1 < (b.lines.length : Int)) then (An b.lines a.1).bind fun e => (A7 a.2 [e.name]).bind fun f => some (.inl (Ae (a.1 + 1), f)) else some (.inr (d.2, c.2, a.2))
noncomputable def Es (b : AO) (c : (Int × (List ByteArray))) (a : Int × (List ByteArray)) : Option ((Int × (List ByteArray)) ⊕ ((List ByteArray) × (List ByteArray) × (List ByteArray))) :=
 bif decide (a.1 < (b.signals.length : Int)) then (An b.signals a.1).bind fun d => (A7 a.2 [d.name]).bind fun e => some (.inl (Ae (a.1 + 1), e)) else (AP (Er b c a) (0, ([] : List ByteArray))).map .inr
noncomputable def GU (b : AO) (a : Int × (List ByteArray)) : Option ((Int × (List ByteArray)) ⊕ ((List ByteArray) × (List ByteArray) × (List ByteArray))) :=
 bif decide (a.1 < (b.elems.length : Int)) then (An b.elems a.1).bind fun c => (A7 a.2 [c.name]).bind fun d => some (.inl (Ae (a.1 + 1), d)) else (AP (Es b a) (0, ([] : List ByteArray))).map .inr
noncomputable def I6 (a : AO) : Option ((List ByteArray) × (List ByteArray) × (List ByteArray)) :=
 AP (GU a) (0, ([] : List ByteArray))
theorem WJ (e : AO) (r : ((List ByteArray) × (List ByteArray) × (List ByteArray))) (h : I6 e = some r) : Bc Tryz.prog 108 [.agg (Ak e)] (· = .tup [.slice 1 (r.1.map FY), .slice 1 (r.2.1.map FY), .slice 1 (r.2.2.map FY)]) := by
 refine fn AA Tryz.func108 Z Z 62 Z [.tmp 2, .tmp 3, .tmp 4] Z [(0, .p (.agg (Ak e)))] Z Z fun A hA => ?_
 unfold I6 at h
 refine rs AA <| rl Z <| rs AA <| rl Z <| AC <| rs AA <| rl Z <| AH ?_
 apply lp (a := r) (fun b : (Int × (List ByteArray)) => ⟨62, [(1, .lpb 0 0), (5, .lsl 1 1 0 b.2.length), (6, .p (.nils)), (7, .p (.nils)), (8, li b.1)], [(0, bx (Ak e)), (1, .row 9 1 (b.2.map FY))], 2⟩) h
 . exact BA.trans (B4 5 9 1 Z) (wf hA [(0, 0), (1, 1)] Z Z Z)
 intro b aq i
 unfold GU at i
 refine AC <| rs AA <| rn 3 Z <| sx Z (Ay Z Z <| rl Z <| cd Z i (fun aj => ?_) (fun x => ?_))
 .exact AG <| AD <| AC <| AH <| rg AA <| rn 4 Z <| bq aj fun ak n v => sx Z (Az n Z Z Z <| rn 3 Z <| bq v fun ar o w => sx Z (AR (enc := FY) (l := b.2) (m := [ak.name]) o (fun _ => ⟨Z, Z⟩) Z Z Z Z Z Z <| rl Z <| Av <| AD <| rg AA <| rl Z <| BJ w (wf hA [(0, 0), (1, 3)] Z Z Z)))
 refine Am <| Aq <| DY x fun j y => A4 <| AD <| AC <| rs AA <| rl Z <| AH ?_
 apply lp (a := j) (fun c : (Int × (List ByteArray)) => ⟨62, [(1, .lpb 0 0), (5, .lsl 1 1 0 b.2.length), (6, .lsl 2 1 0 c.2.length), (7, .p (.nils)), (9, li c.1)], [(0, bx (Ak e)), (1, .row 9 1 (b.2.map FY)), (2, .row 9 1 (c.2.map FY))], 3⟩) y
 . exact BA.trans (B4 6 9 1 Z) (wf hA (gi 3 []) Z Z Z)
 intro c ao f
 unfold Es at f
 refine AC <| rs AA <| rn 3 Z <| sx Z (Ay Z Z <| rl Z <| cd Z f (fun z => ?_) (fun ac => ?_))
 .exact AG <| AD <| AC <| AH <| rg AA <| rn 4 Z <| bq z fun al q aa => sx Z (Az q Z Z Z <| rn 3 Z <| bq aa fun au s ab => sx Z (AR (enc := FY) (l := c.2) (m := [al.name]) s (fun _ => ⟨Z, Z⟩) Z Z Z Z Z Z <| rl Z <| Av <| AD <| rg AA <| rl Z <| BJ ab (wf hA [(0, 0), (1, 1), (2, 4)] Z Z Z)))
 refine Am <| Aq <| DY ac fun k ad => A4 <| AD <| AC <| rs AA <| rl Z <| AH ?_
 apply lp (a := k) (fun d : (Int × (List ByteArray)) => ⟨62, [(1, .lpb 0 0), (5, .lsl 1 1 0 b.2.length), (6, .lsl 2 1 0 c.2.length), (7, .lsl 3 1 0 d.2.length), (10, li d.1)], [(0, bx (Ak e)), (1, .row 9 1 (b.2.map FY)), (2, .row 9 1 (c.2.map FY)), (3, .row 9 1 (d.2.map FY))], 4⟩) ad
 . exact BA.trans (B4 7 9 1 Z) (wf hA (gi 4 []) Z Z Z)
 intro d ap g
 unfold Er at g
 refine AC <| rs AA <| rn 3 Z <| sx Z (Ay Z Z <| rl Z <| cd Z g (fun ae => ?_) (fun ah => ?_))
 .exact AG <| AD <| AC <| AH <| rg AA <| rn 4 Z <| bq ae fun am t af => sx Z (Az t Z Z Z <| rn 3 Z <| bq af fun av u ag => sx Z (AR (enc := FY) (l := d.2) (m := [am.name]) u (fun _ => ⟨Z, Z⟩) Z Z Z Z Z Z <| rl Z <| Av <| AD <| rg AA <| rl Z <| BJ ag (wf hA (gi 3 [(3, 5)]) Z Z Z)))
 refine Am <| Aq <| B6 ah fun an ai => A4 <| AD <| rs AA <| rl Z <| AJ ?_
 cases ai
 exact er (ZD Z (.cons (.one (.own (enc := FY) b.2 Z Z)) (.cons (.one (.own (enc := FY) c.2 Z Z)) (.cons (.one (.own (enc := FY) d.2 Z Z)) .nil)))) Le.rfl
noncomputable def DT (a : Int) (c : Int) (d : Int) : Option Bool :=
 ((bif decide (c <= a) then some (decide (a <= d)) else some false : Option (Bool))).bind fun (b : Bool) => some b
theorem Ge (b : Int) (c : Int) (d : Int) (r : Bool) (h : DT b c d = some r) : Bc Tryz.prog 154 [.int .i64 b, .int .i64 c, .int .i64 d] (· = .bool r) := by
 refine fn AA Tryz.func154 Z Z 15 Z [.tmp 6] Z [(0, .p (.int .i64 b)), (1, .p (.int .i64 c)), (2, .p (.int .i64 d))] Z Z fun A hA => ?_
 unfold DT at h
 refine rs AA <| rl Z <| jb (fun a : Bool => ⟨15, [(6, lb a)], [], 0⟩) h (fun a e => ?_) (fun a i => ?_)
 .refine rg AA <| rn 4 Z <| gs 10 e Z Z Z (fun f => ?_) (fun g => ?_)
  .exact rl Z <| Ad f (wf hA [] Z Z Z)
  exact rl Z <| Ad g (wf hA [] Z Z Z)
 refine AJ ?_
 have hr := Option.some.inj i; subst hr
 exact er Z Le.rfl
noncomputable def HE (c : ByteArray) (b : Int) : Option (Int ⊕ Bool) :=
 bif decide (b < (c.size : Int)) then (NM c b).bind fun a => ((bif decide (97 <= (a.toNat : Int)) then bif decide ((a.toNat : Int) <= 122) then some true else bif decide (65 <= (a.toNat : Int)) then some (decide ((a.toNat : Int) <= 90)) else some false else bif decide (65 <= (a.toNat : Int)) then some (decide ((a.toNat : Int) <= 90)) else some false : Option (Bool))).bind fun (d : Bool) => ((bif (!d) then bif (b == 0) then some true else bif decide ((a.toNat : Int) < 48) then some true else some (decide (57 < (a.toNat : Int))) else some false : Option (Bool))).bind fun (e : Bool) => bif e then some (.inr false) else some (.inl (Ae (b + 1))) else (((bif decide (1 <= (c.size : Int)) then some (decide ((c.size : Int) <= 8)) else some false : Option (Bool))).bind fun (f : Bool) => some f).map .inr
noncomputable def HF (a : ByteArray) : Option Bool :=
 AP (HE a) 0
theorem Ok (b : ByteArray) (r : Bool) (h : HF b = some r) : Bc Tryz.prog 155 [.str b] (· = .bool r) := by
 refine fn AA Tryz.func155 Z Z 51 Z [.tmp 2] Z [(0, .p (.str b))] Z Z fun A hA => ?_
 unfold HF at h
 refine rs AA <| rl Z <| AC <| rs AA <| rl Z <| AH ?_
 apply lp (a := r) (fun c : Int => ⟨51, [(0, .p (.str b)), (3, li c)], [], 0⟩) h
 . exact wf hA [] Z Z Z
 intro c ar g
 unfold HE at g
 refine AC <| rs AA <| rl Z <| cd Z g (fun j => ?_) (fun ai => ?_)
 .refine AG <| AD <| AC <| AH <| rs AA <| rn 2 Z <| bq j fun ao i k => sx Z (AAT i Z Z Z <| rl Z <| jb (fun d : Bool => ⟨51, [(0, .p (.str b)), (3, li c), (4, .p (.int .u8 (ao.toNat : Int))), (5, lb d)], [], 0⟩) k (fun d l => ?_) (fun d w => ?_))
  .refine rg AA <| rn 3 Z <| gs 17 l Z Z Z (fun m => ?_) (fun t => ?_)
   .refine rn 4 Z <| gs 21 m Z Z Z (fun n => ?_) (fun o => ?_)
    .exact rl Z <| Ad n (wf hA [] Z Z Z)
    refine rn 3 Z <| gs 24 o Z Z Z (fun q => ?_) (fun s => ?_)
    .exact rl Z <| Ad q (wf hA [] Z Z Z)
    exact rl Z <| Ad s (wf hA [] Z Z Z)
   refine rn 7 Z <| gs 24 t Z Z Z (fun u => ?_) (fun v => ?_)
   .exact rl Z <| Ad u (wf hA [] Z Z Z)
   exact rl Z <| Ad v (wf hA [] Z Z Z)
  refine jb (fun e : Bool => ⟨51, [(0, .p (.str b)), (3, li c), (42, lb e)], [], 0⟩) w (fun e x => ?_) (fun e ae => ?_)
  .refine rg AA <| rn 3 Z <| gs 31 x Z Z Z (fun y => ?_) (fun ad => ?_)
   .refine rn 3 Z <| gs 34 y Z Z Z (fun z => ?_) (fun aa => ?_)
    .exact rl Z <| Ad z (wf hA [] Z Z Z)
    refine rn 4 Z <| gs 38 aa Z Z Z (fun ab => ?_) (fun ac => ?_)
    .exact rl Z <| Ad ab (wf hA [] Z Z Z)
    exact rl Z <| Ad ac (wf hA [] Z Z Z)
   exact rl Z <| Ad ad (wf hA [] Z Z Z)
  refine cd Z ae (fun af => ?_) (fun ah => ?_)
  .refine rs AA <| rl Z <| AJ <| Ao <| AN <| Bp af fun ap ag => Ao <| AN ?_
   cases ag
   exact er Z Le.rfl
  exact AG <| Av <| AD <| rg AA <| rl Z <| BJ ah (wf hA [] Z Z Z)
 refine Am <| Aq <| DY ai fun aq aj => A4 <| AD <| jb (fun f : Bool => ⟨51, [(2, lb f)], [], 0⟩) aj (fun f ak => ?_) (fun f an => ?_)
 .refine rg AA <| rn 4 Z <| gs 46 ak Z Z Z (fun al => ?_) (fun am => ?_)
  .exact rl Z <| Ad al (wf hA [] Z Z Z)
  exact rl Z <| Ad am (wf hA [] Z Z Z)
 refine AJ ?_
 have hr := Option.some.inj an; subst hr
 exact er Z Le.rfl
noncomputable def HG (a : Int) : Option Int :=
 bif (a == 1) then some 2 else bif (a == 2) then some 3 else bif (a == 3) then some 4 else bif (a == 4) then some 1 else some 0
theorem Ol (a : Int) (r : Int) (h : HG a = some r) : Bc Tryz.prog 156 [.int .i64 a] (· = .int .i64 r) := by
 refine fn AA Tryz.func156 Z Z 12 Z [.tmp 2] Z [(0, .p (.int .i64 a))] Z Z fun A hA => ?_
 unfold HG at h
 refine rs AA <| rl Z <| AC <| rs AA <| rl Z <| AH <| rs AA <| rl Z <| cd Z h (fun j => ?_) (fun b => ?_)
 .refine rs AA <| rl Z <| AJ <| Ao <| AN ?_
  cases j
  exact er Z Le.rfl
 refine rs AA <| rl Z <| cd Z b (fun c => ?_) (fun d => ?_)
 .refine rs AA <| rl Z <| AJ <| Ao <| AN ?_
  cases c
  exact er Z Le.rfl
 refine rs AA <| rl Z <| cd Z d (fun e => ?_) (fun f => ?_)
 .refine rs AA <| rl Z <| AJ <| Ao <| AN ?_
  cases e
  exact er Z Le.rfl
 refine rs AA <| rl Z <| cd Z f (fun g => ?_) (fun i => ?_)
 .refine rs AA <| rl Z <| AJ <| Ao <| AN ?_
  cases g
  exact er Z Le.rfl
 refine AG <| Av <| AD <| rs AA <| rl Z <| AJ ?_
 cases i
 exact er Z Le.rfl
noncomputable def HH (b : AO) (a : Int) : Option (Int ⊕ Bool) :=
 bif decide (a < (b.lines.length : Int)) then (An b.lines a).bind fun c => (HF c.name).bind fun d => bif (!d) then some (.inr false) else some (.inl (Ae (a + 1))) else some (.inr true)
noncomputable def HI (b : AO) (a : Int) : Option (Int ⊕ Bool) :=
 bif decide (a < (b.signals.length : Int)) then (An b.signals a).bind fun c => (HF c.name).bind fun d => bif (!d) then some (.inr false) else some (.inl (Ae (a + 1))) else (AP (HH b) 0).map .inr
noncomputable def HJ (c : AO) (b : Int) : Option (Int ⊕ Bool) :=
 bif decide (b < (c.elems.length : Int)) then (An c.elems b).bind fun a => (((HF a.name).bind fun e => bif (!e) then some true else (HG a.kind).bind fun f => bif (f == 0) then some true else bif (a.kind == 4) then bif (a.length != 0) then some true else bif (a.kind != 4) then (DT a.length 1 4000).bind fun g => some (!g) else some false else bif (a.kind != 4) then (DT a.length 1 4000).bind fun h => some (!h) else some false : Option (Bool))).bind fun (d : Bool) => bif d then some (.inr false) else some (.inl (Ae (b + 1))) else (AP (HI c) 0).map .inr
noncomputable def KO (a : AO) : Option Bool :=
 (((DT a.top 1 60).bind fun c => bif (!c) then some true else (DT a.brake 1 10).bind fun d => bif (!d) then some true else (DT a.margin 1 4000).bind fun e => bif (!e) then some true else (DT a.throw 1 20).bind fun f => bif (!f) then some true else some ((a.elems.length : Int) == 0) : Option (Bool))).bind fun (b : Bool) => bif b then some false else AP (HJ a) 0
theorem XE (b : AO) (r : Bool) (h : KO b = some r) : Bc Tryz.prog 109 [.agg (Ak b)] (· = .bool r) := by
 refine fn AA Tryz.func109 Z Z 108 Z [.tmp 2] Z [(0, .p (.agg (Ak b)))] Z Z fun A hA => ?_
 unfold KO at h
 refine rs AA <| rl Z <| AC <| jb (fun d : Bool => ⟨108, [(1, .lpb 0 0), (34, lb d)], [(0, bx (Ak b))], 1⟩) h (fun d aj => ?_) (fun d bo => ?_)
 .refine rg AA <| rn 2 Z <| bq aj fun cc q ak => sx Z (Ah (Ge _ _ _ _ q) (.inl Z) Z Z Z <| rn 2 Z <| gs 11 ak Z Z Z (fun al => ?_) (fun am => ?_))
  .exact rl Z <| Ad al (wf hA [(0, 0)] Z Z Z)
  refine rn 2 Z <| bq am fun ce s ao => sx Z (Ah (Ge _ _ _ _ s) (.inl Z) Z Z Z <| rn 3 Z <| gs 17 ao Z Z Z (fun ap => ?_) (fun aq => ?_))
  .exact rl Z <| Ad ap (wf hA [(0, 0)] Z Z Z)
  refine rn 2 Z <| bq aq fun cf t ar => sx Z (Ah (Ge _ _ _ _ t) (.inl Z) Z Z Z <| rn 3 Z <| gs 23 ar Z Z Z (fun av => ?_) (fun aw => ?_))
  .exact rl Z <| Ad av (wf hA [(0, 0)] Z Z Z)
  refine rn 2 Z <| bq aw fun cj x bc => sx Z (Ah (Ge _ _ _ _ x) (.inl Z) Z Z Z <| rn 3 Z <| gs 29 bc Z Z Z (fun bl => ?_) (fun bn => ?_))
  .exact rl Z <| Ad bl (wf hA [(0, 0)] Z Z Z)
  exact rn 2 Z <| sx Z (Ay Z Z <| rl Z <| Ad bn (wf hA [(0, 0)] Z Z Z))
 refine cd Z bo (fun bp => ?_) (fun br => ?_)
 .refine rs AA <| rl Z <| AJ <| AN ?_
  cases bp
  exact er Z Le.rfl
 refine AG <| AD <| AC <| rs AA <| rl Z <| AH ?_
 apply lp (a := r) (fun c : Int => ⟨108, [(1, .lpb 0 0), (3, li c)], [(0, bx (Ak b))], 1⟩) br
 . exact wf hA [(0, 0)] Z Z Z
 intro c b7 f
 unfold HJ at f
 refine AC <| rs AA <| rn 3 Z <| sx Z (Ay Z Z <| rl Z <| cd Z f (fun an => ?_) (fun bk => ?_))
 .refine AG <| AD <| AC <| AH <| rs AA <| rn 3 Z <| bq an fun cg u au => sx Z (Az u Z Z Z <| rl Z <| jb (fun e : Bool => ⟨108, [(1, .lpb 0 0), (3, li c), (77, lb e)], [(0, bx (Ak b))], 1⟩) au (fun e ax => ?_) (fun e bg => ?_))
  .refine rg AA <| rn 2 Z <| bq ax fun ch v ay => sx Z (Ah (Ok _ _ v) (.inl Z) Z Z Z <| rn 2 Z <| gs 51 ay Z Z Z (fun az => ?_) (fun a0 => ?_))
   .exact rl Z <| Ad az (wf hA [(0, 0)] Z Z Z)
   refine rn 2 Z <| bq a0 fun ci w a1 => sx Z (Ah (Ol _ _ w) (.inl Z) Z Z Z <| rn 3 Z <| gs 57 a1 Z Z Z (fun a2 => ?_) (fun a3 => ?_))
   .exact rl Z <| Ad a2 (wf hA [(0, 0)] Z Z Z)
   refine rn 4 Z <| gs 61 a3 Z Z Z (fun a4 => ?_) (fun ba => ?_)
   .refine rn 6 Z <| gs 67 a4 Z Z Z (fun a5 => ?_) (fun a6 => ?_)
    .exact rl Z <| Ad a5 (wf hA [(0, 0)] Z Z Z)
    refine rn 4 Z <| gs 71 a6 Z Z Z (fun a7 => ?_) (fun a9 => ?_)
    .exact rn 2 Z <| bq a7 fun ck y a8 => sx Z (Ah (Ge _ _ _ _ y) (.inl Z) Z Z Z <| rl Z <| Ad a8 (wf hA [(0, 0)] Z Z Z))
    exact rl Z <| Ad a9 (wf hA [(0, 0)] Z Z Z)
   refine rn 10 Z <| gs 71 ba Z Z Z (fun bb => ?_) (fun bf => ?_)
   .exact rn 2 Z <| bq bb fun cl z be => sx Z (Ah (Ge _ _ _ _ z) (.inl Z) Z Z Z <| rl Z <| Ad be (wf hA [(0, 0)] Z Z Z))
   exact rl Z <| Ad bf (wf hA [(0, 0)] Z Z Z)
  refine cd Z bg (fun bh => ?_) (fun bj => ?_)
  .refine rs AA <| rl Z <| AJ <| Ao <| AN <| Bp bh fun b5 bi => Ao <| AN ?_
   cases bi
   exact er Z Le.rfl
  exact AG <| Av <| AD <| rg AA <| rl Z <| BJ bj (wf hA [(0, 0)] Z Z Z)
 refine Am <| Aq <| DY bk fun l bm => A4 <| AD <| AC <| rs AA <| rl Z <| AH ?_
 apply lp (a := l) (fun j : Int => ⟨108, [(1, .lpb 0 0), (5, li j)], [(0, bx (Ak b))], 1⟩) bm
 . exact wf hA [(0, 0)] Z Z Z
 intro j b8 g
 unfold HI at g
 refine AC <| rs AA <| rn 3 Z <| sx Z (Ay Z Z <| rl Z <| cd Z g (fun bs => ?_) (fun b0 => ?_))
 .refine AG <| AD <| AC <| AH <| rs AA <| rn 3 Z <| bq bs fun cm aa bt => sx Z (Az aa Z Z Z <| rn 2 Z <| bq bt fun cn ab bu => sx Z (Ah (Ok _ _ ab) (.inl Z) Z Z Z <| rl Z <| cd Z bu (fun bv => ?_) (fun bz => ?_)))
  .refine rs AA <| rl Z <| AJ <| Ao <| AN <| Bp bv fun b6 bw => Ao <| AN ?_
   cases bw
   exact er Z Le.rfl
  exact AG <| Av <| AD <| rg AA <| rl Z <| BJ bz (wf hA [(0, 0)] Z Z Z)
 refine Am <| Aq <| DY b0 fun m b1 => A4 <| AD <| AC <| rs AA <| rl Z <| AH ?_
 apply lp (a := m) (fun k : Int => ⟨108, [(1, .lpb 0 0), (6, li k)], [(0, bx (Ak b))], 1⟩) b1
 . exact wf hA [(0, 0)] Z Z Z
 intro k b9 i
 unfold HH at i
 refine AC <| rs AA <| rn 3 Z <| sx Z (Ay Z Z <| rl Z <| cd Z i (fun b2 => ?_) (fun ah => ?_))
 .refine AG <| AD <| AC <| AH <| rs AA <| rn 3 Z <| bq b2 fun ca n ac => sx Z (Az n Z Z Z <| rn 2 Z <| bq ac fun cb o ad => sx Z (Ah (Ok _ _ o) (.inl Z) Z Z Z <| rl Z <| cd Z ad (fun ae => ?_) (fun ag => ?_)))
  .refine rs AA <| rl Z <| AJ <| Ao <| AN <| Bp ae fun b3 af => Ao <| AN ?_
   cases af
   exact er Z Le.rfl
  exact AG <| Av <| AD <| rg AA <| rl Z <| BJ ag (wf hA [(0, 0)] Z Z Z)
 refine Am <| Aq <| B6 ah fun b4 ai => A4 <| AD <| rs AA <| rl Z <| AJ ?_
 cases ai
 exact er Z Le.rfl
noncomputable def GV (c : (List ByteArray)) (a : Int) (b : Int) : Option (Int ⊕ (Int ⊕ Bool)) :=
 bif decide (b < a) then (An c a).bind fun d => (An c b).bind fun e => bif (d.toList == e.toList) then some (.inr (.inr true)) else some (.inl (Ae (b + 1))) else some (.inr (.inl (Ae (a + 1))))
noncomputable def IJ (b : (List ByteArray)) (a : Int) : Option (Int ⊕ Bool) :=
 bif decide (a < (b.length : Int)) then AP (GV b a) 0 else some (.inr false)
noncomputable def F4 (a : (List ByteArray)) : Option Bool :=
 AP (IJ a) 0
theorem NU (b : (List ByteArray)) (r : Bool) (h : F4 b = some r) : Bc Tryz.prog 110 [.slice 1 (b.map FY)] (· = .bool r) := by
 refine fn AA Tryz.func110 Z Z 25 Z [.tmp 2] Z [(0, .p (.slice 1 (b.map FY)))] Z Z fun A hA => ?_
 unfold F4 at h
 refine rs AA <| rl Z <| AC <| rs AA <| rl Z <| AH ?_
 apply lp (a := r) (fun c : Int => ⟨25, [(0, ls 1 FY b), (3, li c)], [], 0⟩) h
 . exact wf hA [] Z Z Z
 intro c g d
 unfold IJ at d
 refine AC <| rs AA <| rn 2 Z <| sx Z (Ay Z Z <| rl Z <| cd Z d (fun k => ?_) (fun w => ?_))
 .refine AG <| AD <| AC <| AH <| rs AA <| rl Z <| AH ?_
  apply lp (a := g) (fun f : Int => ⟨25, [(0, ls 1 FY b), (3, li c), (4, li f)], [], 0⟩) k
  . exact wf hA [] Z Z Z
  intro f ac e
  unfold GV at e
  refine AC <| rs AA <| rl Z <| cd Z e (fun l => ?_) (fun u => ?_)
  .refine AG <| AD <| AC <| AH <| AC ?_
   refine Cy AA mixed [0, 1, 2, 3, 4, 5, 6, 7, 8] 9 (by kernel_rfl) Z Z Z ?_
   refine Ar 2 Z <| bq l fun ad i m => AV Z (Aa Z (Az i Z Z Z <| Ar 3 Z <| bq m fun ae j n => AV Z (Aa Z (Az j Z Z Z <| Au Z <| AD <| cd Z n (fun o => ?_) (fun t => ?_)))))
   .refine rs AA <| rl Z <| AJ <| Ao <| AN <| Bp o fun y q => Ao <| Ao <| AN <| Bp q fun z s => Ao <| AN ?_
    cases s
    exact er Z Le.rfl
   exact AG <| Av <| AD <| rg AA <| rl Z <| BJ t (wf hA [] Z Z Z)
  exact Am <| Aq <| B6 u fun aa v => A4 <| Av <| AD <| rg AA <| rl Z <| BJ v (wf hA [] Z Z Z)
 refine Am <| Aq <| B6 w fun ab x => A4 <| AD <| rs AA <| rl Z <| AJ ?_
 cases x
 exact er Z Le.rfl
end Go.E
/- Plain functions, and walks in step with them. Written by a program (gen.py). No condition. -/
set_option maxRecDepth 100000
set_option maxHeartbeats 1000000
namespace Go.E
open Go Go.RowKit Go.Proofs
noncomputable def Ia (b : AO) (a : AE) : Option Bool :=
 ((bif decide (0 <= a.elem) then bif decide (a.elem < (b.elems.length : Int)) then bif decide (0 <= a.fin) then (An b.elems a.elem).bind fun d => (HG d.kind).bind fun e => some (decide (a.fin < e)) else some false else some false else some false : Option (Bool))).bind fun (c : Bool) => some c
theorem P6 (b : AO) (c : AE) (r : Bool) (h : Ia b c = some r) : Bc Tryz.prog 157 [.agg (Ak b), .agg (A6 c)] (· = .bool r) := by
 refine fn AA Tryz.func157 Z Z 34 Z [.tmp 4] Z [(0, .p (.agg (Ak b))), (1, .p (.agg (A6 c)))] Z Z fun A hA => ?_
 unfold Ia at h
 refine rs AA <| rl Z <| jb (fun a : Bool => ⟨34, [(4, lb a)], [], 0⟩) h (fun a f => ?_) (fun a q => ?_)
 .refine Cy AA mixed [0, 1, 2, 3, 4, 5, 6, 7, 8, 9, 10, 11, 12, 13, 14, 15, 16, 17, 18, 19, 20, 21, 22, 23, 24, 25, 26, 27, 28, 29] 30 (by kernel_rfl) Z Z Z ?_
  refine Ar 4 Z <| N4 8 f Z Z Z (fun g => ?_) (fun o => ?_)
  .refine Ar 4 Z <| AV Z (Od Z Z <| Ar 3 Z <| N4 16 g Z Z Z (fun i => ?_) (fun n => ?_))
   .refine Ar 5 Z <| N4 21 i Z Z Z (fun j => ?_) (fun m => ?_)
    .exact Ar 6 Z <| bq j fun s d k => AV Z (Aa Z (Az d Z Z Z <| Ar 2 Z <| bq k fun t e l => AV Z (B0 (Ol _ _ e) (.inl Z) Z Z Z <| Au Z <| Ad l (wf hA [] Z Z Z))))
    exact Au Z <| Ad m (wf hA [] Z Z Z)
   exact Au Z <| Ad n (wf hA [] Z Z Z)
  exact Au Z <| Ad o (wf hA [] Z Z Z)
 refine AJ ?_
 have hr := Option.some.inj q; subst hr
 exact er Z Le.rfl
noncomputable def I9 (d : AO) (e : AE) (c : Int) : Option (Int ⊕ (AE × Bool)) :=
 bif decide (c < (d.joins.length : Int)) then (An d.joins c).bind fun f => bif (f.a == e) then (An d.joins c).bind fun g => some (.inr (g.b, true)) else (An d.joins c).bind fun h => bif (h.b == e) then (An d.joins c).bind fun i => some (.inr (i.a, true)) else some (.inl (Ae (c + 1))) else some (.inr ((⟨0, 0⟩ : AE), false))
noncomputable def Ci (a : AO) (b : AE) : Option (AE × Bool) :=
 AP (I9 a b) 0
theorem Dj (d : AO) (c : AE) (r : (AE × Bool)) (h : Ci d c = some r) : Bc Tryz.prog 104 [.agg (Ak d), .agg (A6 c)] (· = .tup [.agg (A6 r.1), .bool r.2]) := by
 refine fn AA Tryz.func104 Z Z 43 Z [.cell 4 96, .tmp 5] Z [(0, .p (.agg (Ak d))), (1, .p (.agg (A6 c)))] Z Z fun A hA => ?_
 unfold Ci at h
 refine rs AA <| rl Z <| AC <| rs AA <| rl Z <| AH ?_
 apply lp (a := r) (fun f : Int => ⟨43, [(2, .lpb 0 0), (3, .lpb 1 0), (4, .lpb 2 0), (6, li f)], [(0, bx (Ak d)), (1, .box [li c.elem, li c.fin]), (2, .box [li 0, li 0])], 3⟩) h
 . exact wf hA (gi 3 []) Z Z Z
 intro f af e
 unfold I9 at e
 refine AC <| rs AA <| rn 3 Z <| sx Z (Ay Z Z <| rl Z <| cd Z e (fun l => ?_) (fun y => ?_))
 .refine AG <| AD <| AC <| AH <| AC <| AC ?_
  refine Cy AA mixed [0, 1, 2, 3, 4, 5, 6, 7] 8 (by kernel_rfl) Z Z Z ?_
  refine Ar 3 Z <| bq l fun aa g m => AV Z (Aa Z (Az g Z Z Z <| Ar 3 Z <| AV Z (Mm (LX aa.a c) Z Z Z Z Z <| Au Z <| AD <| cd Z m (fun n => ?_) (fun s => ?_))))
  .refine rs AA <| rn 3 Z <| bq n fun ag i o => sx Z (Az i Z Z Z <| rl Z <| AJ <| AN <| Ao <| AN <| Bp o fun ac q => Ao <| AN ?_)
   cases q
   exact er Z Le.rfl
  refine AG <| AD <| AC ?_
  refine Cy AA mixed [0, 1, 2, 3, 4, 5, 6, 7] 8 (by kernel_rfl) Z Z Z ?_
  refine Ar 3 Z <| bq s fun ab j t => AV Z (Aa Z (Az j Z Z Z <| Ar 3 Z <| AV Z (Mm (LX ab.b c) Z Z Z Z Z <| Au Z <| AD <| cd Z t (fun u => ?_) (fun x => ?_))))
  .refine rs AA <| rn 3 Z <| bq u fun ah k v => sx Z (Az k Z Z Z <| rl Z <| AJ <| Ao <| AN <| Bp v fun ad w => Ao <| AN ?_)
   cases w
   exact er Z Le.rfl
  exact AG <| Av <| AD <| rg AA <| rl Z <| BJ x (wf hA (gi 3 []) Z Z Z)
 refine Am <| Aq <| B6 y fun ae z => A4 <| AD <| rs AA <| rl Z <| AJ ?_
 cases z
 exact er Z Le.rfl
noncomputable def Dk (b : AO) (a : Int) : Option Int :=
 ((bif decide (a < 0) then some true else some (decide ((b.elems.length : Int) <= a)) : Option (Bool))).bind fun (c : Bool) => bif c then some 0 else (An b.elems a).bind fun d => some d.kind
theorem Fq (a : AO) (b : Int) (r : Int) (h : Dk a b = some r) : Bc Tryz.prog 144 [.agg (Ak a), .int .i64 b] (· = .int .i64 r) := by
 refine fn AA Tryz.func144 Z Z 20 Z [.tmp 4] Z [(0, .p (.agg (Ak a))), (1, .p (.int .i64 b))] Z Z fun A hA => ?_
 unfold Dk at h
 refine rs AA <| rl Z <| AC <| jb (fun c : Bool => ⟨20, [(1, li b), (2, .lpb 0 0), (13, lb c)], [(0, bx (Ak a))], 1⟩) h (fun c e => ?_) (fun c i => ?_)
 .refine rg AA <| rn 3 Z <| gs 7 e Z Z Z (fun f => ?_) (fun g => ?_)
  .exact rl Z <| Ad f (wf hA [(0, 0)] Z Z Z)
  exact rn 3 Z <| sx Z (Ay Z Z <| rl Z <| Ad g (wf hA [(0, 0)] Z Z Z))
 refine cd Z i (fun j => ?_) (fun k => ?_)
 .refine rs AA <| rl Z <| AJ <| AN ?_
  cases j
  exact er Z Le.rfl
 refine AG <| AD <| rs AA <| rn 3 Z <| bq k fun m d l => sx Z (Az d Z Z Z <| rl Z <| AJ ?_)
 cases l
 exact er Z Le.rfl
noncomputable def Fb (c : (Int × (List AE))) (b : Int) (a : Int) : Option (Int ⊕ (Int ⊕ Bool)) :=
 bif decide (a < b) then (An c.2 a).bind fun d => (An c.2 b).bind fun e => bif (d == e) then some (.inr (.inr false)) else some (.inl (Ae (a + 1))) else some (.inr (.inl (Ae (b + 1))))
noncomputable def Fc (b : AO) (a : Int) : Option (Int ⊕ Bool) :=
 bif decide (a < (b.elems.length : Int)) then Kf (((An b.elems a).bind fun e => bif (e.kind == 4) then (Ci b (⟨a, 0⟩ : AE)).bind fun c => ((bif (!c.2) then some true else (Dk b c.1.elem).bind fun f => some (f == 4) : Option (Bool))).bind fun (d : Bool) => bif d then some (.inr (.inr false)) else some (.inl ()) else some (.inl ()) : Option (Unit ⊕ (Int ⊕ Bool)))) fun (g : Unit) => some (.inl (Ae (a + 1))) else some (.inr true)
noncomputable def Fd (c : AO) (a : (Int × (List AE))) (b : Int) : Option (Int ⊕ Bool) :=
 bif decide (b < (a.2.length : Int)) then (An a.2 b).bind fun d => (Ia c d).bind fun e => bif (!e) then some (.inr false) else AP (Fb a b) 0 else (AP (Fc c) 0).map .inr
noncomputable def Hd (d : AO) (c : Int × (List AE)) : Option ((Int × (List AE)) ⊕ Bool) :=
 bif decide (c.1 < (d.joins.length : Int)) then (An d.joins c.1).bind fun e => (An d.joins c.1).bind fun f => (A7 c.2 [e.a, f.b]).bind fun g => some (.inl (Ae (c.1 + 1), g)) else (AP (Fd d c) 0).map .inr
noncomputable def Hz (a : AO) : Option Bool :=
 AP (Hd a) (0, ([] : List AE))
theorem Uw (d : AO) (r : Bool) (h : Hz d = some r) : Bc Tryz.prog 111 [.agg (Ak d)] (· = .bool r) := by
 refine fn AA Tryz.func111 Z Z 89 Z [.tmp 2] Z [(0, .p (.agg (Ak d)))] Z Z fun A hA => ?_
 unfold Hz at h
 refine rs AA <| rl Z <| rs AA <| rl Z <| AC <| rs AA <| rl Z <| AH ?_
 apply lp (a := r) (fun c : (Int × (List AE)) => ⟨89, [(1, .lpb 0 0), (3, .lsl 1 2 0 c.2.length), (4, li c.1)], [(0, bx (Ak d)), (1, .row 96 2 (c.2.map A6))], 2⟩) h
 . exact BA.trans (B4 3 96 2 Z) (wf hA [(0, 0), (1, 1)] Z Z Z)
 intro c b2 o
 unfold Hd at o
 refine AC <| rs AA <| rn 3 Z <| sx Z (Ay Z Z <| rl Z <| cd Z o (fun ag => ?_) (fun aw => ?_))
 .refine AG <| AD <| AC <| AH ?_
  refine Cy AA mixed [0, 1, 2, 3, 4, 5, 6, 7, 8, 9, 10, 11, 12, 13, 14, 15] 16 (by kernel_rfl) Z Z Z ?_
  exact Ar 4 Z <| bq ag fun bo z am => AV Z (Aa Z (Az z Z Z Z <| Ar 5 Z <| bq am fun bp aa an => AV Z (Aa Z (Az aa Z Z Z <| Ar 3 Z <| bq an fun b7 ab ap => AV Z (AS Z (AR (enc := A6) (l := c.2) (m := [bo.a, bp.b]) ab (fun _ => ⟨Z, Z⟩) Z Z Z Z Z Z <| Au Z <| Av <| AD <| rg AA <| rl Z <| BJ ap (wf hA [(0, 0), (1, 16)] Z Z Z)))))))
 refine Am <| Aq <| DY aw fun v a3 => A4 <| AD <| AC <| rs AA <| rl Z <| AH ?_
 apply lp (a := v) (fun f : Int => ⟨89, [(1, .lpb 0 0), (3, .lsl 1 2 0 c.2.length), (5, li f)], [(0, bx (Ak d)), (1, .row 96 2 (c.2.map A6))], 2⟩) a3
 . exact wf hA [(0, 0), (1, 1)] Z Z Z
 intro f w n
 unfold Fd at n
 refine AC <| rs AA <| rl Z <| cd Z n (fun af => ?_) (fun a1 => ?_)
 .refine AG <| AD <| AC <| AH <| AC <| AC ?_
  refine Cy AA mixed [0, 1, 2, 3, 4, 5, 6] 7 (by kernel_rfl) Z Z Z ?_
  refine Ar 3 Z <| bq af fun b5 i ah => AV Z (Aa Z (CE i Z Z Z Z <| AV Z (Ew Z (Ch i Z Z Z <| bq ah fun b6 y ai => AV Z (B0 (P6 _ _ _ y) (.inl Z) Z Z Z <| Au Z <| AD <| cd Z ai (fun aj => ?_) (fun al => ?_))))))
  .refine rs AA <| rl Z <| AJ <| AN <| Ao <| AN <| Bp aj fun bt ak => Ao <| AN ?_
   cases ak
   exact er Z Le.rfl
  refine AG <| AD <| rs AA <| rl Z <| AH ?_
  apply lp (a := w) (fun t : Int => ⟨89, [(1, .lpb 0 0), (3, .lsl 1 2 0 c.2.length), (5, li f), (6, li t)], [(0, bx (Ak d)), (1, .row 96 2 (c.2.map A6))], 2⟩) al
  . exact wf hA [(0, 0), (1, 1)] Z Z Z
  intro t b3 q
  unfold Fb at q
  refine AC <| rs AA <| rl Z <| cd Z q (fun ao => ?_) (fun az => ?_)
  .refine AG <| AD <| AC <| AH <| AC ?_
   refine Cy AA mixed [0, 1, 2, 3, 4, 5, 6, 7, 8] 9 (by kernel_rfl) Z Z Z ?_
   refine Ar 2 Z <| bq ao fun br j aq => AV Z (Aa Z (CE j Z Z Z Z <| AV Z (Ew Z (Ch j Z Z Z <| Ar 2 Z <| bq aq fun bs k ar => AV Z (Aa Z (CE k Z Z Z Z <| AV Z (Ew Z (Ch k Z Z Z <| AV Z (Mm (LX br bs) Z Z Z Z Z <| Au Z <| AD <| cd Z ar (fun au => ?_) (fun ay => ?_))))))))))
   .refine rs AA <| rl Z <| AJ <| Ao <| AN <| Bp au fun bu av => Ao <| Ao <| AN <| Bp av fun bv ax => Ao <| AN ?_
    cases ax
    exact er Z Le.rfl
   exact AG <| Av <| AD <| rg AA <| rl Z <| BJ ay (wf hA [(0, 0), (1, 1)] Z Z Z)
  exact Am <| Aq <| B6 az fun bw a0 => A4 <| Av <| AD <| rg AA <| rl Z <| BJ a0 (wf hA [(0, 0), (1, 1)] Z Z Z)
 refine Am <| Aq <| DY a1 fun u a2 => A4 <| AD <| AC <| rs AA <| rl Z <| AH ?_
 apply lp (a := u) (fun e : Int => ⟨89, [(1, .lpb 0 0), (7, li e)], [(0, bx (Ak d))], 1⟩) a2
 . exact wf hA [(0, 0)] Z Z Z
 intro e x s
 unfold Fc at s
 refine AC <| rs AA <| rn 3 Z <| sx Z (Ay Z Z <| rl Z <| cd Z s (fun a4 => ?_) (fun bl => ?_))
 .refine AG <| AD ?_
  apply jn (a := x) (fun bn : Unit => ⟨89, [(1, .lpb 0 0), (7, li e)], [(0, bx (Ak d))], 1⟩) a4
  .intro b4 a5
   refine AH <| rs AA <| rn 3 Z <| bq a5 fun b8 ac a6 => sx Z (Az ac Z Z Z <| rl Z <| cd Z a6 (fun a7 => ?_) (fun bj => ?_))
   .refine rs AA <| rn 3 Z <| bq a7 fun b9 ad a8 => sx Z (Ah (Dj _ _ _ ad) (.inl Z) Z Z Z <| rl Z <| jb (fun g : Bool => ⟨89, [(1, .lpb 0 0), (7, li e), (88, lb g)], [(0, bx (Ak d))], 1⟩) a8 (fun g a9 => ?_) (fun g be => ?_))
    .refine rg AA <| rn 3 Z <| gs 82 a9 Z Z Z (fun ba => ?_) (fun bb => ?_)
     .exact rl Z <| Ad ba (wf hA [(0, 0)] Z Z Z)
     exact rn 3 Z <| bq bb fun ca ae bc => sx Z (Ah (Fq _ _ _ ae) (.inl Z) Z Z Z <| rl Z <| Ad bc (wf hA [(0, 0)] Z Z Z))
    refine cd Z be (fun bf => ?_) (fun bi => ?_)
    .refine rs AA <| rl Z <| AJ <| Ao <| Bp bf fun bz bg => Bp bg fun b0 bh => Ao <| AN ?_
     cases bh
     exact er Z Le.rfl
    exact AG <| Av <| BJ bi (wf hA [(0, 0)] Z Z Z)
   exact AG <| Av <| BJ bj (wf hA [(0, 0)] Z Z Z)
  intro bn bk
  exact rg AA <| rl Z <| BJ bk (wf hA [(0, 0)] Z Z Z)
 refine Am <| Aq <| B6 bl fun b1 bm => A4 <| AD <| rs AA <| rl Z <| AJ ?_
 cases bm
 exact er Z Le.rfl
noncomputable def IK (b : AO) (c : AE) (a : Int) : Option (Int ⊕ Int) :=
 bif decide (a < (b.signals.length : Int)) then (An b.signals a).bind fun d => bif (d.at_ == c) then some (.inr a) else some (.inl (Ae (a + 1))) else some (.inr (-1))
noncomputable def E0 (a : AO) (b : AE) : Option Int :=
 AP (IK a b) 0
theorem K0 (c : AO) (b : AE) (r : Int) (h : E0 c b = some r) : Bc Tryz.prog 146 [.agg (Ak c), .agg (A6 b)] (· = .int .i64 r) := by
 refine fn AA Tryz.func146 Z Z 22 Z [.tmp 4] Z [(0, .p (.agg (Ak c))), (1, .p (.agg (A6 b)))] Z Z fun A hA => ?_
 unfold E0 at h
 refine rs AA <| rl Z <| AC <| rs AA <| rl Z <| AH ?_
 apply lp (a := r) (fun e : Int => ⟨22, [(2, .lpb 0 0), (3, .lpb 1 0), (5, li e)], [(0, bx (Ak c)), (1, .box [li b.elem, li b.fin])], 2⟩) h
 . exact wf hA [(0, 0), (1, 1)] Z Z Z
 intro e t d
 unfold IK at d
 refine AC <| rs AA <| rn 3 Z <| sx Z (Ay Z Z <| rl Z <| cd Z d (fun n => ?_) (fun l => ?_))
 .refine AG <| AD <| AC <| AH <| AC ?_
  refine Cy AA mixed [0, 1, 2, 3, 4, 5, 6, 7] 8 (by kernel_rfl) Z Z Z ?_
  refine Ar 3 Z <| bq n fun o f g => AV Z (Aa Z (Az f Z Z Z <| Ar 3 Z <| AV Z (Mm (LX o.at_ b) Z Z Z Z Z <| Au Z <| AD <| cd Z g (fun i => ?_) (fun k => ?_))))
  .refine rs AA <| rl Z <| AJ <| Ao <| AN <| Bp i fun q j => Ao <| AN ?_
   have hr := Option.some.inj j; subst hr
   exact er Z Le.rfl
  exact AG <| Av <| AD <| rg AA <| rl Z <| BJ k (wf hA [(0, 0), (1, 1)] Z Z Z)
 refine Am <| Aq <| B6 l fun s m => A4 <| AD <| rs AA <| rl Z <| AJ ?_
 cases m
 exact er Z Le.rfl
noncomputable def E1 (b : AO) (a : Int) : Option (Int ⊕ Bool) :=
 bif decide (a < (b.elems.length : Int)) then (((An b.elems a).bind fun d => bif (d.kind == 4) then (E0 b (⟨a, 0⟩ : AE)).bind fun e => some (decide (e < 0)) else some false : Option (Bool))).bind fun (c : Bool) => bif c then some (.inr false) else some (.inl (Ae (a + 1))) else some (.inr true)
noncomputable def Gt (a : AO) (b : Int) : Option (Int ⊕ Bool) :=
 bif decide (b < (a.signals.length : Int)) then (An a.signals b).bind fun c => (Dk a c.at_.elem).bind fun d => (((Ia a c.at_).bind fun h => bif (!h) then some true else bif (d != 1) then some (d != 4) else some false : Option (Bool))).bind fun (f : Bool) => bif f then some (.inr false) else (Ci a c.at_).bind fun e => ((bif (!e.2) then some true else (Dk a e.1.elem).bind fun i => bif (i == 4) then some true else (E0 a c.at_).bind fun j => some (j != b) : Option (Bool))).bind fun (g : Bool) => bif g then some (.inr false) else some (.inl (Ae (b + 1))) else (AP (E1 a) 0).map .inr
noncomputable def HO (a : AO) : Option Bool :=
 AP (Gt a) 0
theorem T9 (b : AO) (r : Bool) (h : HO b = some r) : Bc Tryz.prog 112 [.agg (Ak b)] (· = .bool r) := by
 refine fn AA Tryz.func112 Z Z 81 Z [.tmp 2] Z [(0, .p (.agg (Ak b)))] Z Z fun A hA => ?_
 unfold HO at h
 refine rs AA <| rl Z <| AC <| rs AA <| rl Z <| AH ?_
 apply lp (a := r) (fun c : Int => ⟨81, [(1, .lpb 0 0), (3, li c)], [(0, bx (Ak b))], 1⟩) h
 . exact wf hA [(0, 0)] Z Z Z
 intro c bh j
 unfold Gt at j
 refine AC <| rs AA <| rn 3 Z <| sx Z (Ay Z Z <| rl Z <| cd Z j (fun ai => ?_) (fun a9 => ?_))
 .refine AG <| AD <| AC <| AH <| rs AA <| rn 3 Z <| bq ai fun k o aj => sx Z (Az o Z Z Z <| rl Z <| rs AA <| rn 3 Z <| bq aj fun bk q ak => sx Z (Ah (Fq _ _ _ q) (.inl Z) Z Z Z <| rl Z <| AC <| jb (fun f : Bool => ⟨81, [(1, .lpb 0 0), (3, li c), (4, .lpb 1 0), (37, lb f)], [(0, bx (Ak b)), (1, .box [li k.at_.elem, li k.at_.fin])], 2⟩) ak (fun f al => ?_) (fun f ar => ?_)))
  .refine rg AA <| rn 2 Z <| bq al fun bl s am => sx Z (Ah (P6 _ _ _ s) (.inl Z) Z Z Z <| rn 2 Z <| gs 30 am Z Z Z (fun an => ?_) (fun ao => ?_))
   .exact rl Z <| Ad an (wf hA [(0, 0), (1, 1)] Z Z Z)
   refine rn 3 Z <| gs 33 ao Z Z Z (fun ap => ?_) (fun aq => ?_)
   .exact rl Z <| Ad ap (wf hA [(0, 0), (1, 1)] Z Z Z)
   exact rl Z <| Ad aq (wf hA [(0, 0), (1, 1)] Z Z Z)
  refine cd Z ar (fun au => ?_) (fun aw => ?_)
  .refine rs AA <| rl Z <| AJ <| AN <| Ao <| AN <| Bp au fun be av => Ao <| AN ?_
   cases av
   exact er Z Le.rfl
  refine AG <| AD <| rs AA <| rn 2 Z <| bq aw fun bm t ax => sx Z (Ah (Dj _ _ _ t) (.inl Z) Z Z Z <| rl Z <| jb (fun g : Bool => ⟨81, [(1, .lpb 0 0), (3, li c), (59, lb g)], [(0, bx (Ak b))], 1⟩) ax (fun g ay => ?_) (fun g a5 => ?_))
  .refine rg AA <| rn 3 Z <| gs 46 ay Z Z Z (fun az => ?_) (fun a0 => ?_)
   .exact rl Z <| Ad az (wf hA [(0, 0)] Z Z Z)
   refine rn 3 Z <| bq a0 fun bn u a1 => sx Z (Ah (Fq _ _ _ u) (.inl Z) Z Z Z <| rn 3 Z <| gs 53 a1 Z Z Z (fun a2 => ?_) (fun a3 => ?_))
   .exact rl Z <| Ad a2 (wf hA [(0, 0)] Z Z Z)
   exact rn 2 Z <| bq a3 fun bo v a4 => sx Z (Ah (K0 _ _ _ v) (.inl Z) Z Z Z <| rl Z <| Ad a4 (wf hA [(0, 0)] Z Z Z))
  refine cd Z a5 (fun a6 => ?_) (fun a8 => ?_)
  .refine rs AA <| rl Z <| AJ <| Ao <| AN <| Bp a6 fun bf a7 => Ao <| AN ?_
   cases a7
   exact er Z Le.rfl
  exact AG <| Av <| AD <| rg AA <| rl Z <| BJ a8 (wf hA [(0, 0)] Z Z Z)
 refine Am <| Aq <| DY a9 fun l ba => A4 <| AD <| AC <| rs AA <| rl Z <| AH ?_
 apply lp (a := l) (fun d : Int => ⟨81, [(1, .lpb 0 0), (8, li d)], [(0, bx (Ak b))], 1⟩) ba
 . exact wf hA [(0, 0)] Z Z Z
 intro d bg i
 unfold E1 at i
 refine AC <| rs AA <| rn 3 Z <| sx Z (Ay Z Z <| rl Z <| cd Z i (fun w => ?_) (fun ag => ?_))
 .refine AG <| AD <| AC <| AH <| jb (fun e : Bool => ⟨81, [(1, .lpb 0 0), (8, li d), (80, lb e)], [(0, bx (Ak b))], 1⟩) w (fun e x => ?_) (fun e ac => ?_)
  .refine rg AA <| rn 3 Z <| bq x fun bi m y => sx Z (Az m Z Z Z <| rn 4 Z <| gs 74 y Z Z Z (fun z => ?_) (fun ab => ?_))
   .exact rn 3 Z <| bq z fun bj n aa => sx Z (Ah (K0 _ _ _ n) (.inl Z) Z Z Z <| rl Z <| Ad aa (wf hA [(0, 0)] Z Z Z))
   exact rl Z <| Ad ab (wf hA [(0, 0)] Z Z Z)
  refine cd Z ac (fun ad => ?_) (fun af => ?_)
  .refine rs AA <| rl Z <| AJ <| Ao <| AN <| Bp ad fun bb ae => Ao <| AN ?_
   cases ae
   exact er Z Le.rfl
  exact AG <| Av <| AD <| rg AA <| rl Z <| BJ af (wf hA [(0, 0)] Z Z Z)
 refine Am <| Aq <| B6 ag fun bc ah => A4 <| AD <| rs AA <| rl Z <| AJ ?_
 cases ah
 exact er Z Le.rfl
noncomputable def E2 (b : (List Int)) (c : Int) (a : Int) : Option (Int ⊕ Bool) :=
 bif decide (a < (b.length : Int)) then (An b a).bind fun d => bif (d == c) then some (.inr true) else some (.inl (Ae (a + 1))) else some (.inr false)
noncomputable def C1 (a : (List Int)) (b : Int) : Option Bool :=
 AP (E2 a b) 0
theorem Et (b : (List Int)) (c : Int) (r : Bool) (h : C1 b c = some r) : Bc Tryz.prog 16 [.slice 1 (b.map AI), .int .i64 c] (· = .bool r) := by
 refine fn AA Tryz.func16 Z Z 18 Z [.tmp 4] Z [(0, .p (.slice 1 (b.map AI))), (1, .p (.int .i64 c))] Z Z fun A hA => ?_
 unfold C1 at h
 refine rs AA <| rl Z <| AC <| rs AA <| rl Z <| AH ?_
 apply lp (a := r) (fun e : Int => ⟨18, [(0, ls 1 AI b), (1, li c), (5, li e)], [], 0⟩) h
 . exact wf hA [] Z Z Z
 intro e s d
 unfold E2 at d
 refine AC <| rs AA <| rn 2 Z <| sx Z (Ay Z Z <| rl Z <| cd Z d (fun n => ?_) (fun l => ?_))
 .refine AG <| AD <| AC <| AH <| rs AA <| rn 2 Z <| bq n fun t f g => sx Z (Az f Z Z Z <| rl Z <| cd Z g (fun i => ?_) (fun k => ?_))
  .refine rs AA <| rl Z <| AJ <| Ao <| AN <| Bp i fun o j => Ao <| AN ?_
   cases j
   exact er Z Le.rfl
  exact AG <| Av <| AD <| rg AA <| rl Z <| BJ k (wf hA [] Z Z Z)
 refine Am <| Aq <| B6 l fun q m => A4 <| AD <| rs AA <| rl Z <| AJ ?_
 cases m
 exact er Z Le.rfl
noncomputable def Fe (e : AO) (c : (List Int)) (a : Int × Int × (List Int)) : Option ((Int × Int × (List Int)) ⊕ ((List Int) × Bool)) :=
 bif decide (a.2.1 < (c.length : Int)) then (An c (Ae (a.2.1 - 1))).bind fun f => (Ci e (⟨f, a.1⟩ : AE)).bind fun b => ((bif (!b.2) then some true else (An c a.2.1).bind fun g => some (b.1.elem != g) : Option (Bool))).bind fun (d : Bool) => bif d then some (.inr ([], false)) else (A7 a.2.2 [b.1.fin]).bind fun h => some (.inl (Ae (1 - b.1.fin), Ae (a.2.1 + 1), h)) else some (.inr (a.2.2, true))
noncomputable def Du (c : AO) (b : (List Int)) (a : Int × Int) : Option ((Int × Int) ⊕ ((List Int) × Bool)) :=
 bif decide (0 <= a.2) then (((An b 0).bind fun g => (Ci c (⟨g, a.2⟩ : AE)).bind fun d => ((bif d.2 then (An b 1).bind fun h => some (d.1.elem == h) else some false : Option (Bool))).bind fun (f : Bool) => bif f then some a.2 else some a.1 : Option (Int))).bind fun (e : Int) => some (.inl (e, Ae (a.2 - 1))) else (bif decide (a.1 < 0) then some ([], false) else AP (Fe c b) (a.1, 1, [Ae (1 - a.1)])).map .inr
noncomputable def Hf (c : AO) (a : (List Int)) (b : Int) : Option (Int ⊕ ((List Int) × Bool)) :=
 bif decide (b < (a.length : Int)) then (An a b).bind fun d => (Dk c d).bind fun e => bif (e != 1) then some (.inr ([], false)) else some (.inl (Ae (b + 1))) else (bif ((a.length : Int) == 1) then some ([0], true) else AP (Du c a) ((-1), 1)).map .inr
noncomputable def H0 (b : AO) (a : (List Int)) : Option ((List Int) × Bool) :=
 bif ((a.length : Int) == 0) then some ([], false) else AP (Hf b a) 0
theorem Ux (c : AO) (d : (List Int)) (r : ((List Int) × Bool)) (h : H0 c d = some r) : Bc Tryz.prog 158 [.agg (Ak c), .slice 1 (d.map AI)] (· = .tup [.slice 1 (r.1.map AI), .bool r.2]) := by
 refine fn AA Tryz.func158 Z Z 102 Z [.tmp 4, .tmp 5] Z [(0, .p (.agg (Ak c))), (1, .p (.slice 1 (d.map AI)))] Z Z fun A hA => ?_
 unfold H0 at h
 refine rs AA <| rl Z <| AC <| rs AA <| rn 1 Z <| sx Z (Ay Z Z <| rl Z <| cd Z h (fun an => ?_) (fun ao => ?_))
 .refine rs AA <| rl Z <| AJ <| AN ?_
  cases an
  exact er Z (Le.tup' (.cons (Le.nil _) (.cons Le.rfl .nil)))
 refine AG <| AD <| AC <| rs AA <| rl Z <| AH ?_
 apply lp (a := r) (fun q : Int => ⟨102, [(1, ls 1 AI d), (2, .lpb 0 0), (6, li q)], [(0, bx (Ak c))], 1⟩) ao
 . exact wf hA [(0, 0)] Z Z Z
 intro q bp k
 unfold Hf at k
 refine AC <| rs AA <| rn 2 Z <| sx Z (Ay Z Z <| rl Z <| cd Z k (fun ad => ?_) (fun aj => ?_))
 .refine AG <| AD <| AC <| AH <| AC ?_
  refine Cy AA mixed [0, 1, 2, 3, 4, 5, 6] 7 (by kernel_rfl) Z Z Z ?_
  refine Ar 3 Z <| bq ad fun bt u ae => AV Z (Aa Z (Az u Z Z Z <| Ar 1 Z <| bq ae fun bu v af => AV Z (B0 (Fq _ _ _ v) (.inl Z) Z Z Z <| Au Z <| AD <| cd Z af (fun ag => ?_) (fun ai => ?_))))
  .refine rs AA <| rl Z <| AJ <| Ao <| AN <| Bp ag fun bm ah => Ao <| AN ?_
   cases ah
   exact er Z (Le.tup' (.cons (Le.nil _) (.cons Le.rfl .nil)))
  exact AG <| Av <| AD <| rg AA <| rl Z <| BJ ai (wf hA [(0, 0)] Z Z Z)
 refine Am <| Aq <| DY aj fun s ak => A4 <| AD <| AC <| rs AA <| rn 1 Z <| sx Z (Ay Z Z <| rl Z <| cd Z ak (fun al => ?_) (fun am => ?_))
 .refine rs AA <| rl Z <| AJ <| AN ?_
  cases al
  exact er (ZD Z (.cons (.one (.own (enc := AI) ([0] : List Int) Z Z)) (.cons (.one (.p _)) .nil))) Le.rfl
 refine AG <| AD <| rs AA <| rl Z <| AC <| rs AA <| rl Z <| AH ?_
 apply lp (a := s) (fun e : (Int × Int) => ⟨102, [(1, ls 1 AI d), (2, .lpb 0 0), (7, li e.1), (8, li e.2)], [(0, bx (Ak c))], 1⟩) am
 . exact wf hA [(0, 0)] Z Z Z
 intro e br n
 unfold Du at n
 refine AC <| rs AA <| rl Z <| cd Z n (fun ap => ?_) (fun a3 => ?_)
 .refine AG <| AD <| jb (fun f : Int => ⟨102, [(1, ls 1 AI d), (2, .lpb 0 0), (7, li f), (8, li e.2)], [(0, bx (Ak c))], 1⟩) ap (fun f aq => ?_) (fun f a2 => ?_)
  .refine AH <| AC ?_
   refine Cy AA mixed [0, 1, 2, 3, 4, 5, 6, 7, 8, 9, 10, 11, 12] 13 (by kernel_rfl) Z Z Z ?_
   refine Ar 2 Z <| bq aq fun bv w ar => AV Z (Aa Z (Az w Z Z Z <| Ar 3 Z <| bq ar fun bw x au => AV Z (B0 (Dj _ _ _ x) (.inl Z) Z Z Z <| Au Z <| AD <| jb (fun g : Bool => ⟨102, [(1, ls 1 AI d), (2, .lpb 0 0), (7, li e.1), (8, li e.2), (57, lb g)], [(0, bx (Ak c))], 1⟩) au (fun g av => ?_) (fun g az => ?_))))
   .refine Cy AA mixed [0, 1, 2, 3, 4, 5, 6, 7, 8] 9 (by kernel_rfl) Z Z Z ?_
    refine Ar 2 Z <| N4 50 av Z Z Z (fun aw => ?_) (fun ay => ?_)
    .exact Ar 3 Z <| bq aw fun bz y ax => AV Z (Aa Z (Az y Z Z Z <| Au Z <| Ad ax (wf hA [(0, 0)] Z Z Z)))
    exact Au Z <| Ad ay (wf hA [(0, 0)] Z Z Z)
   refine cd Z az (fun a0 => ?_) (fun a1 => ?_)
   .exact rg AA <| rl Z <| Av <| Ad a0 (wf hA [(0, 0)] Z Z Z)
   exact AG <| Av <| Ad a1 (wf hA [(0, 0)] Z Z Z)
  exact rg AA <| rl Z <| BJ a2 (wf hA [(0, 0)] Z Z Z)
 refine Am <| Aq <| DY a3 fun t a4 => A4 <| AD <| AC <| rs AA <| rl Z <| cd Z a4 (fun a5 => ?_) (fun a6 => ?_)
 .refine rs AA <| rl Z <| AJ <| AN ?_
  cases a5
  exact er Z (Le.tup' (.cons (Le.nil _) (.cons Le.rfl .nil)))
 refine AG <| AD <| rs AA <| rl Z <| AC <| rs AA <| rl Z <| AH ?_
 apply lp (a := t) (fun b : (Int × Int × (List Int)) => ⟨102, [(1, ls 1 AI d), (2, .lpb 0 0), (7, li b.1), (11, .lsl 1 1 0 b.2.2.length), (12, li b.2.1)], [(0, bx (Ak c)), (1, .row 3 1 (b.2.2.map AI))], 2⟩) a6
 . exact wf hA [(0, 0), (1, 1)] Z Z Z
 intro b bs o
 unfold Fe at o
 refine AC <| rs AA <| rn 2 Z <| sx Z (Ay Z Z <| rl Z <| cd Z o (fun a7 => ?_) (fun bk => ?_))
 .refine AG <| AD <| AC <| AH <| AC ?_
  refine Cy AA mixed [0, 1, 2, 3, 4, 5, 6, 7, 8, 9, 10, 11, 12, 13, 14] 15 (by kernel_rfl) Z Z Z ?_
  refine Ar 4 Z <| bq a7 fun b0 z a8 => AV Z (Aa Z (Az z Z Z Z <| Ar 3 Z <| bq a8 fun j aa a9 => AV Z (B0 (Dj _ _ _ aa) (.inl Z) Z Z Z <| Au Z <| AD <| AC <| jb (fun i : Bool => ⟨102, [(1, ls 1 AI d), (2, .lpb 0 0), (11, .lsl 1 1 0 b.2.2.length), (12, li b.2.1), (13, .lpb 2 0), (92, lb i)], [(0, bx (Ak c)), (1, .row 3 1 (b.2.2.map AI)), (2, .box [li j.1.elem, li j.1.fin])], 3⟩) a9 (fun i ba => ?_) (fun i bf => ?_))))
  .refine Cy AA mixed [0, 1, 2, 3, 4, 5, 6, 7, 8, 9, 10] 11 (by kernel_rfl) Z Z Z ?_
   refine Ar 3 Z <| N4 84 ba Z Z Z (fun bb => ?_) (fun bc => ?_)
   .exact Au Z <| Ad bb (wf hA [(0, 0), (1, 1), (2, 14)] Z Z Z)
   exact Ar 4 Z <| bq bc fun b1 ab be => AV Z (Aa Z (Az ab Z Z Z <| Au Z <| Ad be (wf hA [(0, 0), (1, 1), (2, 14)] Z Z Z)))
  refine cd Z bf (fun bg => ?_) (fun bi => ?_)
  .refine rs AA <| rl Z <| AJ <| AN <| Ao <| AN <| Bp bg fun bn bh => Ao <| AN ?_
   cases bh
   exact er Z (Le.tup' (.cons (Le.nil _) (.cons Le.rfl .nil)))
  exact AG <| AD <| rs AA <| rn 4 Z <| bq bi fun b2 ac bj => sx Z (AR (enc := AI) (l := b.2.2) (m := [j.1.fin]) ac (fun _ => ⟨Z, Z⟩) Z Z Z Z Z Z <| rl Z <| rg AA <| rl Z <| Av <| AD <| rg AA <| rl Z <| BJ bj (wf hA [(0, 0), (1, 4)] Z Z Z))
 refine Am <| Aq <| B6 bk fun bo bl => A4 <| AD <| rs AA <| rl Z <| AJ ?_
 cases bl
 exact er (ZD Z (.cons (.one (.own (enc := AI) b.2.2 Z Z)) (.cons (.one (.p _)) .nil))) Le.rfl
end Go.E
/- Plain functions, and walks in step with them. Written by a program (gen.py). No condition. -/
set_option maxRecDepth 100000
set_option maxHeartbeats 1000000
namespace Go.E
open Go Go.RowKit Go.Proofs
noncomputable def GX (d : AO) (c : (Int × (List Int))) (b : CN) (a : Int × (List Int)) : Option ((Int × (List Int)) ⊕ ((Int × (List Int)) ⊕ Bool)) :=
 bif decide (a.1 < (b.elems.length : Int)) then (An b.elems a.1).bind fun e => (C1 a.2 e).bind fun f => bif f then some (.inr (.inr false)) else (An b.elems a.1).bind fun g => (A7 a.2 [g]).bind fun h => some (.inl (Ae (a.1 + 1), h)) else ((H0 d b.elems).bind fun i => bif (!i.2) then some (.inr false) else some (.inl (Ae (c.1 + 1), a.2))).map .inr
noncomputable def IL (b : AO) (a : Int × (List Int)) : Option ((Int × (List Int)) ⊕ Bool) :=
 bif decide (a.1 < (b.lines.length : Int)) then (An b.lines a.1).bind fun c => AP (GX b a c) (0, a.2) else some (.inr true)
noncomputable def JA (a : AO) : Option Bool :=
 AP (IL a) (0, ([] : List Int))
theorem WL (d : AO) (r : Bool) (h : JA d = some r) : Bc Tryz.prog 113 [.agg (Ak d)] (· = .bool r) := by
 refine fn AA Tryz.func113 Z Z 49 Z [.tmp 2] Z [(0, .p (.agg (Ak d)))] Z Z fun A hA => ?_
 unfold JA at h
 refine rs AA <| rl Z <| rs AA <| rl Z <| AC <| rs AA <| rl Z <| AH ?_
 apply lp (a := r) (fun c : (Int × (List Int)) => ⟨49, [(1, .lpb 0 0), (3, .lsl 1 1 0 c.2.length), (4, li c.1)], [(0, bx (Ak d)), (1, .row 3 1 (c.2.map AI))], 2⟩) h
 . exact BA.trans (B4 3 3 1 Z) (wf hA [(0, 0), (1, 1)] Z Z Z)
 intro c g e
 unfold IL at e
 refine AC <| rs AA <| rn 3 Z <| sx Z (Ay Z Z <| rl Z <| cd Z e (fun s => ?_) (fun aj => ?_))
 .refine AG <| AD <| AC <| AH <| rs AA <| rn 3 Z <| bq s fun al i t => sx Z (Az i Z Z Z <| rl Z <| AC <| rs AA <| rl Z <| AH ?_)
  apply lp (a := g) (fun b : (Int × (List Int)) => ⟨49, [(1, .lpb 0 0), (3, .lsl 1 1 0 b.2.length), (4, li c.1), (5, ls 1 AI al.elems), (6, li b.1)], [(0, bx (Ak d)), (1, .row 3 1 (b.2.map AI))], 2⟩) t
  . exact wf hA [(0, 0), (1, 1)] Z Z Z
  intro b au f
  unfold GX at f
  refine AC <| rs AA <| rn 2 Z <| sx Z (Ay Z Z <| rl Z <| cd Z f (fun u => ?_) (fun ad => ?_))
  .refine AG <| AD <| AC <| AH <| AC <| rs AA <| rn 3 Z <| bq u fun av j v => sx Z (Az j Z Z Z <| rn 1 Z <| bq v fun aw k w => sx Z (Ah (Et _ _ _ k) (.inl Z) Z Z (DX.eq (.cons (.one (.own (enc := AI) b.2 Z Z)) (.cons (.one (.p _)) .nil))) <| rl Z <| cd Z w (fun x => ?_) (fun aa => ?_)))
   .refine rs AA <| rl Z <| AJ <| AN <| Ao <| AN <| Bp x fun an y => Ao <| AN <| Ao <| AN <| Bp y fun ao z => Ao <| AN ?_
    cases z
    exact er Z Le.rfl
   exact AG <| AD <| rg AA <| rn 3 Z <| bq aa fun am n ab => sx Z (Az n Z Z Z <| rn 2 Z <| bq ab fun ax o ac => sx Z (AR (enc := AI) (l := b.2) (m := [am]) o (fun _ => ⟨Z, Z⟩) Z Z Z Z Z Z <| rl Z <| Av <| AD <| rg AA <| rl Z <| BJ ac (wf hA [(0, 0), (1, 3)] Z Z Z)))
  refine Am <| Aq <| DY ad fun ap ae => A4 <| AD <| rs AA <| rn 2 Z <| bq ae fun ay q af => sx Z (Ah (Ux _ _ _ q) (.inr Z) Z Z Z <| rl Z <| rs AA <| rl Z <| cd Z af (fun ag => ?_) (fun ai => ?_))
  .refine rs AA <| rl Z <| AJ <| Ao <| AN <| Bp ag fun aq ah => Ao <| AN ?_
   cases ah
   exact er Z Le.rfl
  exact AG <| Av <| AD <| rg AA <| rl Z <| BJ ai (wf hA [(0, 0), (1, 1)] Z Z Z)
 refine Am <| Aq <| B6 aj fun ar ak => A4 <| AD <| rs AA <| rl Z <| AJ ?_
 cases ak
 exact er Z Le.rfl
noncomputable def JB (b : Int) (a : Int × Int) : Option ((Int × Int) ⊕ Int) :=
 bif decide (0 < a.1) then some (.inl (Ae (a.1 - b), Ae (a.2 + a.1))) else some (.inr a.2)
noncomputable def Io (b : Int) (a : Int) : Option Int :=
 ((bif decide (b < 0) then some true else bif decide (60 < b) then some true else bif decide (a < 1) then some true else some (decide (10 < a)) : Option (Bool))).bind fun (c : Bool) => bif c then some 0 else AP (JB a) (Ae (b - a), 0)
theorem XI (c : Int) (b : Int) (r : Int) (h : Io c b = some r) : Bc Tryz.prog 159 [.int .i64 c, .int .i64 b] (· = .int .i64 r) := by
 refine fn AA Tryz.func159 Z Z 32 Z [.tmp 4] Z [(0, .p (.int .i64 c)), (1, .p (.int .i64 b))] Z Z fun A hA => ?_
 unfold Io at h
 refine rs AA <| rl Z <| AC <| jb (fun e : Bool => ⟨32, [(0, li c), (1, li b), (19, lb e)], [], 0⟩) h (fun e g => ?_) (fun e o => ?_)
 .refine rg AA <| rn 3 Z <| gs 8 g Z Z Z (fun i => ?_) (fun j => ?_)
  .exact rl Z <| Ad i (wf hA [] Z Z Z)
  refine rn 4 Z <| gs 12 j Z Z Z (fun k => ?_) (fun l => ?_)
  .exact rl Z <| Ad k (wf hA [] Z Z Z)
  refine rn 4 Z <| gs 16 l Z Z Z (fun m => ?_) (fun n => ?_)
  .exact rl Z <| Ad m (wf hA [] Z Z Z)
  exact rl Z <| Ad n (wf hA [] Z Z Z)
 refine cd Z o (fun q => ?_) (fun s => ?_)
 .refine rs AA <| rl Z <| AJ <| AN ?_
  cases q
  exact er Z Le.rfl
 refine AG <| AD <| rs AA <| rl Z <| AC <| rs AA <| rl Z <| AH ?_
 apply lp (a := r) (fun d : (Int × Int) => ⟨32, [(0, li d.1), (1, li b), (5, li d.2)], [], 0⟩) s
 . exact wf hA [] Z Z Z
 intro d x f
 unfold JB at f
 refine AC <| rs AA <| rl Z <| cd Z f (fun t => ?_) (fun u => ?_)
 .exact AG <| AD <| AC <| AH <| rg AA <| rl Z <| Av <| AD <| rg AA <| rl Z <| BJ t (wf hA [] Z Z Z)
 refine Am <| Aq <| B6 u fun w v => A4 <| AD <| rs AA <| rl Z <| AJ ?_
 cases v
 exact er Z Le.rfl
noncomputable def H2 (b : AO) (a : Int) : Option Int :=
 ((bif decide (a < 0) then some true else some (decide ((b.elems.length : Int) <= a)) : Option (Bool))).bind fun (c : Bool) => bif c then some 0 else (An b.elems a).bind fun d => some d.length
theorem Uy (a : AO) (b : Int) (r : Int) (h : H2 a b = some r) : Bc Tryz.prog 160 [.agg (Ak a), .int .i64 b] (· = .int .i64 r) := by
 refine fn AA Tryz.func160 Z Z 20 Z [.tmp 4] Z [(0, .p (.agg (Ak a))), (1, .p (.int .i64 b))] Z Z fun A hA => ?_
 unfold H2 at h
 refine rs AA <| rl Z <| AC <| jb (fun c : Bool => ⟨20, [(1, li b), (2, .lpb 0 0), (13, lb c)], [(0, bx (Ak a))], 1⟩) h (fun c e => ?_) (fun c i => ?_)
 .refine rg AA <| rn 3 Z <| gs 7 e Z Z Z (fun f => ?_) (fun g => ?_)
  .exact rl Z <| Ad f (wf hA [(0, 0)] Z Z Z)
  exact rn 3 Z <| sx Z (Ay Z Z <| rl Z <| Ad g (wf hA [(0, 0)] Z Z Z))
 refine cd Z i (fun j => ?_) (fun k => ?_)
 .refine rs AA <| rl Z <| AJ <| AN ?_
  cases j
  exact er Z Le.rfl
 refine AG <| AD <| rs AA <| rn 3 Z <| bq k fun m d l => sx Z (Az d Z Z Z <| rl Z <| AJ ?_)
 cases l
 exact er Z Le.rfl
noncomputable def HP (b : AO) (a : Int) : Option (Int ⊕ Bool) :=
 bif decide (a < (b.elems.length : Int)) then (((An b.elems a).bind fun d => bif (d.kind != 4) then (An b.elems a).bind fun e => some (decide (e.length < b.top)) else some false : Option (Bool))).bind fun (c : Bool) => bif c then some (.inr false) else some (.inl (Ae (a + 1))) else some (.inr true)
noncomputable def JC (a : AO) (b : Int) : Option (Int ⊕ Bool) :=
 bif decide (b < (a.signals.length : Int)) then (An a.signals b).bind fun c => (((Dk a c.at_.elem).bind fun e => bif (e == 1) then (H2 a c.at_.elem).bind fun f => some (decide (f < a.margin)) else some false : Option (Bool))).bind fun (d : Bool) => bif d then some (.inr false) else some (.inl (Ae (b + 1))) else (AP (HP a) 0).map .inr
noncomputable def KP (a : AO) : Option Bool :=
 (Io a.top a.brake).bind fun b => bif decide (a.margin < Ae (a.top + b)) then some false else AP (JC a) 0
theorem XJ (b : AO) (r : Bool) (h : KP b = some r) : Bc Tryz.prog 114 [.agg (Ak b)] (· = .bool r) := by
 refine fn AA Tryz.func114 Z Z 68 Z [.tmp 2] Z [(0, .p (.agg (Ak b)))] Z Z fun A hA => ?_
 unfold KP at h
 refine rs AA <| rl Z <| AC <| AC ?_
 refine Cy AA mixed [0, 1, 2, 3, 4, 5, 6, 7, 8, 9, 10] 11 (by kernel_rfl) Z Z Z ?_
 refine Ar 8 Z <| bq h fun a6 q s => AV Z (B0 (XI _ _ _ q) (.inl Z) Z Z Z <| Au Z <| AD <| cd Z s (fun t => ?_) (fun u => ?_))
 .refine rs AA <| rl Z <| AJ <| AN ?_
  cases t
  exact er Z Le.rfl
 refine AG <| AD <| AC <| rs AA <| rl Z <| AH ?_
 apply lp (a := r) (fun c : Int => ⟨68, [(1, .lpb 0 0), (3, li c)], [(0, bx (Ak b))], 1⟩) u
 . exact wf hA [(0, 0)] Z Z Z
 intro c az g
 unfold JC at g
 refine AC <| rs AA <| rn 3 Z <| sx Z (Ay Z Z <| rl Z <| cd Z g (fun v => ?_) (fun ag => ?_))
 .refine AG <| AD <| AC <| AH <| rs AA <| rn 3 Z <| bq v fun a1 k w => sx Z (Az k Z Z Z <| rl Z <| jb (fun e : Bool => ⟨68, [(1, .lpb 0 0), (3, li c), (42, lb e)], [(0, bx (Ak b))], 1⟩) w (fun e x => ?_) (fun e ac => ?_))
  .refine Cy AA mixed [0, 1, 2, 3, 4, 5, 6, 7, 8, 9, 10, 11] 12 (by kernel_rfl) Z Z Z ?_
   refine Ar 2 Z <| bq x fun a2 l y => AV Z (B0 (Fq _ _ _ l) (.inl Z) Z Z Z <| Ar 2 Z <| N4 35 y Z Z Z (fun z => ?_) (fun ab => ?_))
   .exact Ar 2 Z <| bq z fun a3 m aa => AV Z (B0 (Uy _ _ _ m) (.inl Z) Z Z Z <| Au Z <| Ad aa (wf hA [(0, 0)] Z Z Z))
   exact Au Z <| Ad ab (wf hA [(0, 0)] Z Z Z)
  refine cd Z ac (fun ad => ?_) (fun af => ?_)
  .refine rs AA <| rl Z <| AJ <| Ao <| AN <| Bp ad fun aw ae => Ao <| AN ?_
   cases ae
   exact er Z Le.rfl
  exact AG <| Av <| AD <| rg AA <| rl Z <| BJ af (wf hA [(0, 0)] Z Z Z)
 refine Am <| Aq <| DY ag fun j ah => A4 <| AD <| AC <| rs AA <| rl Z <| AH ?_
 apply lp (a := j) (fun d : Int => ⟨68, [(1, .lpb 0 0), (5, li d)], [(0, bx (Ak b))], 1⟩) ah
 . exact wf hA [(0, 0)] Z Z Z
 intro d a0 i
 unfold HP at i
 refine AC <| rs AA <| rn 3 Z <| sx Z (Ay Z Z <| rl Z <| cd Z i (fun ai => ?_) (fun au => ?_))
 .refine AG <| AD <| AC <| AH <| jb (fun f : Bool => ⟨68, [(1, .lpb 0 0), (5, li d), (67, lb f)], [(0, bx (Ak b))], 1⟩) ai (fun f aj => ?_) (fun f ao => ?_)
  .refine Cy AA mixed [0, 1, 2, 3, 4, 5, 6, 7, 8, 9, 10, 11, 12, 13, 14, 15, 16, 17] 18 (by kernel_rfl) Z Z Z ?_
   refine Ar 3 Z <| bq aj fun a4 n ak => AV Z (Aa Z (Az n Z Z Z <| Ar 4 Z <| N4 57 ak Z Z Z (fun al => ?_) (fun an => ?_)))
   .exact Ar 3 Z <| bq al fun a5 o am => AV Z (Aa Z (Az o Z Z Z <| Au Z <| Ad am (wf hA [(0, 0)] Z Z Z)))
   exact Au Z <| Ad an (wf hA [(0, 0)] Z Z Z)
  refine cd Z ao (fun ap => ?_) (fun ar => ?_)
  .refine rs AA <| rl Z <| AJ <| Ao <| AN <| Bp ap fun ax aq => Ao <| AN ?_
   cases aq
   exact er Z Le.rfl
  exact AG <| Av <| AD <| rg AA <| rl Z <| BJ ar (wf hA [(0, 0)] Z Z Z)
 refine Am <| Aq <| B6 au fun ay av => A4 <| AD <| rs AA <| rl Z <| AJ ?_
 cases av
 exact er Z Le.rfl
noncomputable def ES (a : AO) : Option Int :=
 ((bif decide (40 < (a.elems.length : Int)) then some true else bif decide (24 < (a.signals.length : Int)) then some true else bif decide (4 < (a.lines.length : Int)) then some true else some (decide (80 < (a.joins.length : Int))) : Option (Bool))).bind fun (d : Bool) => bif d then some 3 else (I6 a).bind fun b => (KO a).bind fun l => bif (!l) then some 1 else (((F4 b.1).bind fun e => bif e then some true else (F4 b.2.1).bind fun f => bif f then some true else (F4 b.2.2).bind fun g => some g : Option (Bool))).bind fun (c : Bool) => bif c then some 4 else (Hz a).bind fun h => bif (!h) then some 6 else (HO a).bind fun i => bif (!i) then some 7 else (JA a).bind fun j => bif (!j) then some 8 else (KP a).bind fun k => bif (!k) then some 9 else some 0
theorem Q2 (a : AO) (r : Int) (h : ES a = some r) : Bc Tryz.prog 42 [.agg (Ak a)] (· = .int .i64 r) := by
 refine fn AA Tryz.func42 Z Z 65 Z [.tmp 2] Z [(0, .p (.agg (Ak a)))] Z Z fun A hA => ?_
 unfold ES at h
 refine rs AA <| rl Z <| AC <| jb (fun c : Bool => ⟨65, [(1, .lpb 0 0), (27, lb c)], [(0, bx (Ak a))], 1⟩) h (fun c am => ?_) (fun c av => ?_)
 .refine rg AA <| rn 2 Z <| sx Z (Ay Z Z <| rn 2 Z <| gs 10 am Z Z Z (fun an => ?_) (fun ao => ?_))
  .exact rl Z <| Ad an (wf hA [(0, 0)] Z Z Z)
  refine rn 2 Z <| sx Z (Ay Z Z <| rn 3 Z <| gs 16 ao Z Z Z (fun ap => ?_) (fun aq => ?_))
  .exact rl Z <| Ad ap (wf hA [(0, 0)] Z Z Z)
  refine rn 2 Z <| sx Z (Ay Z Z <| rn 3 Z <| gs 22 aq Z Z Z (fun ar => ?_) (fun au => ?_))
  .exact rl Z <| Ad ar (wf hA [(0, 0)] Z Z Z)
  exact rn 2 Z <| sx Z (Ay Z Z <| rl Z <| Ad au (wf hA [(0, 0)] Z Z Z))
 refine cd Z av (fun aw => ?_) (fun ax => ?_)
 .refine rs AA <| rl Z <| AJ <| AN ?_
  cases aw
  exact er Z Le.rfl
 refine AG <| AD <| rs AA <| rn 1 Z <| bq ax fun a9 l ay => sx Z (Ah (WJ _ _ l) (.inr Z) Z Z Z <| rl Z <| AC <| AH <| rs AA <| rn 1 Z <| bq ay fun ba m az => sx Z (Ah (XE _ _ m) (.inl Z) Z Z Z <| rl Z <| cd Z az (fun a0 => ?_) (fun a1 => ?_)))
 .refine rs AA <| rl Z <| AJ <| Ao <| AN ?_
  cases a0
  exact er Z Le.rfl
 refine jb (fun b : Bool => ⟨65, [(1, .lpb 0 0), (38, lb b)], [(0, bx (Ak a))], 1⟩) a1 (fun b n => ?_) (fun b x => ?_)
 .refine rg AA <| rn 1 Z <| bq n fun a2 d o => sx Z (Ah (NU _ _ d) (.inl Z) Z Z Z <| rn 1 Z <| gs 41 o Z Z Z (fun q => ?_) (fun s => ?_))
  .exact rl Z <| Ad q (wf hA [(0, 0)] Z Z Z)
  refine rn 1 Z <| bq s fun a3 e t => sx Z (Ah (NU _ _ e) (.inl Z) Z Z Z <| rn 2 Z <| gs 45 t Z Z Z (fun u => ?_) (fun v => ?_))
  .exact rl Z <| Ad u (wf hA [(0, 0)] Z Z Z)
  exact rn 1 Z <| bq v fun a4 f w => sx Z (Ah (NU _ _ f) (.inl Z) Z Z Z <| rl Z <| Ad w (wf hA [(0, 0)] Z Z Z))
 refine cd Z x (fun y => ?_) (fun z => ?_)
 .refine rs AA <| rl Z <| AJ <| Ao <| AN ?_
  cases y
  exact er Z Le.rfl
 refine rs AA <| rn 1 Z <| bq z fun a5 g aa => sx Z (Ah (Uw _ _ g) (.inl Z) Z Z Z <| rl Z <| cd Z aa (fun ab => ?_) (fun ac => ?_))
 .refine rs AA <| rl Z <| AJ <| Ao <| AN ?_
  cases ab
  exact er Z Le.rfl
 refine rs AA <| rn 1 Z <| bq ac fun a6 i ad => sx Z (Ah (T9 _ _ i) (.inl Z) Z Z Z <| rl Z <| cd Z ad (fun ae => ?_) (fun af => ?_))
 .refine rs AA <| rl Z <| AJ <| Ao <| AN ?_
  cases ae
  exact er Z Le.rfl
 refine rs AA <| rn 1 Z <| bq af fun a7 j ag => sx Z (Ah (WL _ _ j) (.inl Z) Z Z Z <| rl Z <| cd Z ag (fun ah => ?_) (fun ai => ?_))
 .refine rs AA <| rl Z <| AJ <| Ao <| AN ?_
  cases ah
  exact er Z Le.rfl
 refine rs AA <| rn 1 Z <| bq ai fun a8 k aj => sx Z (Ah (XJ _ _ k) (.inl Z) Z Z Z <| rl Z <| cd Z aj (fun ak => ?_) (fun al => ?_))
 .refine rs AA <| rl Z <| AJ <| Ao <| AN ?_
  cases ak
  exact er Z Le.rfl
 refine AG <| Av <| AD <| rs AA <| rl Z <| AJ ?_
 cases al
 exact er Z Le.rfl
noncomputable def HN (a : AO) : Option Bool :=
 (((Ji a).bind fun d => bif d then (ES a).bind fun c => some (c == 0) else some false : Option (Bool))).bind fun (b : Bool) => some b
theorem XF (b : AO) (r : Bool) (h : HN b = some r) : Bc Tryz.prog 11 [.agg (Ak b)] (· = .bool r) := by
 refine fn AA Tryz.func11 Z Z 10 Z [.tmp 2] Z [(0, .p (.agg (Ak b)))] Z Z fun A hA => ?_
 unfold HN at h
 refine rs AA <| rl Z <| jb (fun a : Bool => ⟨10, [(2, lb a)], [], 0⟩) h (fun a k => ?_) (fun a j => ?_)
 .refine rg AA <| rn 1 Z <| bq k fun m d e => sx Z (Ah (YQ _ _ d) (.inl Z) Z Z Z <| rn 1 Z <| gs 5 e Z Z Z (fun f => ?_) (fun i => ?_))
  .exact rn 1 Z <| bq f fun l c g => sx Z (Ah (Q2 _ _ c) (.inl Z) Z Z Z <| rl Z <| Ad g (wf hA [] Z Z Z))
  exact rl Z <| Ad i (wf hA [] Z Z Z)
 refine AJ ?_
 have hr := Option.some.inj j; subst hr
 exact er Z Le.rfl
noncomputable def IM (a : Int) : Option Bool :=
 ((bif decide (97 <= a) then bif decide (a <= 122) then some true else bif decide (65 <= a) then some (decide (a <= 90)) else some false else bif decide (65 <= a) then some (decide (a <= 90)) else some false : Option (Bool))).bind fun (b : Bool) => some b
noncomputable def Hg (b : ByteArray) (a : Int) : Option (Int ⊕ Bool) :=
 bif decide (a < (b.size : Int)) then (((NM b a).bind fun d => (IM (d.toNat : Int)).bind fun e => bif (!e) then (NM b a).bind fun f => bif decide ((f.toNat : Int) < 48) then some true else (NM b a).bind fun g => some (decide (57 < (g.toNat : Int))) else some false : Option (Bool))).bind fun (c : Bool) => bif c then some (.inr false) else some (.inl (Ae (a + 1))) else some (.inr true)
noncomputable def H3 (a : ByteArray) : Option Bool :=
 ((bif (a.toList == ByteArray.empty.toList) then some true else bif decide (8 < (a.size : Int)) then some true else (NM a 0).bind fun c => (IM (c.toNat : Int)).bind fun d => some (!d) : Option (Bool))).bind fun (b : Bool) => bif b then some false else AP (Hg a) 1
noncomputable def J4 (a : Int) : Option Int :=
 bif (a == 1) then some 2 else bif (a == 2) then some 3 else bif (a == 3) then some 4 else bif (a == 4) then some 1 else some 0
noncomputable def EN (b : AO) (a : Int) : Option (Int ⊕ Bool) :=
 bif decide (a < (b.lines.length : Int)) then (An b.lines a).bind fun c => (H3 c.name).bind fun d => bif (!d) then some (.inr false) else some (.inl (Ae (a + 1))) else some (.inr true)
noncomputable def EO (b : AO) (a : Int) : Option (Int ⊕ Bool) :=
 bif decide (a < (b.signals.length : Int)) then (An b.signals a).bind fun c => (H3 c.name).bind fun d => bif (!d) then some (.inr false) else some (.inl (Ae (a + 1))) else (AP (EN b) 0).map .inr
noncomputable def FR (c : AO) (b : Int) : Option (Int ⊕ Bool) :=
 bif decide (b < (c.elems.length : Int)) then Kf (((An c.elems b).bind fun a => (((H3 a.name).bind fun f => bif (!f) then some true else (J4 a.kind).bind fun g => some (g == 0) : Option (Bool))).bind fun (d : Bool) => bif d then some (.inr (.inr false)) else bif (a.kind == 4) then bif (a.length != 0) then some (.inr (.inr false)) else some (.inl ()) else ((bif decide (a.length < 1) then some true else some (decide (4000 < a.length)) : Option (Bool))).bind fun (e : Bool) => bif e then some (.inr (.inr false)) else some (.inl ()) : Option (Unit ⊕ (Int ⊕ Bool)))) fun (h : Unit) => some (.inl (Ae (b + 1))) else (AP (EO c) 0).map .inr
noncomputable def Jj (a : AO) : Option Bool :=
 ((bif decide (a.top < 1) then some true else bif decide (60 < a.top) then some true else bif decide (a.brake < 1) then some true else bif decide (10 < a.brake) then some true else bif decide (a.margin < 1) then some true else bif decide (4000 < a.margin) then some true else bif decide (a.throw < 1) then some true else bif decide (20 < a.throw) then some true else some ((a.elems.length : Int) == 0) : Option (Bool))).bind fun (b : Bool) => bif b then some false else AP (FR a) 0
noncomputable def Jk (a : Int) (b : AO) : Option ByteArray :=
 (An b.elems a).bind fun c => some c.name
noncomputable def Jl (a : Int) (b : AO) : Option ByteArray :=
 (An b.signals a).bind fun c => some c.name
noncomputable def Jm (a : Int) (b : AO) : Option ByteArray :=
 (An b.lines a).bind fun c => some c.name
noncomputable def J5 (b : AO) (a : AE) : Option Bool :=
 ((bif decide (0 <= a.elem) then bif decide (a.elem < (b.elems.length : Int)) then bif decide (0 <= a.fin) then (An b.elems a.elem).bind fun d => (J4 d.kind).bind fun e => some (decide (a.fin < e)) else some false else some false else some false : Option (Bool))).bind fun (c : Bool) => some c
noncomputable def Ee (c : AO) (b : (Int × (List (AE × AE)))) (a : Int) : Option (Int ⊕ ((List (AE × AE)) × Bool)) :=
 bif decide (a < (c.elems.length : Int)) then Kf (((An c.elems a).bind fun e => bif (e.kind != 4) then some (.inl ()) else ((bif (!(AZ b.2 (⟨a, 0⟩ : AE)).isSome) then some true else (An c.elems (((AZ b.2 (⟨a, 0⟩ : AE)).getD (⟨0, 0⟩ : AE)).elem)).bind fun f => some (f.kind == 4) : Option (Bool))).bind fun (d : Bool) => bif d then some (.inr (.inr ([], false))) else some (.inl ()) : Option (Unit ⊕ (Int ⊕ ((List (AE × AE)) × Bool))))) fun (g : Unit) => some (.inl (Ae (a + 1))) else some (.inr (b.2, true))
noncomputable def F9 (e : AO) (d : Int × (List (AE × AE))) : Option ((Int × (List (AE × AE))) ⊕ ((List (AE × AE)) × Bool)) :=
 bif decide (d.1 < (e.joins.length : Int)) then (An e.joins d.1).bind fun c => ((bif (AZ d.2 c.a).isSome then some true else bif (AZ d.2 c.b).isSome then some true else bif (c.a == c.b) then some true else (J5 e c.a).bind fun g => bif (!g) then some true else (J5 e c.b).bind fun h => some (!h) : Option (Bool))).bind fun (f : Bool) => bif f then some (.inr ([], false)) else some (.inl (Ae (d.1 + 1), A5 c.b c.a (A5 c.a c.b d.2))) else (AP (Ee e d) 0).map .inr
noncomputable def Kk (a : AO) : Option ((List (AE × AE)) × Bool) :=
 AP (F9 a) (0, [])
noncomputable def EP (b : AO) (c : (Int × (List (AE × Bool)))) (a : Int) : Option (Int ⊕ Bool) :=
 bif decide (a < (b.elems.length : Int)) then (An b.elems a).bind fun e => ((bif (e.kind == 4) then some (!((AZ c.2 (⟨a, 0⟩ : AE)).getD false)) else some false : Option (Bool))).bind fun (d : Bool) => bif d then some (.inr false) else some (.inl (Ae (a + 1))) else some (.inr true)
noncomputable def FT (b : AO) (d : (List (AE × AE))) (a : Int × (List (AE × Bool))) : Option ((Int × (List (AE × Bool))) ⊕ Bool) :=
 bif decide (a.1 < (b.signals.length : Int)) then (An b.signals a.1).bind fun c => (((J5 b c.at_).bind fun j => bif (!j) then some true else some ((AZ a.2 c.at_).getD false) : Option (Bool))).bind fun (g : Bool) => bif g then some (.inr false) else (An b.elems c.at_.elem).bind fun e => ((bif (e.kind != 1) then some (e.kind != 4) else some false : Option (Bool))).bind fun (h : Bool) => bif h then some (.inr false) else ((bif (!(AZ d c.at_).isSome) then some true else (An b.elems (((AZ d c.at_).getD (⟨0, 0⟩ : AE)).elem)).bind fun i => some (i.kind == 4) : Option (Bool))).bind fun (f : Bool) => bif f then some (.inr false) else some (.inl (Ae (a.1 + 1), A5 c.at_ true a.2)) else (AP (EP b a) 0).map .inr
noncomputable def Jn (a : AO) (b : (List (AE × AE))) : Option Bool :=
 AP (FT a b) (0, [])
noncomputable def GY (b : (List Int)) (c : (List (AE × AE))) (a : Int × Int) : Option ((Int × Int) ⊕ Bool) :=
 bif decide (a.2 < (b.length : Int)) then (An b (Ae (a.2 - 1))).bind fun d => ((bif (!(AZ c (⟨d, a.1⟩ : AE)).isSome) then some true else (An b a.2).bind fun f => some ((((AZ c (⟨d, a.1⟩ : AE)).getD (⟨0, 0⟩ : AE)).elem) != f) : Option (Bool))).bind fun (e : Bool) => bif e then some (.inr false) else some (.inl (Ae (1 - (((AZ c (⟨d, a.1⟩ : AE)).getD (⟨0, 0⟩ : AE)).fin)), Ae (a.2 + 1))) else some (.inr true)
noncomputable def Eu (b : (List Int)) (c : (List (AE × AE))) (a : Int × Int) : Option ((Int × Int) ⊕ Bool) :=
 bif decide (0 <= a.2) then (((An b 0).bind fun d => ((bif (AZ c (⟨d, a.2⟩ : AE)).isSome then (An b 1).bind fun g => some ((((AZ c (⟨d, a.2⟩ : AE)).getD (⟨0, 0⟩ : AE)).elem) == g) else some false : Option (Bool))).bind fun (f : Bool) => bif f then some a.2 else some a.1 : Option (Int))).bind fun (e : Int) => some (.inl (e, Ae (a.2 - 1))) else (bif decide (a.1 < 0) then some false else AP (GY b c) (a.1, 1)).map .inr
noncomputable def NY (a : (List Int)) (b : (List (AE × AE))) : Option Bool :=
 bif decide ((a.length : Int) < 2) then some true else AP (Eu a b) ((-1), 1)
noncomputable def Gu (d : AO) (g : (List (AE × AE))) (e : (Int × (List (Int × Bool)))) (c : CN) (a : Int × (List (Int × Bool))) : Option ((Int × (List (Int × Bool))) ⊕ ((Int × (List (Int × Bool))) ⊕ Bool)) :=
 bif decide (a.1 < (c.elems.length : Int)) then (An c.elems a.1).bind fun b => ((bif decide (b < 0) then some true else bif decide ((d.elems.length : Int) <= b) then some true else (An d.elems b).bind fun h => bif (h.kind != 1) then some true else some ((AZ a.2 b).getD false) : Option (Bool))).bind fun (f : Bool) => bif f then some (.inr (.inr false)) else some (.inl (Ae (a.1 + 1), A5 b true a.2)) else ((NY c.elems g).bind fun i => bif (!i) then some (.inr false) else some (.inl (Ae (e.1 + 1), a.2))).map .inr
noncomputable def Gv (b : AO) (d : (List (AE × AE))) (a : Int × (List (Int × Bool))) : Option ((Int × (List (Int × Bool))) ⊕ Bool) :=
 bif decide (a.1 < (b.lines.length : Int)) then (An b.lines a.1).bind fun c => bif ((c.elems.length : Int) == 0) then some (.inr false) else AP (Gu b d a c) (0, a.2) else some (.inr true)
noncomputable def LY (a : AO) (b : (List (AE × AE))) : Option Bool :=
 AP (Gv a b) (0, [])
noncomputable def Rq (b : Int) (a : Int × Int) : Option ((Int × Int) ⊕ Int) :=
 bif decide (0 < a.1) then some (.inl (Ae (a.1 - b), Ae (a.2 + a.1))) else some (.inr a.2)
noncomputable def Pj (b : Int) (a : Int) : Option Int :=
 ((bif decide (b < 0) then some true else bif decide (60 < b) then some true else bif decide (a < 1) then some true else some (decide (10 < a)) : Option (Bool))).bind fun (c : Bool) => bif c then some 0 else AP (Rq a) (Ae (b - a), 0)
noncomputable def Ff (b : AO) (a : Int) : Option (Int ⊕ Bool) :=
 bif decide (a < (b.elems.length : Int)) then (An b.elems a).bind fun c => ((bif (c.kind != 4) then some (decide (c.length < b.top)) else some false : Option (Bool))).bind fun (d : Bool) => bif d then some (.inr false) else some (.inl (Ae (a + 1))) else some (.inr true)
noncomputable def Hh (a : AO) (b : Int) : Option (Int ⊕ Bool) :=
 bif decide (b < (a.signals.length : Int)) then (An a.signals b).bind fun e => (An a.elems e.at_.elem).bind fun c => ((bif (c.kind == 1) then some (decide (c.length < a.margin)) else some false : Option (Bool))).bind fun (d : Bool) => bif d then some (.inr false) else some (.inl (Ae (b + 1))) else (AP (Ff a) 0).map .inr
noncomputable def MS (a : AO) : Option Bool :=
 (Pj a.top a.brake).bind fun b => bif decide (a.margin < Ae (a.top + b)) then some false else AP (Hh a) 0
noncomputable def E3 (b : AO) (a : Int × (List (ByteArray × Bool))) : Option ((Int × (List (ByteArray × Bool))) ⊕ Bool) :=
 bif decide (a.1 < (b.elems.length : Int)) then (Jk a.1 b).bind fun c => bif ((AZ a.2 c).getD false) then some (.inr true) else (Jk a.1 b).bind fun d => some (.inl (Ae (a.1 + 1), A5 d true a.2)) else some (.inr false)
noncomputable def E4 (b : AO) (a : Int × (List (ByteArray × Bool))) : Option ((Int × (List (ByteArray × Bool))) ⊕ Bool) :=
 bif decide (a.1 < (b.signals.length : Int)) then (Jl a.1 b).bind fun c => bif ((AZ a.2 c).getD false) then some (.inr true) else (Jl a.1 b).bind fun d => some (.inl (Ae (a.1 + 1), A5 d true a.2)) else some (.inr false)
noncomputable def E5 (b : AO) (a : Int × (List (ByteArray × Bool))) : Option ((Int × (List (ByteArray × Bool))) ⊕ Bool) :=
 bif decide (a.1 < (b.lines.length : Int)) then (Jm a.1 b).bind fun c => bif ((AZ a.2 c).getD false) then some (.inr true) else (Jm a.1 b).bind fun d => some (.inl (Ae (a.1 + 1), A5 d true a.2)) else some (.inr false)
noncomputable def LZ (a : AO) : Option Int :=
 ((bif decide (40 < (a.elems.length : Int)) then some true else bif decide (24 < (a.signals.length : Int)) then some true else bif decide (4 < (a.lines.length : Int)) then some true else some (decide (80 < (a.joins.length : Int))) : Option (Bool))).bind fun (c : Bool) => bif c then some 3 else (Jj a).bind fun h => bif (!h) then some 1 else ((((AP (E3 a) (0, []) : Option (Bool))).bind fun (e : Bool) => bif e then some true else ((AP (E4 a) (0, []) : Option (Bool))).bind fun (f : Bool) => bif f then some true else ((AP (E5 a) (0, []) : Option (Bool))).bind fun (g : Bool) => some g : Option (Bool))).bind fun (d : Bool) => bif d then some 4 else (Kk a).bind fun b => bif (!b.2) then some 6 else (Jn a b.1).bind fun i => bif (!i) then some 7 else (LY a b.1).bind fun j => bif (!j) then some 8 else (MS a).bind fun k => bif (!k) then some 9 else some 0
end Go.E
/- Plain functions, and walks in step with them. Written by a program (gen.py). No condition. -/
set_option maxRecDepth 100000
set_option maxHeartbeats 1000000
namespace Go.E
open Go Go.RowKit Go.Proofs
noncomputable def H4 (a : (List By)) : Option (List By) :=
 MQ a (some []) ((A7 ([] : List By) a).bind fun b => some b)
noncomputable def H5 (a : (List Bx)) : Option (List Bx) :=
 MQ a (some []) ((A7 ([] : List Bx) a).bind fun b => some b)
noncomputable def HQ (a : (List BI)) : Option (List BI) :=
 MQ a (some []) ((A7 ([] : List BI) a).bind fun b => some b)
noncomputable def H6 (a : (List CN)) : Option (List CN) :=
 MQ a (some []) ((A7 ([] : List CN) a).bind fun b => some b)
noncomputable def CF (a : (List Int)) : Option (List Int) :=
 MQ a (some []) ((A7 ([] : List Int) a).bind fun b => some b)
theorem Oo (a : (List Int)) (r : (List Int)) (h : CF a = some r) : Bc Tryz.prog 124 [.slice 1 (a.map AI)] (· = .slice 1 (r.map AI)) := by
 refine fn AA Tryz.func124 Z Z 8 Z [.tmp 2] Z [(0, .p (.slice 1 (a.map AI)))] Z Z fun A hA => ?_
 unfold CF at h
 refine rs AA <| rl Z <| AC <| rs AA <| rn 1 Z <| sx Z (Qn h Z Z Z (fun d => ?_) (fun e => ?_))
 .refine rl Z <| SK Z <| rs AA <| rl Z <| AJ <| AN ?_
  cases d
  exact er Z (Le.nil _)
 refine rl Z <| Qi Z <| AG <| AD <| rs AA <| rn 2 Z <| bq e fun f b c => sx Z (AR (enc := AI) (l := ([] : List Int)) (m := a) b (fun _ => ⟨Z, Z⟩) Z Z Z Z Z Z <| rl Z <| AJ ?_)
 have hr := Option.some.inj c; subst hr
 exact er (Ks Z (.one (.own (enc := AI) f Z Z))) Le.rfl
theorem OD (a : (List Int)) (r : (List Int)) (h : CF a = some r) : FV Tryz.prog 124 [.slice 1 (a.map AI)] 3 1 (r.map AI) := by
 refine VP (enc := AI) (fun _ => ⟨Z, Z⟩) Tryz.func124 Z Z 8 Z 2 Z [(0, .p (.slice 1 (a.map AI)))] Z Z fun A hA => ?_
 unfold CF at h
 refine rs AA <| rl Z <| AC <| rs AA <| rn 1 Z <| sx Z (Qn h Z Z Z (fun d => ?_) (fun e => ?_))
 .refine rl Z <| SK Z <| rs AA <| rl Z <| AJ <| AN ?_
  cases d
  exact AAV Z
 refine rl Z <| Qi Z <| AG <| AD <| rs AA <| rn 2 Z <| bq e fun f b c => sx Z (AR (enc := AI) (l := ([] : List Int)) (m := a) b (fun _ => ⟨Z, Z⟩) Z Z Z Z Z Z <| rl Z <| AJ ?_)
 have hr := Option.some.inj c; subst hr
 exact VQ Z Z Z
noncomputable def IN (b : AO) (h : (List By)) (i : (List Bx)) (c : (List BI)) (g : (List CN)) (a : Int × (List CN)) : Option ((Int × (List CN)) ⊕ AO) :=
 bif decide (a.1 < (g.length : Int)) then (An a.2 a.1).bind fun d => (CF d.elems).bind fun e => (An a.2 a.1).bind fun f => some (.inl (Ae (a.1 + 1), IX a.2 a.1 (⟨f.name, e⟩ : CN))) else some (.inr (⟨h, i, c, a.2, b.top, b.brake, b.margin, b.throw, b.hard⟩ : AO))
noncomputable def K1 (a : AO) : Option AO :=
 (H4 a.elems).bind fun d => (H5 a.joins).bind fun e => (HQ a.signals).bind fun c => (H6 a.lines).bind fun b => AP (IN a d e c b) (0, b)
noncomputable def JD (e : (Int × (List (AE × AE)))) (c : (Int × (List (Int × Gh)) × (List (Int × Int)))) (d : CN) (a : Int × Int × (List (Int × Gh)) × (List (Int × Int))) : Option ((Int × Int × (List (Int × Gh)) × (List (Int × Int))) ⊕ ((Int × (List (Int × Gh)) × (List (Int × Int))) ⊕ ((Option CX) × Int))) :=
 bif decide (a.2.1 < (d.elems.length : Int)) then (An d.elems a.2.1).bind fun b => some (.inl (((AZ e.2 (⟨b, Ae (1 - a.1)⟩ : AE)).getD (⟨0, 0⟩ : AE)).fin, Ae (a.2.1 + 1), A5 b (⟨c.1, a.2.1⟩ : Gh) a.2.2.1, A5 b a.1 a.2.2.2)) else some (.inr (.inl (Ae (c.1 + 1), a.2.2.1, a.2.2.2)))
noncomputable def HR (d : AO) (j : AO) (b : (Int × (List (AE × AE)))) (f : (Int × (List (AE × Int)))) (a : Int × (List (Int × Gh)) × (List (Int × Int))) : Option ((Int × (List (Int × Gh)) × (List (Int × Int))) ⊕ ((Option CX) × Int)) :=
 bif decide (a.1 < (d.lines.length : Int)) then (An d.lines a.1).bind fun c => ((bif decide (1 < (c.elems.length : Int)) then (An c.elems 0).bind fun e => ((bif (AZ b.2 (⟨e, 0⟩ : AE)).isSome then (An c.elems 1).bind fun i => some ((((AZ b.2 (⟨e, 0⟩ : AE)).getD (⟨0, 0⟩ : AE)).elem) == i) else some false : Option (Bool))).bind fun (h : Bool) => bif h then some 1 else some 0 else some 0 : Option (Int))).bind fun (g : Int) => AP (JD b a c) (g, 0, a.2.1, a.2.2) else some (.inr (some (⟨j, b.2, f.2, a.2.1, a.2.2⟩ : CX), 0))
noncomputable def JE (b : AO) (d : AO) (c : (Int × (List (AE × AE)))) (a : Int × (List (AE × Int))) : Option ((Int × (List (AE × Int))) ⊕ ((Option CX) × Int)) :=
 bif decide (a.1 < (b.signals.length : Int)) then (An b.signals a.1).bind fun e => some (.inl (Ae (a.1 + 1), A5 e.at_ a.1 a.2)) else (AP (HR b d c a) (0, [], [])).map .inr
noncomputable def JF (e : AO) (f : AO) (c : Int × (List (AE × AE))) : Option ((Int × (List (AE × AE))) ⊕ ((Option CX) × Int)) :=
 bif decide (c.1 < (e.joins.length : Int)) then (An e.joins c.1).bind fun d => some (.inl (Ae (c.1 + 1), A5 d.b d.a (A5 d.a d.b c.2))) else (AP (JE e f c) (0, [])).map .inr
noncomputable def SV (a : AO) : Option ((Option CX) × Int) :=
 (LZ a).bind fun b => bif (b != 0) then some (none, b) else (K1 a).bind fun c => AP (JF a c) (0, [])
noncomputable def Mr (b : AO) (a : Int) : Option (AE × Bool) :=
 ((bif decide (a < 0) then some true else some (decide ((b.signals.length : Int) <= a)) : Option (Bool))).bind fun (c : Bool) => bif c then some ((⟨0, 0⟩ : AE), false) else (An b.signals a).bind fun d => some (d.at_, true)
theorem Zv (a : AO) (b : Int) (r : (AE × Bool)) (h : Mr a b = some r) : Bc Tryz.prog 93 [.agg (Ak a), .int .i64 b] (· = .tup [.agg (A6 r.1), .bool r.2]) := by
 refine fn AA Tryz.func93 Z Z 22 Z [.cell 4 96, .tmp 5] Z [(0, .p (.agg (Ak a))), (1, .p (.int .i64 b))] Z Z fun A hA => ?_
 unfold Mr at h
 refine rs AA <| rl Z <| AC <| jb (fun c : Bool => ⟨22, [(1, li b), (2, .lpb 0 0), (4, .lpb 1 0), (14, lb c)], [(0, bx (Ak a)), (1, .box [li 0, li 0])], 2⟩) h (fun c e => ?_) (fun c i => ?_)
 .refine rg AA <| rn 3 Z <| gs 8 e Z Z Z (fun f => ?_) (fun g => ?_)
  .exact rl Z <| Ad f (wf hA [(0, 0), (1, 1)] Z Z Z)
  exact rn 3 Z <| sx Z (Ay Z Z <| rl Z <| Ad g (wf hA [(0, 0), (1, 1)] Z Z Z))
 refine cd Z i (fun j => ?_) (fun k => ?_)
 .refine rs AA <| rl Z <| AJ <| AN ?_
  cases j
  exact er Z Le.rfl
 refine AG <| AD <| rs AA <| rn 3 Z <| bq k fun m d l => sx Z (Az d Z Z Z <| rl Z <| AJ ?_)
 cases l
 exact er Z Le.rfl
noncomputable def HS (a : AO) (b : Int) : Option Int :=
 (Dk a b).bind fun c => some c
theorem Oq (a : AO) (b : Int) (r : Int) (h : HS a b = some r) : Bc Tryz.prog 91 [.agg (Ak a), .int .i64 b] (· = .int .i64 r) := by
 refine fn AA Tryz.func91 Z Z 8 Z [.tmp 4] Z [(0, .p (.agg (Ak a))), (1, .p (.int .i64 b))] Z Z fun A hA => ?_
 unfold HS at h
 refine rs AA <| rl Z <| rs AA <| rn 2 Z <| bq h fun e c d => sx Z (Ah (Fq _ _ _ c) (.inl Z) Z Z Z <| rl Z <| AJ ?_)
 have hr := Option.some.inj d; subst hr
 exact er Z Le.rfl
noncomputable def E6 (a : AU) (b : A1) (c : Int) (f : Int) (g : Int) : Option AU :=
 (A7 ([] : List A1) a.steps).bind fun i => (A7 i [b]).bind fun j => (A7 ([] : List AM) a.needs).bind fun d => ((bif (c != 0) then (A7 d [(⟨b.elem, c⟩ : AM)]).bind fun h => some h else some d : Option ((List AM)))).bind fun (e : (List AM)) => some (⟨a.frm, g, f, j, e, [], [], [], false⟩ : AU)
theorem K2 (a : AU) (b : A1) (f : Int) (g : Int) (i : Int) (r : AU) (h : E6 a b f g i = some r) : Bc Tryz.prog 151 [.agg (As a), .agg (BH b), .int .i64 f, .int .i64 g, .int .i64 i] (· = .agg (As r)) := by
 refine fn AA Tryz.func151 Z Z 42 Z [.cell 10 36] Z [(0, .p (.agg (As a))), (1, .p (.agg (BH b))), (2, .p (.int .i64 f)), (3, .p (.int .i64 g)), (4, .p (.int .i64 i))] Z Z fun A hA => ?_
 unfold E6 at h
 refine rs AA <| rl Z <| rs AA <| rl Z <| AC <| bq h fun j c x => bq x fun k d y => ?_
 refine T7 AA mixed (.picks [1, 2] (.alt 0 [] (.alt 3 [4, 5, 6, 7, 8] .done (.alt 4 [] (.alt 3 [5, 6, 7, 8] .done (.alt 5 [3, 6, 7, 8] .done .nil)) .nil)) (.alt 4 [0] (.alt 3 [5, 6, 7, 8] .done (.alt 5 [3, 6, 7, 8] .done .nil)) .nil))) 9 ⟨42, [(2, li f), (5, .lpb 0 0), (6, .lpb 1 0), (10, .lpb 2 0), (11, .lpb 3 0)], [(0, bx (As a)), (1, bx (BH b)), (2, .box [li 0, li 0, li 0, .p (.nils), .p (.nils), .p (.nils), .p (.nils), .p (.nils), lb false]), (3, .box [li a.frm, li i, li g, .lsl 4 3 0 k.length, .p (.nils), .p (.nils), .p (.nils), .p (.nils), lb false]), (4, .row 65 3 (k.map BH))], 5⟩ (by kernel_rfl) Z ?_ ?_
 .refine NV <| Au Z <| Ax ?_ ?_
  .refine Au Z <| Ax ?_ ?_
   .exact AV Z (AS Z (AR (enc := BH) (l := ([] : List A1)) (m := a.steps) c (fun _ => ⟨Z, Z⟩) Z Z Z Z Z Z <| Ar 2 Z <| AV Z (AS Z (AR (enc := BH) (l := j) (m := [b]) d (fun _ => ⟨Z, Z⟩) Z Z Z Z Z Z <| Au Z <| BT (wf hA (gi 4 [(4, 10)]) Z Z Z)))))
   refine Ax ?_ ?_
   .refine Au Z <| Ax ?_ ?_
    .exact AV Z (AS Z (AR (enc := BH) (l := ([] : List A1)) (m := a.steps) c (fun _ => ⟨Z, Z⟩) Z Z Z Z Z Z <| Ar 1 Z <| AV Z (AS Z (AR (enc := BH) (l := j) (m := [b]) d (fun _ => ⟨Z, Z⟩) Z Z Z Z Z Z <| Au Z <| BT (wf hA (gi 4 [(4, 10)]) Z Z Z)))))
    refine Ax ?_ ?_
    .exact Ar 1 Z <| AV Z (AS Z (AR (enc := BH) (l := ([] : List A1)) (m := a.steps) c (fun _ => ⟨Z, Z⟩) Z Z Z Z Z Z <| AV Z (AS Z (AR (enc := BH) (l := j) (m := [b]) d (fun _ => ⟨Z, Z⟩) Z Z Z Z Z Z <| Au Z <| BT (wf hA (gi 4 [(4, 10)]) Z Z Z)))))
    exact Bq
   exact Bq
  refine Ax ?_ ?_
  .refine Au Z <| Ax ?_ ?_
   .exact AV Z (AS Z (AR (enc := BH) (l := ([] : List A1)) (m := a.steps) c (fun _ => ⟨Z, Z⟩) Z Z Z Z Z Z <| Ar 1 Z <| AV Z (AS Z (AR (enc := BH) (l := j) (m := [b]) d (fun _ => ⟨Z, Z⟩) Z Z Z Z Z Z <| Au Z <| BT (wf hA (gi 4 [(4, 10)]) Z Z Z)))))
   refine Ax ?_ ?_
   .exact Ar 1 Z <| AV Z (AS Z (AR (enc := BH) (l := ([] : List A1)) (m := a.steps) c (fun _ => ⟨Z, Z⟩) Z Z Z Z Z Z <| AV Z (AS Z (AR (enc := BH) (l := j) (m := [b]) d (fun _ => ⟨Z, Z⟩) Z Z Z Z Z Z <| Au Z <| BT (wf hA (gi 4 [(4, 10)]) Z Z Z)))))
   exact Bq
  exact Bq
 refine AD <| rs AA <| rn 3 Z <| bq y fun z n q => sx Z (AR (enc := AK) (l := ([] : List AM)) (m := a.needs) n (fun _ => ⟨Z, Z⟩) Z Z Z Z Z Z <| rl Z <| jb (fun e : (List AM) => ⟨42, [(10, .lpb 0 0), (11, .lpb 1 0)], [(0, .box [li 0, li 0, li 0, .p (.nils), .p (.nils), .p (.nils), .p (.nils), .p (.nils), lb false]), (1, .box [li a.frm, li i, li g, .lsl 2 3 0 k.length, .lsl 3 2 0 e.length, .p (.nils), .p (.nils), .p (.nils), lb false]), (2, .row 65 3 (k.map BH)), (3, .row 91 2 (e.map AK))], 4⟩) q (fun e s => ?_) (fun e w => ?_))
 .refine rs AA <| rl Z <| cd Z s (fun t => ?_) (fun v => ?_)
  .exact rg AA <| rn 7 Z <| bq t fun aa o u => sx Z (AR (enc := AK) (l := z) (m := [(⟨b.elem, f⟩ : AM)]) o (fun _ => ⟨Z, Z⟩) Z Z Z Z Z Z <| rl Z <| Ad u (wf hA [(0, 2), (1, 3), (2, 4), (3, 8)] Z Z Z))
  exact AG <| Ad v (wf hA [(0, 2), (1, 3), (2, 4), (3, 6)] Z Z Z)
 refine rs AA <| rl Z <| AJ ?_
 cases w
 exact er (Ks Z (.agg (.cons (.p _) (.cons (.p _) (.cons (.p _) (.cons (.own (enc := BH) k Z Z) (.cons (.own (enc := AK) e Z Z) (.cons (.p _) (.cons (.p _) (.cons (.p _) (.cons (.p _) .nil))))))))))) (Le.agg' (.cons Le.rfl (.cons Le.rfl (.cons Le.rfl (.cons Le.rfl (.cons Le.rfl (.cons (Le.nil _) (.cons (Le.nil _) (.cons (Le.nil _) (.cons Le.rfl .nil))))))))))
noncomputable def Ip (c : AO) (d : Int) (a : Int) : Option (List DM) :=
 (Ia c (⟨d, a⟩ : AE)).bind fun e => bif (!e) then some [] else (Dk c d).bind fun b => bif (b == 1) then some [(⟨Ae (1 - a), 0⟩ : DM)] else bif (b == 3) then some [(⟨ZH a 1, 0⟩ : DM)] else bif (b == 2) then bif (a == 0) then some [(⟨1, 1⟩ : DM), (⟨2, 2⟩ : DM)] else some [(⟨0, a⟩ : DM)] else some []
theorem SW (b : AO) (c : Int) (a : Int) (r : (List DM)) (h : Ip b c a = some r) : Bc Tryz.prog 152 [.agg (Ak b), .int .i64 c, .int .i64 a] (· = .slice 2 (r.map NZ)) := by
 refine fn AA Tryz.func152 Z Z 38 Z [.tmp 6] Z [(0, .p (.agg (Ak b))), (1, .p (.int .i64 c)), (2, .p (.int .i64 a))] Z Z fun A hA => ?_
 unfold Ip at h
 refine rs AA <| rl Z <| AC <| rs AA <| rn 4 Z <| bq h fun v e f => sx Z (Ah (P6 _ _ _ e) (.inl Z) Z Z Z <| rl Z <| cd Z f (fun g => ?_) (fun i => ?_))
 .refine rs AA <| rl Z <| AJ <| AN ?_
  cases g
  exact er Z (Le.nil _)
 refine AG <| AD <| AC <| rs AA <| rn 2 Z <| bq i fun u d j => sx Z (Ah (Fq _ _ _ d) (.inl Z) Z Z Z <| rl Z <| AH <| rs AA <| rl Z <| cd Z j (fun k => ?_) (fun l => ?_))
 .refine rs AA <| rl Z <| AJ <| Ao <| AN ?_
  cases k
  exact er (Ks Z (.one (.own (enc := NZ) ([(⟨Ae (1 - a), 0⟩ : DM)] : List DM) Z Z))) Le.rfl
 refine rs AA <| rl Z <| cd Z l (fun m => ?_) (fun n => ?_)
 .refine rs AA <| rl Z <| AJ <| Ao <| AN ?_
  cases m
  exact er (Ks Z (.one (.own (enc := NZ) ([(⟨ZH a 1, 0⟩ : DM)] : List DM) Z Z))) Le.rfl
 refine rs AA <| rl Z <| cd Z n (fun o => ?_) (fun t => ?_)
 .refine AC <| rs AA <| rl Z <| cd Z o (fun q => ?_) (fun s => ?_)
  .refine rs AA <| rl Z <| AJ <| AN <| Ao <| AN ?_
   cases q
   exact er (Ks Z (.one (.own (enc := NZ) ([(⟨1, 1⟩ : DM), (⟨2, 2⟩ : DM)] : List DM) Z Z))) Le.rfl
  refine AG <| AD <| rs AA <| rl Z <| AJ <| Ao <| AN ?_
  cases s
  exact er (Ks Z (.one (.own (enc := NZ) ([(⟨0, a⟩ : DM)] : List DM) Z Z))) Le.rfl
 refine AG <| Av <| AD <| rs AA <| rl Z <| AJ ?_
 cases t
 exact er Z (Le.nil _)
noncomputable def GZ (d : AO) (e : AU) (b : AE) (rc : (AO × AU × AE × (List Int)) -> Option (List AU)) (u : (List Int)) (c : (List DM)) (a : Int × (List AU)) : Option ((Int × (List AU)) ⊕ (List AU)) :=
 bif decide (a.1 < (c.length : Int)) then (((An c a.1).bind fun g => (An c a.1).bind fun f => (E0 d (⟨b.elem, g.out⟩ : AE)).bind fun h => bif decide (0 <= h) then (An c a.1).bind fun k => (E6 e (⟨b.elem, b.fin, f.out⟩ : A1) k.pos 1 h).bind fun l => (A7 a.2 [l]).bind fun m => some m else (Ci d (⟨b.elem, g.out⟩ : AE)).bind fun i => bif (!i.2) then (An c a.1).bind fun n => (E6 e (⟨b.elem, b.fin, f.out⟩ : A1) n.pos 3 (-1)).bind fun o => (A7 a.2 [o]).bind fun p => some p else (An c a.1).bind fun q => (E6 e (⟨b.elem, b.fin, f.out⟩ : A1) q.pos 0 (-1)).bind fun r => (rc (d, r, i.1, u)).bind fun s => (A7 a.2 s).bind fun t => some t : Option ((List AU)))).bind fun (j : (List AU)) => some (.inl (Ae (a.1 + 1), j)) else some (.inr a.2)
noncomputable def GA (rc : (AO × AU × AE × (List Int)) -> Option (List AU)) (b : AO) (c : AU) (a : AE) (d : (List Int)) : Option (List AU) :=
 (((C1 d a.elem).bind fun f => bif f then some true else some ((c.steps.length : Int) == 12) : Option (Bool))).bind fun (e : Bool) => bif e then some [] else (A7 ([] : List Int) d).bind fun g => (A7 g [a.elem]).bind fun h => (HS b a.elem).bind fun i => bif (i == 4) then (E6 c (⟨a.elem, a.fin, (-1)⟩ : A1) 0 2 (-1)).bind fun j => some [j] else (Ip b a.elem a.fin).bind fun k => AP (GZ b c a rc h k) (0, ([] : List AU))
noncomputable def UA (b : AO) (c : AU) (d : AE) (e : (List Int)) : Option (List AU) :=
 Ot (fun (rc : (AO × AU × AE × (List Int)) -> Option (List AU)) (a : (AO × AU × AE × (List Int))) => GA rc a.1 a.2.1 a.2.2.1 a.2.2.2) 1000 (b, c, d, e)
theorem WM (rc : (AO × AU × AE × (List Int)) -> Option (List AU)) (hrec : ∀ (d : AO) (e : AU) (b : AE) (c : (List Int)) (r : (List AU)), rc (d, e, b, c) = some r -> Bc Tryz.prog 105 [.agg (Ak d), .agg (As e), .agg (A6 b), .slice 1 (c.map AI)] (· = .slice 9 (r.map As))) (d : AO) (e : AU) (b : AE) (c : (List Int)) (r : (List AU)) (h : GA rc d e b c = some r) : Bc Tryz.prog 105 [.agg (Ak d), .agg (As e), .agg (A6 b), .slice 1 (c.map AI)] (· = .slice 9 (r.map As)) := by
 refine fn AA Tryz.func105 Z Z 128 Z [.tmp 8] Z [(0, .p (.agg (Ak d))), (1, .p (.agg (As e))), (2, .p (.agg (A6 b))), (3, .p (.slice 1 (c.map AI)))] Z Z fun A hA => ?_
 unfold GA at h
 refine rs AA <| rl Z <| AC <| jb (fun o : Bool => ⟨128, [(3, ls 1 AI c), (4, .lpb 0 0), (5, .lpb 1 0), (6, .lpb 2 0), (26, lb o)], [(0, bx (Ak d)), (1, bx (As e)), (2, .box [li b.elem, li b.fin])], 3⟩) h (fun o ba => ?_) (fun o bf => ?_)
 .refine rg AA <| rn 3 Z <| bq ba fun b9 ah bb => sx Z (Ah (Et _ _ _ ah) (.inl Z) Z Z Z <| rn 1 Z <| gs 21 bb Z Z Z (fun bc => ?_) (fun be => ?_))
  .exact rl Z <| Ad bc (wf hA (gi 3 []) Z Z Z)
  exact rn 2 Z <| sx Z (Ay Z Z <| rl Z <| Ad be (wf hA (gi 3 []) Z Z Z))
 refine cd Z bf (fun bg => ?_) (fun bh => ?_)
 .refine rs AA <| rl Z <| AJ <| AN ?_
  cases bg
  exact er Z (Le.nil _)
 refine AG <| AD <| AC <| bq bh fun j g bi => bq bi fun k i bj => ?_
 refine T7 AA mixed (.picks [1, 3] (.alt 0 [] (.alt 2 [4, 5, 6, 7] .done (.alt 4 [] (.alt 2 [5, 6, 7] .done (.alt 5 [2, 6, 7] .done .nil)) .nil)) (.alt 4 [0] (.alt 2 [5, 6, 7] .done (.alt 5 [2, 6, 7] .done .nil)) .nil))) 8 ⟨128, [(3, .lsl 0 1 0 k.length), (4, .lpb 1 0), (5, .lpb 2 0), (6, .lpb 3 0)], [(0, .row 3 1 (k.map AI)), (1, bx (Ak d)), (2, bx (As e)), (3, .box [li b.elem, li b.fin])], 4⟩ (by kernel_rfl) Z ?_ ?_
 .refine NV <| Au Z <| Ax ?_ ?_
  .refine Au Z <| Ax ?_ ?_
   .exact AV Z (AS Z (AR (enc := AI) (l := ([] : List Int)) (m := c) g (fun _ => ⟨Z, Z⟩) Z Z Z Z Z Z <| Ar 2 Z <| AV Z (AS Z (AR (enc := AI) (l := j) (m := [b.elem]) i (fun _ => ⟨Z, Z⟩) Z Z Z Z Z Z <| Au Z <| BT (wf hA [(0, 9), (1, 0), (2, 1), (3, 2)] Z Z Z)))))
   refine Ax ?_ ?_
   .refine Au Z <| Ax ?_ ?_
    .exact AV Z (AS Z (AR (enc := AI) (l := ([] : List Int)) (m := c) g (fun _ => ⟨Z, Z⟩) Z Z Z Z Z Z <| Ar 1 Z <| AV Z (AS Z (AR (enc := AI) (l := j) (m := [b.elem]) i (fun _ => ⟨Z, Z⟩) Z Z Z Z Z Z <| Au Z <| BT (wf hA [(0, 9), (1, 0), (2, 1), (3, 2)] Z Z Z)))))
    refine Ax ?_ ?_
    .exact Ar 1 Z <| AV Z (AS Z (AR (enc := AI) (l := ([] : List Int)) (m := c) g (fun _ => ⟨Z, Z⟩) Z Z Z Z Z Z <| AV Z (AS Z (AR (enc := AI) (l := j) (m := [b.elem]) i (fun _ => ⟨Z, Z⟩) Z Z Z Z Z Z <| Au Z <| BT (wf hA [(0, 9), (1, 0), (2, 1), (3, 2)] Z Z Z)))))
    exact Bq
   exact Bq
  refine Ax ?_ ?_
  .refine Au Z <| Ax ?_ ?_
   .exact AV Z (AS Z (AR (enc := AI) (l := ([] : List Int)) (m := c) g (fun _ => ⟨Z, Z⟩) Z Z Z Z Z Z <| Ar 1 Z <| AV Z (AS Z (AR (enc := AI) (l := j) (m := [b.elem]) i (fun _ => ⟨Z, Z⟩) Z Z Z Z Z Z <| Au Z <| BT (wf hA [(0, 9), (1, 0), (2, 1), (3, 2)] Z Z Z)))))
   refine Ax ?_ ?_
   .exact Ar 1 Z <| AV Z (AS Z (AR (enc := AI) (l := ([] : List Int)) (m := c) g (fun _ => ⟨Z, Z⟩) Z Z Z Z Z Z <| AV Z (AS Z (AR (enc := AI) (l := j) (m := [b.elem]) i (fun _ => ⟨Z, Z⟩) Z Z Z Z Z Z <| Au Z <| BT (wf hA [(0, 9), (1, 0), (2, 1), (3, 2)] Z Z Z)))))
   exact Bq
  exact Bq
 refine AD <| AC <| rs AA <| rn 3 Z <| bq bj fun ca ai bk => sx Z (Ah (Oq _ _ _ ai) (.inl Z) Z Z Z <| rl Z <| cd Z bk (fun bl => ?_) (fun bn => ?_))
 .refine rs AA <| rn 6 Z <| bq bl fun bt aj bm => sx Z (Ah (K2 _ _ _ _ _ _ aj) (.inr Z) Z Z Z <| rl Z <| AJ <| AN ?_)
  cases bm
  exact er (Ks Z (.one (.own (enc := As) ([bt] : List AU) Z Z))) Le.rfl
 refine AG <| AD <| rs AA <| rl Z <| rs AA <| rn 5 Z <| bq bn fun s ak bo => sx Z (Ah (SW _ _ _ _ ak) (.inr Z) Z Z Z <| rl Z <| AC <| rs AA <| rl Z <| AH ?_)
 apply lp (a := r) (fun f : (Int × (List AU)) => ⟨128, [(3, ls 1 AI k), (4, .lpb 0 0), (5, .lpb 1 0), (6, .lpb 2 0), (9, .lsl 3 9 0 f.2.length), (10, ls 2 NZ s), (11, li f.1)], [(0, bx (Ak d)), (1, bx (As e)), (2, .box [li b.elem, li b.fin]), (3, .row 36 9 (f.2.map As))], 4⟩) bo
 . exact BA.trans (F5 0 (I7 (enc := AI) (l := k) Z) (.cons 3 .hit (.cons 4 (.same _) (.cons 5 (.same _) (.cons 6 (.same _) (.cons 9 (.same _) (.cons 10 (.same _) (.cons 11 (.same _) .nil))))))) (.cons 1 Z Z (.same _) (.cons 2 Z Z (.same _) (.cons 3 Z Z (.same _) .nil)))) (BA.trans (B4 9 36 9 Z) (wf hA [(0, 1), (1, 2), (2, 3), (3, 4)] Z Z Z))
 intro f bv q
 unfold GZ at q
 refine AC <| rs AA <| rn 2 Z <| sx Z (Ay Z Z <| rl Z <| cd Z q (fun al => ?_) (fun a8 => ?_))
 .refine AG <| AD <| jb (fun n : (List AU) => ⟨128, [(3, ls 1 AI k), (4, .lpb 0 0), (5, .lpb 1 0), (6, .lpb 2 0), (9, .lsl 3 9 0 n.length), (10, ls 2 NZ s), (11, li f.1)], [(0, bx (Ak d)), (1, bx (As e)), (2, .box [li b.elem, li b.fin]), (3, .row 36 9 (n.map As))], 4⟩) al (fun n am => ?_) (fun n a7 => ?_)
  .refine AH <| AC ?_
   refine Cy AA mixed [0, 1, 2, 3, 4, 5, 6, 7, 8, 9] 10 (by kernel_rfl) Z Z Z ?_
   refine Ar 4 Z <| bq am fun bw t an => AV Z (Aa Z (Az t Z Z Z <| Au Z <| AD <| AC ?_))
   refine Cy AA mixed [0, 1, 2, 3, 4, 5, 6, 7, 8, 9, 10, 11] 12 (by kernel_rfl) Z Z Z ?_
   refine Ar 6 Z <| bq an fun bz u ao => AV Z (Aa Z (Az u Z Z Z <| Au Z <| AD <| AC <| rs AA <| rn 2 Z <| bq ao fun b0 v ap => sx Z (Ah (K0 _ _ _ v) (.inl Z) Z Z Z <| rl Z <| rs AA <| rl Z <| cd Z ap (fun aq => ?_) (fun aw => ?_))))
   .refine AC ?_
    refine Cy AA mixed [0, 1, 2, 3, 4, 5, 6, 7, 8, 9, 10, 11, 12] 13 (by kernel_rfl) Z Z Z ?_
    exact Ar 5 Z <| bq aq fun b1 w ar => AV Z (Aa Z (Az w Z Z Z <| Ar 3 Z <| bq ar fun bp x au => AV Z (B0 (K2 _ _ _ _ _ _ x) (.inr Z) Z Z Z <| Ar 1 Z <| bq au fun b2 y av => AV Z (AS Z (AR (enc := As) (l := f.2) (m := [bp]) y (fun _ => ⟨Z, Z⟩) Z Z Z Z Z Z <| Au Z <| AD <| Am <| Aq <| A4 <| Ad av (wf hA (gi 3 [(3, 37)]) Z Z Z))))))
   refine AG <| AD <| rs AA <| rn 2 Z <| bq aw fun b3 z ax => sx Z (Ah (Dj _ _ _ z) (.inl Z) Z Z Z <| rl Z <| AC <| rs AA <| rl Z <| cd Z ax (fun ay => ?_) (fun a2 => ?_))
   .refine AC ?_
    refine Cy AA mixed [0, 1, 2, 3, 4, 5, 6, 7, 8, 9, 10, 11] 12 (by kernel_rfl) Z Z Z ?_
    exact Ar 5 Z <| bq ay fun b4 aa az => AV Z (Aa Z (Az aa Z Z Z <| Ar 2 Z <| bq az fun br ab a0 => AV Z (B0 (K2 _ _ _ _ _ _ ab) (.inr Z) Z Z Z <| Ar 1 Z <| bq a0 fun b5 ac a1 => AV Z (AS Z (AR (enc := As) (l := f.2) (m := [br]) ac (fun _ => ⟨Z, Z⟩) Z Z Z Z Z Z <| Au Z <| AD <| Am <| Aq <| A4 <| Ad a1 (wf hA (gi 3 [(3, 37)]) Z Z Z))))))
   refine AG <| AD ?_
   refine Cy AA mixed [0, 1, 2, 3, 4, 5, 6, 7, 8, 9, 10, 11, 12, 13, 14] 15 (by kernel_rfl) Z Z Z ?_
   exact Ar 6 Z <| bq a2 fun b6 ad a3 => AV Z (Aa Z (Az ad Z Z Z <| Ar 2 Z <| bq a3 fun b7 ae a4 => AV Z (B0 (K2 _ _ _ _ _ _ ae) (.inr Z) Z Z Z <| Ar 2 Z <| bq a4 fun bs af a5 => AV Z (B0 (hrec _ _ _ _ _ af) (.inr Z) Z Z Z <| bq a5 fun b8 ag a6 => AV Z (AS Z (AR (enc := As) (l := f.2) (m := bs) ag (fun _ => ⟨Z, Z⟩) Z Z Z Z Z Z <| Au Z <| Av <| Ad a6 (wf hA (gi 3 [(3, 40)]) Z Z Z)))))))
  exact rg AA <| rl Z <| BJ a7 (wf hA (gi 4 []) Z Z Z)
 refine Am <| Aq <| B6 a8 fun bu a9 => A4 <| AD <| rs AA <| rl Z <| AJ ?_
 cases a9
 exact er (Ks Z (.one (.own (enc := As) f.2 Z Z))) Le.rfl
theorem YR (b : AO) (c : AU) (d : AE) (e : (List Int)) (r : (List AU)) (h : UA b c d e = some r) : Bc Tryz.prog 105 [.agg (Ak b), .agg (As c), .agg (A6 d), .slice 1 (e.map AI)] (· = .slice 9 (r.map As)) :=
 recF_holds (F := fun (rc : (AO × AU × AE × (List Int)) -> Option (List AU)) (a : (AO × AU × AE × (List Int))) => GA rc a.1 a.2.1 a.2.2.1 a.2.2.2) (C := fun (a : (AO × AU × AE × (List Int))) (r : (List AU)) => Bc Tryz.prog 105 [.agg (Ak a.1), .agg (As a.2.1), .agg (A6 a.2.2.1), .slice 1 (a.2.2.2.map AI)] (· = .slice 9 (r.map As))) (fun rc hrec a r h => WM rc (fun f g i j r h => hrec (f, g, i, j) r h) a.1 a.2.1 a.2.2.1 a.2.2.2 r h) 1000 (b, c, d, e) r h
noncomputable def La (a : AO) (c : Int) : Option (List AU) :=
 (Mr a c).bind fun b => bif (!b.2) then some [] else (Ci a b.1).bind fun d => bif (!d.2) then some [] else (UA a (⟨c, 0, 0, [], [], [], [], [], false⟩ : AU) d.1 ([b.1.elem] : (List Int))).bind fun e => some e
theorem YS (a : AO) (b : Int) (r : (List AU)) (h : La a b = some r) : Bc Tryz.prog 38 [.agg (Ak a), .int .i64 b] (· = .slice 9 (r.map As)) := by
 refine fn AA Tryz.func38 Z Z 33 Z [.tmp 4] Z [(0, .p (.agg (Ak a))), (1, .p (.int .i64 b))] Z Z fun A hA => ?_
 unfold La at h
 refine rs AA <| rl Z <| rs AA <| rn 2 Z <| bq h fun n e k => sx Z (Ah (Zv _ _ _ e) (.inl Z) Z Z Z <| rl Z <| AC <| rs AA <| rl Z <| cd Z k (fun l => ?_) (fun m => ?_))
 .refine rs AA <| rl Z <| AJ <| AN ?_
  cases l
  exact er Z (Le.nil _)
 refine AG <| AD <| rs AA <| rn 2 Z <| bq m fun o c f => sx Z (Ah (Dj _ _ _ c) (.inl Z) Z Z Z <| rl Z <| AC <| rs AA <| rl Z <| cd Z f (fun g => ?_) (fun i => ?_))
 .refine rs AA <| rl Z <| AJ <| AN ?_
  cases g
  exact er Z (Le.nil _)
 refine AG <| AD <| rs AA <| rn 7 Z <| bq i fun q d j => sx Z (Zn (Bc.le (YR _ _ _ _ _ d) (.cons Le.rfl (.cons (Le.agg' (.cons Le.rfl (.cons Le.rfl (.cons Le.rfl (.cons (Le.nil _) (.cons (Le.nil _) (.cons (Le.nil _) (.cons (Le.nil _) (.cons (Le.nil _) (.cons Le.rfl .nil)))))))))) (.cons Le.rfl (.cons Le.rfl .nil))))) Z Z Z (DX.eq (.cons (.one (.p _)) (.cons (.one (.p _)) (.cons (.one (.p _)) (.cons (.one (.own (enc := AI) ([n.1.elem] : List Int) Z Z)) .nil))))) Z <| rl Z <| AJ ?_)
 have hr := Option.some.inj j; subst hr
 exact er Z Le.rfl
noncomputable def H7 (a : (List A1)) : Option (List A1) :=
 MQ a (some []) ((A7 ([] : List A1) a).bind fun b => some b)
noncomputable def BU (a : (List AM)) : Option (List AM) :=
 MQ a (some []) ((A7 ([] : List AM) a).bind fun b => some b)
theorem H8 (a : (List AM)) (r : (List AM)) (h : BU a = some r) : Bc Tryz.prog 46 [.slice 2 (a.map AK)] (· = .slice 2 (r.map AK)) := by
 refine fn AA Tryz.func46 Z Z 8 Z [.tmp 2] Z [(0, .p (.slice 2 (a.map AK)))] Z Z fun A hA => ?_
 unfold BU at h
 refine rs AA <| rl Z <| AC <| rs AA <| rn 1 Z <| sx Z (Qn h Z Z Z (fun d => ?_) (fun e => ?_))
 .refine rl Z <| SK Z <| rs AA <| rl Z <| AJ <| AN ?_
  cases d
  exact er Z (Le.nil _)
 refine rl Z <| Qi Z <| AG <| AD <| rs AA <| rn 2 Z <| bq e fun f b c => sx Z (AR (enc := AK) (l := ([] : List AM)) (m := a) b (fun _ => ⟨Z, Z⟩) Z Z Z Z Z Z <| rl Z <| AJ ?_)
 have hr := Option.some.inj c; subst hr
 exact er (Ks Z (.one (.own (enc := AK) f Z Z))) Le.rfl
theorem Lm (a : (List AM)) (r : (List AM)) (h : BU a = some r) : FV Tryz.prog 46 [.slice 2 (a.map AK)] 91 2 (r.map AK) := by
 refine VP (enc := AK) (fun _ => ⟨Z, Z⟩) Tryz.func46 Z Z 8 Z 2 Z [(0, .p (.slice 2 (a.map AK)))] Z Z fun A hA => ?_
 unfold BU at h
 refine rs AA <| rl Z <| AC <| rs AA <| rn 1 Z <| sx Z (Qn h Z Z Z (fun d => ?_) (fun e => ?_))
 .refine rl Z <| SK Z <| rs AA <| rl Z <| AJ <| AN ?_
  cases d
  exact AAV Z
 refine rl Z <| Qi Z <| AG <| AD <| rs AA <| rn 2 Z <| bq e fun f b c => sx Z (AR (enc := AK) (l := ([] : List AM)) (m := a) b (fun _ => ⟨Z, Z⟩) Z Z Z Z Z Z <| rl Z <| AJ ?_)
 have hr := Option.some.inj c; subst hr
 exact VQ Z Z Z
noncomputable def Jo (a : CX) : Option AO :=
 (K1 a.p).bind fun b => some b
noncomputable def Jp (b : CX) (a : Int) : Option By :=
 ((bif decide (a < 0) then some true else some (decide ((b.p.elems.length : Int) <= a)) : Option (Bool))).bind fun (c : Bool) => bif c then some (⟨ByteArray.empty, 0, 0⟩ : By) else (An b.p.elems a).bind fun d => some d
noncomputable def EY (a : CX) (b : Int) : Option Int :=
 (Jp a b).bind fun c => some c.kind
end Go.E
/- Plain functions, and walks in step with them. Written by a program (gen.py). No condition. -/
set_option maxRecDepth 100000
set_option maxHeartbeats 1000000
namespace Go.E
open Go Go.RowKit Go.Proofs
noncomputable def C3 (a : CX) (b : AE) : Option (AE × Bool) :=
 some (((AZ a.next b).getD (⟨0, 0⟩ : AE)), (AZ a.next b).isSome)
noncomputable def Gw (g : CX) (e : (Int × (List AE))) (c : A1) (b : (List Int)) (a : Int × (List AE)) : Option ((Int × (List AE)) ⊕ ((Int × (List AE)) ⊕ (List AE))) :=
 bif decide (a.1 < (b.length : Int)) then (((An b a.1).bind fun d => (C3 g (⟨c.elem, d⟩ : AE)).bind fun h => bif h.2 then (A7 a.2 [(⟨c.elem, d⟩ : AE)]).bind fun i => some i else some a.2 : Option ((List AE)))).bind fun (f : (List AE)) => some (.inl (Ae (a.1 + 1), f)) else some (.inr (.inl (Ae (e.1 + 1), a.2)))
noncomputable def JG (c : CX) (d : AU) (b : Int × (List AE)) : Option ((Int × (List AE)) ⊕ (List AE)) :=
 bif decide (b.1 < (d.steps.length : Int)) then (An d.steps b.1).bind fun a => (((EY c a.elem).bind fun e => bif (e == 2) then some [Ae (3 - (if a.out > a.in_ then a.out else a.in_))] else bif (e == 3) then bif decide (1 < a.in_) then some [0, 1] else some [2, 3] else some ([] : List Int) : Option ((List Int)))).bind fun (f : (List Int)) => AP (Gw c b a f) (0, b.2) else some (.inr b.2)
noncomputable def Lb (a : CX) (b : AU) : Option (List AE) :=
 AP (JG a b) (0, ([] : List AE))
noncomputable def Ou (a : A1) (b : Int) : Option Bool :=
 some (a.elem == b)
noncomputable def IQ (b : AU) (c : Int) (a : Int) : Option (Int ⊕ Int) :=
 bif decide (a < (b.steps.length : Int)) then (An b.steps a).bind fun d => (Ou d c).bind fun e => bif e then some (.inr a) else some (.inl (Ae (a + 1))) else some (.inr (-1))
noncomputable def Na (c : AU) (d : Int) : Option Bool :=
 ((((AP (IQ c d) 0 : Option (Int))).bind fun (b : Int) => some (decide (0 <= b)) : Option (Bool))).bind fun (a : Bool) => some a
noncomputable def JH (a : CX) (b : AE) : Option Int :=
 bif (AZ a.reads b).isSome then some ((AZ a.reads b).getD 0) else some (-1)
noncomputable def CK (b : (List Int)) (c : Int) (a : Int) : Option (Int ⊕ Int) :=
 bif decide (a < (b.length : Int)) then (An b a).bind fun d => bif (c == d) then some (.inr a) else some (.inl (Ae (a + 1))) else some (.inr (-1))
noncomputable def Cs (a : (List Int)) (b : Int) : Option Int :=
 AP (CK a b) 0
theorem KQ (b : (List Int)) (c : Int) (r : Int) (h : Cs b c = some r) : Bc Tryz.prog 118 [.slice 1 (b.map AI), .int .i64 c] (· = .int .i64 r) := by
 refine fn AA Tryz.func118 Z Z 19 Z [.tmp 4] Z [(0, .p (.slice 1 (b.map AI))), (1, .p (.int .i64 c))] Z Z fun A hA => ?_
 unfold Cs at h
 refine rs AA <| rl Z <| AC <| rs AA <| rn 1 Z <| sx Z (Ay Z Z <| rl Z <| AH ?_)
 apply lp (a := r) (fun e : Int => ⟨19, [(0, ls 1 AI b), (1, li c), (7, li (b.length : Int)), (8, li e)], [], 0⟩) h
 . exact wf hA [] Z Z Z
 intro e s d
 unfold CK at d
 refine rs AA <| rl Z <| AC <| cd Z d (fun n => ?_) (fun l => ?_)
 .refine AG <| AD <| AC <| AH <| rs AA <| rl Z <| rs AA <| rn 3 Z <| bq n fun t f g => sx Z (Az f Z Z Z <| rl Z <| cd Z g (fun i => ?_) (fun k => ?_))
  .refine rs AA <| rl Z <| AJ <| Ao <| AN <| Bp i fun o j => Ao <| AN ?_
   have hr := Option.some.inj j; subst hr
   exact er Z Le.rfl
  exact AG <| Av <| AD <| rg AA <| rl Z <| BJ k (wf hA [] Z Z Z)
 refine Am <| Aq <| B6 l fun q m => A4 <| AD <| rs AA <| rl Z <| AJ ?_
 cases m
 exact er Z Le.rfl
noncomputable def Bi (a : (List Int)) (b : Int) : Option Bool :=
 (Cs a b).bind fun c => some (decide (0 <= c))
theorem Iq (a : (List Int)) (b : Int) (r : Bool) (h : Bi a b = some r) : Bc Tryz.prog 53 [.slice 1 (a.map AI), .int .i64 b] (· = .bool r) := by
 refine fn AA Tryz.func53 Z Z 9 Z [.tmp 4] Z [(0, .p (.slice 1 (a.map AI))), (1, .p (.int .i64 b))] Z Z fun A hA => ?_
 unfold Bi at h
 refine rs AA <| rl Z <| rs AA <| rn 2 Z <| bq h fun e c d => sx Z (Ah (KQ _ _ _ c) (.inl Z) Z Z Z <| rl Z <| AJ ?_)
 cases d
 exact er Z Le.rfl
noncomputable def DR (b : (List AM)) (c : AM) (a : Int) : Option (Int ⊕ Int) :=
 bif decide (a < (b.length : Int)) then (An b a).bind fun d => bif (c == d) then some (.inr a) else some (.inl (Ae (a + 1))) else some (.inr (-1))
noncomputable def H9 (a : (List AM)) (b : AM) : Option Int :=
 AP (DR a b) 0
noncomputable def Cm (a : (List AM)) (b : AM) : Option Bool :=
 (H9 a b).bind fun c => some (decide (0 <= c))
noncomputable def Jq (c : CX) (d : Int) (a : Int) : Option (List DM) :=
 ((bif decide (a < 0) then some true else (EY c d).bind fun f => (J4 f).bind fun g => some (decide (g <= a)) : Option (Bool))).bind fun (e : Bool) => bif e then some [] else (EY c d).bind fun b => bif (b == 1) then some [(⟨Ae (1 - a), 0⟩ : DM)] else bif (b == 3) then (An ([1, 0, 3, 2] : List Int) a).bind fun h => some [(⟨h, 0⟩ : DM)] else bif (b == 2) then bif (a == 0) then some [(⟨1, 1⟩ : DM), (⟨2, 2⟩ : DM)] else (An ([0, 1, 2] : List Int) a).bind fun i => some [(⟨0, i⟩ : DM)] else some []
noncomputable def GB (e : Int) (c : (List DM)) (a : Int) : Option (Int ⊕ (Int × Bool)) :=
 bif decide (a < (c.length : Int)) then (An c a).bind fun b => ((bif (b.pos == 0) then some true else some (b.pos == e) : Option (Bool))).bind fun (d : Bool) => bif d then some (.inr (b.out, true)) else some (.inl (Ae (a + 1))) else some (.inr (0, false))
noncomputable def Ho (a : CX) (b : Int) (c : Int) (d : Int) : Option (Int × Bool) :=
 (Jq a b c).bind fun e => AP (GB d e) 0
noncomputable def Ms (b : CX) (c : Int) (d : Int) (e : Int) : Option (Int × Bool) :=
 (Ho b c d e).bind fun a => some (a.1, a.2)
noncomputable def CG (d : CX) (e : AU) (r : (List A1)) (l : (List AM)) (am : AO) (a : Bool × (List (AE × Bool)) × (List AM) × (List Int) × (List Int) × (List AE)) : Option ((Bool × (List (AE × Bool)) × (List AM) × (List Int) × (List Int) × (List AE)) ⊕ AU) :=
 bif decide (0 < (a.2.2.2.2.2.length : Int)) then (An a.2.2.2.2.2 (Ae ((a.2.2.2.2.2.length : Int) - 1))).bind fun b => (Hx a.2.2.2.2.2 0 (Ae ((a.2.2.2.2.2.length : Int) - 1))).bind fun c => (((Na (⟨e.frm, e.to, e.fin, r, l, a.2.2.1, a.2.2.2.1, a.2.2.2.2.1, a.1⟩ : AU) b.elem).bind fun an => bif an then some true else some ((AZ a.2.1 b).getD false) : Option (Bool))).bind fun (y : Bool) => bif y then some (.inl (a.1, a.2.1, a.2.2.1, a.2.2.2.1, a.2.2.2.2.1, c)) else (JH d b).bind fun m => ((bif decide (0 <= m) then some (!am.hard) else some false : Option (Bool))).bind fun (z : Bool) => bif z then (((Bi a.2.2.2.2.1 m).bind fun ao => bif (!ao) then (A7 a.2.2.2.2.1 [m]).bind fun ap => some ap else some a.2.2.2.2.1 : Option ((List Int)))).bind fun (aa : (List Int)) => some (.inl (a.1, A5 b true a.2.1, a.2.2.1, a.2.2.2.1, aa, c)) else (EY d b.elem).bind fun s => bif (s == 4) then some (.inl (true, A5 b true a.2.1, a.2.2.1, a.2.2.2.1, a.2.2.2.2.1, c)) else bif (s == 2) then bif (b.fin == 0) then (((((Bi a.2.2.2.1 b.elem).bind fun aq => bif aq then some (true, a.1, a.2.2.2.1) else bif decide (12 <= (a.2.2.2.1.length : Int)) then some (false, true, a.2.2.2.1) else (A7 a.2.2.2.1 [b.elem]).bind fun ar => some (true, a.1, ar) : Option (Bool × Bool × (List Int)))).bind fun (h : Bool × Bool × (List Int)) => bif h.1 then (((C3 d (⟨b.elem, 2⟩ : AE)).bind fun t => bif t.2 then (A7 c [t.1]).bind fun au => some au else some c : Option ((List AE)))).bind fun (n : (List AE)) => (((C3 d (⟨b.elem, 1⟩ : AE)).bind fun u => bif u.2 then (A7 n [u.1]).bind fun av => some av else some n : Option ((List AE)))).bind fun (ab : (List AE)) => some (h.2.1, h.2.2, ab) else some (h.2.1, h.2.2, c) : Option (Bool × (List Int) × (List AE)))).bind fun (k : Bool × (List Int) × (List AE)) => some (.inl (k.1, A5 b true a.2.1, a.2.2.1, k.2.1, a.2.2.2.2.1, k.2.2)) else (((Cm l (⟨b.elem, b.fin⟩ : AM)).bind fun ac => bif ac then some true else (Cm a.2.2.1 (⟨b.elem, b.fin⟩ : AM)).bind fun ad => some ad : Option (Bool))).bind fun (v : Bool) => bif v then (((((Bi a.2.2.2.1 b.elem).bind fun ae => bif ae then some (true, a.1, a.2.2.2.1) else bif decide (12 <= (a.2.2.2.1.length : Int)) then some (false, true, a.2.2.2.1) else (A7 a.2.2.2.1 [b.elem]).bind fun af => some (true, a.1, af) : Option (Bool × Bool × (List Int)))).bind fun (f : Bool × Bool × (List Int)) => bif f.1 then (((C3 d (⟨b.elem, 0⟩ : AE)).bind fun o => bif o.2 then (A7 c [o.1]).bind fun ag => some ag else some c : Option ((List AE)))).bind fun (w : (List AE)) => some (f.2.1, f.2.2, w) else some (f.2.1, f.2.2, c) : Option (Bool × (List Int) × (List AE)))).bind fun (i : Bool × (List Int) × (List AE)) => some (.inl (i.1, A5 b true a.2.1, a.2.2.1, i.2.1, a.2.2.2.2.1, i.2.2)) else (Cm a.2.2.1 (⟨b.elem, Ae (3 - b.fin)⟩ : AM)).bind fun ah => bif (!ah) then (A7 a.2.2.1 [(⟨b.elem, Ae (3 - b.fin)⟩ : AM)]).bind fun ai => some (.inl (a.1, A5 b true a.2.1, ai, a.2.2.2.1, a.2.2.2.2.1, c)) else some (.inl (a.1, A5 b true a.2.1, a.2.2.1, a.2.2.2.1, a.2.2.2.2.1, c)) else (Ms d b.elem b.fin 0).bind fun p => ((bif p.2 then (((Bi a.2.2.2.1 b.elem).bind fun aj => bif aj then some (true, a.1, a.2.2.2.1) else bif decide (12 <= (a.2.2.2.1.length : Int)) then some (false, true, a.2.2.2.1) else (A7 a.2.2.2.1 [b.elem]).bind fun ak => some (true, a.1, ak) : Option (Bool × Bool × (List Int)))).bind fun (j : Bool × Bool × (List Int)) => some (j.1, j.2.1, j.2.2) else some (false, a.1, a.2.2.2.1) : Option (Bool × Bool × (List Int)))).bind fun (g : Bool × Bool × (List Int)) => bif g.1 then (((C3 d (⟨b.elem, p.1⟩ : AE)).bind fun q => bif q.2 then (A7 c [q.1]).bind fun al => some al else some c : Option ((List AE)))).bind fun (x : (List AE)) => some (.inl (g.2.1, A5 b true a.2.1, a.2.2.1, g.2.2, a.2.2.2.2.1, x)) else some (.inl (g.2.1, A5 b true a.2.1, a.2.2.1, g.2.2, a.2.2.2.2.1, c)) else some (.inr (⟨e.frm, e.to, e.fin, r, l, a.2.2.1, a.2.2.2.1, a.2.2.2.2.1, a.1⟩ : AU))
noncomputable def Ga (b : CX) (c : AU) (i : (List A1)) (j : (List AM)) (d : AO) (e : (List AE)) (a : Int × (List AE)) : Option ((Int × (List AE)) ⊕ AU) :=
 bif decide (0 <= a.1) then (An e a.1).bind fun f => (C3 b f).bind fun g => (A7 a.2 [g.1]).bind fun h => some (.inl (Ae (a.1 - 1), h)) else (AP (CG b c i j d) (false, [], ([] : List AM), ([] : List Int), ([] : List Int), a.2)).map .inr
noncomputable def Hi (b : CX) (a : AU) : Option AU :=
 (H7 a.steps).bind fun d => (BU a.needs).bind fun e => (Jo b).bind fun f => (Lb b (⟨a.frm, a.to, a.fin, d, e, [], [], [], false⟩ : AU)).bind fun c => AP (Ga b a d e f c) (Ae ((c.length : Int) - 1), ([] : List AE))
noncomputable def Ib (b : (List Int)) (c : (List Int)) (a : Int) : Option (Int ⊕ Bool) :=
 bif decide (a < (b.length : Int)) then (An b a).bind fun d => (An c a).bind fun e => bif (d != e) then some (.inr false) else some (.inl (Ae (a + 1))) else some (.inr true)
noncomputable def Di (a : (List Int)) (b : (List Int)) : Option Bool :=
 bif ((a.length : Int) != (b.length : Int)) then some false else AP (Ib a b) 0
theorem Kj (b : (List Int)) (c : (List Int)) (r : Bool) (h : Di b c = some r) : Bc Tryz.prog 39 [.slice 1 (b.map AI), .slice 1 (c.map AI)] (· = .bool r) := by
 refine fn AA Tryz.func39 Z Z 26 Z [.tmp 4] Z [(0, .p (.slice 1 (b.map AI))), (1, .p (.slice 1 (c.map AI)))] Z Z fun A hA => ?_
 unfold Di at h
 refine rs AA <| rl Z <| AC <| rs AA <| rn 1 Z <| sx Z (Ay Z Z <| rn 1 Z <| sx Z (Ay Z Z <| rl Z <| cd Z h (fun s => ?_) (fun t => ?_)))
 .refine rs AA <| rl Z <| AJ <| AN ?_
  cases s
  exact er Z Le.rfl
 refine AG <| AD <| AC <| rs AA <| rl Z <| AH ?_
 apply lp (a := r) (fun e : Int => ⟨26, [(0, ls 1 AI b), (1, ls 1 AI c), (5, li e)], [], 0⟩) t
 . exact wf hA [] Z Z Z
 intro e w d
 unfold Ib at d
 refine AC <| rs AA <| rn 2 Z <| sx Z (Ay Z Z <| rl Z <| cd Z d (fun i => ?_) (fun o => ?_))
 .refine AG <| AD <| AC <| AH <| AC ?_
  refine Cy AA mixed [0, 1, 2, 3, 4, 5, 6, 7, 8] 9 (by kernel_rfl) Z Z Z ?_
  refine Ar 2 Z <| bq i fun x f j => AV Z (Aa Z (Az f Z Z Z <| Ar 3 Z <| bq j fun y g k => AV Z (Aa Z (Az g Z Z Z <| Au Z <| AD <| cd Z k (fun l => ?_) (fun n => ?_)))))
  .refine rs AA <| rl Z <| AJ <| Ao <| AN <| Bp l fun u m => Ao <| AN ?_
   cases m
   exact er Z Le.rfl
  exact AG <| Av <| AD <| rg AA <| rl Z <| BJ n (wf hA [] Z Z Z)
 refine Am <| Aq <| B6 o fun v q => A4 <| AD <| rs AA <| rl Z <| AJ ?_
 cases q
 exact er Z Le.rfl
noncomputable def Fg (b : AO) (a : Int × (List AU)) : Option ((Int × (List AU)) ⊕ ((List AU) × Int)) :=
 bif decide (a.1 < (b.signals.length : Int)) then (La b a.1).bind fun d => (A7 a.2 d).bind fun c => bif decide (64 < (c.length : Int)) then some (.inr (([] : List AU), 3)) else some (.inl (Ae (a.1 + 1), c)) else some (.inr (a.2, 0))
noncomputable def KR (a : AO) : Option ((List AU) × Int) :=
 AP (Fg a) (0, ([] : List AU))
theorem XK (c : AO) (r : ((List AU) × Int)) (h : KR c = some r) : FF Tryz.prog 44 [] 0 [.p (.agg (Ak c))] (.tup [.lsl 0 9 0 r.1.length, li r.2]) [(0, .row 36 9 (r.1.map As))] 1 := by
 refine Ph AA Tryz.func44 22 [.tmp 2, .tmp 3] [(0, .p (.agg (Ak c)))] Z Z Z Z Z Z (fun A hA => ?_)
 unfold KR at h
 refine rs AA <| rl Z <| rs AA <| rl Z <| AC <| rs AA <| rl Z <| AH ?_
 apply lp (a := r) (fun b : (Int × (List AU)) => ⟨22, [(1, .lpb 0 0), (4, .lsl 1 9 0 b.2.length), (5, li b.1)], [(0, bx (Ak c)), (1, .row 36 9 (b.2.map As))], 2⟩) h
 . exact BA.trans (B4 4 36 9 Z) (wj hA [(0, 0), (1, 1)] Z Z Z Z)
 intro b w d
 unfold Fg at d
 refine AC <| rs AA <| rn 3 Z <| sx Z (Ay Z Z <| rl Z <| cd Z d (fun g => ?_) (fun q => ?_))
 .refine AG <| AD <| AC <| AH <| rs AA <| rn 3 Z <| bq g fun t e i => sx Z (Ah (YS _ _ _ e) (.inr Z) Z Z Z <| bq i fun x f j => sx Z (AR (enc := As) (l := b.2) (m := t) f (fun _ => ⟨Z, Z⟩) Z Z Z Z Z Z <| rl Z <| rs AA <| rl Z <| cd Z j (fun k => ?_) (fun o => ?_)))
  .refine rs AA <| rl Z <| AJ <| Ao <| AN <| Bp k fun u n => Ao <| AN ?_
   cases n
   exact DI (nt := 22) (sl := [(2, .lsl 0 9 0 ([] : List AU).length), (3, li 3)]) (BA.trans (B4 2 36 9 Z) (wj hA [(0, 3)] Z Z Z Z)) Z
  exact AG <| Av <| AD <| rg AA <| rl Z <| BJ o (wj hA [(0, 0), (1, 2)] Z Z Z Z)
 refine Am <| Aq <| B6 q fun v s => A4 <| AD <| rs AA <| rl Z <| AJ ?_
 cases s
 exact DI (nt := 22) (sl := [(2, .lsl 0 9 0 b.2.length), (3, li 0)]) (wj hA [(0, 1)] Z Z Z Z) Z
noncomputable def Fh (e : AO) (c : (Int × (List AE))) (b : (List AE)) (a : Int × (List AE)) : Option ((Int × (List AE)) ⊕ ((Int × (List AE)) ⊕ (List AE))) :=
 bif decide (a.1 < (b.length : Int)) then (((An b a.1).bind fun f => (Ci e f).bind fun g => bif g.2 then (An b a.1).bind fun h => (A7 a.2 [h]).bind fun i => some i else some a.2 : Option ((List AE)))).bind fun (d : (List AE)) => some (.inl (Ae (a.1 + 1), d)) else some (.inr (.inl (Ae (c.1 + 1), a.2)))
noncomputable def Hj (d : AO) (e : AU) (b : Int × (List AE)) : Option ((Int × (List AE)) ⊕ (List AE)) :=
 bif decide (b.1 < (e.steps.length : Int)) then (An e.steps b.1).bind fun a => (((HS d a.elem).bind fun f => bif (f == 2) then (A7 ([] : List AE) [(⟨a.elem, Ae (3 - (if a.out > a.in_ then a.out else a.in_))⟩ : AE)]).bind fun h => some h else bif (f == 3) then ((bif decide (2 <= a.in_) then some 0 else some 2 : Option (Int))).bind fun (c : Int) => (A7 ([] : List AE) [(⟨a.elem, c⟩ : AE), (⟨a.elem, Ae (c + 1)⟩ : AE)]).bind fun i => some i else some ([] : List AE) : Option ((List AE)))).bind fun (g : (List AE)) => AP (Fh d b g) (0, b.2) else some (.inr b.2)
noncomputable def IA (a : AO) (b : AU) : Option (List AE) :=
 AP (Hj a b) (0, ([] : List AE))
theorem Uz (d : AO) (f : AU) (r : (List AE)) (h : IA d f = some r) : Bc Tryz.prog 142 [.agg (Ak d), .agg (As f)] (· = .slice 2 (r.map A6)) := by
 refine fn AA Tryz.func142 Z Z 84 Z [.tmp 4] Z [(0, .p (.agg (Ak d))), (1, .p (.agg (As f)))] Z Z fun A hA => ?_
 unfold IA at h
 refine rs AA <| rl Z <| rs AA <| rl Z <| AC <| rs AA <| rl Z <| AH ?_
 apply lp (a := r) (fun b : (Int × (List AE)) => ⟨84, [(2, .lpb 0 0), (3, .lpb 1 0), (5, .lsl 2 2 0 b.2.length), (6, li b.1)], [(0, bx (Ak d)), (1, bx (As f)), (2, .row 96 2 (b.2.map A6))], 3⟩) h
 . exact BA.trans (B4 5 96 2 Z) (wf hA (gi 3 []) Z Z Z)
 intro b t q
 unfold Hj at q
 refine AC <| rs AA <| rn 3 Z <| sx Z (Ay Z Z <| rl Z <| cd Z q (fun aa => ?_) (fun a2 => ?_))
 .refine AG <| AD <| AC <| AH <| rs AA <| rn 3 Z <| bq aa fun g u ab => sx Z (Az u Z Z Z <| rl Z <| rs AA <| rl Z <| jb (fun c : (List AE) => ⟨84, [(2, .lpb 0 0), (3, .lpb 1 0), (5, .lsl 2 2 0 b.2.length), (6, li b.1), (8, .lsl 3 2 0 c.length)], [(0, bx (Ak d)), (1, bx (As f)), (2, .row 96 2 (b.2.map A6)), (3, .row 96 2 (c.map A6))], 4⟩) ab (fun c ac => ?_) (fun c ao => ?_))
  .refine rs AA <| rn 3 Z <| bq ac fun a8 v ad => sx Z (Ah (Oq _ _ _ v) (.inl Z) Z Z Z <| rl Z <| AH <| rs AA <| rl Z <| cd Z ad (fun ae => ?_) (fun ag => ?_))
   .exact rg AA <| rn 11 Z <| bq ae fun a9 w af => sx Z (W8 (e := 96) (sz := 2) (enc := A6) (m := [(⟨g.elem, Ae (3 - (if g.out > g.in_ then g.out else g.in_))⟩ : AE)]) w (fun _ => ⟨Z, Z⟩) Z Z Z <| rl Z <| Av <| Ad af (wf hA (gi 3 [(3, 5)]) Z Z Z))
   refine rs AA <| rl Z <| cd Z ag (fun ah => ?_) (fun an => ?_)
   .refine rs AA <| rl Z <| jb (fun j : Int => ⟨84, [(2, .lpb 0 0), (3, .lpb 1 0), (5, .lsl 2 2 0 b.2.length), (6, li b.1), (7, .lpb 3 0), (8, .p (.nils)), (9, li j)], [(0, bx (Ak d)), (1, bx (As f)), (2, .row 96 2 (b.2.map A6)), (3, bx (BH g))], 4⟩) ah (fun j ai => ?_) (fun j al => ?_)
    .refine rs AA <| rl Z <| cd Z ai (fun aj => ?_) (fun ak => ?_)
     .exact rg AA <| rl Z <| Ad aj (wf hA (gi 4 []) Z Z Z)
     exact AG <| Ad ak (wf hA (gi 4 []) Z Z Z)
    exact rg AA <| rn 11 Z <| bq al fun ba x am => sx Z (W8 (e := 96) (sz := 2) (enc := A6) (m := [(⟨g.elem, j⟩ : AE), (⟨g.elem, Ae (j + 1)⟩ : AE)]) x (fun _ => ⟨Z, Z⟩) Z Z Z <| rl Z <| Av <| Ad am (wf hA (gi 3 [(3, 5)]) Z Z Z))
   exact AG <| Av <| Ad an (BA.trans (B4 8 96 2 Z) (wf hA (gi 3 [(3, 4)]) Z Z Z))
  refine rs AA <| rl Z <| AH ?_
  apply lp (a := t) (fun i : (Int × (List AE)) => ⟨84, [(2, .lpb 0 0), (3, .lpb 1 0), (5, .lsl 2 2 0 i.2.length), (6, li b.1), (8, .lsl 3 2 0 c.length), (10, li i.1)], [(0, bx (Ak d)), (1, bx (As f)), (2, .row 96 2 (i.2.map A6)), (3, .row 96 2 (c.map A6))], 4⟩) ao
  . exact wf hA (gi 4 []) Z Z Z
  intro i a7 s
  unfold Fh at s
  refine AC <| rs AA <| rl Z <| cd Z s (fun ap => ?_) (fun a0 => ?_)
  .refine AG <| AD <| jb (fun k : (List AE) => ⟨84, [(2, .lpb 0 0), (3, .lpb 1 0), (5, .lsl 2 2 0 k.length), (6, li b.1), (8, .lsl 3 2 0 c.length), (10, li i.1)], [(0, bx (Ak d)), (1, bx (As f)), (2, .row 96 2 (k.map A6)), (3, .row 96 2 (c.map A6))], 4⟩) ap (fun k aq => ?_) (fun k az => ?_)
   .refine AH <| AC ?_
    refine Cy AA mixed [0, 1, 2, 3, 4, 5, 6, 7, 8, 9, 10, 11] 12 (by kernel_rfl) Z Z Z ?_
    refine Ar 3 Z <| bq aq fun bb n ar => AV Z (Aa Z (CE n Z Z Z Z <| AV Z (Ew Z (Ch n Z Z Z <| bq ar fun bc y au => AV Z (B0 (Dj _ _ _ y) (.inl Z) Z Z Z <| Au Z <| AD <| rs AA <| rl Z <| cd Z au (fun av => ?_) (fun ay => ?_))))))
    .exact rg AA <| rn 3 Z <| bq av fun a4 o aw => sx Z (CE o Z Z Z Z <| sx Z (Ch o Z Z Z <| rn 1 Z <| bq aw fun be z ax => sx Z (AR (enc := A6) (l := i.2) (m := [a4]) z (fun _ => ⟨Z, Z⟩) Z Z Z Z Z Z <| rl Z <| Av <| Ad ax (wf hA [(0, 0), (1, 1), (2, 17), (3, 3)] Z Z Z))))
    exact AG <| Av <| Ad ay (wf hA (gi 4 []) Z Z Z)
   exact rg AA <| rl Z <| BJ az (wf hA (gi 4 []) Z Z Z)
  exact Am <| Aq <| B6 a0 fun a5 a1 => A4 <| Av <| AD <| rg AA <| rl Z <| BJ a1 (wf hA (gi 3 []) Z Z Z)
 refine Am <| Aq <| B6 a2 fun a6 a3 => A4 <| AD <| rs AA <| rl Z <| AJ ?_
 cases a3
 exact er (Ks Z (.one (.own (enc := A6) b.2 Z Z))) Le.rfl
end Go.E
