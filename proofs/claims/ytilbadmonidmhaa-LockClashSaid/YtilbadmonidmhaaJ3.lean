/- slices.Delete as a call out of a data state: the row goes on under a new name. For an own slice, i up to j up to its length. -/
import Derived.Test.YtilbadmonidmhaaDel
import Derived.Shelf.Sort.Plain
import Derived.Shelf.Slices.In.SortNone
import Derived.Shelf.Slices.CompactI
import Derived.Lib.RowBridge
import Derived.ScopeJumps
import Derived.Test.YtilbadmonidmhaaJ2
set_option linter.unusedVariables false
set_option linter.unusedSimpArgs false
namespace Go.E
open Go Go.RowKit Go.Shelf Go.Proofs
theorem FJ (b : Nat) : ∀ (vs : List Value) (o : Nat) (w : World) (c : Array Value) (e : TypeId), w.heap[b]? = some (.cells c e (0, 0)) -> o + vs.length <= c.size ->
  ∃ c', (w.setCells b o vs).heap[b]? = some (.cells c' e (0, 0)) /\ c'.size = c.size /\ ∀ t, c'[t]? = if o <= t /\ t < o + vs.length then vs[t - o]? else c[t]?
 | [], o, w, c, e, h, _ => ⟨c, h, rfl, fun t => by rw [if_neg (by simp)]⟩
 | v :: r, o, w, c, e, h, hl => by
  simp only [List.length_cons] at hl
  have hb : (w.setCell ⟨b, o, none⟩ v).heap[b]? = some (.cells (c.setIfInBounds o v) e (0, 0)) := by
   simp [World.setCell, Array.getElem?_modify, h]
  obtain ⟨c', h1, h2, h3⟩ := FJ b r (o + 1) _ _ e hb (by simp; omega)
  refine ⟨c', h1, by rw [h2]; simp, fun t => ?_⟩
  rw [h3 t]
  simp only [List.length_cons]
  by_cases h4 : t = o
  .subst h4
   rw [if_neg (by omega), if_pos (by omega), Array.getElem?_setIfInBounds, if_pos rfl, if_pos (by omega)]
   simp
  by_cases h5 : o + 1 <= t /\ t < o + 1 + r.length
  .rw [if_pos h5, if_pos (by omega)]
   rw [show t - o = t - (o + 1) + 1 by omega, List.getElem?_cons_succ]
  rw [if_neg h5, if_neg (by omega), Array.getElem?_setIfInBounds, if_neg (fun e => h4 e.symm)]
theorem HN (b : Nat) : ∀ (vs : List Value) (o : Nat) (w : World), (w.setCells b o vs).heap.size = w.heap.size
 | [], _, _ => rfl
 | v :: r, o, w => by rw [World.setCells, HN b r]; simp [World.setCell]
theorem I9 (b : Nat) : ∀ (vs : List Value) (o : Nat) (w : World), (w.setCells b o vs).os = w.os
 | [], _, _ => rfl
 | v :: r, o, w => by rw [World.setCells, I9 b r]; rfl
theorem HO (b : Nat) : ∀ (vs : List Value) (o : Nat) (w : World), (w.setCells b o vs).tape = w.tape
 | [], _, _ => rfl
 | v :: r, o, w => by rw [World.setCells, HO b r]; rfl
theorem F4 (b : Nat) : ∀ (vs : List Value) (o : Nat) (w : World), (w.setCells b o vs).output = w.output
 | [], _, _ => rfl
 | v :: r, o, w => by rw [World.setCells, F4 b r]; rfl
theorem Gm (b : Nat) : ∀ (vs : List Value) (o : Nat) (w : World) (q : Nat), q ≠ b -> (w.setCells b o vs).heap[q]? = w.heap[q]?
 | [], _, _, _, _ => rfl
 | v :: r, o, w, q, h => by
  rw [World.setCells, Gm b r _ _ q h]
  simp only [World.setCell, Array.getElem?_modify]
  rw [if_neg (fun e => h e.symm)]
variable {P : Program} {ρ : Ren} {AB : A1} {A : BG}
theorem Wk {e : Nat} {te : TI} (hok : GD P e te) (hsz : 0 < te.size) : ∃ z i, (∀ w, (zeroValue e).run P w = .ok z w) /\ P.info? e = some i /\ i.size = te.size /\
  ∀ n, (Builtin.zeroCells z.cells n).toList.length = n * te.size /\ ∀ u ∈ (Builtin.zeroCells z.cells n).toList, u.oneCell' = true := by
 obtain ⟨i, z, hi, hs, hb, hz, hzs, hm, _⟩ := hok.info
 obtain ⟨h1, h2⟩ := Lx hm
 refine ⟨z, i, fun w => by simp [zeroValue, typeInfo, hi, hz], hi, hs, fun n => ⟨by simp [Builtin.zeroCells, hzs], fun u hu => ?_⟩⟩
 simp only [Builtin.zeroCells, Array.toList_map, List.mem_map] at hu
 obtain ⟨t, _, rfl⟩ := hu
 have hlt : t % z.cells.size < z.cells.size := Nat.mod_lt _ (by omega)
 rw [getElem!_pos z.cells _ hlt]
 have hd : ∃ d, te.zero[t % z.cells.size]? = some d := ⟨te.zero[t % z.cells.size]'(by rw [<- h1]; simpa using hlt), List.getElem?_eq_getElem _⟩
 obtain ⟨d, hd⟩ := hd
 have hc := h2 (t % z.cells.size) _ d (by rw [Array.getElem?_toList]; exact Array.getElem?_eq_getElem hlt) hd
 obtain ⟨k1, k2⟩ := EO hc (fun _ => True) default
 exact (k1.oneCell k2).1
theorem Wl (hE : A4 P AB) (L : SlLaysE0.n45 P ρ) {e : Nat} {te : TI} (he : ρ.t 23 = e) (h3 : AB.tt e = some te) (hsz : 0 < te.size) {h : AL} {ctr id off len i j : Nat} {elems : List (List DV)}
  (hl : AF id h = some (.row e te.size elems)) (hfit : off + len <= elems.length) (hone : ∀ y ∈ (elems.drop off).take len, y.all DV.cell = true) (hij : i <= j) (hj : j <= len) {F : Nat -> Prop} {μ : Nat -> Option BT} {w : World} {v0 : Value}
  (hh : HRel A μ h F w) (hc : F ctr) (h0 : AX (Ad A μ h) μ w v0 (.lsl id te.size off len)) :
  Calls P (ρ.f 45) #[v0, .int .i64 i, .int .i64 j] w fun en w' => ∃ u μ', en = .returned u /\ HRel A μ' ((ctr, A6.row e te.size (((elems.drop off).take len).take i ++ ((elems.drop off).take len).drop j)) :: D1 id h) (fun q => F q /\ q ≠ ctr) w' /\ AX (Ad A μ' ((ctr, A6.row e te.size (((elems.drop off).take len).take i ++ ((elems.drop off).take len).drop j)) :: D1 id h)) μ' w' u (.lsl ctr te.size 0 (len - (j - i))) /\ ∀ v x, AX (Ad A μ h) μ w v x -> AX (Ad A μ' ((ctr, A6.row e te.size (((elems.drop off).take len).take i ++ ((elems.drop off).take len).drop j)) :: D1 id h)) μ' w' v x := by
 have hok := hE.tt e te h3
 have hno := hh.fresh ctr hc
 have hsub : ∀ (o : A6) q x, AF q ((ctr, o) :: D1 id h) = some x -> (q = ctr /\ x = o) \/ AF q h = some x := fun o q x hx => by
  simp only [AF] at hx
  split at hx
  .cases hx; exact .inl ⟨‹_›, rfl⟩
  exact .inr (Fa hx).2
 obtain ⟨sz, hs0⟩ : ∃ sz, te.size = sz := ⟨_, rfl⟩
 rw [hs0] at hl h0 hsz ⊢
 cases h0 with
 | lsln _ loc hm hn =>
  have : j = 0 := by omega
  subst this
  have : i = 0 := by omega
  subst this
  have hnil : ((elems.drop 0).take 0).take 0 ++ ((elems.drop 0).take 0).drop 0 = ([] : List (List DV)) := by simp
  rw [hnil]
  refine (run_delete0 L loc.sz (fun w => by rw [he, <- hs0]; exact hok.run_sizeOf w) none 0 0 0 w (by omega) (by omega) (by omega)).mono ?_
  rintro en w' ⟨rfl, rfl⟩
  let lc : BT := ⟨true, 0, 0, loc.sz, 0⟩
  have hadd := hh.add hno lc (.row e loc.sz []) _ (fun h => by cases h) (fun h => by cases h) (hsub _) (BS.refl _ _) (fun q x l hx hne hm hn => rfl) rfl rfl rfl ⟨rfl, by simp, .inl ⟨rfl, rfl⟩⟩
  exact ⟨_, _, rfl, hadd, .lsln ctr lc (by simp [Bu]) rfl, fun v x hv => hv.mono (BS.refl _ _) (hh.sub_add lc _ _ (fun h => by cases h) (hsub _)) (I3 hno lc)⟩
 | lsl _ _ _ cap ad loc hm hn hcap hlc had hbk hsp =>
  obtain ⟨loc', hm', hz, hel, hrow⟩ := hh.obj id _ hl
  rw [hm] at hm'; cases hm'
  rcases hrow with ⟨hn', _⟩ | ⟨_, c, hblk, hcs, hle, hcm, hrel⟩
  .rw [hn] at hn'; cases hn'
  have hlt := (hh.base id _ loc hl hm hn).1
  have hlen : ((elems.drop off).take len).length = len := by simp; omega
  have elt : ∀ q, q < len -> ((elems.drop off).take len)[q]? = elems[off + q]? := fun q hq => by rw [List.getElem?_take, if_pos hq, List.getElem?_drop]
  have hlen' : (((elems.drop off).take len).take i ++ ((elems.drop off).take len).drop j).length = len - (j - i) := by
   rw [List.length_append, List.length_take, List.length_drop, hlen]; omega
  have fin : ∀ (w' : World) (c' : Array Value), w'.heap[loc.b]? = some (.cells c' e (0, 0)) -> c'.size = c.size -> w'.heap.size = w.heap.size -> (∀ b, b ≠ loc.b -> w'.heap[b]? = w.heap[b]?) -> w'.os = w.os -> w'.tape = w.tape -> w'.output = w.output ->
    (∀ q m, q < i -> m < loc.sz -> c'[loc.o + (off + q) * loc.sz + m]? = c[loc.o + (off + q) * loc.sz + m]?) ->
    (∀ q m, q < len - j -> m < loc.sz -> c'[loc.o + (off + (i + q)) * loc.sz + m]? = c[loc.o + (off + (j + q)) * loc.sz + m]?) ->
    ∃ u μ', Ending.returned (.slice (some ad) (len - (j - i)) cap) = .returned u /\ HRel A μ' ((ctr, A6.row e loc.sz (((elems.drop off).take len).take i ++ ((elems.drop off).take len).drop j)) :: D1 id h) (fun q => F q /\ q ≠ ctr) w' /\ AX (Ad A μ' ((ctr, A6.row e loc.sz (((elems.drop off).take len).take i ++ ((elems.drop off).take len).drop j)) :: D1 id h)) μ' w' u (.lsl ctr loc.sz 0 (len - (j - i))) /\ ∀ v x, AX (Ad A μ h) μ w v x -> AX (Ad A μ' ((ctr, A6.row e loc.sz (((elems.drop off).take len).take i ++ ((elems.drop off).take len).drop j)) :: D1 id h)) μ' w' v x := by
   intro w' c' hw' hc' hwsz hoth hos htape hout hold hmov
   let lc : BT := ⟨false, loc.b, loc.o + off * loc.sz, loc.sz, cap⟩
   have hdead : AF id ((ctr, A6.row e loc.sz (((elems.drop off).take len).take i ++ ((elems.drop off).take len).drop j)) :: D1 id h) = none := by
    simp only [AF]
    rw [if_neg (fun e => by subst e; rw [hm] at hno; cases hno)]
    exact Fb
   have hfresh : Lw μ h ((ctr, A6.row e loc.sz (((elems.drop off).take len).take i ++ ((elems.drop off).take len).drop j)) :: D1 id h) w lc := fun _ => .inr ⟨id, _, loc, hl, hdead, hm, hn, rfl⟩
   have hkept : BS (Bx μ h) w w' := ⟨by omega, fun b _ hmine => hoth b fun e => hmine ⟨id, _, loc, hl, hm, hn, e.symm⟩⟩
   have hs := hh.sub_add lc _ _ hfresh (hsub _)
   have hadd := hh.add hno lc _ _ (w' := w') (fun _ => by rw [hwsz]; exact hlt) hfresh (hsub _) hkept (fun q x l hx hne hmq hnq => by
    simp only [AF] at hx
    rw [if_neg hne] at hx
    obtain ⟨h7, h8⟩ := Fa hx
    exact hoth _ fun e => h7 (hh.inj _ _ _ _ _ _ h8 hl hmq hm hnq hn e)) hos htape hout ⟨rfl, fun y hy => by
     rcases List.mem_append.1 hy with hy | hy
     .exact hel y (List.mem_of_mem_drop (List.mem_of_mem_take (List.mem_of_mem_take hy)))
     exact hel y (List.mem_of_mem_drop (List.mem_of_mem_take (List.mem_of_mem_drop hy))), .inr ⟨rfl, c', hw', by rw [hc', hcs, <- hcap, Nat.add_mul]; simp only [lc]; omega, by rw [hlen']; simp only [lc]; omega, by simp only [lc]; omega, fun q m y d v hy hd hv => by
     simp only [lc] at hv
     have hyl : y.length = loc.sz := by
      rcases List.mem_append.1 (List.mem_of_getElem? hy) with hy | hy
      .exact hel y (List.mem_of_mem_drop (List.mem_of_mem_take (List.mem_of_mem_take hy)))
      exact hel y (List.mem_of_mem_drop (List.mem_of_mem_take (List.mem_of_mem_drop hy)))
     have hm' : m < loc.sz := by have := (List.getElem?_eq_some_iff.1 hd).1; omega
     have hq := (List.getElem?_eq_some_iff.1 hy).1
     rw [hlen'] at hq
     rw [List.getElem?_append] at hy
     have hl1 : (((elems.drop off).take len).take i).length = i := by rw [List.length_take, hlen]; omega
     rw [hl1] at hy
     have e1 : loc.o + off * loc.sz + q * loc.sz + m = loc.o + (off + q) * loc.sz + m := by rw [Nat.add_mul]; omega
     rw [e1] at hv
     by_cases hqi : q < i
     .rw [if_pos hqi, List.getElem?_take, if_pos hqi, elt q (by omega)] at hy
      rw [hold q m hqi hm'] at hv
      exact (hrel (off + q) m y d v hy hd hv).mono hkept.own hs
     rw [if_neg hqi, List.getElem?_drop, elt _ (by omega)] at hy
     have := hmov (q - i) m (by omega) hm'
     rw [show i + (q - i) = q by omega] at this
     rw [this] at hv
     exact (hrel (off + (j + (q - i))) m y d v hy hd hv).mono hkept.own hs⟩⟩
   refine ⟨_, _, rfl, hadd, ?_, fun v x hv => hv.mono hkept.own hs (I3 hno lc)⟩
   refine .lsl ctr 0 _ cap ad lc (by simp [Bu]) rfl (by simp [lc]) (by omega) (fun h0 => ?_) hbk hsp
   rw [had h0]; simp [lc]
  by_cases hne : i = j
  .subst hne
   have hm0 : maxLen <= 9223372036854775807 := by decide
   have hm2 : cap <= 9223372036854775807 := by omega
   refine (run_delete0 L loc.sz (fun w => by rw [he, <- hs0]; exact hok.run_sizeOf w) (some ad) len cap i w hlc hm2 hj).mono ?_
   rintro e' w' ⟨rfl, rfl⟩
   have := fin w' c hblk rfl rfl (fun _ _ => rfl) rfl rfl rfl (fun _ _ _ _ => rfl) (fun _ _ _ _ => rfl)
   simp only [Nat.sub_self, Nat.sub_zero] at this ⊢
   exact this
  have hlt' : i < j := by omega
  have had' := had (by omega)
  subst had'
  obtain ⟨z, i0, hz1, hz2, hz3, hz4⟩ := Wk hok (by omega)
  rw [hs0] at hz3 hz4
  obtain ⟨hz5, hz6⟩ := hz4 (len - (i + (len - j)))
  have hm0 : maxLen <= 9223372036854775807 := by decide
  have hm2 : cap <= 9223372036854775807 := by omega
  have hin : ∀ t, t < len * loc.sz -> loc.o + off * loc.sz + t < c.size := fun t ht => by
   have : (off + len) * loc.sz <= loc.cap * loc.sz := Nat.mul_le_mul_right _ (by omega)
   rw [Nat.add_mul] at this; omega
  obtain ⟨cs, hcsd⟩ : ∃ cs, cs = (List.range (len * loc.sz)).map fun t => c.getD (loc.o + off * loc.sz + t) undef := ⟨_, rfl⟩
  have hcsl : cs.length = len * loc.sz := by rw [hcsd]; simp
  have hcsg : ∀ t u, cs[t]? = some u -> t < len * loc.sz /\ c[loc.o + off * loc.sz + t]? = some u := fun t u hu => by
   have ht := (List.getElem?_eq_some_iff.1 hu).1
   rw [hcsl] at ht
   refine ⟨ht, ?_⟩
   rw [hcsd] at hu
   simp only [List.getElem?_map, List.getElem?_range ht, Option.map_some, Option.some.injEq] at hu
   rw [<- hu, Array.getElem?_eq_getElem (hin t ht)]
   simp [Array.getD, hin t ht]
  have hrun := run_delete (P := P) L loc.sz (fun w => by rw [he, <- hs0]; exact hok.run_sizeOf w) z (fun w => by rw [he]; exact hz1 w) i0 (by rw [he]; exact hz2) hz3 _ loc.b (loc.o + off * loc.sz) len cap i j w cs hcsl
   (fun t u hu => Cd hblk (hcsg t u hu).2) (fun t _ => by simp [World.frozen?, hblk]) (fun u hu => by
    obtain ⟨t, ht⟩ := List.mem_iff_getElem?.1 hu
    obtain ⟨g1, g2⟩ := hcsg t u ht
    have q1 : t / loc.sz < len := Nat.div_lt_of_lt_mul (by rw [Nat.mul_comm]; exact g1)
    have q2 : t % loc.sz < loc.sz := Nat.mod_lt _ hsz
    have q3 := Nat.div_add_mod t loc.sz
    obtain ⟨y, hy⟩ : ∃ y, elems[off + t / loc.sz]? = some y := ⟨_, List.getElem?_eq_getElem (by omega)⟩
    have hyl := hel y (List.mem_of_getElem? hy)
    obtain ⟨d, hd⟩ : ∃ d, y[t % loc.sz]? = some d := ⟨_, List.getElem?_eq_getElem (by omega)⟩
    have hyc := hone y (List.mem_of_getElem? (i := t / loc.sz) (by rw [elt _ q1]; exact hy))
    refine ((hrel _ _ y d u hy hd ?_).oneCell (List.all_eq_true.1 hyc _ (List.mem_of_getElem? hd))).1
    rw [<- g2]; congr 1; rw [Nat.add_mul]; rw [Nat.mul_comm loc.sz] at q3; omega) rfl hz5 hz6 hlc hm2 hlt' hj
  refine hrun.mono ?_
  rintro e' w' ⟨rfl, hw'⟩
  have b1 : (i + (len - j)) * loc.sz + (len - (i + (len - j))) * loc.sz = len * loc.sz := by rw [<- Nat.add_mul]; congr 1; omega
  have b2 : i * loc.sz + (len - j) * loc.sz = (i + (len - j)) * loc.sz := (Nat.add_mul _ _ _).symm
  have b3 : (off + len) * loc.sz <= loc.cap * loc.sz := Nat.mul_le_mul_right _ (by omega)
  rw [Nat.add_mul] at b3
  have b4 : j * loc.sz + (len - j) * loc.sz = len * loc.sz := by rw [<- Nat.add_mul]; congr 1; omega
  have hdl : (cs.drop (j * loc.sz)).length = (len - j) * loc.sz := by rw [List.length_drop, hcsl]; omega
  obtain ⟨c1, k1, k2, k3⟩ := FJ loc.b (cs.drop (j * loc.sz)) (loc.o + off * loc.sz + i * loc.sz) w.drew c e hblk (by rw [hdl]; omega)
  obtain ⟨c2, m1, m2, m3⟩ := FJ loc.b (Builtin.zeroCells z.cells (len - (i + (len - j)))).toList (loc.o + off * loc.sz + (i + (len - j)) * loc.sz) _ c1 e k1 (by rw [hz5, k2]; omega)
  refine fin w' c2 (by rw [hw']; exact m1) (by rw [m2, k2]) ?_ ?_ ?_ ?_ ?_ ?_ ?_
  .rw [hw', HN, HN]; rfl
  .intro b hb; rw [hw', Gm _ _ _ _ _ hb, Gm _ _ _ _ _ hb]; rfl
  .rw [hw', I9, I9]; rfl
  .rw [hw', HO, HO]; rfl
  .rw [hw', F4, F4]; rfl
  .intro q m hq hmm
   have b5 : (q + 1) * loc.sz <= i * loc.sz := Nat.mul_le_mul_right _ hq
   rw [Nat.add_mul] at b5
   have b6 := Nat.add_mul off q loc.sz
   rw [m3, if_neg (by omega), k3, if_neg (by omega)]
  intro q m hq hmm
  have b5 : (q + 1) * loc.sz <= (len - j) * loc.sz := Nat.mul_le_mul_right _ hq
  rw [Nat.add_mul] at b5
  have b6 : loc.o + (off + (i + q)) * loc.sz + m = loc.o + off * loc.sz + i * loc.sz + (q * loc.sz + m) := by rw [Nat.add_mul, Nat.add_mul]; omega
  rw [m3, if_neg (by rw [b6]; omega), k3, if_pos (by rw [b6, hdl]; omega), b6, Nat.add_sub_cancel_left, List.getElem?_drop]
  have b7 : loc.o + (off + (j + q)) * loc.sz + m = loc.o + off * loc.sz + (j * loc.sz + (q * loc.sz + m)) := by rw [Nat.add_mul, Nat.add_mul]; omega
  have b8 : j * loc.sz + (q * loc.sz + m) < len * loc.sz := by omega
  obtain ⟨u, hu⟩ : ∃ u, cs[j * loc.sz + (q * loc.sz + m)]? = some u := ⟨_, List.getElem?_eq_getElem (by omega)⟩
  rw [hu, b7, (hcsg _ _ hu).2]
theorem Xv (hE : A4 P AB) (L : SlLaysE0.n45 P ρ) {e : Nat} {te : TI} (he : ρ.t 23 = e) (h3 : AB.tt e = some te) (hsz : 0 < te.size) {h : AL} {ctr id i j : Nat} {elems : List (List DV)} (hl : AF id h = some (.row e te.size elems)) (hone : ∀ y ∈ elems, y.all DV.cell = true) (hij : i <= j) (hj : j <= elems.length) :
  M3 P h ctr (ρ.f 45) [.lsl id te.size 0 elems.length, .p (.int .i64 i), .p (.int .i64 j)] (.lsl ctr te.size 0 (elems.length - (j - i))) ((ctr, .row e te.size (elems.take i ++ elems.drop j)) :: D1 id h) := by
 refine ⟨?_, fun A F μ w vs hh hc _ hsz' hr => ?_⟩
 .obtain ⟨nm, hn, hf⟩ := L.f45
  exact JJ hf rfl hn
 have hvs : ∃ a b c, vs = #[a, b, c] := by
  obtain ⟨l⟩ := vs
  match l, hsz' with
  | [a, b, c], _ => exact ⟨a, b, c, rfl⟩
 obtain ⟨v0, v1, v2, rfl⟩ := hvs
 have e1 := (hr 1 v1 _ rfl rfl).int_inv
 have e2 := (hr 2 v2 _ rfl rfl).int_inv
 have h0 := hr 0 v0 _ rfl rfl
 subst e1 e2
 have e0 : (elems.drop 0).take elems.length = elems := by simp
 have := Wl (off := 0) (len := elems.length) hE L he h3 hsz hl (by omega) (by rw [e0]; exact hone) hij hj hh hc h0
 rw [e0] at this
 exact this
def Wm {α : Type} (l : List α) (i j : Int) : Option (List α) := if 0 <= i /\ i <= j /\ j <= l.length then some (l.take i.toNat ++ l.drop j.toNat) else none
section
variable {α : Type} {enc : α -> List DV} {l r : List α} {i j : Int} {nt : Nat} {sl : List (Nat × LV)} {h h' : AL} {c d : Nat} {f : St -> Prop} {hf : Hu f}
theorem YY (hE : A4 P AB) {k : Nat} (L : SlLaysE0.n45 P ρ) (hk : ρ.f 45 = k) {t e sz : Nat} (he : ρ.t 23 = e) {fo a1 a2 a3 : Operand} {args : Array Operand} {ts : Array TypeId} {id n : Nat}
  (hr : Wm l i j = some r) (hen : Ra enc sz) (hl : BW id h = some (.row e sz (l.map enc))) (hn : n = l.length) (hd : Of id h some = some h') (ht : QF AB t e sz = true)
  (hfn : (Cr fo, BI nt sl fo) = (true, .fn k [])) (ha : args.toList = [a1, a2, a3]) (h1 : BI nt sl a1 = .lsl id sz 0 n) (h2 : BI nt sl a2 = .p (.int .i64 i)) (h3 : BI nt sl a3 = .p (.int .i64 j))
  (kk : f ⟨nt, (d, .lsl c sz 0 r.length) :: sl, (c, .row e sz (r.map enc)) :: h', c + 1⟩) : Hi P A AB ⟨nt, sl, h, c⟩ (some d) (.call ⟨.value fo, args, ts⟩) ⟨f, hf⟩ := by
 obtain ⟨ti, te, g1, g2, g3, g4, g5, g6⟩ := N3 ht
 obtain ⟨hdl, hfn⟩ := Prod.mk.inj hfn
 rw [BP (h := h) (c := c)] at hfn h1 h2 h3
 rw [Lc, Option.some.injEq] at hd
 rw [Ba] at hl
 subst g4 hn hd hk
 have haa : args = #[a1, a2, a3] := by rw [<- Array.toList_inj, ha]
 subst haa
 unfold Wm at hr
 split at hr
 .rename_i hb
  obtain ⟨b1, b2, b3⟩ := hb
  simp only [Option.some.injEq] at hr
  subst hr
  obtain ⟨i, rfl⟩ := Int.eq_ofNat_of_zero_le b1
  obtain ⟨j, rfl⟩ := Int.eq_ofNat_of_zero_le (Int.le_trans b1 b2)
  show (if Cr fo = true then _ else _)
  rw [if_pos hdl]
  have hlen : (l.map enc).length = l.length := List.length_map ..
  refine ⟨.lsl c te.size 0 ((l.map enc).length - (j - i)), (c, .row e te.size ((l.map enc).take i ++ (l.map enc).drop j)) :: D1 id h, ⟨fo, _, [], rfl, hfn, ?_, fun q hq hn => ?_, fun b _ id' cells hi hbi hx => ?_⟩, ?_⟩
  .have := Xv (P := P) (ctr := c) hE L he g3 g5 hl (fun y hy => by
    obtain ⟨x, _, rfl⟩ := List.mem_map.1 hy
    exact (hen x).2) (show i <= j by omega) (by rw [hlen]; omega)
   show M3 P h c _ ([St.eval _ a1, St.eval _ a2, St.eval _ a3] ++ []) _ _
   rw [h1, h2, h3, List.append_nil, <- hlen]
   exact this
  .simp only [AF, hq, if_false, KC, hn]; split <;> rfl
  .have hne : id' ≠ id := fun e2 => by rw [e2, hl] at hx; cases hx
   simp only [AF, hi, if_false]
   rw [DI hne]; exact hx
  have e1 : ((l.take i ++ l.drop j).map enc) = (l.map enc).take i ++ (l.map enc).drop j := by simp [List.map_take, List.map_drop]
  have e2 : (l.take i ++ l.drop j).length = (l.map enc).length - (j - i) := by simp; omega
  simp only [Int.toNat_natCast] at kk
  rw [e1, e2] at kk
  exact kk
 cases hr
end
end Go.E
/- slices.Sort and slices.Compact of an own row of whole numbers, as calls out of a data state. For rows of fewer than 2^62 numbers. -/
namespace Go.E
open Go Go.RowKit Go.Shelf Go.Proofs Go.Sort
def IV (n : Int) : List DV := [.int .i64 n]
def Oy (x : Int) : List Int -> List Int
 | [] => [x]
 | y :: l => if x <= y then x :: y :: l else y :: Oy x l
def Gu : List Int -> List Int
 | [] => []
 | x :: l => Oy x (Gu l)
theorem Nu (x : Int) : ∀ l, (Oy x l).Perm (x :: l)
 | [] => .refl _
 | y :: l => by
  unfold Oy
  split
  .exact .refl _
  exact ((Nu x l).cons y).trans (.swap x y l)
theorem IJ : ∀ l, (Gu l).Perm l
 | [] => .refl _
 | x :: l => (Nu x (Gu l)).trans ((IJ l).cons x)
theorem RG (x : Int) : ∀ l, l.Pairwise (· <= ·) -> (Oy x l).Pairwise (· <= ·)
 | [], _ => by simp [Oy]
 | y :: l, h => by
  unfold Oy
  rw [List.pairwise_cons] at h
  split
  .rename_i hxy
   refine List.pairwise_cons.2 ⟨fun z hz => ?_, List.pairwise_cons.2 h⟩
   rcases List.mem_cons.1 hz with rfl | hz
   .exact hxy
   exact Int.le_trans hxy (h.1 z hz)
  rename_i hxy
  refine List.pairwise_cons.2 ⟨fun z hz => ?_, RG x l h.2⟩
  rcases List.mem_cons.1 ((Nu x l).mem_iff.1 hz) with rfl | hz
  .omega
  exact h.1 z hz
theorem Jz : ∀ l, (Gu l).Pairwise (· <= ·)
 | [] => by simp [Gu]
 | x :: l => RG x _ (Jz l)
theorem XK (l : List Int) : l.mergeSort (fun x y => decide (x <= y)) = Gu l := by
 refine List.Perm.eq_of_pairwise (le := fun a b : Int => a <= b) (fun a b _ _ h1 h2 => Int.le_antisymm h1 h2) ?_ (Jz l) ((List.mergeSort_perm _ _).trans (IJ l).symm)
 have := List.pairwise_mergeSort (le := fun x y : Int => decide (x <= y)) (by simp; intro a b c; omega) (by simp; omega) l
 simpa using this
def II (l : List Int) : Option (List Int) := if l.length < 4611686018427387904 then some (Gu l) else none
theorem Qw {l r : List Int} (h : II l = some r) : l.length = r.length := by
 unfold II at h
 split at h
 .cases h; exact (IJ l).length_eq.symm
 cases h
section
variable {P : Program} {ρ : Ren} {AB : A1} {A : BG}
theorem row_holds {O : Nat -> Prop} {w : World} {b o : Nat} {c : Array Value} {e : TypeId} {zs : List Int} {n : Nat} (hb : w.heap[b]? = some (.cells c e (0, 0))) (hc : c.size = o + n) (hn : zs.length <= n)
  (hrel : ∀ (i j : Nat) (x : List DV) (d : DV) (v : Value), (zs.map IV)[i]? = some x -> x[j]? = some d -> c[o + i * 1 + j]? = some v -> Au O w v d) : Holds (Value.int .i64) w b o zs.toArray := by
 intro j hj
 have hj' : j < zs.length := by simpa using hj
 have hlt : o + j < c.size := by omega
 have hz : (zs.map IV)[j]? = some (IV zs[j]) := by simp [hj']
 have := hrel j 0 _ (.int .i64 zs[j]) c[o + j] hz rfl (by simp [hlt])
 have key : ∀ u, Au O w u (.int .i64 zs[j]) -> u = .int .i64 zs[j] := fun u h => by cases h; rfl
 refine ⟨?_, by simp [World.frozen?, hb]⟩
 rw [Cd hb (Array.getElem?_eq_getElem hlt), key _ this]
 simp [hj']
theorem VC (hE : A4 P AB) (L : Lays.n189 P ρ) {e : Nat} {te : TI} (h3 : AB.tt e = some te) (h1 : te.size = 1) {h : AL} {ctr id : Nat} {zs ys : List Int}
  (hl : AF id h = some (.row e 1 (zs.map IV))) (hs : II zs = some ys) {K : LV -> AL -> Nat -> Prop} (hK : K (.p (.tup [])) (Bh id (.row e 1 (ys.map IV)) h) ctr) :
  C2 P A h ctr (ρ.f 189) [.lsl id 1 0 zs.length] K := by
 unfold II at hs
 rw [<- XK] at hs
 split at hs
 .rename_i hlen
  cases hs
  refine ⟨JJ L.f189 rfl rfl, fun μ w vs hh hsz hr => ?_⟩
  have hvs : ∃ a, vs = #[a] := by
   obtain ⟨l⟩ := vs
   match l, hsz with
   | [a], _ => exact ⟨a, rfl⟩
  obtain ⟨v0, rfl⟩ := hvs
  have h0 := hr 0 v0 _ rfl rfl
  have htup : ∀ w', AX (Ad A μ (Bh id (.row e 1 ((zs.mergeSort fun x y => decide (x <= y)).map IV)) h)) μ w' (.tuple #[]) (.p (.tup [])) := fun w' => .p _ _ (.tup #[] [] rfl (by simp))
  obtain ⟨loc, hm, hz, hel, hrow⟩ := hh.obj id _ hl
  have empty : zs = [] -> ∀ p cap, v0 = .slice p 0 cap -> Calls P (ρ.f 189) #[v0] w fun en w' => ∃ u l h' c' μ', en = .returned u /\ K l h' c' /\ HRel A μ' h' (Fr c') w' /\ AX (Ad A μ' h') μ' w' u l /\ ∀ v x, AX (Ad A μ h) μ w v x -> AX (Ad A μ' h') μ' w' v x := by
   rintro rfl p cap rfl
   refine (Any.slices_Sort_int_none L p cap w).mono ?_
   rintro en w' ⟨rfl, rfl⟩
   have hu : ∀ q, AF q (Bh id (.row e 1 ((([] : List Int).mergeSort fun x y => decide (x <= y)).map IV)) h) = AF q h := fun q => by
    by_cases hq : q = id
    .subst hq; rw [HM hl, hl]; simp
    rw [DK hq]
   have hmine : Bx μ (Bh id (.row e 1 ((([] : List Int).mergeSort fun x y => decide (x <= y)).map IV)) h) = Bx μ h := by
    funext b; simp only [Bx, hu]
   have hown : Ad A μ (Bh id (.row e 1 ((([] : List Int).mergeSort fun x y => decide (x <= y)).map IV)) h) = Ad A μ h := by funext b; simp only [Ad, hmine]
   refine ⟨_, _, _, _, μ, rfl, hK, ?_, htup _, fun v x hv => by rw [hown]; exact hv⟩
   refine ⟨fun q o hq => ?_, fun q q' o o' l l' hq hq' => ?_, hh.fresh, fun q o l hq => ?_, hh.size, hh.block, hh.os, hh.tape, hh.output, hh.ext⟩
   .rw [hu] at hq; rw [hown]; exact hh.obj q o hq
   .rw [hu] at hq hq'; exact hh.inj q q' o o' l l' hq hq'
   rw [hu] at hq; exact hh.base q o l hq
  rcases hrow with ⟨hn, hz0⟩ | ⟨hn, c, hblk, hcs, hle, hcm, hrel⟩
  .have hzs : zs = [] := by simpa using hz0
   subst hzs
   generalize hgen : (LV.lsl id 1 0 ([] : List Int).length) = lv at h0
   cases h0 with
   | lsln => exact empty rfl _ _ rfl
   | lsl _ _ _ cap ad loc' hm' hn' hcap hlc had hbk hsp =>
    simp only [LV.lsl.injEq, List.length_nil] at hgen
    obtain ⟨-, -, -, e4⟩ := hgen
    subst e4
    exact empty rfl _ _ rfl
   | _ => cases hgen
  by_cases hne : zs = []
  .subst hne
   generalize hgen : (LV.lsl id 1 0 ([] : List Int).length) = lv at h0
   cases h0 with
   | lsln => exact empty rfl _ _ rfl
   | lsl _ _ _ cap ad loc' hm' hn' hcap hlc had hbk hsp =>
    simp only [LV.lsl.injEq, List.length_nil] at hgen
    obtain ⟨-, -, -, e4⟩ := hgen
    subst e4
    exact empty rfl _ _ rfl
   | _ => cases hgen
  have hpos : 0 < zs.length := List.length_pos_iff.2 hne
  generalize hgen : (LV.lsl id 1 0 zs.length) = lv at h0
  cases h0 with
  | lsl id' off len cap ad loc' hm' hn' hcap hlc had hbk hsp =>
   simp only [LV.lsl.injEq] at hgen
   obtain ⟨e1, e2, e3, e4⟩ := hgen
   subst e1 e3 e4
   rw [hm] at hm'; cases hm'
   have had' := had (by omega)
   simp only [Nat.zero_mul, Nat.add_zero] at had'
   subst had'
   have hlt := (hh.base id _ loc hl hm hn).1
   simp only [List.length_map] at hle
   have hH := row_holds (zs := zs) (o := loc.o) (n := loc.cap) hblk (by rw [hcs]; omega) hle (by rw [<- hz] at hrel ⊢; exact hrel)
   refine (Any.slices_Sort_int L loc.b loc.o cap zs w hH hlt hlen).mono ?_
   rintro en w' ⟨rfl, q, os, rfl⟩
   have hsl : (zs.mergeSort fun x y => decide (x <= y)).length = zs.length := List.length_mergeSort _
   rw [Lib.putRow_eq_setCells (Value.int .i64) w loc.b loc.o zs.toArray (zs.mergeSort fun x y => decide (x <= y)) q hH (by simp [hsl])]
   obtain ⟨c1, k1, k2, k3⟩ := FJ loc.b ((zs.mergeSort fun x y => decide (x <= y)).map (Value.int .i64)) loc.o (w.drewN q) c e hblk (by simp [hsl]; omega)
   have hw := hh.write (w' := (w.drewN q).setCells loc.b loc.o ((zs.mergeSort fun x y => decide (x <= y)).map (Value.int .i64))) (o := .row e 1 ((zs.mergeSort fun x y => decide (x <= y)).map IV)) hl hm hn
    (by rw [HN]; rfl) (fun b hb => by rw [Gm _ _ _ _ _ hb]; rfl) (by rw [I9]; rfl) (by rw [HO]; rfl) (by rw [F4]; rfl)
    ⟨hz, fun y hy => by obtain ⟨n, _, rfl⟩ := List.mem_map.1 hy; rfl, .inr ⟨hn, c1, k1, by rw [k2]; exact hcs, by simpa [hsl] using hle, hcm, fun i j x d v hx hd hv => by
     simp only [List.getElem?_map, Option.map_eq_some_iff] at hx
     obtain ⟨n, hn', rfl⟩ := hx
     have hj : j = 0 := by
      have := (List.getElem?_eq_some_iff.1 hd).1
      simp [IV] at this; omega
     subst hj
     simp only [IV, List.getElem?_cons_zero, Option.some.injEq] at hd
     subst hd
     have hi := (List.getElem?_eq_some_iff.1 hn').1
     rw [k3, if_pos (by simp; omega)] at hv
     rw [show loc.o + i * 1 + 0 - loc.o = i by omega, List.getElem?_map, hn'] at hv
     cases hv
     exact .int _ _⟩⟩
   obtain ⟨w1, w2, w3⟩ := hw
   have hk := w1.keep (w' := grow ((w.drewN q).setCells loc.b loc.o ((zs.mergeSort fun x y => decide (x <= y)).map (Value.int .i64))) os) (h' := Bh id (.row e 1 ((zs.mergeSort fun x y => decide (x <= y)).map IV)) h) (μ' := μ) (F' := Fr ctr) (fun _ _ h => h) w1.fresh (fun _ _ h => h)
    (fun b hb => by show (_ ++ os)[b]? = _; rw [Array.getElem?_append_left hb]) (by show _ <= (_ ++ os).size; simp) rfl rfl rfl
   refine ⟨_, _, _, _, μ, rfl, hK, hk.1, htup _, fun v x hv => ?_⟩
   have hv1 := hv.mono w2.own (fun b _ => w3 b) (fun _ _ h => h)
   refine hv1.mono (BS.mk ?_ ?_) (fun b _ hb => hb) (fun _ _ h => h)
   .show _ <= (_ ++ os).size; simp
   intro b hb _; show (_ ++ os)[b]? = _; rw [Array.getElem?_append_left hb]
  | lsln =>
   simp only [LV.lsl.injEq] at hgen
   obtain ⟨-, -, -, e4⟩ := hgen
   omega
  | _ => cases hgen
 cases hs
end
section
variable {P : Program} {ρ : Ren} {AB : A1} {A : BG} {l r : List Int} {nt : Nat} {sl : List (Nat × LV)} {h h' : AL} {c d : Nat} {f : St -> Prop} {hf : Hu f}
theorem Vj (hE : A4 P AB) {k : Nat} (L : Lays.n189 P ρ) (hk : ρ.f 189 = k) {t e : Nat} {fo : Operand} {args : Array Operand} {ts : Array TypeId} {id n : Nat} {enc : Int -> List DV} (henc : enc = IV)
  (hr : II l = some r) (hl : BW id h = some (.row e 1 (l.map enc))) (hn : n = l.length) (hd : Bh id (.row e 1 (r.map enc)) h = h') (ht : QF AB t e 1 = true)
  (hfn : BI nt sl fo = .fn k []) (ha : DT nt sl args.toList some = some [.lsl id 1 0 n])
  (kk : f ⟨nt, (d, .p (.tup [])) :: sl, h', c⟩) : BK P A AB ⟨nt, sl, h, c⟩ (some d) (.call ⟨.value fo, args, ts⟩) ⟨f, hf⟩ := by
 obtain ⟨ti, te, h1, h2, h3, h4, h5, h6⟩ := N3 ht
 rw [BP (h := h) (c := c)] at hfn
 rw [Ba] at hl
 subst henc hn hd hk
 show LZ _ _
 rw [hfn]
 show Hx P A h c _ (args.toList.map _ ++ []) _
 rw [Ek ha, List.append_nil]
 exact VC hE L h3 h4 hl hr kk
end
end Go.E
/- A scope in which the run jumps back to one label, and on to another. No condition. -/
namespace Go.E
open Go Go.RowKit
section
variable {P : Program} {A : BG} {st : St} {σ Ans : Type}
end
def Ye {α : Type} (l : List α) (lo hi : Int) : Option (List α) := match l with
 | [] => none
 | x :: r => YS (x :: r) lo hi
section
variable {P : Program} {A : BG} {AB : A1} {α : Type} {enc : α -> List DV} {l r : List α} {nt : Nat} {sl : List (Nat × LV)} {h : AL} {c d : Nat} {f : St -> Prop} {hf : Hu f} {x : Operand} {t sz : Nat}
end
end Go.E
/- Ad rows cut short; nil cells of own boxes; functions that call themselves. No condition. -/
namespace Go.E
open Go Go.RowKit
section
variable {A : BG} {μ : Nat -> Option BT} {h : List (Nat × A6)} {F : Nat -> Prop} {w : World}
theorem HRel.swap (hh : HRel A μ h F w) {id : Nat} {o o' : A6} (hx : AF id h = some o) (hor : ∀ loc, μ id = some loc -> Dd (Ad A μ h) μ w loc o -> Dd (Ad A μ h) μ w loc o') :
  HRel A μ (Bh id o' h) F w /\ ∀ b, Ad A μ (Bh id o' h) b -> Ad A μ h b := by
 have hlook : ∀ j y, AF j (Bh id o' h) = some y -> (j = id /\ y = o') \/ (j ≠ id /\ AF j h = some y) := by
  intro j y hy
  by_cases e : j = id
  .subst e; rw [HM hx] at hy; cases hy; exact .inl ⟨rfl, rfl⟩
  rw [DK e] at hy; exact .inr ⟨e, hy⟩
 have hmine : ∀ b, Bx μ (Bh id o' h) b -> Bx μ h b := by
  rintro b ⟨j, y, lc, h1, h2, h3, h4⟩
  rcases hlook j y h1 with ⟨rfl, rfl⟩ | ⟨_, h1⟩
  .exact ⟨j, o, lc, hx, h2, h3, h4⟩
  exact ⟨j, y, lc, h1, h2, h3, h4⟩
 have hown : ∀ b, Ad A μ (Bh id o' h) b -> Ad A μ h b := fun b hb => hb.imp (fun h => h) (hmine b)
 have f : ∀ j y, AF j (Bh id o' h) = some y -> ∃ y, AF j h = some y := by
  intro j y hy
  rcases hlook j y hy with ⟨rfl, rfl⟩ | ⟨_, hy⟩
  .exact ⟨_, hx⟩
  exact ⟨_, hy⟩
 refine ⟨⟨?_, ?_, hh.fresh, ?_, hh.size, hh.block, hh.os, hh.tape, hh.output, hh.ext⟩, hown⟩
 .intro j y hy
  rcases hlook j y hy with ⟨rfl, rfl⟩ | ⟨e, hy⟩
  .obtain ⟨lc, h1, h2⟩ := hh.obj j o hx
   exact ⟨lc, h1, (hor lc h1 h2).mono (BS.refl _ _) (fun b _ hb => hown b hb) (fun _ _ h => h) fun _ => rfl⟩
  obtain ⟨lc, h1, h2⟩ := hh.obj j y hy
  exact ⟨lc, h1, h2.mono (BS.refl _ _) (fun b _ hb => hown b hb) (fun _ _ h => h) fun _ => rfl⟩
 .intro j j' y y' lc lc' h1 h2 m1 m2 n1 n2 he
  obtain ⟨z, hz⟩ := f j y h1
  obtain ⟨z', hz'⟩ := f j' y' h2
  exact hh.inj _ _ _ _ _ _ hz hz' m1 m2 n1 n2 he
 intro j y lc h1 m1 n1
 obtain ⟨z, hz⟩ := f j y h1
 exact hh.base _ _ _ hz m1 n1
end
section
variable {A : BG} {nt : Nat} {sl : List (Nat × LV)} {h h' : AL} {c : Nat}
theorem Fz (id j e sz : Nat) {cells cells' : List LV} (hl : BW id h = some (.box cells)) (hj : cells[j]? = some (.p .nils)) (hc : cells.set j (.lsl c sz 0 0) = cells')
  (hu : Jj id (.box cells') h some = some h') : BB A ⟨nt, sl, h, c⟩ ⟨nt, sl, (c, .row e sz []) :: h', c + 1⟩ := fun a w ⟨⟨μ, hh, hr⟩, hnt, hdef⟩ => by
 rw [Ba] at hl
 rw [Gl, Option.some.injEq] at hu
 subst hu hc
 have hno := hh.fresh c (Nat.le_refl _)
 let loc : BT := ⟨true, 0, 0, sz, 0⟩
 have hsub : ∀ id x, AF id ((c, A6.row e sz []) :: h) = some x -> (id = c /\ x = .row e sz []) \/ AF id h = some x := by
  intro id x hx
  simp only [AF] at hx
  split at hx
  .cases hx; exact .inl ⟨‹_›, rfl⟩
  exact .inr hx
 have hadd := hh.add hno loc (.row e sz []) ((c, .row e sz []) :: h) (fun hn => by cases hn) (fun hn => by cases hn) hsub (BS.refl _ _) (fun _ _ _ _ _ _ _ => rfl) rfl rfl rfl ⟨rfl, by simp, .inl ⟨rfl, rfl⟩⟩
 have hown := hh.sub_add loc (.row e sz []) ((c, .row e sz []) :: h) (fun hn => by cases hn) hsub
 have hadd' := hadd.less (F' := Fr (c + 1)) fun id hid => by simp only [Fr] at hid ⊢; omega
 have hne : id ≠ c := hh.live_ne hno hl
 have hl' : AF id ((c, A6.row e sz []) :: h) = some (.box cells) := by simp only [AF, if_neg hne]; exact hl
 obtain ⟨g1, g2⟩ := hadd'.swap hl' (o' := .box (cells.set j (.lsl c sz 0 0))) fun lc _ ⟨k1, cs, t, k2, k3, k4⟩ => by
  refine ⟨k1, cs, t, k2, by rw [List.length_set]; exact k3, fun i v l hv hl => ?_⟩
  rw [List.getElem?_set] at hl
  split at hl
  .split at hl
   .cases hl
    subst_vars
    have := k4 _ v _ hv hj
    rw [this.nils_inv]
    exact .lsln c loc (by simp [Bu]) rfl
   cases hl
  exact k4 i v l hv hl
 have hup : Bh id (.box (cells.set j (.lsl c sz 0 0))) ((c, A6.row e sz []) :: h) = (c, .row e sz []) :: Bh id (.box (cells.set j (.lsl c sz 0 0))) h := by
  simp only [Bh, if_neg hne]
 rw [hup] at g1 g2
 exact ⟨⟨_, g1, fun u hu => (hr u hu).mono (BS.refl _ _) (fun b hb hb' => hown b hb (g2 b hb')) (I3 hno loc)⟩, hnt, hdef⟩
end
section
variable {P : Program} {A : BG} {AB : A1} {α : Type} {enc : α -> List DV} {l r : List α} {nt : Nat} {sl : List (Nat × LV)} {h : AL} {c d : Nat} {f : St -> Prop} {hf : Hu f} {x : Operand} {t sz : Nat}
end
section
variable (id : Nat) (src d : LV)
mutual
inductive Ns : LV -> LV -> Prop
 | same (v : LV) : Ns v v
 | hit : Ns src d
 | nil (z : Nat) : Ns (.p .nils) (.p (.slice z []))
 | agg {a b : List LV} : OA a b -> Ns (.agg a) (.agg b)
inductive OA : List LV -> List LV -> Prop
 | nil : OA [] []
 | cons {x y : LV} {a b : List LV} : Ns x y -> OA a b -> OA (x :: a) (y :: b)
end
inductive Ov (sl : List (Nat × LV)) : List (Nat × LV) -> Prop
 | nil : Ov sl []
 | cons (t : Nat) {v : LV} {r : List (Nat × LV)} : Ns src d (Be sl t) v -> Ov sl r -> Ov sl ((t, v) :: r)
inductive VB : A6 -> A6 -> Prop
 | same (o : A6) : VB o o
 | box {a b : List LV} : OA src d a b -> VB (.box a) (.box b)
inductive Ow (h : AL) : AL -> Prop
 | nil : Ow h []
 | cons (i : Nat) {o o' : A6} {r : AL} (hne : Nat.beq i id = false) (hl : BW i h = some o) : VB src d o o' -> Ow h r -> Ow h ((i, o') :: r)
end
section
variable {A : BG} {nt : Nat} {sl sl' : List (Nat × LV)} {h h' : AL} {c : Nat} {id : Nat} {src d : LV}
mutual
theorem S8 {O O' : Nat -> Prop} {μ μ' : Nat -> Option BT} {w : World} (hμ : ∀ id l, μ id = some l -> μ' id = some l) (hO : ∀ b, b < w.heap.size -> O' b -> O b) (hd : ∀ v, AX O μ w v src -> AX O' μ' w v d) : ∀ {x y : LV}, Ns src d x y -> ∀ v, AX O μ w v x -> AX O' μ' w v y
 | _, _, .same _, v, h => h.mono (BS.refl _ _) hO hμ
 | _, _, .hit, v, h => hd v h
 | _, _, .nil z, v, h => by
  rw [h.nils_inv]
  exact .p _ _ (.snil z)
 | _, _, .agg (a := ls) (b := b) q, v, h => by
  cases h with
  | agg vs _ hsz hr =>
   obtain ⟨g1, g2⟩ := Nt hμ hO hd q
   exact .agg vs _ (by omega) fun i v l hv hl => by
    have hi := (List.getElem?_eq_some_iff.1 hl).1
    obtain ⟨x, hx⟩ : ∃ x, ls[i]? = some x := ⟨ls[i]'(by omega), List.getElem?_eq_getElem _⟩
    exact g2 i x l hx hl v (hr i v x hv hx)
theorem Nt {O O' : Nat -> Prop} {μ μ' : Nat -> Option BT} {w : World} (hμ : ∀ id l, μ id = some l -> μ' id = some l) (hO : ∀ b, b < w.heap.size -> O' b -> O b) (hd : ∀ v, AX O μ w v src -> AX O' μ' w v d) : ∀ {a b : List LV}, OA src d a b -> a.length = b.length /\ ∀ (i : Nat) (x y : LV), a[i]? = some x -> b[i]? = some y -> ∀ v, AX O μ w v x -> AX O' μ' w v y
 | _, _, .nil => ⟨rfl, fun i x y h => by simp at h⟩
 | _, _, .cons q r => by
  obtain ⟨g1, g2⟩ := Nt hμ hO hd r
  refine ⟨by simp [g1], fun i x y hx hy => ?_⟩
  cases i with
  | zero => simp at hx hy; subst hx hy; exact S8 hμ hO hd q
  | succ i => exact g2 i x y (by simpa using hx) (by simpa using hy)
end
theorem RC : ∀ {sl' : List (Nat × LV)}, Ov src d sl sl' -> ∀ t l, AF t sl' = some l -> Ns src d (Be sl t) l
 | _, .nil, t, l, h => by simp [AF] at h
 | _, .cons u q r, t, l, h => by
  simp only [AF] at h
  split at h
  .cases h; subst_vars; exact q
  exact RC r t l h
theorem RD : ∀ {h' : AL}, Ow id src d h h' -> ∀ i o', AF i h' = some o' -> i ≠ id /\ ∃ o, AF i h = some o /\ VB src d o o'
 | _, .nil, i, o, h => by simp [AF] at h
 | _, .cons u hne hl q r, i, o, h => by
  simp only [AF] at h
  split at h
  .cases h; subst_vars
   rw [Ba] at hl
   exact ⟨fun e => by subst e; simp at hne, _, hl, q⟩
  exact RD r i o h
theorem RE (id : Nat) {d0 : DV} (hd : ∀ μ w (O' : Nat -> Prop), HRel A μ h (Fr c) w -> (∀ b, O' b -> Ad A μ (B1 [id] h) b) -> ∀ v, AX (Ad A μ h) μ w v src -> Au O' w v d0) (hs : Ov src (.p d0) sl sl') (hh : Ow id src (.p d0) h h') : BB A ⟨nt, sl, h, c⟩ ⟨nt, sl', h', c⟩ := fun a w ⟨⟨μ, hR, hr⟩, hnt, hdef⟩ => by
 have hlk := fun i o' => RD hh i o'
 have hmine : ∀ b, Bx μ h' b -> Bx μ (B1 [id] h) b := by
  rintro b ⟨j, y, lc, h1, h2, h3, h4⟩
  obtain ⟨g1, o, g2, -⟩ := hlk j y h1
  refine ⟨j, o, lc, ?_, h2, h3, h4⟩
  show AF j (D1 id h) = some o
  rw [DI g1]; exact g2
 have hown1 : ∀ b, Ad A μ h' b -> Ad A μ (B1 [id] h) b := fun b hb => hb.imp (fun h => h) (hmine b)
 have hown : ∀ b, Ad A μ h' b -> Ad A μ h b := fun b hb => HZ b (hown1 b hb)
 have hp : ∀ v, AX (Ad A μ h) μ w v src -> AX (Ad A μ h') μ w v (.p d0) := fun v hv => .p _ _ (hd μ w _ hR hown1 v hv)
 refine ⟨⟨μ, ⟨?_, ?_, hR.fresh, ?_, hR.size, hR.block, hR.os, hR.tape, hR.output, hR.ext⟩, fun t ht => ?_⟩, hnt, hdef⟩
 .intro j o' hj
  obtain ⟨g1, o, g2, q⟩ := hlk j o' hj
  obtain ⟨lc, h1, h2⟩ := hR.obj j o g2
  refine ⟨lc, h1, ?_⟩
  cases q with
  | same _ => exact h2.mono (BS.refl _ _) (fun b _ hb => hown b hb) (fun _ _ h => h) fun _ => rfl
  | box q =>
   obtain ⟨k1, cs, ty, k2, k3, k4⟩ := h2
   obtain ⟨q1, q2⟩ := Nt (O' := Ad A μ h') (w := w) (fun _ _ h => h) (fun b _ hb => hown b hb) hp q
   refine ⟨k1, cs, ty, k2, by omega, fun i v l hv hl => ?_⟩
   have hi := (List.getElem?_eq_some_iff.1 hl).1
   rename_i a b
   have hx : a[i]? = some (a[i]'(by omega)) := List.getElem?_eq_getElem _
   exact q2 i _ l hx hl v (k4 i v _ hv hx)
 .intro j j' y y' lc lc' h1 h2 m1 m2 n1 n2 he
  obtain ⟨-, z, hz, -⟩ := hlk j y h1
  obtain ⟨-, z', hz', -⟩ := hlk j' y' h2
  exact hR.inj _ _ _ _ _ _ hz hz' m1 m2 n1 n2 he
 .intro j y lc h1 m1 n1
  obtain ⟨-, z, hz, -⟩ := hlk j y h1
  exact hR.base _ _ _ hz m1 n1
 show AX _ _ _ _ (match AF t sl' with | some v => v | none => .any)
 cases hl : AF t sl' with
 | none => exact .any _
 | some l => exact S8 (fun _ _ h => h) (fun b _ hb => hown b hb) hp (RC hs t l hl) _ (hr t ht)
theorem Ip (id : Nat) {d0 : DV} (hd : E7 h src = some d0 /\ IZ src = [id]) (hs : Ov src (.p d0) sl sl') (hh : Ow id src (.p d0) h h') : BB A ⟨nt, sl, h, c⟩ ⟨nt, sl', h', c⟩ :=
 RE id (fun μ w O' hR hown v hv => (Ki hR (l := [id]) hv hd.1 (by rw [hd.2]; simp)).mono (BS.refl _ _) fun b _ hb => hown b hb) hs hh
theorem XJ {O : Nat -> Prop} {μ : Nat -> Option BT} {w : World} {v : Value} {id sz off n : Nat} (h : AX O μ w v (.lsl id sz off n)) : ∃ loc, μ id = some loc := by
 cases h with
 | lsln _ loc hm hn => exact ⟨loc, hm⟩
 | lsl _ _ _ cap a loc hm => exact ⟨loc, hm⟩
theorem E4 (hs : Ov (.lsl c 0 0 0) (.p .nils) sl sl') (hh : Ow c (.lsl c 0 0 0) (.p .nils) h h') : BB A ⟨nt, sl, h, c⟩ ⟨nt, sl', h', c⟩ :=
 RE c (fun μ w O' hR hown v hv => by
  have hno := hR.fresh c (Nat.le_refl _)
  obtain ⟨loc, hm⟩ := XJ hv
  rw [hno] at hm; cases hm) hs hh
theorem Ll {α : Type} {enc : α -> List DV} {l : List α} {e : Nat} {sz : Nat} (hl : BW id h = some (.row e sz (l.map enc))) : E7 h (.lsl id sz 0 l.length) = some (.slice sz (l.map enc)) /\ IZ (.lsl id sz 0 l.length) = [id] := by
 refine ⟨?_, rfl⟩
 rw [Ba] at hl
 simp only [E7, hl, Nat.zero_add, List.length_map, Nat.le_refl, and_self, if_true, List.drop_zero]
 rw [List.take_of_length_le (by simp)]
end
section
variable {P : Program} {A : BG} {AB : A1}
theorem C2.ownF {h : AL} {ctr k : Nat} {args : List LV} {ds : List DV} {e sz : Nat} {elems : List (List DV)} {K : LV -> AL -> Nat -> Prop} (hds : Bn h args = some ds) (hf : E9 P k ds e sz elems)
  (hfl : ∀ x ∈ elems, ∀ d ∈ x, d.flat = true) (hK : K (.lsl ctr sz 0 elems.length) ((ctr, .row e sz elems) :: h) (ctr + 1)) : C2 P A h ctr k args K := by
 refine ⟨hf.enters, fun μ w vs hh hsz hr => ?_⟩
 obtain ⟨g1, g2⟩ := EP hh (l := args.flatMap (Db h)) hds (fun id hid => hid)
 generalize args.flatMap (Db h) = dl at g2
 have hO : ∀ b, Ad A μ (B1 dl h) b -> b < w.heap.size := by
  intro b hb
  rcases HZ b hb with hb | ⟨id, x, lc, h1, h2, h3, rfl⟩
  .exact Nat.lt_of_lt_of_le (A.hO b hb).1 hh.size
  exact (hh.base id x lc h1 h2 h3).1
 refine (hf.run (Ad A μ (B1 dl h)) w vs hO (by omega) fun i v d hv hd => ?_).mono fun en w' ⟨v, he, hn, hb⟩ => ?_
 .have hi := (List.getElem?_eq_some_iff.1 hd).1
  have hx : args[i]? = some (args[i]'(by omega)) := List.getElem?_eq_getElem _
  exact g2 i v _ d hx hd (hr i v _ hv hx)
 have hno : μ ctr = none := hh.fresh ctr (Nat.le_refl _)
 obtain ⟨hlen, hn⟩ := hn
 have hkm : BS (Bx μ h) w w' := ⟨hb.size, fun b hb' _ => hb.block b hb'⟩
 have hsub : ∀ id x, AF id ((ctr, A6.row e sz elems) :: h) = some x -> (id = ctr /\ x = .row e sz elems) \/ AF id h = some x := by
  intro id x hx
  simp only [AF] at hx
  split at hx
  .cases hx; exact .inl ⟨‹_›, rfl⟩
  exact .inr hx
 have hold : ∀ id x lc, AF id ((ctr, A6.row e sz elems) :: h) = some x -> id ≠ ctr -> μ id = some lc -> lc.nil = false -> w'.heap[lc.b]? = w.heap[lc.b]? := by
  intro id x lc hx hne hm hnl
  rcases hsub id x hx with ⟨rfl, _⟩ | hx
  .exact absurd rfl hne
  exact hb.block _ (hh.base id x lc hx hm hnl).1
 have fin : ∀ (loc : BT), (loc.nil = false -> loc.b < w'.heap.size /\ w.heap.size <= loc.b) ->
   (∀ O' : Nat -> Prop, Dd O' (Bu μ ctr loc) w' loc (.row e sz elems)) ->
   (∀ O', AX O' (Bu μ ctr loc) w' v (.lsl ctr sz 0 elems.length)) ->
   ∃ u l h' c' μ', en = .returned u /\ K l h' c' /\ HRel A μ' h' (Fr c') w' /\ AX (Ad A μ' h') μ' w' u l /\ ∀ v x, AX (Ad A μ h) μ w v x -> AX (Ad A μ' h') μ' w' v x := by
  intro loc hloc ho hu
  have hfr : Lw μ h ((ctr, A6.row e sz elems) :: h) w loc := fun hn => .inl (hloc hn).2
  have hown := hh.sub_add loc (.row e sz elems) ((ctr, .row e sz elems) :: h) hfr hsub
  have hadd := hh.add (w' := w') hno loc (.row e sz elems) ((ctr, .row e sz elems) :: h) (fun hn => (hloc hn).1) hfr hsub hkm hold hb.os hb.tape hb.output (ho _)
  exact ⟨v, _, _, _, _, he, hK, hadd.less (fun id hid => by simp only [Fr] at hid ⊢; omega), hu _, fun v x hv => hv.mono hkm.own hown (I3 hno loc)⟩
 rcases hn with ⟨rfl, rfl⟩ | ⟨a, b, o, cap, c, rfl, h1, h2, h3, h4, h5, h6, h7, h8, h9, h10⟩
 .exact fin ⟨true, 0, 0, sz, 0⟩ (fun hn => by cases hn) (fun O' => ⟨rfl, hlen, .inl ⟨rfl, rfl⟩⟩) (fun O' => .lsln ctr ⟨true, 0, 0, sz, 0⟩ (by simp [Bu]) rfl)
 refine fin ⟨false, b, o, sz, cap⟩ (fun _ => ⟨h2, h1⟩) (fun O' => ⟨rfl, hlen, .inr ⟨rfl, c, h6, h7, h8, h9, fun i j x d u hx hd hu => ?_⟩⟩) (fun O' => ?_)
 .exact (h10 i j x d u hx hd hu).flat (hfl x (List.mem_of_getElem? hx) d (List.mem_of_getElem? hd)) _ _
 exact .lsl ctr 0 elems.length cap a ⟨false, b, o, sz, cap⟩ (by simp [Bu]) rfl (by simp) h8 (fun hc => by rw [h3 hc]; simp) h4 h5
end
section
variable {P : Program} {A : BG} {AB : A1} {α : Type} {enc : α -> List DV} {nt : Nat} {sl : List (Nat × LV)} {h : AL} {c d : Nat} {f : St -> Prop} {hf : Hu f}
theorem Sc {fo : Operand} {args : Array Operand} {ts : Array TypeId} {k e sz : Nat} {caps ls : List LV} {ds : List DV} {r : List α} (hF : E9 P k ds e sz (r.map enc)) (hfl : ∀ x : α, (enc x).all (·.flat) = true)
  (hfn : BI nt sl fo = .fn k caps) (hl : DT nt sl args.toList some = some ls) (hds : Bn h (ls ++ caps) = some ds)
  (kk : f ⟨nt, (d, .lsl c sz 0 r.length) :: sl, (c, .row e sz (r.map enc)) :: h, c + 1⟩) : BK P A AB ⟨nt, sl, h, c⟩ (some d) (.call ⟨.value fo, args, ts⟩) ⟨f, hf⟩ := by
 rw [BP (h := h) (c := c)] at hfn
 show LZ _ _
 rw [hfn]
 show Hx P A h c k (args.toList.map _ ++ caps) _
 rw [Ek hl]
 refine C2.ownF hds hF (fun x hx d hd => ?_) ?_
 .obtain ⟨a, _, rfl⟩ := List.mem_map.1 hx
  exact List.all_eq_true.1 (hfl a) d hd
 rw [List.length_map]
 exact kk
end
noncomputable def NV {α β : Type} (F : (α -> Option β) -> α -> Option β) (n : Nat) : α -> Option β := Nat.rec (fun _ => none) (fun _ ih => F ih) n
theorem recF_holds {α β : Type} {F : (α -> Option β) -> α -> Option β} {C : α -> β -> Prop} (h : ∀ rec : α -> Option β, (∀ a r, rec a = some r -> C a r) -> ∀ a r, F rec a = some r -> C a r) : ∀ n a r, NV F n a = some r -> C a r
 | 0, a, r, e => by cases e
 | n + 1, a, r, e => h (NV F n) (recF_holds h n) a r e
end Go.E
/- Drawn regions of which the orders do not all come to one by waiting: a tree of orders. No condition. -/
namespace Go.E
open Go Go.RowKit
inductive HY where
 | done
 | nil
 | picks (l : List Nat) (t : HY)
 | alt (i : Nat) (l : List Nat) (t r : HY)
def Kg (listed : Array Bool) : List Nat -> Array Bool
 | [] => listed
 | i :: l => Kg (listed.setIfInBounds i true) l
def Hs (q w : Bool) (md : Region.Mode) (ops : Array Oper) : List Nat -> Array Bool -> Bool
 | [], _ => true
 | i :: rest, listed => (match ops[i]? with
  | none => false
  | some oi => (Region.ready md ops listed == [i]) || ((Region.ready md ops listed).contains i && Nx q w md ops listed i oi (L4 md ops listed i))) &&
  Hs q w md ops rest (listed.setIfInBounds i true)
def HY.heads : HY -> List Nat
 | .alt i _ _ r => i :: r.heads
 | _ => []
def Jq (q w : Bool) (md : Region.Mode) (ops : Array Oper) : HY -> Bool -> Array Bool -> Nat -> Bool
 | .done, b, listed, n => !b && (Region.ready md ops listed).isEmpty && n == 0
 | .nil, b, _, _ => b
 | .picks l t, b, listed, n => !b && Hs q w md ops l listed && decide (l.length <= n) && Jq q w md ops t false (Kg listed l) (n - l.length)
 | .alt i l t r, b, listed, n => (b || decide (0 < n) && !(Region.ready md ops listed).isEmpty && (Region.ready md ops listed).all fun j => (i :: r.heads).contains j) &&
   (decide (i < ops.size) && Hs q w md ops l (listed.setIfInBounds i true) && decide (l.length <= (bif b then n else n - 1)) &&
    Jq q w md ops t false (Kg (listed.setIfInBounds i true) l) ((bif b then n else n - 1) - l.length) && Jq q w md ops r true listed (bif b then n else n - 1))
section
variable (P : Program) (A : BG) (AB : A1) (base n : Nat) (K : St -> Prop) (ops : List Oper)
def Lv : HY -> St -> Prop
 | .done, st => K st
 | .nil, _ => True
 | .picks l t, st => C4 P A AB base n ⟨Lv t, ⟨⟩⟩ (Eb ops l) st
 | .alt i l t r, st => C4 P A AB base n ⟨Lv t, ⟨⟩⟩ (Eb ops (i :: l)) st /\ Lv r st
end
section
variable {P : Program} {A : BG} {AB : A1} {md : Region.Mode} {base : Nat} {K : St -> Prop}
theorem Rg {ops : List Oper} {n : Nat} {l : List Nat} {t : HY} {st : St} (k : C4 P A AB base n ⟨Lv P A AB base n K ops t, ⟨⟩⟩ (Eb ops l) st) : Lv P A AB base n K ops (.picks l t) st := k
theorem BX {ops : List Oper} {n : Nat} {i : Nat} {l : List Nat} {t r : HY} {st : St} (k : C4 P A AB base n ⟨Lv P A AB base n K ops t, ⟨⟩⟩ (Eb ops (i :: l)) st) (k' : Lv P A AB base n K ops r st) : Lv P A AB base n K ops (.alt i l t r) st := ⟨k, k'⟩
theorem CN {ops : List Oper} {n c c' nt : Nat} {sl : List (Nat × LV)} {h : AL} {S : St} (k : BB A ⟨nt, sl, h, c + n⟩ S) : Lv P A AB c n (fun st => BB A { st with ctr := c + n } S) ops .done ⟨nt, sl, h, c'⟩ := k
theorem DE {ops : List Oper} {n : Nat} {st : St} : Lv P A AB base n K ops .nil st := trivial
theorem Oz {q w : Bool} {ops : Array Oper} : ∀ {l : List Nat} {listed : Array Bool}, Hs q w md ops l listed = true -> ∀ i ∈ l, i < ops.size
 | [], _, _, i, hi => by simp at hi
 | j :: l, listed, h, i, hi => by
  simp only [Hs, Bool.and_eq_true] at h
  rcases List.mem_cons.1 hi with rfl | hi
  .cases ho : ops[i]? with
   | none => rw [ho] at h; simp at h
   | some o => exact (Array.getElem?_eq_some_iff.1 ho).1
  exact Oz h.2 i hi
theorem Mi (q : Bool) (hq : q = true -> ∃ b, AB.calm = some b) {ops : Array Oper} {T Q : St -> Prop} (fuel : Nat) : ∀ (l : List Nat) (listed : Array Bool) (st : St), Hs q AB.own md ops l listed = true -> (∀ k, listed.getD k true = false -> AF (base + k) st.heap = none) ->
  (∀ st', (∀ k, (Kg listed l).getD k true = false -> AF (base + k) st'.heap = none) -> T st' -> Ha P AB md ops base Q fuel (Kg listed l) st') ->
  F3 P AB ops base T l st -> Ha P AB md ops base Q (l.length + fuel) listed st
 | [], listed, st, _, hfresh, hT, h => by
  rw [List.length_nil, Nat.zero_add]
  exact hT st hfresh h
 | i :: rest, listed, st, hok, hfresh, hT, h => by
  obtain ⟨o, l, e, ho, hd, hrest⟩ := L5 h
  simp only [Hs, ho, Bool.and_eq_true, Bool.or_eq_true] at hok
  have hrec : Ha P AB md ops base Q (rest.length + fuel) (listed.setIfInBounds i true) (apS st (base + i) o l e) := by
   refine Mi q hq fuel rest _ _ hok.2 (fun k hk => ?_) hT hrest
   have hik : i ≠ k := by
    rintro rfl
    rcases Nat.lt_or_ge i listed.size with h' | h'
    .simp [h'] at hk
    simp [Array.getElem?_eq_none h'] at hk
   rw [Bf]
   exact Kj hd (by simp only [St.at]; omega) (hfresh k (by rw [getD_set_ne true hik] at hk; exact hk))
  rw [show (i :: rest).length + fuel = rest.length + fuel + 1 by simp; omega]
  rcases hok.1 with h1 | h1
  .have hr : Region.ready md ops listed = [i] := by simpa using h1
   refine ⟨fun h0 => (by rw [hr] at h0; cases h0), fun j hj => ?_⟩
   rw [hr] at hj
   simp at hj
   subst hj
   exact ⟨o, l, e, ho, hd, hrec⟩
  obtain ⟨h1, h2⟩ := h1
  simp only [Nx, Bool.and_eq_true, List.all_eq_true, List.mem_range] at h2
  obtain ⟨h2, h3⟩ := h2
  generalize hBe : L4 md ops listed i = B at h2 h3
  refine O9 q hq ho (fun j => B.contains j) (fun j hj => ?_) (rest.length + fuel) listed st (fun j hj => ?_) (fun j oj hoj hji hun hBj => ?_) hfresh (by simpa using h1) hd hrec
  .have := h2 j (by simpa using hj)
   obtain ⟨⟨a1, a2⟩, a3⟩ := this
   refine ⟨by simpa using a1, fun oj hoj => ?_⟩
   rw [hoj] at a3
   obtain ⟨x, hx, hx2⟩ := Array.any_eq_true'.1 a3
   simp only [Bool.and_eq_true, Bool.or_eq_true, beq_iff_eq] at hx2
   exact ⟨x, hx, hx2.1, hx2.2⟩
  .have := (h2 j (by simpa using hj)).1.2
   simpa using this
  have := h3 j (Array.getElem?_eq_some_iff.1 hoj).1
  simp only [Bool.or_eq_true, beq_iff_eq, hji, false_or, hun, Bool.false_eq_true] at this
  rw [hBj] at this
  simp only [Bool.false_eq_true, false_or, hoj, Bool.and_eq_true] at this
  refine ⟨this.1, this.2.1, fun ho => ?_⟩
  have := this.2.2
  rw [ho] at this; simpa using this
theorem Jh (q : Bool) (hq : q = true -> ∃ b, AB.calm = some b) {ops : List Oper} : ∀ (T : HY) (listed : Array Bool) (st : St) (n : Nat), (∀ k, listed.getD k true = false -> AF (base + k) st.heap = none) -> Lv P A AB base ops.length K ops T st ->
  (Jq q AB.own md ops.toArray T false listed n = true -> Ha P AB md ops.toArray base K n listed st) /\
  (Jq q AB.own md ops.toArray T true listed n = true -> ∀ i ∈ T.heads, ∃ o l e, ops.toArray[i]? = some o /\ Cs P AB ops.toArray (st.at (base + i)) o l e /\ Ha P AB md ops.toArray base K n (listed.setIfInBounds i true) (apS st (base + i) o l e))
 | .done, listed, st, n, hfresh, h => by
  refine ⟨fun hok => ?_, fun hok => by simp [Jq] at hok⟩
  simp only [Jq, Bool.not_false, Bool.true_and, Bool.and_eq_true, beq_iff_eq, List.isEmpty_iff] at hok
  obtain ⟨h1, rfl⟩ := hok
  exact ⟨h1, st, Fd.refl st, h⟩
 | .nil, listed, st, n, hfresh, h => ⟨fun hok => by simp [Jq] at hok, fun _ i hi => by simp [HY.heads] at hi⟩
 | .picks l t, listed, st, n, hfresh, h => by
  refine ⟨fun hok => ?_, fun hok => by simp [Jq] at hok⟩
  simp only [Jq, Bool.not_false, Bool.true_and, Bool.and_eq_true, decide_eq_true_eq] at hok
  obtain ⟨⟨h1, h2⟩, h3⟩ := hok
  have hb : (l.all fun i => decide (i < ops.length)) = true := List.all_eq_true.2 fun i hi => by simpa using Oz h1 i hi
  have := Mi q hq (md := md) (Q := K) (n - l.length) l listed st h1 hfresh (fun st' hf' hT => ?_) (GM l st hb h)
  .rwa [show l.length + (n - l.length) = n by omega] at this
  refine L3 _ _ { st' with ctr := base + ops.length } _ ⟨rfl, fun _ => rfl, fun _ => rfl⟩ ?_
  exact (Jh q hq t (Kg listed l) { st' with ctr := base + ops.length } (n - l.length) hf' hT).1 h3
 | .alt i l t r, listed, st, n, hfresh, ⟨h, h'⟩ => by
  have key : ∀ m, (decide (i < ops.toArray.size) && Hs q AB.own md ops.toArray l (listed.setIfInBounds i true) && decide (l.length <= m) && Jq q AB.own md ops.toArray t false (Kg (listed.setIfInBounds i true) l) (m - l.length) && Jq q AB.own md ops.toArray r true listed m) = true ->
    ∀ j ∈ i :: r.heads, ∃ o l e, ops.toArray[j]? = some o /\ Cs P AB ops.toArray (st.at (base + j)) o l e /\ Ha P AB md ops.toArray base K m (listed.setIfInBounds j true) (apS st (base + j) o l e) := by
   intro m hok j hj
   simp only [Bool.and_eq_true, decide_eq_true_eq] at hok
   obtain ⟨⟨⟨⟨h0, h1⟩, h2⟩, h3⟩, h4⟩ := hok
   rcases List.mem_cons.1 hj with rfl | hj
   .have hb : ((j :: l).all fun i => decide (i < ops.length)) = true := List.all_eq_true.2 fun i hi => by
     rcases List.mem_cons.1 hi with rfl | hi
     .simpa using h0
     simpa using Oz h1 i hi
    obtain ⟨o, lv, e, ho, hd, hrest⟩ := L5 (GM (j :: l) st hb h)
    refine ⟨o, lv, e, ho, hd, ?_⟩
    have := Mi q hq (md := md) (Q := K) (m - l.length) l (listed.setIfInBounds j true) (apS st (base + j) o lv e) h1 (fun k hk => ?_) (fun st' hf' hT => ?_) hrest
    .rwa [show l.length + (m - l.length) = m by omega] at this
    .have hik : j ≠ k := by
      rintro rfl
      rcases Nat.lt_or_ge j listed.size with h' | h'
      .simp [h'] at hk
      simp [Array.getElem?_eq_none h'] at hk
     rw [Bf]
     exact Kj hd (by simp only [St.at]; omega) (hfresh k (by rw [getD_set_ne true hik] at hk; exact hk))
    refine L3 _ _ { st' with ctr := base + ops.length } _ ⟨rfl, fun _ => rfl, fun _ => rfl⟩ ?_
    exact (Jh q hq t _ { st' with ctr := base + ops.length } (m - l.length) hf' hT).1 h3
   exact (Jh q hq r listed st m hfresh h').2 h4 j hj
  refine ⟨fun hok => ?_, fun hok => ?_⟩
  .rw [Jq, Bool.false_or] at hok
   obtain ⟨h1, h2⟩ := Bool.and_eq_true_iff.1 hok
   simp only [Bool.and_eq_true, decide_eq_true_eq, Bool.not_eq_true', List.all_eq_true] at h1
   obtain ⟨⟨h3, h4⟩, h5⟩ := h1
   obtain ⟨m, rfl⟩ : ∃ m, n = m + 1 := ⟨n - 1, by omega⟩
   refine ⟨fun h0 => by rw [h0] at h4; simp at h4, fun j hj => ?_⟩
   exact key m (by simpa using h2) j (by simpa using h5 j hj)
  simp only [Jq, Bool.true_or, Bool.true_and, cond_true] at hok
  exact key n hok
theorem Wp (hE : A4 P AB) (hm : P.follows .mixedOrders = true) {id : Nat} {ops : List Oper} {Q : Exit -> St -> Prop} {nt : Nat} {sl : List (Nat × LV)} {h : AL} {c : Nat} (T : HY) (n : Nat) (S : St)
  (hok : Jq false AB.own .any ops.toArray T false (Array.replicate ops.length false) ops.length = true) (hn : Nat.beq ops.length n = true)
  (k : Lv P A AB c n (fun st => BB A { st with ctr := c + n } S) ops T ⟨nt, sl, h, c⟩) (kk : Q .normal S) : Bz P A (.region id ops.toArray true) Q ⟨nt, sl, h, c⟩ := fun a w hR => by
 have hn' := Nat.eq_of_beq_eq_true hn
 subst hn'
 refine wp_region_any hm ?_
 have hR' := (hR.drawn (w.drawn + 1)).toRF
 have hfr : ∀ k, AF (c + k) h = none := by
  intro k
  cases hx : AF (c + k) h with
  | none => rfl
  | some o =>
   obtain ⟨⟨μ, hh, _⟩, _, _⟩ := hR
   obtain ⟨loc, h1, _⟩ := hh.obj _ _ hx
   rw [hh.fresh _ (by simp [Fr])] at h1; cases h1
 have hD := (Jh false (fun h => by cases h) (md := .any) T (Array.replicate ops.length false) ⟨nt, sl, h, c⟩ ops.length (fun k _ => hfr k) k).1 hok
 rw [show ops.toArray.size = ops.length by simp]
 refine HL (A := A) (n := ops.length) hE (by simp) (fun st' a' w' listed hk hR'' => ?_) ops.length _ ⟨nt, sl, h, c⟩ a _ (by simp) hD ?_
 .refine ⟨S, ?_, kk⟩
  obtain ⟨⟨μ, x1, x2⟩, x3, x4⟩ := hR''
  exact hk a' w' ⟨⟨μ, x1.less fun id hid => .inl hid, x2⟩, x3, x4⟩
 obtain ⟨⟨μ, x1, x2⟩, x3, x4⟩ := hR'
 refine ⟨⟨μ, x1.less fun id hid => ?_, x2⟩, x3, x4⟩
 rcases hid with hid | ⟨k, _, _, rfl⟩
 .simp only [Fr]; omega
 simp [Fr]
theorem ZR (hE : A4 P AB) (hm : P.follows .mixedOrders = true) {id : Nat} {ops : List Oper} {Q : Exit -> St -> Prop} {nt : Nat} {sl : List (Nat × LV)} {h : AL} {c : Nat} (T : HY) (n : Nat) (S : St)
  (hq : AB.calm.isSome = true) (hok : Jq true AB.own .any ops.toArray T false (Array.replicate ops.length false) ops.length = true) (hn : Nat.beq ops.length n = true)
  (k : Lv P A AB c n (fun st => BB A { st with ctr := c + n } S) ops T ⟨nt, sl, h, c⟩) (kk : Q .normal S) : Bz P A (.region id ops.toArray true) Q ⟨nt, sl, h, c⟩ := fun a w hR => by
 have hn' := Nat.eq_of_beq_eq_true hn
 subst hn'
 refine wp_region_any hm ?_
 have hR' := (hR.drawn (w.drawn + 1)).toRF
 have hfr : ∀ k, AF (c + k) h = none := by
  intro k
  cases hx : AF (c + k) h with
  | none => rfl
  | some o =>
   obtain ⟨⟨μ, hh, _⟩, _, _⟩ := hR
   obtain ⟨loc, h1, _⟩ := hh.obj _ _ hx
   rw [hh.fresh _ (by simp [Fr])] at h1; cases h1
 have hD := (Jh true (fun _ => Option.isSome_iff_exists.1 hq) (md := .any) T (Array.replicate ops.length false) ⟨nt, sl, h, c⟩ ops.length (fun k _ => hfr k) k).1 hok
 rw [show ops.toArray.size = ops.length by simp]
 refine HL (A := A) (n := ops.length) hE (by simp) (fun st' a' w' listed hk hR'' => ?_) ops.length _ ⟨nt, sl, h, c⟩ a _ (by simp) hD ?_
 .refine ⟨S, ?_, kk⟩
  obtain ⟨⟨μ, x1, x2⟩, x3, x4⟩ := hR''
  exact hk a' w' ⟨⟨μ, x1.less fun id hid => .inl hid, x2⟩, x3, x4⟩
 obtain ⟨⟨μ, x1, x2⟩, x3, x4⟩ := hR'
 refine ⟨⟨μ, x1.less fun id hid => ?_, x2⟩, x3, x4⟩
 rcases hid with hid | ⟨k, _, _, rfl⟩
 .simp only [Fr]; omega
 simp [Fr]
end
end Go.E
/- Ad objects handed to a function that turns them: its contract (C2 of the objects alone), and its use among other objects (T0, Cu). No condition. -/
namespace Go.E
open Go Go.RowKit
def Kx (ρ : Nat -> Nat) : LV -> LV
 | .lsl id sz off len => .lsl (ρ id) sz off len
 | .lpb id off => .lpb (ρ id) off
 | .lpe id i off => .lpe (ρ id) i off
 | .lmap id => .lmap (ρ id)
 | x => x
def Yh : LV -> Option Nat
 | .lsl id _ _ _ => some id
 | .lpb id _ => some id
 | .lpe id _ _ => some id
 | .lmap id => some id
 | _ => none
def Yi : LV -> Bool
 | .p _ => true
 | .lsl _ _ _ _ => true
 | .lpb _ _ => true
 | .lpe _ _ _ => true
 | .lmap _ => true
 | .und => true
 | .any => true
 | _ => false
def Lo (ρ : Nat -> Nat) : A6 -> A6
 | .box cs => .box (cs.map (Kx ρ))
 | o => o
def Lp (gl : List (Nat × Nat)) (m : Nat) (l : LV) : Bool := Yi l && (match Yh l with
 | none => true
 | some i => Nat.ble m i || (AF i gl).isSome)
def Sd (gl : List (Nat × Nat)) (m : Nat) : A6 -> Bool
 | .box cs => cs.all (Lp gl m)
 | _ => true
def Yj (ρ : Nat -> Nat) : LV -> LV
 | .agg l => .agg (l.map (Kx ρ))
 | l => Kx ρ l
def Yk (gl : List (Nat × Nat)) (m : Nat) : LV -> Bool
 | .agg l => l.all (Lp gl m)
 | l => Lp gl m l
def Se (ρ : Nat -> Nat) : LV -> LV
 | .tup l => .tup (l.map (Yj ρ))
 | l => Yj ρ l
def Vq (gl : List (Nat × Nat)) (m : Nat) : LV -> Bool
 | .tup l => l.all (Yk gl m)
 | l => Yk gl m l
def E5 (ρ : Nat -> Nat) : AL -> AL
 | [] => []
 | (i, o) :: h => (ρ i, Lo ρ o) :: E5 ρ h
def B4 (gl : List (Nat × Nat)) (m c i : Nat) : Nat := match AF i gl with
 | some j => j
 | none => c + (i - m)
def KZ (ρ : Nat -> Nat) (h : AL) : AL -> Prop
 | [] => True
 | (i, o) :: r => AF (ρ i) h = some (Lo ρ o) /\ KZ ρ h r
def QO (gl : List (Nat × Nat)) (m m1 : Nat) (H H1 : AL) : Bool :=
 Nat.ble m m1 && H.all (fun p => Nat.ble (p.1 + 1) m && (AF p.1 gl).isSome && Sd gl m p.2) && gl.all (fun p => (AF p.1 H).isSome && gl.all fun q => p.1 == q.1 || p.2 != q.2) && H1.all (fun p => (Nat.ble m p.1 || (AF p.1 gl).isSome) && Sd gl m p.2)
theorem Du {α : Type} {i : Nat} {o : α} : ∀ {l : List (Nat × α)}, AF i l = some o -> (i, o) ∈ l
 | [], h => by simp [AF] at h
 | (k, v) :: l, h => by
  unfold AF at h
  split at h
  .rename_i e; cases h; subst e; simp
  exact List.mem_cons_of_mem _ (Du h)
theorem OO {ρ : Nat -> Nat} {h : AL} {i : Nat} {o : A6} : ∀ {H : AL}, KZ ρ h H -> AF i H = some o -> AF (ρ i) h = some (Lo ρ o)
 | [], _, hl => by simp [AF] at hl
 | (k, v) :: H, hk, hl => by
  unfold AF at hl
  split at hl
  .rename_i e; cases hl; subst e; exact hk.1
  exact OO hk.2 hl
theorem Om {ρ : Nat -> Nat} {id : Nat} {o : A6} : ∀ {H : AL}, AF id (E5 ρ H) = some o -> ∃ i o1, AF i H = some o1 /\ ρ i = id /\ o = Lo ρ o1
 | [], h => by simp [E5, AF] at h
 | (k, v) :: H, h => by
  unfold E5 AF at h
  split at h
  .rename_i e; cases h; exact ⟨k, v, by simp [AF], e.symm, rfl⟩
  rename_i e
  obtain ⟨i, o1, h1, h2, h3⟩ := Om h
  refine ⟨i, o1, ?_, h2, h3⟩
  unfold AF
  rw [if_neg (fun e2 => e (by rw [<- h2, e2]))]
  exact h1
theorem Sf {α : Type} {id : Nat} {o : α} : ∀ {a b : List (Nat × α)}, AF id (a ++ b) = some o -> AF id a = some o \/ AF id b = some o
 | [], b, h => .inr h
 | (k, v) :: a, b, h => by
  rw [List.cons_append] at h
  have e1 : ∀ l : List (Nat × α), AF id ((k, v) :: l) = if id = k then some v else AF id l := fun _ => rfl
  rw [e1] at h
  by_cases e : id = k
  .rw [if_pos e] at h; rw [e1, if_pos e]; exact .inl h
  rw [if_neg e] at h; rw [e1, if_neg e]; exact Sf h
section
variable {O : Nat -> Prop} {μ μ' : Nat -> Option BT} {w : World} {ρ : Nat -> Nat}
theorem T1 {v : Value} {l : LV} (hf : Yi l = true) (hμ : ∀ i loc, Yh l = some i -> μ (ρ i) = some loc -> μ' i = some loc) (h : AX O μ w v (Kx ρ l)) : AX O μ' w v l := by
 cases l with
 | p d => cases h with | p _ _ h => exact .p _ _ h
 | lsl id sz off len =>
  cases h with
  | lsln _ loc hm hn => exact .lsln id loc (hμ _ _ rfl hm) hn
  | lsl _ _ _ cap a loc hm hn hcap hl ha hb hs => exact .lsl id off len cap a loc (hμ _ _ rfl hm) hn hcap hl ha hb hs
 | lpb id off => cases h with | lpb _ _ loc hm hn => exact .lpb id off loc (hμ _ _ rfl hm) hn
 | lpe id i off => cases h with | lpe _ _ _ loc hm hn => exact .lpe id i off loc (hμ _ _ rfl hm) hn
 | lmap id => cases h with | lmap _ loc hm hn => exact .lmap id loc (hμ _ _ rfl hm) hn
 | und => cases h; exact .und
 | any => exact .any v
 | agg l => cases hf
 | tup l => cases hf
 | fn f l => cases hf
theorem Sg {v : Value} {l : LV} (hf : Yi l = true) (hμ : ∀ i loc, Yh l = some i -> μ' i = some loc -> μ (ρ i) = some loc) (h : AX O μ' w v l) : AX O μ w v (Kx ρ l) := by
 cases l with
 | p d => cases h with | p _ _ h => exact .p _ _ h
 | lsl id sz off len =>
  cases h with
  | lsln _ loc hm hn => exact .lsln _ loc (hμ _ _ rfl hm) hn
  | lsl _ _ _ cap a loc hm hn hcap hl ha hb hs => exact .lsl _ off len cap a loc (hμ _ _ rfl hm) hn hcap hl ha hb hs
 | lpb id off => cases h with | lpb _ _ loc hm hn => exact .lpb _ off loc (hμ _ _ rfl hm) hn
 | lpe id i off => cases h with | lpe _ _ _ loc hm hn => exact .lpe _ i off loc (hμ _ _ rfl hm) hn
 | lmap id => cases h with | lmap _ loc hm hn => exact .lmap _ loc (hμ _ _ rfl hm) hn
 | und => cases h; exact .und
 | any => exact .any v
 | agg l => cases hf
 | tup l => cases hf
 | fn f l => cases hf
theorem X2 {gl : List (Nat × Nat)} {m : Nat} {loc : BT} {o : A6} (hf : Sd gl m o = true) (hμ : ∀ i lc, (m <= i \/ ∃ j, AF i gl = some j) -> μ (ρ i) = some lc -> μ' i = some lc) (h : Dd O μ w loc (Lo ρ o)) : Dd O μ' w loc o := by
 cases o with
 | row e sz el => exact h
 | map mp => exact h
 | iter cur left => exact h
 | box cs =>
  obtain ⟨hn, c, t, h1, h2, h3⟩ := h
  refine ⟨hn, c, t, h1, by simpa using h2, fun i v l hv hl => ?_⟩
  have hok := List.all_eq_true.1 hf l (List.mem_of_getElem? hl)
  simp only [Lp, Bool.and_eq_true] at hok
  refine T1 hok.1 (fun j lc hj hm => hμ j lc ?_ hm) (h3 i v _ hv (by rw [List.getElem?_map, hl]; rfl))
  have h4 := hok.2
  rw [hj] at h4
  simp only [Bool.or_eq_true, Nat.ble_eq] at h4
  exact h4.imp (fun x => x) fun h5 => Option.isSome_iff_exists.1 h5
theorem Ww {gl : List (Nat × Nat)} {m : Nat} {loc : BT} {o : A6} (hf : Sd gl m o = true) (hμ : ∀ i lc, (m <= i \/ ∃ j, AF i gl = some j) -> μ' i = some lc -> μ (ρ i) = some lc) (h : Dd O μ' w loc o) : Dd O μ w loc (Lo ρ o) := by
 cases o with
 | row e sz el => exact h
 | map mp => exact h
 | iter cur left => exact h
 | box cs =>
  obtain ⟨hn, c, t, h1, h2, h3⟩ := h
  refine ⟨hn, c, t, h1, by simpa using h2, fun i v l hv hl => ?_⟩
  rw [List.getElem?_map] at hl
  cases hc : cs[i]? with
  | none => rw [hc] at hl; cases hl
  | some x =>
   rw [hc] at hl
   cases hl
   have hok := List.all_eq_true.1 hf x (List.mem_of_getElem? hc)
   simp only [Lp, Bool.and_eq_true] at hok
   refine Sg hok.1 (fun j lc hj hm => hμ j lc ?_ hm) (h3 i v x hv hc)
   have h4 := hok.2
   rw [hj] at h4
   simp only [Bool.or_eq_true, Nat.ble_eq] at h4
   exact h4.imp (fun x => x) fun h5 => Option.isSome_iff_exists.1 h5
end
section
variable {P : Program}
theorem T2 {k : Nat} {H H1 : AL} {m m1 : Nat} {ls : List LV} {L : LV} (hM : ∀ A : BG, (∀ id, A.μ0 id ≠ none -> id < m) -> C2 P A H m k ls (fun l h c => l = L /\ h = H1 /\ c = m1))
  (gl : List (Nat × Nat)) {A : BG} {h : AL} {c : Nat} {F : Nat -> Prop} (hF : ∀ q, c <= q -> F q) (hB : QO gl m m1 H H1 = true) (hobj : KZ (B4 gl m c) h H) (hls : ls.all (Lp gl m) = true) (hL : Vq gl m L = true)
  {μ : Nat -> Option BT} {w : World} {vs : Array Value} (hh : HRel A μ h F w) (hsz : vs.size = ls.length) (hr : ∀ (i : Nat) (v : Value) (x : LV), vs[i]? = some v -> (ls.map (Kx (B4 gl m c)))[i]? = some x -> AX (Ad A μ h) μ w v x) :
  Calls P k vs w fun en w' => ∃ u μ', en = .returned u /\ HRel A μ' (E5 (B4 gl m c) H1 ++ B1 (gl.map (·.2)) h) (fun q => F q /\ (q < c \/ c + (m1 - m) <= q)) w' /\ AX (Ad A μ' (E5 (B4 gl m c) H1 ++ B1 (gl.map (·.2)) h)) μ' w' u (Se (B4 gl m c) L) /\ ∀ v x, AX (Ad A μ h) μ w v x -> AX (Ad A μ' (E5 (B4 gl m c) H1 ++ B1 (gl.map (·.2)) h)) μ' w' v x := by
 simp only [QO, Bool.and_eq_true, List.all_eq_true, Nat.ble_eq, Bool.or_eq_true, beq_iff_eq, bne_iff_ne] at hB
 obtain ⟨⟨⟨hm, hH⟩, hgl⟩, hH1⟩ := hB
 have key : ∀ i o, AF i H = some o -> i < m /\ (∃ j, AF i gl = some j) /\ Sd gl m o = true := fun i o hl => by
  obtain ⟨⟨h1, h2⟩, h3⟩ := hH _ (Du hl)
  exact ⟨h1, Option.isSome_iff_exists.1 h2, h3⟩
 have gkey : ∀ i j, AF i gl = some j -> ∃ o, AF i H = some o := fun i j hl => Option.isSome_iff_exists.1 (hgl _ (Du hl)).1
 have ginj : ∀ i i' j, AF i gl = some j -> AF i' gl = some j -> i = i' := fun i i' j h1 h2 => by
  have := (hgl _ (Du h1)).2 _ (Du h2)
  rcases this with h | h
  .exact h
  exact absurd rfl h
 have rg : ∀ i j, AF i gl = some j -> B4 gl m c i = j := fun i j hl => by unfold B4; rw [hl]
 have rn : ∀ i, m <= i -> B4 gl m c i = c + (i - m) := fun i hi => by
  unfold B4
  cases hl : AF i gl with
  | none => rfl
  | some j =>
   obtain ⟨o, ho⟩ := gkey i j hl
   have := (key i o ho).1
   omega
 have hlt : ∀ id loc, μ id = some loc -> id < c := by
  intro id loc hm'
  by_cases hi : id < c
  .exact hi
  rw [hh.fresh id (hF id (by omega))] at hm'; cases hm'
 let μ' : Nat -> Option BT := fun i => match AF i gl with | some j => μ j | none => none
 have μg : ∀ i j, AF i gl = some j -> μ' i = μ j := fun i j hl => by simp only [μ', hl]
 have μlt : ∀ i loc, μ' i = some loc -> ∃ j, AF i gl = some j /\ μ j = some loc := by
  intro i loc hi
  cases hl : AF i gl with
  | none => simp only [μ', hl] at hi; cases hi
  | some j => exact ⟨j, rfl, by rw [<- μg i j hl]; exact hi⟩
 have hobj' : ∀ i o, AF i H = some o -> ∃ j, AF i gl = some j /\ AF j h = some (Lo (B4 gl m c) o) := fun i o hl => by
  obtain ⟨_, ⟨j, hj⟩, _⟩ := key i o hl
  have := OO hobj hl
  rw [rg i j hj] at this
  exact ⟨j, hj, this⟩
 have mine : ∀ b, Bx μ' H b -> Bx μ h b /\ ∃ i j o loc, AF i H = some o /\ AF i gl = some j /\ AF j h = some (Lo (B4 gl m c) o) /\ μ j = some loc /\ loc.nil = false /\ loc.b = b := by
  rintro b ⟨i, o, loc, h1, h2, h3, h4⟩
  obtain ⟨j, hj, hj2⟩ := hobj' i o h1
  rw [μg i j hj] at h2
  exact ⟨⟨j, _, loc, hj2, h2, h3, h4⟩, i, j, o, loc, h1, hj, hj2, h2, h3, h4⟩
 have ownlt : ∀ b, Ad A μ h b -> b < w.heap.size := by
  rintro b (hb | ⟨id, o, loc, h1, h2, h3, rfl⟩)
  .exact Nat.lt_of_lt_of_le (A.hO b hb).1 hh.size
  exact (hh.base id o loc h1 h2 h3).1
 let A' : BG := ⟨w, fun b => Ad A μ h b /\ ¬ Bx μ' H b, Bx μ' H, μ', fun b hb => ⟨ownlt b hb.1, hb.2⟩⟩
 have own1 : ∀ b, Ad A' μ' H b -> Ad A μ h b := by
  rintro b (hb | hb)
  .exact hb.1
  exact .inr (mine b hb).1
 have own2 : ∀ b, Ad A μ h b -> Ad A' μ' H b := fun b hb => by
  by_cases hc : Bx μ' H b
  .exact .inr hc
  exact .inl ⟨hb, hc⟩
 have hh' : HRel A' μ' H (Fr m) w := by
  refine ⟨?_, ?_, ?_, ?_, Nat.le_refl _, fun _ _ _ => rfl, rfl, rfl, rfl, fun _ _ hm' => hm'⟩
  .intro i o hl
   obtain ⟨j, hj, hj2⟩ := hobj' i o hl
   obtain ⟨loc, h1, h2⟩ := hh.obj j _ hj2
   refine ⟨loc, by rw [μg i j hj]; exact h1, ?_⟩
   have h3 : Dd (Ad A' μ' H) μ w loc (Lo (B4 gl m c) o) := h2.mono (BS.refl _ _) (fun b _ hb => own1 b hb) (fun _ _ h => h) (fun _ => rfl)
   refine X2 (key i o hl).2.2 (fun i' lc hi' hm' => ?_) h3
   rcases hi' with hi' | ⟨j', hj'⟩
   .rw [rn i' hi'] at hm'
    have := hlt _ _ hm'
    omega
   rw [rg i' j' hj'] at hm'
   rw [μg i' j' hj']; exact hm'
  .intro i i' o o' loc loc' h1 h2 m1' m2' n1 n2 he
   obtain ⟨j, hj, hj2⟩ := hobj' i o h1
   obtain ⟨j', hj', hj2'⟩ := hobj' i' o' h2
   rw [μg i j hj] at m1'
   rw [μg i' j' hj'] at m2'
   have := hh.inj _ _ _ _ _ _ hj2 hj2' m1' m2' n1 n2 he
   subst this
   exact ginj _ _ _ hj hj'
  .intro i hi
   cases hm' : μ' i with
   | none => rfl
   | some loc =>
    obtain ⟨j, hj, _⟩ := μlt i loc hm'
    obtain ⟨o, ho⟩ := gkey i j hj
    have := (key i o ho).1
    simp only [Fr] at hi; omega
  intro i o loc h1 h2 h3
  have hmine : Bx μ' H loc.b := ⟨i, o, loc, h1, h2, h3, rfl⟩
  exact ⟨ownlt _ (.inr (mine _ hmine).1), fun hb => hb.2 hmine, .inr hmine⟩
 have hargs : ∀ (i : Nat) (v : Value) (l : LV), vs[i]? = some v -> ls[i]? = some l -> AX (Ad A' μ' H) μ' w v l := by
  intro i v l hv hl
  have hok := List.all_eq_true.1 hls l (List.mem_of_getElem? hl)
  simp only [Lp, Bool.and_eq_true] at hok
  have h1 := (hr i v _ hv (by rw [List.getElem?_map, hl]; rfl)).mono (O' := Ad A' μ' H) (BS.refl _ _) (fun b _ hb => own1 b hb) (fun _ _ h => h)
  refine T1 hok.1 (fun i' lc hi' hm' => ?_) h1
  have h4 := hok.2
  rw [hi'] at h4
  simp only [Bool.or_eq_true, Nat.ble_eq] at h4
  rcases h4 with h4 | h4
  .rw [rn i' h4] at hm'
   have := hlt _ _ hm'
   omega
  obtain ⟨j', hj'⟩ := Option.isSome_iff_exists.1 h4
  rw [rg i' j' hj'] at hm'
  rw [μg i' j' hj']; exact hm'
 have hμ0 : ∀ id, A'.μ0 id ≠ none -> id < m := by
  intro id hid
  cases hm' : μ' id with
  | none => exact absurd hm' hid
  | some loc =>
   obtain ⟨j, hj, _⟩ := μlt id loc hm'
   obtain ⟨o, ho⟩ := gkey id j hj
   exact (key id o ho).1
 refine ((hM A' hμ0).2 μ' w vs hh' hsz hargs).mono ?_
 rintro e w' ⟨u, l, h1, c1, μ'', he, ⟨rfl, rfl, rfl⟩, hh2, hu, -⟩
 let μ3 : Nat -> Option BT := fun id => if id < c then μ id else μ'' (m + (id - c))
 have ext : ∀ i loc, μ' i = some loc -> μ'' i = some loc := fun i loc hi => hh2.ext i loc hi
 have μ3o : ∀ id loc, μ id = some loc -> μ3 id = some loc := fun id loc hm' => by simp only [μ3, if_pos (hlt id loc hm'), hm']
 have name : ∀ i lc, (m <= i \/ ∃ j, AF i gl = some j) -> μ'' i = some lc -> μ3 (B4 gl m c i) = some lc := by
  intro i lc hi hm'
  rcases hi with hi | ⟨j, hj⟩
  .rw [rn i hi]
   simp only [μ3]
   rw [if_neg (by omega), show m + (c + (i - m) - c) = i by omega]
   exact hm'
  obtain ⟨o, ho⟩ := gkey i j hj
  obtain ⟨j', hj', hj2⟩ := hobj' i o ho
  rw [hj] at hj'
  cases hj'
  obtain ⟨loc, g1, _⟩ := hh.obj j _ hj2
  have := ext i loc (by rw [μg i j hj]; exact g1)
  rw [hm'] at this
  cases this
  rw [rg i j hj]
  exact μ3o j _ g1
 have new : ∀ id o, AF id (E5 (B4 gl m c) h1) = some o -> ∃ i o1, AF i h1 = some o1 /\ B4 gl m c i = id /\ o = Lo (B4 gl m c) o1 /\ (m <= i \/ ∃ j, AF i gl = some j) /\ Sd gl m o1 = true := by
  intro id o hl
  obtain ⟨i, o1, g1, g2, g3⟩ := Om hl
  obtain ⟨g4, g5⟩ := hH1 _ (Du g1)
  exact ⟨i, o1, g1, g2, g3, g4.imp (fun x => x) fun h5 => Option.isSome_iff_exists.1 h5, g5⟩
 have cases' : ∀ id o, AF id (E5 (B4 gl m c) h1 ++ B1 (gl.map (·.2)) h) = some o -> (∃ i o1, AF i h1 = some o1 /\ B4 gl m c i = id /\ o = Lo (B4 gl m c) o1 /\ (m <= i \/ ∃ j, AF i gl = some j) /\ Sd gl m o1 = true) \/ (id ∉ gl.map (·.2) /\ AF id h = some o) := by
  intro id o hl
  rcases Sf hl with hl | hl
  .exact .inl (new id o hl)
  exact .inr (GE hl)
 have other : ∀ id o loc, id ∉ gl.map (·.2) -> AF id h = some o -> μ id = some loc -> loc.nil = false -> ¬ Bx μ' H loc.b := by
  intro id o loc hid hl hm' hn hmine
  obtain ⟨_, i, j, o', loc', g1, g2, g3, g4, g5, g6⟩ := mine _ hmine
  have := hh.inj _ _ _ _ _ _ g3 hl g4 hm' g5 hn g6
  subst this
  exact hid (List.mem_map.2 ⟨(i, j), Du g2, rfl⟩)
 have hkept : BS (Ad A μ h) w w' := ⟨hh2.size, fun b hb hO => hh2.block b hb fun hm' => hO (.inr (mine b hm').1)⟩
 have nmine : ∀ b, Bx μ3 (E5 (B4 gl m c) h1 ++ B1 (gl.map (·.2)) h) b -> Bx μ'' h1 b \/ (Ad A μ h b /\ ¬ Bx μ' H b) := by
  rintro b ⟨id, o, loc, g1, g2, g3, g4⟩
  rcases cases' id o g1 with ⟨i, o1, k1, k2, k3, k4, k5⟩ | ⟨k1, k2⟩
  .left
   obtain ⟨lc, q1, _⟩ := hh2.obj i o1 k1
   have := name i lc k4 q1
   rw [k2, g2] at this
   cases this
   exact ⟨i, o1, loc, k1, q1, g3, g4⟩
  right
  obtain ⟨lc, q1, _⟩ := hh.obj id o k2
  have := μ3o id lc q1
  rw [g2] at this
  cases this
  rw [<- g4]
  exact ⟨.inr ⟨id, o, loc, k2, q1, g3, rfl⟩, other id o loc k1 k2 q1 g3⟩
 have own3 : ∀ b, Ad A μ3 (E5 (B4 gl m c) h1 ++ B1 (gl.map (·.2)) h) b -> Ad A' μ'' h1 b := by
  rintro b (hb | hb)
  .refine .inl ⟨.inl hb, fun hm' => ?_⟩
   obtain ⟨_, i, j, o', loc', g1, g2, g3, g4, g5, rfl⟩ := mine _ hm'
   exact (hh.base j _ loc' g3 g4 g5).2.1 hb
  rcases nmine b hb with hb | hb
  .exact .inr hb
  exact .inl hb
 have own4 : ∀ b, b < w.heap.size -> Ad A μ3 (E5 (B4 gl m c) h1 ++ B1 (gl.map (·.2)) h) b -> Ad A μ h b := by
  rintro b hlt' (hb | hb)
  .exact .inl hb
  rcases nmine b hb with ⟨i, o1, loc, k1, k2, k3, rfl⟩ | hb
  .rcases (hh2.base i o1 loc k1 k2 k3).2.2 with hx | hx
   .exact absurd hx (by show ¬ w.heap.size <= _; omega)
   exact .inr (mine _ hx).1
  exact hb.1
 have hu2 : AX (Ad A μ3 (E5 (B4 gl m c) h1 ++ B1 (gl.map (·.2)) h)) μ'' w' u l := hu.mono (BS.refl _ _) (fun b _ hb => own3 b hb) (fun _ _ h => h)
 have one : ∀ v x, Lp gl m x = true -> AX (Ad A μ3 (E5 (B4 gl m c) h1 ++ B1 (gl.map (·.2)) h)) μ'' w' v x -> AX (Ad A μ3 (E5 (B4 gl m c) h1 ++ B1 (gl.map (·.2)) h)) μ3 w' v (Kx (B4 gl m c) x) := by
  intro v x hx hv
  simp only [Lp, Bool.and_eq_true] at hx
  refine Sg hx.1 (fun i' lc' hi' hm' => name i' lc' ?_ hm') hv
  have h4 := hx.2
  rw [hi'] at h4
  simp only [Bool.or_eq_true, Nat.ble_eq] at h4
  exact h4.imp (fun x => x) fun h5 => Option.isSome_iff_exists.1 h5
 refine ⟨u, μ3, he, ⟨?_, ?_, ?_, ?_, Nat.le_trans hh.size hh2.size, ?_, hh2.os.trans hh.os, hh2.tape.trans hh.tape, hh2.output.trans hh.output, fun id loc hm' => μ3o id loc (hh.ext id loc hm')⟩, ?_, fun v x hv => hv.mono hkept own4 μ3o⟩
 .intro id o hl
  rcases cases' id o hl with ⟨i, o1, k1, k2, rfl, k4, k5⟩ | ⟨k1, k2⟩
  .obtain ⟨lc, q1, q2⟩ := hh2.obj i o1 k1
   refine ⟨lc, by rw [<- k2]; exact name i lc k4 q1, ?_⟩
   have q3 : Dd (Ad A μ3 (E5 (B4 gl m c) h1 ++ B1 (gl.map (·.2)) h)) μ'' w' lc o1 := q2.mono (BS.refl _ _) (fun b _ hb => own3 b hb) (fun _ _ h => h) (fun _ => rfl)
   exact Ww k5 (fun i' lc' hi' hm' => name i' lc' hi' hm') q3
  obtain ⟨lc, q1, q2⟩ := hh.obj id o k2
  refine ⟨lc, μ3o id lc q1, q2.mono hkept own4 μ3o fun hn => ?_⟩
  exact hh2.block _ (hh.base id o lc k2 q1 hn).1 (other id o lc k1 k2 q1 hn)
 .intro id id' o o' loc loc' g1 g2 m1' m2' n1 n2 hb
  rcases cases' id o g1 with ⟨i, o1, k1, k2, k3, k4, k5⟩ | ⟨k1, k2⟩
  .obtain ⟨lc, q1, _⟩ := hh2.obj i o1 k1
   have e1 := name i lc k4 q1
   rw [k2, m1'] at e1
   cases e1
   rcases cases' id' o' g2 with ⟨i', o1', k1', k2', k3', k4', k5'⟩ | ⟨k1', k2'⟩
   .obtain ⟨lc', q1', _⟩ := hh2.obj i' o1' k1'
    have e1' := name i' lc' k4' q1'
    rw [k2', m2'] at e1'
    cases e1'
    have := hh2.inj _ _ _ _ _ _ k1 k1' q1 q1' n1 n2 hb
    rw [<- k2, <- k2', this]
   exfalso
   obtain ⟨lc', q1', _⟩ := hh.obj id' o' k2'
   have e1' := μ3o id' lc' q1'
   rw [m2'] at e1'
   cases e1'
   have hno := other id' o' loc' k1' k2' q1' n2
   have hsz' := (hh.base id' o' loc' k2' q1' n2).1
   rcases (hh2.base i o1 loc k1 q1 n1).2.2 with hx | hx
   .have : w.heap.size <= loc.b := hx
    omega
   rw [hb] at hx; exact hno hx
  obtain ⟨lc, q1, _⟩ := hh.obj id o k2
  have e1 := μ3o id lc q1
  rw [m1'] at e1
  cases e1
  rcases cases' id' o' g2 with ⟨i', o1', k1', k2', k3', k4', k5'⟩ | ⟨k1', k2'⟩
  .exfalso
   obtain ⟨lc', q1', _⟩ := hh2.obj i' o1' k1'
   have e1' := name i' lc' k4' q1'
   rw [k2', m2'] at e1'
   cases e1'
   have hno := other id o loc k1 k2 q1 n1
   have hsz' := (hh.base id o loc k2 q1 n1).1
   rcases (hh2.base i' o1' loc' k1' q1' n2).2.2 with hx | hx
   .have : w.heap.size <= loc'.b := hx
    omega
   rw [<- hb] at hx; exact hno hx
  obtain ⟨lc', q1', _⟩ := hh.obj id' o' k2'
  have e1' := μ3o id' lc' q1'
  rw [m2'] at e1'
  cases e1'
  exact hh.inj _ _ _ _ _ _ k2 k2' q1 q1' n1 n2 hb
 .rintro id ⟨hid, hid2⟩
  simp only [μ3]
  by_cases hc : id < c
  .rw [if_pos hc]; exact hh.fresh id hid
  rw [if_neg hc]
  exact hh2.fresh _ (by simp only [Fr]; omega)
 .intro id o loc g1 g2 g3
  rcases cases' id o g1 with ⟨i, o1, k1, k2, k3, k4, k5⟩ | ⟨k1, k2⟩
  .obtain ⟨lc, q1, _⟩ := hh2.obj i o1 k1
   have e1 := name i lc k4 q1
   rw [k2, g2] at e1
   cases e1
   obtain ⟨b1, b2, b3⟩ := hh2.base i o1 loc k1 q1 g3
   refine ⟨b1, fun hO => b2 ⟨.inl hO, fun hm' => ?_⟩, ?_⟩
   .obtain ⟨_, i', j', o', loc', g1', g2', g3', g4', g5', g6'⟩ := mine _ hm'
    rw [<- g6'] at hO
    exact (hh.base j' _ loc' g3' g4' g5').2.1 hO
   rcases b3 with hx | hx
   .exact .inl (Nat.le_trans hh.size hx)
   obtain ⟨_, i', j', o', loc', g1', g2', g3', g4', g5', g6'⟩ := mine _ hx
   rw [<- g6']
   exact (hh.base j' _ loc' g3' g4' g5').2.2
  obtain ⟨lc, q1, _⟩ := hh.obj id o k2
  have e1 := μ3o id lc q1
  rw [g2] at e1
  cases e1
  obtain ⟨b1, b2, b3⟩ := hh.base id o loc k2 q1 g3
  exact ⟨Nat.lt_of_lt_of_le b1 hh2.size, b2, b3⟩
 .intro b hb hnf
  have hnm : ¬ Bx μ' H b := by
   intro hm'
   obtain ⟨_, i', j', o', loc', g1', g2', g3', g4', g5', g6'⟩ := mine _ hm'
   have := (hh.base j' _ loc' g3' g4' g5').2.2
   rw [g6'] at this
   rcases this with hx | hx
   .omega
   exact hnf hx
  rw [hh2.block b (Nat.lt_of_lt_of_le hb hh.size) hnm]
  exact hh.block b hb hnf
 have oneA : ∀ v x, Yk gl m x = true -> AX (Ad A μ3 (E5 (B4 gl m c) h1 ++ B1 (gl.map (·.2)) h)) μ'' w' v x -> AX (Ad A μ3 (E5 (B4 gl m c) h1 ++ B1 (gl.map (·.2)) h)) μ3 w' v (Yj (B4 gl m c) x) := by
  intro v x hx hv
  cases x with
  | agg xs =>
   cases hv with
   | agg vs' _ hsz' hxs =>
    refine .agg vs' _ (by simpa using hsz') fun i v x hv hx' => ?_
    rw [List.getElem?_map] at hx'
    cases hc : xs[i]? with
    | none => rw [hc] at hx'; cases hx'
    | some y =>
     rw [hc] at hx'
     cases hx'
     exact one v y (List.all_eq_true.1 hx y (List.mem_of_getElem? hc)) (hxs i v y hv hc)
  | p d => exact one v _ hx hv
  | lsl id sz off len => exact one v _ hx hv
  | lpb id off => exact one v _ hx hv
  | lpe id i off => exact one v _ hx hv
  | lmap id => exact one v _ hx hv
  | und => exact one v _ hx hv
  | any => exact one v _ hx hv
  | tup l => exact one v _ hx hv
  | fn f l => exact one v _ hx hv
 cases l with
 | tup xs =>
  cases hu2 with
  | tup vs' _ hsz' hxs =>
   refine .tup vs' _ (by simpa using hsz') fun i v x hv hx => ?_
   rw [List.getElem?_map] at hx
   cases hc : xs[i]? with
   | none => rw [hc] at hx; cases hx
   | some y =>
    rw [hc] at hx
    cases hx
    exact oneA v y (List.all_eq_true.1 hL y (List.mem_of_getElem? hc)) (hxs i v y hv hc)
 | p d => exact oneA u (.p d) hL hu2
 | lsl id sz off len => exact oneA u (.lsl id sz off len) hL hu2
 | lpb id off => exact oneA u (.lpb id off) hL hu2
 | lpe id i off => exact oneA u (.lpe id i off) hL hu2
 | lmap id => exact oneA u (.lmap id) hL hu2
 | und => exact oneA u .und hL hu2
 | any => exact oneA u .any hL hu2
 | agg l => exact oneA u (.agg l) hL hu2
 | fn f l => exact oneA u (.fn f l) hL hu2
theorem T0 {k : Nat} {H H1 : AL} {m m1 : Nat} {ls : List LV} {L : LV} (hM : ∀ A : BG, (∀ id, A.μ0 id ≠ none -> id < m) -> C2 P A H m k ls (fun l h c => l = L /\ h = H1 /\ c = m1))
  (gl : List (Nat × Nat)) {A : BG} {h : AL} {c : Nat} {K : LV -> AL -> Nat -> Prop} (hB : QO gl m m1 H H1 = true) (hobj : KZ (B4 gl m c) h H) (hls : ls.all (Lp gl m) = true) (hL : Vq gl m L = true)
  (hK : K (Se (B4 gl m c) L) (E5 (B4 gl m c) H1 ++ B1 (gl.map (·.2)) h) (c + (m1 - m))) : C2 P A h c k (ls.map (Kx (B4 gl m c))) K := by
 refine ⟨(hM ⟨default, fun _ => False, fun _ => False, fun _ => none, fun _ h => h.elim⟩ (fun _ h => absurd rfl h)).1, fun μ w vs hh hsz hr => ?_⟩
 refine (T2 hM gl (fun q hq => by simp only [Fr]; omega) hB hobj hls hL hh (by simpa using hsz) hr).mono ?_
 rintro e w' ⟨u, μ', he, g, hu, hk⟩
 exact ⟨u, _, _, _, μ', he, hK, ⟨g.obj, g.inj, fun id hid => g.fresh id (by simp only [Fr] at hid ⊢; omega), g.base, g.size, g.block, g.os, g.tape, g.output, g.ext⟩, hu, hk⟩
theorem Yl {k : Nat} {H H1 : AL} {m : Nat} {ls : List LV} {L : LV} (hM : ∀ A : BG, (∀ id, A.μ0 id ≠ none -> id < m) -> C2 P A H m k ls (fun l h c => l = L /\ h = H1 /\ c = m))
  (gl : List (Nat × Nat)) {h h' : AL} {ctr : Nat} {args : List LV} {l : LV} (hB : QO gl m m H H1 = true) (hobj : ∀ c, KZ (B4 gl m c) h H) (hls : ls.all (Lp gl m) = true) (hL : Vq gl m L = true)
  (ha : ∀ c, ls.map (Kx (B4 gl m c)) = args) (hl : ∀ c, Se (B4 gl m c) L = l) (hh' : ∀ c, E5 (B4 gl m c) H1 ++ B1 (gl.map (·.2)) h = h') : M3 P h ctr k args l h' := by
 refine ⟨(hM ⟨default, fun _ => False, fun _ => False, fun _ => none, fun _ h => h.elim⟩ (fun _ h => absurd rfl h)).1, fun A F μ w vs hh hc hF hsz hr => ?_⟩
 obtain ⟨c, hF⟩ := hF
 rw [<- ha c] at hsz hr
 have := T2 hM gl hF hB (hobj c) hls hL hh (by simpa using hsz) hr
 rw [hh' c, hl c] at this
 refine this.mono ?_
 rintro e w' ⟨u, μ', he, g, hu, hk⟩
 exact ⟨u, μ', he, ⟨g.obj, g.inj, fun id hid => g.fresh id ⟨hid.1, by omega⟩, g.base, g.size, g.block, g.os, g.tape, g.output, g.ext⟩, hu, hk⟩
end
def Gy (P : Program) (k : Nat) (H : AL) (c : Nat) (args : List LV) (L : LV) (H1 : AL) (C : Nat) : Prop :=
 ∀ A : BG, (∀ id, A.μ0 id ≠ none -> id < c) -> C2 P A H c k args fun l h c' => l = L /\ h = H1 /\ c' = C
section
variable {P : Program} {AB : A1}
theorem SZ (hE : A4 P AB) {k : Nat} {fn : Func} {cd : Code} (hfun : P.funcs[k]? = some fn) (nt' : Nat) (rs : List ResultVar) (sl' : List (Nat × LV)) (hb : fn.body = some cd) (hn : (fn.name == "runtime.NumGoroutine") = false) (hnt : Nat.beq fn.ntmps nt' = true) (hrs : fn.results.toList = rs)
  {H H1 : AL} {c C : Nat} {ls : List LV} {L : LV} (hlen : Nat.ble ls.length nt' = true) (hsl : Ks 0 ls = sl')
  (body : ∀ A : BG, (∀ id, A.μ0 id ≠ none -> id < c) -> Bz P A cd (IP AB.tt rs A L H1 C) ⟨nt', sl', H, c⟩) : Gy P k H c ls L H1 C := by
 intro A hA
 subst hsl
 refine SM hE hfun hb hn nt' (Nat.eq_of_beq_eq_true hnt) rs hrs (Nat.le_of_ble_eq_true hlen) fun A' hA' => ?_
 refine GH (Tt (body A' hA')) fun e s q => ?_
 have fin : (H2 AB.tt rs s = some L /\ s.heap = H1 /\ s.ctr = C) -> ∃ l, H2 AB.tt rs s = some l /\ l = L /\ s.heap = H1 /\ s.ctr = C := fun ⟨q1, q2, q3⟩ => ⟨_, q1, rfl, q2, q3⟩
 cases e <;> first | exact fin q | exact q.elim
section
variable {A : BG} {f : St -> Prop} {hf : Hu f} {nt : Nat} {sl : List (Nat × LV)} {h : AL} {c : Nat}
theorem Cu {k : Nat} {H H1 : AL} {m m1 : Nat} {ls : List LV} {L L' : LV} (hM : Gy P k H m ls L H1 m1) (gl : List (Nat × Nat)) {h' : AL} {c' : Nat} {dst : Option Tmp} {fo : Operand} {args : Array Operand} {ts : Array TypeId}
  (hB : QO gl m m1 H H1 = true) (hobj : KZ (B4 gl m c) h H) (hls : ls.all (Lp gl m) = true) (hfn : BI nt sl fo = .fn k []) (hl : DT nt sl args.toList some = some (ls.map (Kx (B4 gl m c))))
  (hh : E5 (B4 gl m c) H1 ++ B1 (gl.map (·.2)) h = h') (hc : c + (m1 - m) = c') (hL : Vq gl m L = true) (hL' : Se (B4 gl m c) L = L') (kk : f (match dst with | some d => ⟨nt, (d, L') :: sl, h', c'⟩ | none => ⟨nt, sl, h', c'⟩)) :
  BK P A AB ⟨nt, sl, h, c⟩ dst (.call ⟨.value fo, args, ts⟩) ⟨f, hf⟩ := by
 rw [BP (h := h) (c := c)] at hfn
 show LZ _ _
 rw [hfn]
 show Hx P A h c k (args.toList.map _ ++ []) _
 rw [Ek hl, List.append_nil]
 refine T0 hM gl hB hobj hls hL ?_
 rw [hh, hc, hL']
 show f (St.go ⟨nt, sl, h, c⟩ dst L' h' c')
 rw [MH]
 cases dst <;> exact kk
theorem Mp {α : Type} {id : Nat} : ∀ {a b : List (Nat × α)}, AF id a = none -> AF id (a ++ b) = AF id b
 | [], _, _ => rfl
 | (k, v) :: a, b, h => by
  unfold AF at h
  split at h
  .cases h
  rename_i e
  show (if id = k then some v else AF id (a ++ b)) = _
  rw [if_neg e]
  exact Mp h
theorem RO {l : List Nat} : ∀ {h : AL} {id : Nat}, id ∉ l -> AF id (B1 l h) = AF id h := by
 induction l with
 | nil => intro h id _; rfl
 | cons i l ih =>
  intro h id hi
  simp only [List.mem_cons, not_or] at hi
  show AF id (B1 l (D1 i h)) = _
  rw [ih hi.2, DI hi.1]
def Zl {β : Type} (gl : List (Nat × Nat)) (v : LV) (k : LV -> Option β) : Option β := match v with
 | .lsl id sz off len => (match AF id gl with | some j => k (.lsl j sz off len) | none => none)
 | .lpb id off => (match AF id gl with | some j => k (.lpb j off) | none => none)
 | .lpe id i off => (match AF id gl with | some j => k (.lpe j i off) | none => none)
 | .lmap id => (match AF id gl with | some j => k (.lmap j) | none => none)
 | x => k x
def Wx {β : Type} (gl : List (Nat × Nat)) : List LV -> (List LV -> Option β) -> Option β
 | [], k => k []
 | v :: r, k => Zl gl v fun v' => Wx gl r fun r' => k (v' :: r')
def Zm {β : Type} (gl : List (Nat × Nat)) (o : A6) (k : A6 -> Option β) : Option β := match o with
 | .box cs => Wx gl cs fun cs' => k (.box cs')
 | o => k o
def XZ {β : Type} (gl : List (Nat × Nat)) : AL -> (AL -> Option β) -> Option β
 | [], k => k []
 | (i, o) :: h, k => match AF i gl with
  | some j => Zm gl o fun o' => XZ gl h fun r => k ((j, o') :: r)
  | none => none
def Rk {β : Type} : List (Nat × Nat) -> AL -> (AL -> Option β) -> Option β
 | [], h, k => k h
 | p :: l, h, k => Of p.2 h fun h2 => Rk l h2 k
def Rl {β : Type} : AL -> AL -> (AL -> Option β) -> Option β
 | [], b, k => k b
 | x :: a, b, k => Rl a b fun r => k (x :: r)
theorem Ym {β : Type} {gl : List (Nat × Nat)} {m c : Nat} {v : LV} {k : LV -> Option β} {z : β} (h : Zl gl v k = some z) : k (Kx (B4 gl m c) v) = some z := by
 have key : ∀ (i : Nat) (f : Nat -> LV), (match AF i gl with | some j => k (f j) | none => none) = some z -> k (f (B4 gl m c i)) = some z := fun i f h => by
  unfold B4
  cases e : AF i gl with
  | none => rw [e] at h; cases h
  | some j => rw [e] at h; exact h
 cases v with
 | lsl id sz off len => exact key id (fun j => .lsl j sz off len) h
 | lpb id off => exact key id (fun j => .lpb j off) h
 | lpe id i off => exact key id (fun j => .lpe j i off) h
 | lmap id => exact key id (fun j => .lmap j) h
 | p d => exact h
 | und => exact h
 | any => exact h
 | agg l => exact h
 | tup l => exact h
 | fn f l => exact h
theorem T3 {β : Type} {gl : List (Nat × Nat)} {m c : Nat} {z : β} : ∀ {l : List LV} {k : List LV -> Option β}, Wx gl l k = some z -> k (l.map (Kx (B4 gl m c))) = some z
 | [], _, h => h
 | v :: r, k, h => T3 (l := r) (k := fun r' => k (Kx (B4 gl m c) v :: r')) (Ym (m := m) (c := c) h)
theorem Yn {β : Type} {gl : List (Nat × Nat)} {m c : Nat} {o : A6} {k : A6 -> Option β} {z : β} (h : Zm gl o k = some z) : k (Lo (B4 gl m c) o) = some z := by
 cases o <;> first | exact h | exact T3 (m := m) (c := c) h
theorem Vr {β : Type} {gl : List (Nat × Nat)} {m c : Nat} {z : β} : ∀ {l : AL} {k : AL -> Option β}, XZ gl l k = some z -> k (E5 (B4 gl m c) l) = some z /\ ∀ p ∈ l, (AF p.1 gl).isSome = true
 | [], _, h => ⟨h, fun _ hp => by simp at hp⟩
 | (i, o) :: r, k, h => by
  unfold XZ at h
  split at h
  .rename_i j e
   have h1 := Yn (m := m) (c := c) h
   obtain ⟨h2, h3⟩ := Vr (l := r) (k := fun r => k ((j, Lo (B4 gl m c) o) :: r)) h1
   refine ⟨?_, fun p hp => ?_⟩
   .have : B4 gl m c i = j := by unfold B4; rw [e]
    simp only [E5, this]; exact h2
   rcases List.mem_cons.1 hp with rfl | hp
   .simp only [e, Option.isSome_some]
   exact h3 p hp
  cases h
theorem Si {β : Type} : ∀ {l : List (Nat × Nat)} {h : AL} {k : AL -> Option β}, Rk l h k = k (B1 (l.map (·.2)) h)
 | [], _, _ => rfl
 | p :: l, h, k => by
  simp only [Rk, Lc, Si, List.map_cons, B1]
theorem Sj {β : Type} : ∀ {a b : AL} {k : AL -> Option β}, Rl a b k = k (a ++ b)
 | [], _, _ => rfl
 | x :: a, b, k => by simp only [Rl, Sj, List.cons_append]
def Yo (gl : List (Nat × Nat)) (H1 h : AL) : Option AL := XZ gl H1 fun a => Rk gl h fun b => Rl a b some
theorem QP {gl : List (Nat × Nat)} {H1 h h' : AL} (hu : Yo gl H1 h = some h') (m c : Nat) : E5 (B4 gl m c) H1 ++ B1 (gl.map (·.2)) h = h' /\ ∀ p ∈ H1, (AF p.1 gl).isSome = true := by
 obtain ⟨h1, h2⟩ := Vr (m := m) (c := c) hu
 rw [Si, Sj] at h1
 exact ⟨Option.some.inj h1, h2⟩
theorem BE {k : Nat} {H H1 : AL} {m : Nat} {ls args' : List LV} {L L' : LV} (hM : Gy P k H m ls L H1 m) (gl : List (Nat × Nat)) {h' : AL} {dst : Option Tmp} {fo : Operand} {args : Array Operand} {ts : Array TypeId}
  (hB : QO gl m m H H1 = true) (hobj : ∀ c, KZ (B4 gl m c) h H) (hls : ls.all (Lp gl m) = true) (hfn : (Cr fo, BI nt sl fo) = (true, .fn k [])) (hl : DT nt sl args.toList some = some args') (ha : ∀ c, ls.map (Kx (B4 gl m c)) = args')
  (hu : Yo gl H1 h = some h') (hL : Vq gl m L = true) (hL' : Se (B4 gl m 0) L = L') (hLc : ∀ c, Se (B4 gl m c) L = Se (B4 gl m 0) L) (hk1 : (h'.all fun p => (AF p.1 h).isSome) = true)
  (hcm : (gl.all fun p => match AB.calm with | none => true | some b => b p.2) = true) (kk : f (match dst with | some d => ⟨nt, (d, L') :: sl, h', c + 1⟩ | none => ⟨nt, sl, h', c + 1⟩)) :
  Hi P A AB ⟨nt, sl, h, c⟩ dst (.call ⟨.value fo, args, ts⟩) ⟨f, hf⟩ := by
 obtain ⟨hdl, hfn⟩ := Prod.mk.inj hfn
 rw [BP (h := h) (c := c)] at hfn
 show (if Cr fo = true then _ else _)
 rw [if_pos hdl]
 refine ⟨L', h', ⟨fo, k, [], rfl, hfn, ?_, fun q hq hn => ?_, fun b hb id cells hi hbi hx => ?_⟩, ?_⟩
 .show M3 P h c k (args.toList.map _ ++ []) L' h'
  rw [Ek hl, List.append_nil]
  exact Yl hM gl hB hobj hls hL ha (fun c => (hLc c).trans hL') (fun c => (QP hu m c).1)
 .cases hx : AF q h' with
  | none => rfl
  | some o =>
   have := List.all_eq_true.1 hk1 _ (Du hx)
   simp only at this
   have hn' : AF q h = none := hn
   rw [hn'] at this; cases this
 .have hnot : id ∉ gl.map (·.2) := fun hm => by
   obtain ⟨p, hp, rfl⟩ := List.mem_map.1 hm
   have := List.all_eq_true.1 hcm p hp
   rw [hb] at this
   simp only at this
   rw [this] at hbi; cases hbi
  rw [<- (QP hu m 0).1]
  have hno : AF id (E5 (B4 gl m 0) H1) = none := by
   cases hx2 : AF id (E5 (B4 gl m 0) H1) with
   | none => rfl
   | some o =>
    obtain ⟨i, o1, g1, g2, _⟩ := Om hx2
    obtain ⟨j, hj⟩ := Option.isSome_iff_exists.1 ((QP hu m 0).2 _ (Du g1))
    refine absurd (List.mem_map.2 ⟨(i, j), Du hj, ?_⟩) hnot
    rw [<- g2]; unfold B4; rw [hj]
  rw [Mp hno, RO hnot]
  exact hx
 show f (St.go ⟨nt, sl, h, c⟩ dst L' h' (c + 1))
 rw [MH]
 cases dst <;> exact kk
end
end
end Go.E
/- Loops over maps, in whatever order (IH); iterators. No condition. -/
namespace Go.E
open Go Go.RowKit
section
variable {σ α Ans : Type}
def D4 (left : σ -> List α) (z : σ -> Option (σ ⊕ Ans)) (g : σ -> α -> List α -> Option (σ ⊕ Ans)) : Nat -> σ -> Ans -> Prop
 | 0, _, _ => False
 | n + 1, s, r => (left s = [] -> z s = some (.inr r) \/ ∃ s', z s = some (.inl s') /\ D4 left z g n s' r) /\
   ∀ (j : Nat) y, (left s)[j]? = some y -> g s y ((left s).eraseIdx j) = some (.inr r) \/ ∃ s', g s y ((left s).eraseIdx j) = some (.inl s') /\ D4 left z g n s' r
open Classical in
noncomputable def IH (left : σ -> List α) (z : σ -> Option (σ ⊕ Ans)) (g : σ -> α -> List α -> Option (σ ⊕ Ans)) (s : σ) : Option Ans :=
 if h : ∃ r, ∃ n, D4 left z g n s r then some (Classical.choose h) else none
theorem Ul {left : σ -> List α} {z : σ -> Option (σ ⊕ Ans)} {g : σ -> α -> List α -> Option (σ ⊕ Ans)} {s : σ} {r : Ans} (h : IH left z g s = some r) : ∃ n, D4 left z g n s r := by
 unfold IH at h
 split at h
 .rename_i hx
  cases h
  exact Classical.choose_spec hx
 cases h
theorem D4.uniq {left : σ -> List α} {z : σ -> Option (σ ⊕ Ans)} {g : σ -> α -> List α -> Option (σ ⊕ Ans)} : ∀ {n m : Nat} {s : σ} {r r' : Ans}, D4 left z g n s r -> D4 left z g m s r' -> r = r'
 | 0, _, _, _, _, h, _ => h.elim
 | _ + 1, 0, _, _, _, _, h => h.elim
 | n + 1, m + 1, s, r, r', h1, h2 => by
  have fin : ∀ o : Option (σ ⊕ Ans), (o = some (.inr r) \/ ∃ s', o = some (.inl s') /\ D4 left z g n s' r) -> (o = some (.inr r') \/ ∃ s', o = some (.inl s') /\ D4 left z g m s' r') -> r = r' := by
   rintro o (e1 | ⟨s1, e1, a1⟩) (e2 | ⟨s2, e2, a2⟩)
   .rw [e1] at e2; cases e2; rfl
   .rw [e1] at e2; cases e2
   .rw [e1] at e2; cases e2
   rw [e1] at e2; cases e2; exact a1.uniq a2
  cases hl : left s with
  | nil => exact fin _ (h1.1 hl) (h2.1 hl)
  | cons y l =>
   have hy : (left s)[0]? = some y := by rw [hl]; rfl
   exact fin _ (h1.2 0 y hy) (h2.2 0 y hy)
theorem Wt {left : σ -> List α} {z : σ -> Option (σ ⊕ Ans)} {g : σ -> α -> List α -> Option (σ ⊕ Ans)} {s : σ} {r : Ans} {n : Nat} (h : D4 left z g n s r) : IH left z g s = some r := by
 have hx : ∃ r, ∃ n, D4 left z g n s r := ⟨r, n, h⟩
 unfold IH
 rw [dif_pos hx]
 obtain ⟨m, hm⟩ := Classical.choose_spec hx
 rw [hm.uniq h]
theorem Kw {left : σ -> List α} {z : σ -> Option (σ ⊕ Ans)} {g : σ -> α -> List α -> Option (σ ⊕ Ans)} (I : σ -> Prop) {r : Ans}
  (h0 : ∀ s, I s -> left s = [] -> z s = some (.inr r)) (h1 : ∀ s (j : Nat) y, I s -> (left s)[j]? = some y -> g s y ((left s).eraseIdx j) = some (.inr r) \/ ∃ s', g s y ((left s).eraseIdx j) = some (.inl s') /\ left s' = (left s).eraseIdx j /\ I s') {s : σ} (hs : I s) : IH left z g s = some r := by
 have key : ∀ (k : Nat) (s : σ), (left s).length = k -> I s -> D4 left z g (k + 1) s r := by
  intro k
  induction k with
  | zero =>
   intro s hk hs
   have hl : left s = [] := List.length_eq_zero_iff.1 hk
   exact ⟨fun _ => .inl (h0 s hs hl), fun j y hy => by rw [hl] at hy; simp at hy⟩
  | succ k ih =>
   intro s hk hs
   refine ⟨fun hl => by rw [hl] at hk; simp at hk, fun j y hy => ?_⟩
   rcases h1 s j y hs hy with h | ⟨s', e1, e2, e3⟩
   .exact .inl h
   have hj : j < (left s).length := (List.getElem?_eq_some_iff.1 hy).1
   exact .inr ⟨s', e1, ih s' (by rw [e2, List.length_eraseIdx, if_pos hj]; omega) e3⟩
 exact Wt (key _ s rfl hs)
end
section
variable {P : Program} {A : BG} {AB : A1} {st : St} {σ α Ans : Type}
def NX (A : BG) (l : List α) (I0 : St) (I1 : α -> List α -> St) (e : Exit) (st : St) : Prop :=
 e = .normal /\ ((l = [] /\ BB A st I0) \/ ∃ (j : Nat) (y : α), l[j]? = some y /\ BB A st (I1 y (l.eraseIdx j)))
theorem XV {l : List α} {I0 : St} {I1 : α -> List α -> St} (hl : l = []) (w : BB A st I0) : NX A l I0 I1 .normal st := ⟨rfl, .inl ⟨hl, w⟩⟩
theorem XW {l : List α} {I0 : St} {I1 : α -> List α -> St} {j : Nat} {y : α} (hl : l[j]? = some y) (w : BB A st (I1 y (l.eraseIdx j))) : NX A l I0 I1 .normal st := ⟨rfl, .inr ⟨j, y, hl, w⟩⟩
theorem XU {c1 c2 : Code} {Q : Ans -> Exit -> St -> Prop} {a : Ans} (I : σ -> St) (I0 : σ -> St) (I1 : σ -> α -> List α -> St) {left : σ -> List α} {z : σ -> Option (σ ⊕ Ans)} {g : σ -> α -> List α -> Option (σ ⊕ Ans)} {s0 : σ}
  (h : IH left z g s0 = some a) (hw : BB A st (I s0)) (hn : ∀ s, Bz P A c1 (NX A (left s) (I0 s) (I1 s)) (I s))
  (h0 : ∀ s b, z s = some b -> Bz P A c2 (LP A I Q b) (I0 s)) (h1 : ∀ s y l b, g s y l = some b -> Bz P A c2 (LP A I Q b) (I1 s y l)) : Bz P A (.loop (.seq c1 c2)) (Q a) st := by
 obtain ⟨n, hn'⟩ := Ul h
 refine Rw (ι := Nat × σ) (fun i s => D4 left z g i.1 i.2 a /\ BB A s (I i.2)) (fun i => i.1) (n, s0) ⟨hn', hw⟩ ?_
 rintro ⟨n, s⟩ st' ⟨hi, hws⟩
 refine GL hws ?_
 cases n with
 | zero => exact hi.elim
 | succ n =>
  have fin : ∀ (o : Option (σ ⊕ Ans)) (S : St), (∀ b, o = some b -> Bz P A c2 (LP A I Q b) S) -> (o = some (.inr a) \/ ∃ s', o = some (.inl s') /\ D4 left z g n s' a) ->
    Bz P A c2 (Nv (fun st' => ∃ i' : Nat × σ, (D4 left z g i'.1 i'.2 a /\ BB A st' (I i'.2)) /\ i'.1 < n + 1) (Q a)) S := by
   rintro o S hS (e | ⟨s', e, hr⟩)
   .refine GH (hS _ e) fun e st'' q => ?_
    obtain ⟨he, hq⟩ := q
    cases e <;> first | exact absurd rfl he | exact hq
   refine GH (hS _ e) fun e st'' q => ?_
   obtain ⟨he, hw'⟩ := q
   subst he
   exact ⟨(n, s'), ⟨hr, hw'⟩, Nat.lt_succ_self n⟩
  refine AC (GH (hn s) fun e st'' q => ?_)
  obtain ⟨he, q⟩ := q
  subst he
  rcases q with ⟨hl, hw'⟩ | ⟨j, y, hy, hw'⟩
  .exact GL hw' (fin _ _ (h0 s) (hi.1 hl))
  exact GL hw' (fin _ _ (h1 s y _) (hi.2 j y hy))
end
section
variable {P : Program} {A : BG} {AB : A1} {f : St -> Prop} {hf : Hu f} {nt : Nat} {sl : List (Nat × LV)} {h : AL} {c : Nat} {d : Tmp} {κ υ : Type} {ke : κ -> DV} {ve : υ -> DV}
def Um (AB : A1) (t : Nat) : Bool := match AB.tt t with
 | some ti => match ti.sh with | .mp _ _ => true | _ => false
 | none => false
theorem Wu {t : Nat} (h : Um AB t = true) : ∃ ti a b, AB.tt t = some ti /\ ti.sh = .mp a b := by
 unfold Um at h
 split at h
 .rename_i ti e
  split at h
  .rename_i a b e2; exact ⟨ti, a, b, e, e2⟩
  cases h
 cases h
theorem Rh {t : Nat} {x : Operand} {mp : List (κ × υ)} (ht : Um AB t = true) (hx : BI nt sl x = .p (.map (Aj ke ve mp))) (k : f ⟨nt, (d, .lpb c 0) :: sl, (c, .iter none (Aj ke ve mp)) :: h, c + 1⟩) :
  BK P A AB ⟨nt, sl, h, c⟩ (some d) (.range t x) ⟨f, hf⟩ := by
 obtain ⟨ti, a, b, h1, h2⟩ := Wu ht
 rw [BP (h := h) (c := c)] at hx
 refine AS.2 ⟨ti, h1, Dw.2 ⟨a, b, h2, ?_⟩⟩
 show WT _ _
 rw [hx]
 exact k
theorem Un (mp : List (κ × υ)) (j : Nat) : (Aj ke ve mp).eraseIdx j = Aj ke ve (mp.eraseIdx j) := by
 unfold Aj
 rw [List.eraseIdx_eq_take_drop_succ, List.eraseIdx_eq_take_drop_succ, List.map_append, List.map_take, List.map_drop]
theorem Yf {cur : Option (DV × DV)} {x : Operand} {id : Nat} {mp : List (κ × υ)} (b : Bool) (hx : BI nt sl x = .lpb id 0) (hl : BW id h = some (.iter cur (Aj ke ve mp))) {H : Option (DV × DV) -> List (κ × υ) -> AL} (hu : ∀ q l, Jj id (.iter q (Aj ke ve l)) h some = some (H q l))
  (k0 : mp = [] -> f ⟨nt, (d, .tup [.p (.bool false)]) :: sl, h, c⟩)
  (k1 : ∀ (j : Nat) (y : κ × υ), mp[j]? = some y -> f ⟨nt, (d, .tup [.p (.bool true), .p (ke y.1), .p (ve y.2)]) :: sl, H (if b then some (ke y.1, ve y.2) else none) (mp.eraseIdx j), c⟩) :
  BK P A AB ⟨nt, sl, h, c⟩ (some d) (.next x false) ⟨f, hf⟩ := by
 rw [BP (h := h) (c := c)] at hx
 rw [Ba] at hl
 show US h (St.eval ⟨nt, sl, h, c⟩ x) (fun _ => f (St.go ⟨nt, sl, h, c⟩ (some d) (.tup [.p (.bool false)]) h c)) (fun id left j p => ∃ cur', (cur' = none \/ cur' = some p) /\ f (St.go ⟨nt, sl, h, c⟩ (some d) (.tup [.p (.bool true), .p p.1, .p p.2]) (Bh id (.iter cur' (left.eraseIdx j)) h) c))
 rw [hx]
 unfold US
 simp only [hl]
 refine ⟨fun e => ?_, fun j p hp => ?_⟩
 .refine k0 ?_
  cases mp with
  | nil => rfl
  | cons _ _ => simp [Aj] at e
 unfold Aj at hp
 rw [List.getElem?_map] at hp
 cases hy : mp[j]? with
 | none => rw [hy] at hp; cases hp
 | some y =>
  rw [hy] at hp
  cases hp
  have hu' := hu (if b then some (ke y.1, ve y.2) else none) (mp.eraseIdx j)
  rw [Gl] at hu'
  have hu2 := Option.some.inj hu'
  refine ⟨if b then some (ke y.1, ve y.2) else none, by cases b <;> simp, ?_⟩
  rw [Un, hu2]
  exact k1 j y hy
theorem Pb {x : Operand} {id : Nat} {mp : List (κ × υ)} (hx : BI nt sl x = .lpb id 0) (hl : BW id h = some (.iter none (Aj ke ve mp))) {H : κ × υ -> List (κ × υ) -> AL} (hu : ∀ y l, Jj id (.iter (some (ke y.1, ve y.2)) (Aj ke ve l)) h some = some (H y l))
  (k0 : mp = [] -> f ⟨nt, (d, .tup [.p (.bool false)]) :: sl, h, c⟩)
  (k1 : ∀ (j : Nat) (y : κ × υ), mp[j]? = some y -> f ⟨nt, (d, .tup [.p (.bool true), .p (ke y.1), .p (ve y.2)]) :: sl, H y (mp.eraseIdx j), c⟩) :
  BK P A AB ⟨nt, sl, h, c⟩ (some d) (.next x false) ⟨f, hf⟩ :=
 Yf true hx hl (H := fun q l => (Jj id (.iter q (Aj ke ve l)) h some).getD []) (fun q l => by rw [Gl]; rfl) k0 fun j y hy => by
  simp only [if_true, hu, Option.getD_some]; exact k1 j y hy
theorem Ri {p : DV × DV} {left : List (DV × DV)} {x : Operand} {id : Nat} (hx : BI nt sl x = .lpb id 0) (hl : BW id h = some (.iter (some p) left)) {h' : AL} (hu : Jj id (.iter none left) h some = some h')
  (k : f ⟨nt, (d, .tup [.p p.1, .p p.2]) :: sl, h', c⟩) : BK P A AB ⟨nt, sl, h, c⟩ (some d) (.entry x) ⟨f, hf⟩ := by
 rw [BP (h := h) (c := c)] at hx
 rw [Ba] at hl
 rw [Gl] at hu
 have hu2 := Option.some.inj hu
 show UT h (St.eval ⟨nt, sl, h, c⟩ x) (fun id p left => f (St.go ⟨nt, sl, h, c⟩ (some d) (.tup [.p p.1, .p p.2]) (Bh id (.iter none left) h) c))
 rw [hx]
 unfold UT
 simp only [hl]
 rw [hu2]
 exact k
end
end Go.E
/- Drawn regions whose last operation waits for all others: it is run as in the text's order (a call that turns an object, a call that hands back an own row). Condition: the checks, by kernel. -/
namespace Go.E
open Go Go.RowKit
def FV (o : Oper) : Oper := { o with dst := none, op := .move (.tmp 0), guard := none }
def Iv : List Oper -> List Oper
 | [] => []
 | [o] => [FV o]
 | o :: o' :: r => o :: Iv (o' :: r)
theorem LK (o : Oper) : ∀ l : List Oper, Iv (l ++ [o]) = l ++ [FV o]
 | [] => rfl
 | [a] => rfl
 | a :: b :: l => by
  have := LK o (b :: l)
  simp only [List.cons_append] at this ⊢
  rw [Iv, this]
def Pe (md : Region.Mode) (ops : Array Oper) : List Nat -> List Nat -> Bool
 | _, [] => true
 | done, i :: r => (match ops[i]? with
  | some o => o.after.all fun x => !Region.binds md x || done.contains x.on
  | none => false) && Pe md ops (i :: done) r
def NY (md : Region.Mode) (ops : Array Oper) : List Nat -> List Nat -> Bool
 | _, [] => true
 | later, j :: r => (later.any fun k => match ops[k]? with
  | some o => o.after.any fun x => Region.binds md x && x.on == j
  | none => false) && NY md ops (j :: later) r
def Tz (ops : Array Oper) (L : Nat) : Bool := ops.all fun o => match o.guard with
 | some (j, _) => !(j == L)
 | none => true
def Vo (md : Region.Mode) (ops : Array Oper) (listed : Array Bool) : Prop := ∀ i, listed.getD i false = true -> ∀ o, ops[i]? = some o -> ∀ x ∈ o.after, Region.binds md x = true -> listed.getD x.on false = true
section
variable {P : Program} {A : BG} {AB : A1} {md : Region.Mode} {ops : Array Oper} {base : Nat} {K : St -> Prop}
theorem Pf {listed : Array Bool} (hr : Region.ready md ops listed = []) : ∀ (order done : List Nat), (∀ i ∈ done, listed.getD i false = true) -> (∀ i ∈ order, i < listed.size) -> Pe md ops done order = true -> ∀ i ∈ order, listed.getD i false = true
 | [], _, _, _, _, i, hi => by simp at hi
 | k :: r, done, hd, hs, ht, i, hi => by
  simp only [Pe, Bool.and_eq_true] at ht
  have hk : listed.getD k false = true := by
   cases hl : listed.getD k false with
   | true => rfl
   | false =>
    exfalso
    cases ho : ops[k]? with
    | none => rw [ho] at ht; simp at ht
    | some o =>
     rw [ho] at ht
     have hks := hs k (by simp)
     have : k ∈ Region.ready md ops listed := mem_ready.2 ⟨by
      simp only [Array.getD_eq_getD_getElem?, Array.getElem?_eq_getElem hks, Option.getD_some] at hl ⊢; exact hl, o, ho, fun x hx hb => by
      have h1 := Array.all_eq_true'.1 ht.1 x hx
      simp only [hb, Bool.not_true, Bool.false_or, List.contains_iff_mem] at h1
      exact hd _ h1⟩
     rw [hr] at this
     cases this
  rcases List.mem_cons.1 hi with rfl | hi
  .exact hk
  exact Pf hr r (k :: done) (fun j hj => by
  rcases List.mem_cons.1 hj with rfl | hj
  .exact hk
  exact hd j hj) (fun j hj => hs j (by simp [hj])) ht.2 i hi
theorem NZ {listed : Array Bool} (hc : Vo md ops listed) : ∀ (others later : List Nat), (∀ k ∈ later, ∀ o, ops[k]? = some o -> ∀ x ∈ o.after, Region.binds md x = true -> listed.getD x.on false = true) -> NY md ops later others = true -> ∀ j ∈ others, listed.getD j false = true
 | [], _, _, _, j, hj => by simp at hj
 | k :: r, later, hl, h, j, hj => by
  simp only [NY, Bool.and_eq_true, List.any_eq_true] at h
  obtain ⟨⟨m, hm, h1⟩, h2⟩ := h
  have hk : listed.getD k false = true := by
   cases ho : ops[m]? with
   | none => rw [ho] at h1; cases h1
   | some o =>
    rw [ho] at h1
    obtain ⟨x, hx, hx2⟩ := Array.any_eq_true'.1 h1
    simp only [Bool.and_eq_true, beq_iff_eq] at hx2
    rw [<- hx2.2]
    exact hl m hm o ho x hx hx2.1
  rcases List.mem_cons.1 hj with rfl | hj
  .exact hk
  exact NZ hc r (k :: later) (fun i hi => by
   rcases List.mem_cons.1 hi with rfl | hi
   .exact hc _ hk
   exact hl i hi) h2 j hj
theorem Vp {Q' : Exit -> Act -> World -> Prop} {listed : Array Bool} (hr : Region.ready md ops listed = []) {a : Act} {w : World} (h : Q' .normal a w) : ∀ fuel, wpAny P md ops Q' fuel listed a w
 | 0 => ⟨hr, h⟩
 | fuel + 1 => ⟨fun _ => h, fun i hi => by rw [hr] at hi; cases hi⟩
theorem Pg (hE : A4 P AB) {ops' : Array Oper} {n L : Nat} {oL : Oper} (hn : n = ops.size) (hn' : n = ops'.size) (hL : ops[L]? = some oL) (hL' : ops'[L]? = some (FV oL)) (hg : oL.guard = none) (heq : ∀ i, i ≠ L -> ops'[i]? = ops[i]?) (hgs : Tz ops L = true)
  {others : List Nat} (hall : ∀ i, i < n -> i = L \/ i ∈ others) (hin : ∀ i ∈ others, i < n) (hLn : L < n) (ht : Pe md ops [] (others ++ [L]) = true) (hch : NY md ops [L] others.reverse = true)
  {Q' : Exit -> Act -> World -> Prop} {F : St -> Prop} (hQ : ∀ st a w, F st -> R A st a w -> Q' .normal a w) (hK : ∀ st, K st -> ∃ st', BB A { st with ctr := base + n } st' /\ BK P A AB st' oL.dst oL.op ⟨F, ⟨⟩⟩) :
  ∀ (fuel : Nat) (listed : Array Bool) (st : St) (a : Act) (w : World), listed.size = n -> Vo md ops listed -> listed.getD L true = false -> Ha P AB md ops' base K fuel listed st -> RF A (Fl base n listed) st a w -> wpAny P md ops Q' fuel listed a w := by
 have hrd : ∀ listed i, i ∈ Region.ready md ops' listed ↔ i ∈ Region.ready md ops listed := fun listed i => by
  rw [mem_ready, mem_ready]
  by_cases e : i = L
  .subst e
   rw [hL, hL']
   constructor
   .rintro ⟨h1, o, h2, h3⟩; cases h2; exact ⟨h1, oL, rfl, h3⟩
   rintro ⟨h1, o, h2, h3⟩; cases h2; exact ⟨h1, FV oL, rfl, h3⟩
  rw [heq i e]
 have hrd0 : ∀ listed, Region.ready md ops' listed = [] ↔ Region.ready md ops listed = [] := fun listed => by
  simp only [List.eq_nil_iff_forall_not_mem, hrd]
 have hne : ∀ listed : Array Bool, listed.size = n -> listed.getD L true = false -> Region.ready md ops listed ≠ [] := fun listed hs hl h0 => by
  have := Pf h0 (others ++ [L]) [] (fun i hi => by simp at hi) (fun i hi => by
   rcases List.mem_append.1 hi with hi | hi
   .have := hin i hi; omega
   simp at hi; omega) ht L (by simp)
  rw [Array.getD_eq_getD_getElem?, Array.getElem?_eq_getElem (by omega : L < listed.size)] at this hl
  simp only [Option.getD_some] at this hl
  rw [this] at hl; cases hl
 intro fuel
 induction fuel with
 | zero => intro listed st a w hs _ hl hD _; exact absurd ((hrd0 _).1 hD.1) (hne _ hs hl)
 | succ fuel ih =>
  intro listed st a w hs hc hl hD hR
  refine ⟨fun h0 => absurd h0 (hne _ hs hl), fun i hi => ?_⟩
  obtain ⟨o, l, e, ho, hd, hrec⟩ := hD.2 i ((hrd _ _).2 hi)
  obtain ⟨hun, o', ho', hdep⟩ := mem_ready.1 hi
  by_cases hiL : i = L
  .subst hiL
   rw [hL] at ho'; cases ho'
   rw [hL'] at ho; cases ho
   have hoth : ∀ j ∈ others, listed.getD j false = true := fun j hj => NZ hc others.reverse [i] (fun k hk o hok x hx hb => by
    simp at hk; subst hk
    rw [hL] at hok; cases hok
    exact hdep x hx hb) hch j (List.mem_reverse.2 hj)
   have hend : Region.ready md ops (listed.setIfInBounds i true) = [] := by
    rw [List.eq_nil_iff_forall_not_mem]
    intro j hj
    obtain ⟨g1, o2, g2, _⟩ := mem_ready.1 hj
    have hjn : j < n := by rw [hn]; exact (Array.getElem?_eq_some_iff.1 g2).1
    by_cases hji : i = j
    .subst hji
     simp [show i < listed.size by omega] at g1
    rw [getD_set_ne true hji] at g1
    rcases hall j hjn with rfl | h
    .exact hji rfl
    have := hoth j h
    rw [Array.getD_eq_getD_getElem?, Array.getElem?_eq_getElem (by omega : j < listed.size)] at this g1
    simp only [Option.getD_some] at this g1
    rw [this] at g1; cases g1
   obtain ⟨st', hev, hk⟩ : ∃ st', Fd (apS st (base + i) (FV oL) l e) st' /\ K st' := by
    cases fuel with
    | zero => exact hrec.2
    | succ f => exact hrec.1 ((hrd0 _).2 hend)
   have he : e = .keep := by
    unfold Cs FV at hd
    simp only [CD] at hd
    exact hd.1
   subst he
   have hap : apS st (base + i) (FV oL) l .keep = st := rfl
   rw [hap] at hev
   have hR2 := hR.eqv hev
   have hRR : R A { st' with ctr := base + n } a w := by
    obtain ⟨⟨μ, x1, x2⟩, x3, x4⟩ := hR2
    exact ⟨⟨μ, x1.less fun id hid => .inl hid, x2⟩, x3, x4⟩
   unfold wpOp
   rw [hL]
   have hw : Region.wanted oL (yielded ops a.tmps) = true := by unfold Region.wanted; rw [hg]
   simp only [hw, if_true]
   obtain ⟨st2, hwk, hop⟩ := hK st' hk
   exact .inl (Qa hE (P5 hop) (hwk _ _ hRR) fun st'' a' w' hF hR' => Vp hend (hQ st'' a' w' hF hR') fuel)
  rw [heq i hiL] at ho
  have hlt : i < n := by rw [hn]; exact (Array.getElem?_eq_some_iff.1 ho).1
  have hd' : Cs P AB ops (st.at (base + i)) o l e := by
   unfold Cs at hd ⊢
   cases hgo : o.guard with
   | none => rw [hgo] at hd; exact hd
   | some g =>
    obtain ⟨j, want⟩ := g
    rw [hgo] at hd
    have hjL : j ≠ L := by
     have := Array.all_eq_true'.1 hgs o (Array.mem_of_getElem? ho)
     rw [hgo] at this
     simpa using this
    have hgl : DJ (st.at (base + i)) ops' j = DJ (st.at (base + i)) ops j := by unfold DJ; rw [heq j hjL]
    simp only [hgl] at hd ⊢
    exact hd
  refine OX (st := st.at (base + i)) hE ho ⟨hR.ex, hR.nt, hR.defers⟩ (.inr ⟨i, hlt, hun, rfl⟩) ⟨base + n, fun q hq => .inl hq⟩ hd' fun a' w' hR' => ?_
  refine ih _ _ _ _ (by simpa using hs) (fun k hk o2 ho2 x hx hb => ?_) (by rw [getD_set_ne true hiL]; exact hl) hrec ?_
  .by_cases hki : i = k
   .subst hki
    rw [ho] at ho2; cases ho2
    rw [ho] at ho'; cases ho'
    exact getD_set_true (hdep x hx hb)
   rw [getD_set_ne false hki] at hk
   exact getD_set_true (hc k hk o2 ho2 x hx hb)
  have hR'' : RF A (fun id => Fl base n listed id /\ id ≠ base + i) (apS st (base + i) o l e) a' w' := by
   obtain ⟨⟨μ, x1, x2⟩, x3, x4⟩ := hR'
   refine ⟨⟨μ, ?_, fun t ht => ?_⟩, ?_, x4⟩
   .rw [Bf] at x1 ⊢; exact x1
   .have := x2 t (by rw [Fe] at ht ⊢; exact ht)
    rw [Bf, Cn] at this
    rw [Bf, Cn]; exact this
   rw [Fe] at x3 ⊢; exact x3
  obtain ⟨⟨μ, x1, x2⟩, x3, x4⟩ := hR''
  refine ⟨⟨μ, x1.less fun id hid => ?_, x2⟩, x3, x4⟩
  rcases hid with hid | ⟨k, hk1, hk2, rfl⟩
  .exact ⟨.inl hid, by omega⟩
  have hik : i ≠ k := by
   rintro rfl
   simp [show i < listed.size by omega] at hk2
  exact ⟨.inr ⟨k, hk1, by rw [getD_set_ne true hik] at hk2; exact hk2, rfl⟩, by omega⟩
def Hd : List Oper -> Option Oper
 | [] => none
 | [o] => some o
 | _ :: o :: r => Hd (o :: r)
theorem KY {o : Oper} : ∀ {l : List Oper}, Hd l = some o -> ∃ pre, l = pre ++ [o]
 | [a], h => by simp [Hd] at h; subst h; exact ⟨[], rfl⟩
 | a :: b :: l, h => by
  obtain ⟨pre, e⟩ := KY (l := b :: l) (by simpa [Hd] using h)
  exact ⟨a :: pre, by rw [e]; rfl⟩
def Ph (ops : List Oper) (others : List Nat) : Bool :=
 match Hd ops with
 | none => false
 | some o => o.guard.isNone && (Tz ops.toArray (ops.length - 1) && ((List.range ops.length).all (fun i => Nat.beq i (ops.length - 1) || others.contains i) && ((others.all fun i => Nat.blt i ops.length) &&
   (Pe .any ops.toArray [] (others ++ [ops.length - 1]) && NY .any ops.toArray [ops.length - 1] others.reverse))))
theorem Zv (q : Bool) (hE : A4 P AB) (hm : P.follows .mixedOrders = true) {id : Nat} {ops : List Oper} {Q : Exit -> St -> Prop} {nt : Nat} {sl : List (Nat × LV)} {h : AL} {c : Nat} (others : List Nat) (n : Nat) {oL : Oper}
  (hq : (!q || AB.calm.isSome) = true) (hlast : Hd ops = some oL) (hcl : Ph ops others = true) (hok : GJ q AB.own .any (Iv ops).toArray (others ++ [ops.length - 1]) (Array.replicate ops.length false) = true) (hl : Nat.beq (others.length + 1) ops.length = true) (hn : Nat.beq ops.length n = true)
  (k : C4 P A AB c n ⟨fun st => BK P A AB st oL.dst oL.op ⟨Q .normal, ⟨⟩⟩, ⟨⟩⟩ (Eb (Iv ops) (others ++ [n - 1])) ⟨nt, sl, h, c⟩) : Bz P A (.region id ops.toArray true) Q ⟨nt, sl, h, c⟩ := fun a w hR => by
 have hn' := Nat.eq_of_beq_eq_true hn
 subst hn'
 have hq' : q = true -> ∃ b, AB.calm = some b := fun e => by subst e; exact Option.isSome_iff_exists.1 (by simpa using hq)
 obtain ⟨pre, rfl⟩ := KY hlast
 unfold Ph at hcl
 rw [hlast] at hcl
 simp only [Bool.and_eq_true, Option.isNone_iff_eq_none] at hcl
 obtain ⟨g0, g1, g2, g3, g4, g5⟩ := hcl
 have hlen : (pre ++ [oL]).length - 1 = pre.length := by simp
 rw [hlen] at g1 g2 g4 g5 hok k
 rw [LK] at hok k
 have hsz : (pre ++ [FV oL]).length = (pre ++ [oL]).length := by simp
 have hb : ((others ++ [pre.length]).all fun i => decide (i < (pre ++ [FV oL]).length)) = true := by
  rw [List.all_eq_true] at g3 ⊢
  intro i hi
  rcases List.mem_append.1 hi with hi | hi
  .have := Nat.le_of_ble_eq_true (g3 i hi)
   simp only [List.length_append, List.length_cons, List.length_nil, decide_eq_true_eq] at this ⊢
   omega
  simp at hi; subst hi; simp
 rw [<- hsz] at k hok
 have hd := GM (others ++ [pre.length]) _ hb k
 refine wp_region_any hm ?_
 have hR' := (hR.drawn (w.drawn + 1)).toRF
 have hfr : ∀ k, AF (c + k) h = none := by
  intro k
  cases hx : AF (c + k) h with
  | none => rfl
  | some o =>
   obtain ⟨⟨μ, hh, _⟩, _, _⟩ := hR
   obtain ⟨loc, h1, _⟩ := hh.obj _ _ hx
   rw [hh.fresh _ (by simp [Fr])] at h1; cases h1
 have hD := HK q hq' (others ++ [pre.length]) (Array.replicate (pre ++ [FV oL]).length false) ⟨nt, sl, h, c⟩ hok (fun k _ => hfr k) hd
 have hol : (others ++ [pre.length]).length = (pre ++ [oL]).length := by
  have := Nat.eq_of_beq_eq_true hl
  simpa using this
 rw [hol, hsz] at hD
 have hs2 : (pre ++ [oL]).toArray.size = (pre ++ [oL]).length := by simp
 rw [hs2]
 have hL0 : pre.length < (pre ++ [oL]).length := by simp
 refine Pg (A := A) (n := (pre ++ [oL]).length) (L := pre.length) (oL := oL) (ops' := (pre ++ [FV oL]).toArray) (F := Q .normal) (base := c) hE (by simp) (by simp) (by simp) (by simp) g0 (fun i hi => ?_) g1 (others := others) (fun i hi => ?_) (fun i hi => ?_) hL0 g4 g5
  (fun st a w hF hRR => ⟨st, hRR, hF⟩) (fun st hK => ⟨_, BB.refl _, hK⟩) (pre ++ [oL]).length _ _ a _ (by simp) (fun i hi => ?_) ?_ hD ?_
 .simp only [List.getElem?_toArray]
  rcases Nat.lt_trichotomy i pre.length with h' | h' | h'
  .rw [List.getElem?_append_left h', List.getElem?_append_left h']
  .exact absurd h' hi
  rw [List.getElem?_eq_none (by simp; omega), List.getElem?_eq_none (by simp; omega)]
 .have := List.all_eq_true.1 g2 i (List.mem_range.2 hi)
  simp only [Bool.or_eq_true, List.contains_iff_mem] at this
  exact this.imp (fun h => Nat.eq_of_beq_eq_true h) fun h => h
 .exact Nat.le_of_ble_eq_true (List.all_eq_true.1 g3 i hi)
 .exfalso
  rw [Array.getD_eq_getD_getElem?] at hi
  rcases Nat.lt_or_ge i (pre ++ [oL]).length with h' | h'
  .rw [Array.getElem?_eq_getElem (by simpa using h')] at hi; simp at hi
  rw [Array.getElem?_eq_none (by simpa using h')] at hi; simp at hi
 .rw [Array.getD_eq_getD_getElem?, Array.getElem?_eq_getElem (by simp)]; simp
 obtain ⟨⟨μ, x1, x2⟩, x3, x4⟩ := hR'
 refine ⟨⟨μ, x1.less fun id hid => ?_, x2⟩, x3, x4⟩
 rcases hid with hid | ⟨k, _, _, rfl⟩
 .simp only [Fr]; omega
 simp [Fr]
theorem ZS (q : Bool) (hE : A4 P AB) (hm : P.follows .mixedOrders = true) {id : Nat} {ops : List Oper} {Q : Exit -> St -> Prop} {nt : Nat} {sl : List (Nat × LV)} {h : AL} {c : Nat} (others : List Nat) (n : Nat) {oL : Oper}
  (hq : (!q || AB.calm.isSome) = true) (hlast : Hd ops = some oL) (hcl : Ph ops others = true) (hok : GJ q AB.own .any (Iv ops).toArray (others ++ [ops.length - 1]) (Array.replicate ops.length false) = true) (hl : Nat.beq (others.length + 1) ops.length = true) (hn : Nat.beq ops.length n = true)
  (k : C4 P A AB c n ⟨fun st => ∃ st', BB A st st' /\ BK P A AB st' oL.dst oL.op ⟨Q .normal, ⟨⟩⟩, ⟨⟩⟩ (Eb (Iv ops) (others ++ [n - 1])) ⟨nt, sl, h, c⟩) : Bz P A (.region id ops.toArray true) Q ⟨nt, sl, h, c⟩ := fun a w hR => by
 have hn' := Nat.eq_of_beq_eq_true hn
 subst hn'
 have hq' : q = true -> ∃ b, AB.calm = some b := fun e => by subst e; exact Option.isSome_iff_exists.1 (by simpa using hq)
 obtain ⟨pre, rfl⟩ := KY hlast
 unfold Ph at hcl
 rw [hlast] at hcl
 simp only [Bool.and_eq_true, Option.isNone_iff_eq_none] at hcl
 obtain ⟨g0, g1, g2, g3, g4, g5⟩ := hcl
 have hlen : (pre ++ [oL]).length - 1 = pre.length := by simp
 rw [hlen] at g1 g2 g4 g5 hok k
 rw [LK] at hok k
 have hsz : (pre ++ [FV oL]).length = (pre ++ [oL]).length := by simp
 have hb : ((others ++ [pre.length]).all fun i => decide (i < (pre ++ [FV oL]).length)) = true := by
  rw [List.all_eq_true] at g3 ⊢
  intro i hi
  rcases List.mem_append.1 hi with hi | hi
  .have := Nat.le_of_ble_eq_true (g3 i hi)
   simp only [List.length_append, List.length_cons, List.length_nil, decide_eq_true_eq] at this ⊢
   omega
  simp at hi; subst hi; simp
 rw [<- hsz] at k hok
 have hd := GM (others ++ [pre.length]) _ hb k
 refine wp_region_any hm ?_
 have hR' := (hR.drawn (w.drawn + 1)).toRF
 have hfr : ∀ k, AF (c + k) h = none := by
  intro k
  cases hx : AF (c + k) h with
  | none => rfl
  | some o =>
   obtain ⟨⟨μ, hh, _⟩, _, _⟩ := hR
   obtain ⟨loc, h1, _⟩ := hh.obj _ _ hx
   rw [hh.fresh _ (by simp [Fr])] at h1; cases h1
 have hD := HK q hq' (others ++ [pre.length]) (Array.replicate (pre ++ [FV oL]).length false) ⟨nt, sl, h, c⟩ hok (fun k _ => hfr k) hd
 have hol : (others ++ [pre.length]).length = (pre ++ [oL]).length := by
  have := Nat.eq_of_beq_eq_true hl
  simpa using this
 rw [hol, hsz] at hD
 have hs2 : (pre ++ [oL]).toArray.size = (pre ++ [oL]).length := by simp
 rw [hs2]
 have hL0 : pre.length < (pre ++ [oL]).length := by simp
 refine Pg (A := A) (n := (pre ++ [oL]).length) (L := pre.length) (oL := oL) (ops' := (pre ++ [FV oL]).toArray) (F := Q .normal) (base := c) hE (by simp) (by simp) (by simp) (by simp) g0 (fun i hi => ?_) g1 (others := others) (fun i hi => ?_) (fun i hi => ?_) hL0 g4 g5
  (fun st a w hF hRR => ⟨st, hRR, hF⟩) (fun st hK => hK) (pre ++ [oL]).length _ _ a _ (by simp) (fun i hi => ?_) ?_ hD ?_
 .simp only [List.getElem?_toArray]
  rcases Nat.lt_trichotomy i pre.length with h' | h' | h'
  .rw [List.getElem?_append_left h', List.getElem?_append_left h']
  .exact absurd h' hi
  rw [List.getElem?_eq_none (by simp; omega), List.getElem?_eq_none (by simp; omega)]
 .have := List.all_eq_true.1 g2 i (List.mem_range.2 hi)
  simp only [Bool.or_eq_true, List.contains_iff_mem] at this
  exact this.imp (fun h => Nat.eq_of_beq_eq_true h) fun h => h
 .exact Nat.le_of_ble_eq_true (List.all_eq_true.1 g3 i hi)
 .exfalso
  rw [Array.getD_eq_getD_getElem?] at hi
  rcases Nat.lt_or_ge i (pre ++ [oL]).length with h' | h'
  .rw [Array.getElem?_eq_getElem (by simpa using h')] at hi; simp at hi
  rw [Array.getElem?_eq_none (by simpa using h')] at hi; simp at hi
 .rw [Array.getD_eq_getD_getElem?, Array.getElem?_eq_getElem (by simp)]; simp
 obtain ⟨⟨μ, x1, x2⟩, x3, x4⟩ := hR'
 refine ⟨⟨μ, x1.less fun id hid => ?_, x2⟩, x3, x4⟩
 rcases hid with hid | ⟨k, _, _, rfl⟩
 .simp only [Fr]; omega
 simp [Fr]
end
end Go.E
/- The program's data in plain Lean, and how they stand in cells. Written by a program (gen.py). No condition. -/
namespace Go.E
open Go Go.RowKit Go.Proofs
theorem bq {α β : Type} {o : Option α} {f : α -> Option β} {b : β} {G : Prop} (h : o.bind f = some b) (k : ∀ a, o = some a -> f a = some b -> G) : G := by
 obtain ⟨a, h1, h2⟩ := bd h
 exact k a h1 h2
abbrev bx (l : List DV) : A6 := .box (l.map .p)
theorem Z {α : Type} {a : α} : a = a := rfl
theorem Ae {σ : Type} {A : BG} {S : σ -> St} {st : St} {s t : σ} (h : some s = some t) (hw : BB A st (S s)) : NP A S t .normal st := by
 cases h; exact Zy hw
theorem BM {σ Ans : Type} {A : BG} {S : σ -> St} {Q : Ans -> Exit -> St -> Prop} {st : St} {s : σ} {b : σ ⊕ Ans} (h : some (.inl s) = some b) (hw : BB A st (S s)) : LP A S Q b .normal st := by
 cases h; exact Zx hw
theorem B9 {σ Ans : Type} {A : BG} {S : σ -> St} {Q : Ans -> Exit -> St -> Prop} {st : St} {x : Ans} {b : σ ⊕ Ans} {id : Nat} (h : some (.inr x) = some b) (k : ∀ a, some x = some a -> Q a (.exit id) st) : LP A S Q b (.exit id) st := by
 cases h; exact Zj (k x rfl)
theorem Bq {σ Ans : Type} {A : BG} {S : σ -> St} {Q : Ans -> Exit -> St -> Prop} {st : St} {x : Ans} {b : σ ⊕ Ans} (h : some (.inr x) = some b) (k : ∀ a, some x = some a -> Q a .ret st) : LP A S Q b .ret st := by
 cases h; exact Zk (k x rfl)
theorem D9 {σ Ans : Type} {A : BG} {S : σ -> St} {Q : Ans -> Exit -> St -> Prop} {st : St} {o : Option Ans} {b : σ ⊕ Ans} {id : Nat} (h : o.map .inr = some b) (k : ∀ a, o = some a -> Q a (.exit id) st) : LP A S Q b (.exit id) st := by
 obtain ⟨a, h1, rfl⟩ := mp h; exact Zj (k a h1)
theorem Z1 {σ Ans : Type} {A : BG} {S : σ -> St} {Q : Ans -> Exit -> St -> Prop} {st : St} {o : Option Ans} {b : σ ⊕ Ans} (h : o.map .inr = some b) (k : ∀ a, o = some a -> Q a .ret st) : LP A S Q b .ret st := by
 obtain ⟨a, h1, rfl⟩ := mp h; exact Zk (k a h1)

instance : BEq ByteArray := ⟨fun a b => a.toList == b.toList⟩
def AZ (n : Int) : Int := IntKind.wrap .i64 n
def XT (a b : Int) : Int := IntKind.wrap .i64 (BitVec.ofInt (IntKind.bits .i64) a ^^^ BitVec.ofInt (IntKind.bits .i64) b).toNat
def AN (n : Int) : List DV := [.int .i64 n]
def Zz (n : Int) : List DV := [.int .u8 n]
def ZU (b : Bool) : List DV := [.bool b]
def Em (s : ByteArray) : List DV := [.str s]
def Am {α : Type} (sz : Nat) (enc : α -> List DV) (l : List α) : DV := .slice sz (l.map enc)
def KW {α : Type} (sz : Nat) (enc : α -> List DV) (l : List α) : List DV := [.slice sz (l.map enc)]
structure AE where
 elem : Int
 fin : Int
 deriving DecidableEq
def Aw (x : AE) : List DV := [.int .i64 x.elem, .int .i64 x.fin]
theorem KQ (x y : AE) : Cf (Aw x) (Aw y) = (x == y) := by
 rw [Bool.eq_iff_iff]
 rw [beq_iff_eq]
 simp only [Aw, Cf, Dh, Bool.and_eq_true, beq_iff_eq, Bool.and_true]
 constructor
 .intro h
  obtain ⟨a1, a2⟩ := x; obtain ⟨b1, b2⟩ := y; simp only at h; simp [h]
 rintro rfl; simp
structure Bk where
 a : AE
 b : AE
 deriving DecidableEq
def Bo (x : Bk) : List DV := [.int .i64 x.a.elem, .int .i64 x.a.fin, .int .i64 x.b.elem, .int .i64 x.b.fin]
structure Bl where
 name : ByteArray
 kind : Int
 length : Int
 deriving DecidableEq
def Bp (x : Bl) : List DV := [.str x.name, .int .i64 x.kind, .int .i64 x.length]
structure A9 where
 name : ByteArray
 at_ : AE
 auto : Bool
 deriving DecidableEq
def BJ (x : A9) : List DV := [.str x.name, .int .i64 x.at_.elem, .int .i64 x.at_.fin, .bool x.auto]
structure B5 where
 name : ByteArray
 elems : (List Int)
 deriving DecidableEq
def Bt (x : B5) : List DV := [.str x.name, .slice 1 (x.elems.map AN)]
structure AH where
 elems : (List Bl)
 joins : (List Bk)
 signals : (List A9)
 lines : (List B5)
 top : Int
 brake : Int
 margin : Int
 throw : Int
 hard : Bool
 deriving DecidableEq
def Aa (x : AH) : List DV := [.slice 3 (x.elems.map Bp), .slice 4 (x.joins.map Bo), .slice 4 (x.signals.map BJ), .slice 2 (x.lines.map Bt), .int .i64 x.top, .int .i64 x.brake, .int .i64 x.margin, .int .i64 x.throw, .bool x.hard]
structure Fx where
 a0 : Int
 a1 : Int
 deriving DecidableEq
structure CE where
 p : AH
 next : (List (AE × AE))
 reads : (List (AE × Int))
 line : (List (Int × Fx))
 lead : (List (Int × Int))
 deriving DecidableEq
structure Ao where
 elem : Int
 in_ : Int
 out : Int
 deriving DecidableEq
def BH (x : Ao) : List DV := [.int .i64 x.elem, .int .i64 x.in_, .int .i64 x.out]
structure AM where
 elem : Int
 pos : Int
 deriving DecidableEq
def AP (x : AM) : List DV := [.int .i64 x.elem, .int .i64 x.pos]
theorem Ws (x y : AM) : Cf (AP x) (AP y) = (x == y) := by
 rw [Bool.eq_iff_iff]
 rw [beq_iff_eq]
 simp only [AP, Cf, Dh, Bool.and_eq_true, beq_iff_eq, Bool.and_true]
 constructor
 .intro h
  obtain ⟨a1, a2⟩ := x; obtain ⟨b1, b2⟩ := y; simp only at h; simp [h]
 rintro rfl; simp
structure AO where
 frm : Int
 to : Int
 fin : Int
 steps : (List Ao)
 needs : (List AM)
 guards : (List AM)
 zone : (List Int)
 holds : (List Int)
 bare : Bool
 deriving DecidableEq
def Aq (x : AO) : List DV := [.int .i64 x.frm, .int .i64 x.to, .int .i64 x.fin, .slice 3 (x.steps.map BH), .slice 2 (x.needs.map AP), .slice 2 (x.guards.map AP), .slice 1 (x.zone.map AN), .slice 1 (x.holds.map AN), .bool x.bare]
structure Co where
 out : Int
 pos : Int
 deriving DecidableEq
def MQ (x : Co) : List DV := [.int .i64 x.out, .int .i64 x.pos]
structure Ab where
 p : AH
 r : AO
 met : (List AE)
 deriving DecidableEq
structure MS where
 plan : AH
 roads : (List AO)
 deriving DecidableEq
structure AV where
 elems : Int
 steps : (List (Int × (List Int)))
 zone : (List (Int × (List Int)))
 needs : (List (Int × (List AM)))
 guards : (List (Int × (List AM)))
 deriving DecidableEq
def A8 (x : AV) : List DV := [.int .i64 x.elems, .map (Aj (.int .i64) (Am 1 AN) x.steps), .map (Aj (.int .i64) (Am 1 AN) x.zone), .map (Aj (.int .i64) (Am 2 AP) x.needs), .map (Aj (.int .i64) (Am 2 AP) x.guards)]
theorem CJ : Jl AB 3 (.int .i64) := ⟨fun _ _ => rfl, fun _ => rfl⟩
def ZV : Go.Shelf.Ren := ⟨fun n => if n = 45 then 73 else n, fun n => match n with | 22 => 34 | 23 => 3 | n => n, fun n => n⟩
theorem ZT : SlLaysE0.n45 Try.prog ZV where
 mixed := mixed
 f45 := ⟨Try.f73.name, by decide, by exact Try.func73⟩
 t0 := Try.underlying0
 a0 := Try.isAgg0
 z0 := Try.sizeOf0
 v0 := Try.zeroValue0
 t3 := Try.underlying3
 a3 := Try.isAgg3
 z3 := Try.sizeOf3
 v3 := Try.zeroValue3
 t4 := Try.underlying4
 a4 := Try.isAgg4
 z4 := Try.sizeOf4
 v4 := Try.zeroValue4
 t22 := Try.underlying34
 a22 := Try.isAgg34
 z22 := Try.sizeOf34
 v22 := Try.zeroValue34
def ZW : Go.Shelf.Ren := ⟨fun n => match n with | 125 => 112 | 128 => 168 | 129 => 169 | 189 => 79 | 215 => 186 | 216 => 165 | 257 => 111 | 294 => 159 | 295 => 160 | 296 => 161 | 297 => 162 | 298 => 163 | 299 => 164 | 300 => 166 | 301 => 167 | 328 => 181 | 329 => 182 | 330 => 183 | 331 => 184 | 332 => 185 | 343 => 189 | n => n, fun n => match n with | 0 => 0 | 3 => 3 | 4 => 4 | 5 => 5 | 9 => 9 | 28 => 34 | 46 => 164 | 51 => 209 | 53 => 211 | 131 => 105 | 182 => 202 | 183 => 203 | 218 => 222 | 222 => 226 | 228 => 229 | 229 => 69 | n => n, fun n => n⟩
theorem XX : Go.Proofs.Lays.n189 Try.prog ZW where
 mixed := mixed
 f125 := by exact Try.func112
 f128 := by exact Try.func168
 f129 := by exact Try.func169
 f189 := by exact Try.func79
 f215 := by exact Try.func186
 f216 := by exact Try.func165
 f257 := by exact Try.func111
 f294 := by exact Try.func159
 f295 := by exact Try.func160
 f296 := by exact Try.func161
 f297 := by exact Try.func162
 f298 := by exact Try.func163
 f299 := by exact Try.func164
 f300 := by exact Try.func166
 f301 := by exact Try.func167
 f328 := by exact Try.func181
 f329 := by exact Try.func182
 f330 := by exact Try.func183
 f331 := by exact Try.func184
 f332 := by exact Try.func185
 f343 := by exact Try.func189
 t0 := Try.underlying0
 a0 := Try.isAgg0
 z0 := Try.sizeOf0
 v0 := Try.zeroValue0
 t3 := Try.underlying3
 a3 := Try.isAgg3
 z3 := Try.sizeOf3
 v3 := Try.zeroValue3
 t4 := Try.underlying4
 a4 := Try.isAgg4
 z4 := Try.sizeOf4
 v4 := Try.zeroValue4
 t5 := Try.underlying5
 a5 := Try.isAgg5
 z5 := Try.sizeOf5
 v5 := Try.zeroValue5
 t9 := Try.underlying9
 a9 := Try.isAgg9
 z9 := Try.sizeOf9
 v9 := Try.zeroValue9
 t28 := Try.underlying34
 a28 := Try.isAgg34
 z28 := Try.sizeOf34
 v28 := Try.zeroValue34
 t46 := Try.underlying164
 a46 := Try.isAgg164
 z46 := Try.sizeOf164
 v46 := Try.zeroValue164
 t51 := Try.underlying209
 a51 := Try.isAgg209
 z51 := Try.sizeOf209
 v51 := Try.zeroValue209
 t53 := Try.underlying211
 a53 := Try.isAgg211
 z53 := Try.sizeOf211
 v53 := Try.zeroValue211
 t131 := Try.underlying105
 a131 := Try.isAgg105
 z131 := Try.sizeOf105
 v131 := Try.zeroValue105
 t182 := Try.underlying202
 a182 := Try.isAgg202
 z182 := Try.sizeOf202
 v182 := Try.zeroValue202
 t183 := Try.underlying203
 a183 := Try.isAgg203
 z183 := Try.sizeOf203
 v183 := Try.zeroValue203
 t218 := Try.underlying222
 a218 := Try.isAgg222
 z218 := Try.sizeOf222
 v218 := Try.zeroValue222
 t222 := Try.underlying226
 a222 := Try.isAgg226
 z222 := Try.sizeOf226
 v222 := Try.zeroValue226
 t228 := Try.underlying229
 a228 := Try.isAgg229
 z228 := Try.sizeOf229
 v228 := Try.zeroValue229
 t229 := Try.underlying69
 a229 := Try.isAgg69
 z229 := Try.sizeOf69
 v229 := Try.zeroValue69
end Go.E
/- Plain functions, and walks in step with them. Written by a program (gen.py). No condition. -/
set_option maxRecDepth 100000
namespace Go.E
open Go Go.RowKit Go.Proofs
noncomputable def GQ (a : Int) (b : Int) (c : Int) (d : Int) : Option Bk :=
 some (⟨(⟨a, b⟩ : AE), (⟨c, d⟩ : AE)⟩ : Bk)
theorem JS (a : Int) (b : Int) (c : Int) (d : Int) (r : Bk) (h : GQ a b c d = some r) : BY Try.prog 87 [.int .i64 a, .int .i64 b, .int .i64 c, .int .i64 d] (· = .agg (Bo r)) := by
 refine fn AA Try.func87 Z Z 16 Z [.cell 8 132] Z [(0, .p (.int .i64 a)), (1, .p (.int .i64 b)), (2, .p (.int .i64 c)), (3, .p (.int .i64 d))] Z Z fun A hA => ?_
 unfold GQ at h
 refine rs AA <| rl Z <| rs AA <| rl Z <| AI ?_
 cases h
 exact er Z Le.rfl
noncomputable def H4 : Option AH :=
 (GQ 0 0 1 0).bind fun a => (GQ 1 1 2 0).bind fun b => (GQ 2 1 3 0).bind fun c => (GQ 3 1 5 0).bind fun d => (GQ 2 2 4 0).bind fun e => some (⟨[(⟨(⟨#[87]⟩ : ByteArray), 4, 0⟩ : Bl), (⟨(⟨#[65]⟩ : ByteArray), 1, 20⟩ : Bl), (⟨(⟨#[80]⟩ : ByteArray), 2, 10⟩ : Bl), (⟨(⟨#[66]⟩ : ByteArray), 1, 20⟩ : Bl), (⟨(⟨#[67]⟩ : ByteArray), 1, 30⟩ : Bl), (⟨(⟨#[69]⟩ : ByteArray), 4, 0⟩ : Bl)], [a, b, c, d, e], [(⟨(⟨#[119]⟩ : ByteArray), (⟨0, 0⟩ : AE), false⟩ : A9), (⟨(⟨#[97]⟩ : ByteArray), (⟨1, 1⟩ : AE), false⟩ : A9), (⟨(⟨#[101]⟩ : ByteArray), (⟨5, 0⟩ : AE), false⟩ : A9), (⟨(⟨#[98]⟩ : ByteArray), (⟨3, 0⟩ : AE), false⟩ : A9), (⟨(⟨#[99]⟩ : ByteArray), (⟨4, 0⟩ : AE), false⟩ : A9)], [], 10, 5, 15, 2, false⟩ : AH)
theorem Uh (r : AH) (h : H4 = some r) : BY Try.prog 41 [] (· = .agg (Aa r)) := by
 refine fn AA Try.func41 Z Z 31 Z [.cell 0 27] Z [] Z Z fun A hA => ?_
 unfold H4 at h
 refine rs AA <| rl Z <| rs AA <| rl Z <| rs AA <| rl Z <| rs AA <| bq h fun l a f => sx Z (Ai (JS _ _ _ _ _ a) (.inl Z) Z Z Z <| bq f fun m b g => sx Z (Ai (JS _ _ _ _ _ b) (.inl Z) Z Z Z <| bq g fun n c i => sx Z (Ai (JS _ _ _ _ _ c) (.inl Z) Z Z Z <| bq i fun o d j => sx Z (Ai (JS _ _ _ _ _ d) (.inl Z) Z Z Z <| bq j fun q e k => sx Z (Ai (JS _ _ _ _ _ e) (.inl Z) Z Z Z <| rl Z <| rs AA <| rl Z <| rs AA <| rl Z <| AI ?_)))))
 cases k
 exact er (Kr Z (.agg (.cons (.own (enc := Bp) ([(⟨(⟨#[87]⟩ : ByteArray), 4, 0⟩ : Bl), (⟨(⟨#[65]⟩ : ByteArray), 1, 20⟩ : Bl), (⟨(⟨#[80]⟩ : ByteArray), 2, 10⟩ : Bl), (⟨(⟨#[66]⟩ : ByteArray), 1, 20⟩ : Bl), (⟨(⟨#[67]⟩ : ByteArray), 1, 30⟩ : Bl), (⟨(⟨#[69]⟩ : ByteArray), 4, 0⟩ : Bl)] : List Bl) Z Z) (.cons (.own (enc := Bo) ([l, m, n, o, q] : List Bk) Z Z) (.cons (.own (enc := BJ) ([(⟨(⟨#[119]⟩ : ByteArray), (⟨0, 0⟩ : AE), false⟩ : A9), (⟨(⟨#[97]⟩ : ByteArray), (⟨1, 1⟩ : AE), false⟩ : A9), (⟨(⟨#[101]⟩ : ByteArray), (⟨5, 0⟩ : AE), false⟩ : A9), (⟨(⟨#[98]⟩ : ByteArray), (⟨3, 0⟩ : AE), false⟩ : A9), (⟨(⟨#[99]⟩ : ByteArray), (⟨4, 0⟩ : AE), false⟩ : A9)] : List A9) Z Z) (.cons (.p _) (.cons (.p _) (.cons (.p _) (.cons (.p _) (.cons (.p _) (.cons (.p _) .nil))))))))))) (Le.agg' (.cons Le.rfl (.cons Le.rfl (.cons Le.rfl (.cons (Le.nil _) (.cons Le.rfl (.cons Le.rfl (.cons Le.rfl (.cons Le.rfl (.cons Le.rfl .nil))))))))))
noncomputable def G5 (b : AH) (a : Int) : Option (Int ⊕ Bool) :=
 bif decide (a < (b.signals.length : Int)) then (Ak b.signals a).bind fun c => bif decide (100 < (c.name.size : Int)) then some (.inr false) else some (.inl (AZ (a + 1))) else some (.inr true)
noncomputable def G6 (b : AH) (a : Int) : Option (Int ⊕ Bool) :=
 bif decide (a < (b.elems.length : Int)) then (Ak b.elems a).bind fun c => bif decide (100 < (c.name.size : Int)) then some (.inr false) else some (.inl (AZ (a + 1))) else (AQ (G5 b) 0).map .inr
noncomputable def JA (b : AH) (a : Int) : Option (Int ⊕ Bool) :=
 bif decide (a < (b.lines.length : Int)) then (((Ak b.lines a).bind fun d => bif decide (60 < (d.elems.length : Int)) then some true else (Ak b.lines a).bind fun e => some (decide (100 < (e.name.size : Int))) : Option (Bool))).bind fun (c : Bool) => bif c then some (.inr false) else some (.inl (AZ (a + 1))) else (AQ (G6 b) 0).map .inr
noncomputable def Ii (a : AH) : Option Bool :=
 ((bif decide (60 < (a.elems.length : Int)) then some true else bif decide (120 < (a.joins.length : Int)) then some true else bif decide (60 < (a.signals.length : Int)) then some true else some (decide (20 < (a.lines.length : Int))) : Option (Bool))).bind fun (b : Bool) => bif b then some false else AQ (JA a) 0
theorem Wo (b : AH) (r : Bool) (h : Ii b = some r) : BY Try.prog 43 [.agg (Aa b)] (· = .bool r) := by
 refine fn AA Try.func43 Z Z 83 Z [.tmp 2] Z [(0, .p (.agg (Aa b)))] Z Z fun A hA => ?_
 unfold Ii at h
 refine rs AA <| rl Z <| AC <| jb (fun d : Bool => ⟨83, [(1, .lpb 0 0), (27, lb d)], [(0, bx (Aa b))], 1⟩) h (fun d u => ?_) (fun d am => ?_)
 .refine rg AA <| rn 2 Z <| sx Z (Az Z Z <| rn 2 Z <| gs 10 u Z Z Z (fun v => ?_) (fun ac => ?_))
  .exact rl Z <| Ae v (wf hA [(0, 0)] Z Z Z)
  refine rn 2 Z <| sx Z (Az Z Z <| rn 3 Z <| gs 16 ac Z Z Z (fun ai => ?_) (fun aj => ?_))
  .exact rl Z <| Ae ai (wf hA [(0, 0)] Z Z Z)
  refine rn 2 Z <| sx Z (Az Z Z <| rn 3 Z <| gs 22 aj Z Z Z (fun ak => ?_) (fun al => ?_))
  .exact rl Z <| Ae ak (wf hA [(0, 0)] Z Z Z)
  exact rn 2 Z <| sx Z (Az Z Z <| rl Z <| Ae al (wf hA [(0, 0)] Z Z Z))
 refine cd Z am (fun an => ?_) (fun ao => ?_)
 .refine rs AA <| rl Z <| AI <| AK ?_
  cases an
  exact er Z Le.rfl
 refine AG <| AD <| AC <| rs AA <| rl Z <| AJ ?_
 apply lp (a := r) (fun c : Int => ⟨83, [(1, .lpb 0 0), (3, li c)], [(0, bx (Aa b))], 1⟩) ao
 . exact wf hA [(0, 0)] Z Z Z
 intro c a9 f
 unfold JA at f
 refine AC <| rs AA <| rn 3 Z <| sx Z (Az Z Z <| rl Z <| cd Z f (fun t => ?_) (fun ag => ?_))
 .refine AG <| AD <| AC <| AJ <| jb (fun e : Bool => ⟨83, [(1, .lpb 0 0), (3, li c), (52, lb e)], [(0, bx (Aa b))], 1⟩) t (fun e w => ?_) (fun e ab => ?_)
  .refine rg AA <| rn 3 Z <| bq w fun bc n x => sx Z (Ar n Z Z Z <| rn 2 Z <| sx Z (Az Z Z <| rn 2 Z <| gs 43 x Z Z Z (fun y => ?_) (fun z => ?_)))
   .exact rl Z <| Ae y (wf hA [(0, 0)] Z Z Z)
   exact rn 3 Z <| bq z fun be o aa => sx Z (Ar o Z Z Z <| rl Z <| Ae aa (wf hA [(0, 0)] Z Z Z))
  refine cd Z ab (fun ad => ?_) (fun af => ?_)
  .refine rs AA <| rl Z <| AI <| Af <| AK <| Bq ad fun a5 ae => Af <| AK ?_
   cases ae
   exact er Z Le.rfl
  exact AG <| As <| AD <| rg AA <| rl Z <| BM af (wf hA [(0, 0)] Z Z Z)
 refine Al <| An <| D9 ag fun l ah => A5 <| AD <| AC <| rs AA <| rl Z <| AJ ?_
 apply lp (a := l) (fun j : Int => ⟨83, [(1, .lpb 0 0), (4, li j)], [(0, bx (Aa b))], 1⟩) ah
 . exact wf hA [(0, 0)] Z Z Z
 intro j ba g
 unfold G6 at g
 refine AC <| rs AA <| rn 3 Z <| sx Z (Az Z Z <| rl Z <| cd Z g (fun ap => ?_) (fun aw => ?_))
 .refine AG <| AD <| AC <| AJ <| rs AA <| rn 3 Z <| bq ap fun bf q aq => sx Z (Ar q Z Z Z <| rl Z <| cd Z aq (fun ar => ?_) (fun av => ?_))
  .refine rs AA <| rl Z <| AI <| Af <| AK <| Bq ar fun a6 au => Af <| AK ?_
   cases au
   exact er Z Le.rfl
  exact AG <| As <| AD <| rg AA <| rl Z <| BM av (wf hA [(0, 0)] Z Z Z)
 refine Al <| An <| D9 aw fun m ax => A5 <| AD <| AC <| rs AA <| rl Z <| AJ ?_
 apply lp (a := m) (fun k : Int => ⟨83, [(1, .lpb 0 0), (5, li k)], [(0, bx (Aa b))], 1⟩) ax
 . exact wf hA [(0, 0)] Z Z Z
 intro k bb i
 unfold G5 at i
 refine AC <| rs AA <| rn 3 Z <| sx Z (Az Z Z <| rl Z <| cd Z i (fun ay => ?_) (fun a3 => ?_))
 .refine AG <| AD <| AC <| AJ <| rs AA <| rn 3 Z <| bq ay fun bg s az => sx Z (Ar s Z Z Z <| rl Z <| cd Z az (fun a0 => ?_) (fun a2 => ?_))
  .refine rs AA <| rl Z <| AI <| Af <| AK <| Bq a0 fun a7 a1 => Af <| AK ?_
   cases a1
   exact er Z Le.rfl
  exact AG <| As <| AD <| rg AA <| rl Z <| BM a2 (wf hA [(0, 0)] Z Z Z)
 refine Al <| An <| B9 a3 fun a8 a4 => A5 <| AD <| rs AA <| rl Z <| AI ?_
 cases a4
 exact er Z Le.rfl
noncomputable def EB (b : AH) (d : (Int × (List ByteArray))) (c : (Int × (List ByteArray))) (a : Int × (List ByteArray)) : Option ((Int × (List ByteArray)) ⊕ ((List ByteArray) × (List ByteArray) × (List ByteArray))) :=
 bif decide (a.1 < (b.lines.length : Int)) then (Ak b.lines a.1).bind fun e => (BN a.2 [e.name]).bind fun f => some (.inl (AZ (a.1 + 1), f)) else some (.inr (d.2, c.2, a.2))
noncomputable def EC (b : AH) (c : (Int × (List ByteArray))) (a : Int × (List ByteArray)) : Option ((Int × (List ByteArray)) ⊕ ((List ByteArray) × (List ByteArray) × (List ByteArray))) :=
 bif decide (a.1 < (b.signals.length : Int)) then (Ak b.signals a.1).bind fun d => (BN a.2 [d.name]).bind fun e => some (.inl (AZ (a.1 + 1), e)) else (AQ (EB b c a) (0, ([] : List ByteArray))).map .inr
noncomputable def Fh (b : AH) (a : Int × (List ByteArray)) : Option ((Int × (List ByteArray)) ⊕ ((List ByteArray) × (List ByteArray) × (List ByteArray))) :=
 bif decide (a.1 < (b.elems.length : Int)) then (Ak b.elems a.1).bind fun c => (BN a.2 [c.name]).bind fun d => some (.inl (AZ (a.1 + 1), d)) else (AQ (EC b a) (0, ([] : List ByteArray))).map .inr
noncomputable def H5 (a : AH) : Option ((List ByteArray) × (List ByteArray) × (List ByteArray)) :=
 AQ (Fh a) (0, ([] : List ByteArray))
theorem Ui (e : AH) (r : ((List ByteArray) × (List ByteArray) × (List ByteArray))) (h : H5 e = some r) : BY Try.prog 91 [.agg (Aa e)] (· = .tup [.slice 1 (r.1.map Em), .slice 1 (r.2.1.map Em), .slice 1 (r.2.2.map Em)]) := by
 refine fn AA Try.func91 Z Z 62 Z [.tmp 2, .tmp 3, .tmp 4] Z [(0, .p (.agg (Aa e)))] Z Z fun A hA => ?_
 unfold H5 at h
 refine rs AA <| rl Z <| rs AA <| rl Z <| AC <| rs AA <| rl Z <| AJ ?_
 apply lp (a := r) (fun b : (Int × (List ByteArray)) => ⟨62, [(1, .lpb 0 0), (5, .lsl 1 1 0 b.2.length), (6, .p (.nils)), (7, .p (.nils)), (8, li b.1)], [(0, bx (Aa e)), (1, .row 9 1 (b.2.map Em))], 2⟩) h
 . exact BB.trans (CG 5 9 1 Z) (wf hA [(0, 0), (1, 1)] Z Z Z)
 intro b aq i
 unfold Fh at i
 refine AC <| rs AA <| rn 3 Z <| sx Z (Az Z Z <| rl Z <| cd Z i (fun aj => ?_) (fun x => ?_))
 .exact AG <| AD <| AC <| AJ <| rg AA <| rn 4 Z <| bq aj fun ak n v => sx Z (Ar n Z Z Z <| rn 3 Z <| bq v fun ar o w => sx Z (A7 (enc := Em) (l := b.2) (m := [ak.name]) o (fun _ => ⟨Z, Z⟩) Z Z Z Z Z Z <| rl Z <| As <| AD <| rg AA <| rl Z <| BM w (wf hA [(0, 0), (1, 3)] Z Z Z)))
 refine Al <| An <| D9 x fun j y => A5 <| AD <| AC <| rs AA <| rl Z <| AJ ?_
 apply lp (a := j) (fun c : (Int × (List ByteArray)) => ⟨62, [(1, .lpb 0 0), (5, .lsl 1 1 0 b.2.length), (6, .lsl 2 1 0 c.2.length), (7, .p (.nils)), (9, li c.1)], [(0, bx (Aa e)), (1, .row 9 1 (b.2.map Em)), (2, .row 9 1 (c.2.map Em))], 3⟩) y
 . exact BB.trans (CG 6 9 1 Z) (wf hA (gi 3 []) Z Z Z)
 intro c ao f
 unfold EC at f
 refine AC <| rs AA <| rn 3 Z <| sx Z (Az Z Z <| rl Z <| cd Z f (fun z => ?_) (fun ac => ?_))
 .exact AG <| AD <| AC <| AJ <| rg AA <| rn 4 Z <| bq z fun al q aa => sx Z (Ar q Z Z Z <| rn 3 Z <| bq aa fun au s ab => sx Z (A7 (enc := Em) (l := c.2) (m := [al.name]) s (fun _ => ⟨Z, Z⟩) Z Z Z Z Z Z <| rl Z <| As <| AD <| rg AA <| rl Z <| BM ab (wf hA [(0, 0), (1, 1), (2, 4)] Z Z Z)))
 refine Al <| An <| D9 ac fun k ad => A5 <| AD <| AC <| rs AA <| rl Z <| AJ ?_
 apply lp (a := k) (fun d : (Int × (List ByteArray)) => ⟨62, [(1, .lpb 0 0), (5, .lsl 1 1 0 b.2.length), (6, .lsl 2 1 0 c.2.length), (7, .lsl 3 1 0 d.2.length), (10, li d.1)], [(0, bx (Aa e)), (1, .row 9 1 (b.2.map Em)), (2, .row 9 1 (c.2.map Em)), (3, .row 9 1 (d.2.map Em))], 4⟩) ad
 . exact BB.trans (CG 7 9 1 Z) (wf hA (gi 4 []) Z Z Z)
 intro d ap g
 unfold EB at g
 refine AC <| rs AA <| rn 3 Z <| sx Z (Az Z Z <| rl Z <| cd Z g (fun ae => ?_) (fun ah => ?_))
 .exact AG <| AD <| AC <| AJ <| rg AA <| rn 4 Z <| bq ae fun am t af => sx Z (Ar t Z Z Z <| rn 3 Z <| bq af fun av u ag => sx Z (A7 (enc := Em) (l := d.2) (m := [am.name]) u (fun _ => ⟨Z, Z⟩) Z Z Z Z Z Z <| rl Z <| As <| AD <| rg AA <| rl Z <| BM ag (wf hA (gi 3 [(3, 5)]) Z Z Z)))
 refine Al <| An <| B9 ah fun an ai => A5 <| AD <| rs AA <| rl Z <| AI ?_
 cases ai
 exact er (XQ Z (.cons (.one (.own (enc := Em) b.2 Z Z)) (.cons (.one (.own (enc := Em) c.2 Z Z)) (.cons (.one (.own (enc := Em) d.2 Z Z)) .nil)))) Le.rfl
noncomputable def C1 (a : Int) (c : Int) (d : Int) : Option Bool :=
 ((bif decide (c <= a) then some (decide (a <= d)) else some false : Option (Bool))).bind fun (b : Bool) => some b
theorem Fv (b : Int) (c : Int) (d : Int) (r : Bool) (h : C1 b c d = some r) : BY Try.prog 131 [.int .i64 b, .int .i64 c, .int .i64 d] (· = .bool r) := by
 refine fn AA Try.func131 Z Z 15 Z [.tmp 6] Z [(0, .p (.int .i64 b)), (1, .p (.int .i64 c)), (2, .p (.int .i64 d))] Z Z fun A hA => ?_
 unfold C1 at h
 refine rs AA <| rl Z <| jb (fun a : Bool => ⟨15, [(6, lb a)], [], 0⟩) h (fun a e => ?_) (fun a i => ?_)
 .refine rg AA <| rn 4 Z <| gs 10 e Z Z Z (fun f => ?_) (fun g => ?_)
  .exact rl Z <| Ae f (wf hA [] Z Z Z)
  exact rl Z <| Ae g (wf hA [] Z Z Z)
 refine AI ?_
 have hr := Option.some.inj i; subst hr
 exact er Z Le.rfl
noncomputable def GR (c : ByteArray) (b : Int) : Option (Int ⊕ Bool) :=
 bif decide (b < (c.size : Int)) then (MI c b).bind fun a => ((bif decide (97 <= (a.toNat : Int)) then bif decide ((a.toNat : Int) <= 122) then some true else bif decide (65 <= (a.toNat : Int)) then some (decide ((a.toNat : Int) <= 90)) else some false else bif decide (65 <= (a.toNat : Int)) then some (decide ((a.toNat : Int) <= 90)) else some false : Option (Bool))).bind fun (d : Bool) => ((bif (!d) then bif (b == 0) then some true else bif decide ((a.toNat : Int) < 48) then some true else some (decide (57 < (a.toNat : Int))) else some false : Option (Bool))).bind fun (e : Bool) => bif e then some (.inr false) else some (.inl (AZ (b + 1))) else (((bif decide (1 <= (c.size : Int)) then some (decide ((c.size : Int) <= 8)) else some false : Option (Bool))).bind fun (f : Bool) => some f).map .inr
noncomputable def GS (a : ByteArray) : Option Bool :=
 AQ (GR a) 0
theorem NR (b : ByteArray) (r : Bool) (h : GS b = some r) : BY Try.prog 132 [.str b] (· = .bool r) := by
 refine fn AA Try.func132 Z Z 51 Z [.tmp 2] Z [(0, .p (.str b))] Z Z fun A hA => ?_
 unfold GS at h
 refine rs AA <| rl Z <| AC <| rs AA <| rl Z <| AJ ?_
 apply lp (a := r) (fun c : Int => ⟨51, [(0, .p (.str b)), (3, li c)], [], 0⟩) h
 . exact wf hA [] Z Z Z
 intro c ar g
 unfold GR at g
 refine AC <| rs AA <| rl Z <| cd Z g (fun j => ?_) (fun ai => ?_)
 .refine AG <| AD <| AC <| AJ <| rs AA <| rn 2 Z <| bq j fun ao i k => sx Z (YV i Z Z Z <| rl Z <| jb (fun d : Bool => ⟨51, [(0, .p (.str b)), (3, li c), (4, .p (.int .u8 (ao.toNat : Int))), (5, lb d)], [], 0⟩) k (fun d l => ?_) (fun d w => ?_))
  .refine rg AA <| rn 3 Z <| gs 17 l Z Z Z (fun m => ?_) (fun t => ?_)
   .refine rn 4 Z <| gs 21 m Z Z Z (fun n => ?_) (fun o => ?_)
    .exact rl Z <| Ae n (wf hA [] Z Z Z)
    refine rn 3 Z <| gs 24 o Z Z Z (fun q => ?_) (fun s => ?_)
    .exact rl Z <| Ae q (wf hA [] Z Z Z)
    exact rl Z <| Ae s (wf hA [] Z Z Z)
   refine rn 7 Z <| gs 24 t Z Z Z (fun u => ?_) (fun v => ?_)
   .exact rl Z <| Ae u (wf hA [] Z Z Z)
   exact rl Z <| Ae v (wf hA [] Z Z Z)
  refine jb (fun e : Bool => ⟨51, [(0, .p (.str b)), (3, li c), (42, lb e)], [], 0⟩) w (fun e x => ?_) (fun e ae => ?_)
  .refine rg AA <| rn 3 Z <| gs 31 x Z Z Z (fun y => ?_) (fun ad => ?_)
   .refine rn 3 Z <| gs 34 y Z Z Z (fun z => ?_) (fun aa => ?_)
    .exact rl Z <| Ae z (wf hA [] Z Z Z)
    refine rn 4 Z <| gs 38 aa Z Z Z (fun ab => ?_) (fun ac => ?_)
    .exact rl Z <| Ae ab (wf hA [] Z Z Z)
    exact rl Z <| Ae ac (wf hA [] Z Z Z)
   exact rl Z <| Ae ad (wf hA [] Z Z Z)
  refine cd Z ae (fun af => ?_) (fun ah => ?_)
  .refine rs AA <| rl Z <| AI <| Af <| AK <| Bq af fun ap ag => Af <| AK ?_
   cases ag
   exact er Z Le.rfl
  exact AG <| As <| AD <| rg AA <| rl Z <| BM ah (wf hA [] Z Z Z)
 refine Al <| An <| D9 ai fun aq aj => A5 <| AD <| jb (fun f : Bool => ⟨51, [(2, lb f)], [], 0⟩) aj (fun f ak => ?_) (fun f an => ?_)
 .refine rg AA <| rn 4 Z <| gs 46 ak Z Z Z (fun al => ?_) (fun am => ?_)
  .exact rl Z <| Ae al (wf hA [] Z Z Z)
  exact rl Z <| Ae am (wf hA [] Z Z Z)
 refine AI ?_
 have hr := Option.some.inj an; subst hr
 exact er Z Le.rfl
noncomputable def GU (a : Int) : Option Int :=
 bif (a == 1) then some 2 else bif (a == 2) then some 3 else bif (a == 3) then some 4 else bif (a == 4) then some 1 else some 0
theorem NS (a : Int) (r : Int) (h : GU a = some r) : BY Try.prog 133 [.int .i64 a] (· = .int .i64 r) := by
 refine fn AA Try.func133 Z Z 12 Z [.tmp 2] Z [(0, .p (.int .i64 a))] Z Z fun A hA => ?_
 unfold GU at h
 refine rs AA <| rl Z <| AC <| rs AA <| rl Z <| AJ <| rs AA <| rl Z <| cd Z h (fun j => ?_) (fun b => ?_)
 .refine rs AA <| rl Z <| AI <| Af <| AK ?_
  cases j
  exact er Z Le.rfl
 refine rs AA <| rl Z <| cd Z b (fun c => ?_) (fun d => ?_)
 .refine rs AA <| rl Z <| AI <| Af <| AK ?_
  cases c
  exact er Z Le.rfl
 refine rs AA <| rl Z <| cd Z d (fun e => ?_) (fun f => ?_)
 .refine rs AA <| rl Z <| AI <| Af <| AK ?_
  cases e
  exact er Z Le.rfl
 refine rs AA <| rl Z <| cd Z f (fun g => ?_) (fun i => ?_)
 .refine rs AA <| rl Z <| AI <| Af <| AK ?_
  cases g
  exact er Z Le.rfl
 refine AG <| As <| AD <| rs AA <| rl Z <| AI ?_
 cases i
 exact er Z Le.rfl
noncomputable def GV (b : AH) (a : Int) : Option (Int ⊕ Bool) :=
 bif decide (a < (b.lines.length : Int)) then (Ak b.lines a).bind fun c => (GS c.name).bind fun d => bif (!d) then some (.inr false) else some (.inl (AZ (a + 1))) else some (.inr true)
noncomputable def GW (b : AH) (a : Int) : Option (Int ⊕ Bool) :=
 bif decide (a < (b.signals.length : Int)) then (Ak b.signals a).bind fun c => (GS c.name).bind fun d => bif (!d) then some (.inr false) else some (.inl (AZ (a + 1))) else (AQ (GV b) 0).map .inr
noncomputable def GX (c : AH) (b : Int) : Option (Int ⊕ Bool) :=
 bif decide (b < (c.elems.length : Int)) then (Ak c.elems b).bind fun a => (((GS a.name).bind fun e => bif (!e) then some true else (GU a.kind).bind fun f => bif (f == 0) then some true else bif (a.kind == 4) then bif (a.length != 0) then some true else bif (a.kind != 4) then (C1 a.length 1 4000).bind fun g => some (!g) else some false else bif (a.kind != 4) then (C1 a.length 1 4000).bind fun h => some (!h) else some false : Option (Bool))).bind fun (d : Bool) => bif d then some (.inr false) else some (.inl (AZ (b + 1))) else (AQ (GW c) 0).map .inr
noncomputable def JT (a : AH) : Option Bool :=
 (((C1 a.top 1 60).bind fun c => bif (!c) then some true else (C1 a.brake 1 10).bind fun d => bif (!d) then some true else (C1 a.margin 1 4000).bind fun e => bif (!e) then some true else (C1 a.throw 1 20).bind fun f => bif (!f) then some true else some ((a.elems.length : Int) == 0) : Option (Bool))).bind fun (b : Bool) => bif b then some false else AQ (GX a) 0
theorem Vb (b : AH) (r : Bool) (h : JT b = some r) : BY Try.prog 92 [.agg (Aa b)] (· = .bool r) := by
 refine fn AA Try.func92 Z Z 108 Z [.tmp 2] Z [(0, .p (.agg (Aa b)))] Z Z fun A hA => ?_
 unfold JT at h
 refine rs AA <| rl Z <| AC <| jb (fun d : Bool => ⟨108, [(1, .lpb 0 0), (34, lb d)], [(0, bx (Aa b))], 1⟩) h (fun d aj => ?_) (fun d bo => ?_)
 .refine rg AA <| rn 2 Z <| bq aj fun cc q ak => sx Z (Ai (Fv _ _ _ _ q) (.inl Z) Z Z Z <| rn 2 Z <| gs 11 ak Z Z Z (fun al => ?_) (fun am => ?_))
  .exact rl Z <| Ae al (wf hA [(0, 0)] Z Z Z)
  refine rn 2 Z <| bq am fun ce s ao => sx Z (Ai (Fv _ _ _ _ s) (.inl Z) Z Z Z <| rn 3 Z <| gs 17 ao Z Z Z (fun ap => ?_) (fun aq => ?_))
  .exact rl Z <| Ae ap (wf hA [(0, 0)] Z Z Z)
  refine rn 2 Z <| bq aq fun cf t ar => sx Z (Ai (Fv _ _ _ _ t) (.inl Z) Z Z Z <| rn 3 Z <| gs 23 ar Z Z Z (fun av => ?_) (fun aw => ?_))
  .exact rl Z <| Ae av (wf hA [(0, 0)] Z Z Z)
  refine rn 2 Z <| bq aw fun cj x bc => sx Z (Ai (Fv _ _ _ _ x) (.inl Z) Z Z Z <| rn 3 Z <| gs 29 bc Z Z Z (fun bl => ?_) (fun bn => ?_))
  .exact rl Z <| Ae bl (wf hA [(0, 0)] Z Z Z)
  exact rn 2 Z <| sx Z (Az Z Z <| rl Z <| Ae bn (wf hA [(0, 0)] Z Z Z))
 refine cd Z bo (fun bp => ?_) (fun br => ?_)
 .refine rs AA <| rl Z <| AI <| AK ?_
  cases bp
  exact er Z Le.rfl
 refine AG <| AD <| AC <| rs AA <| rl Z <| AJ ?_
 apply lp (a := r) (fun c : Int => ⟨108, [(1, .lpb 0 0), (3, li c)], [(0, bx (Aa b))], 1⟩) br
 . exact wf hA [(0, 0)] Z Z Z
 intro c b7 f
 unfold GX at f
 refine AC <| rs AA <| rn 3 Z <| sx Z (Az Z Z <| rl Z <| cd Z f (fun an => ?_) (fun bk => ?_))
 .refine AG <| AD <| AC <| AJ <| rs AA <| rn 3 Z <| bq an fun cg u au => sx Z (Ar u Z Z Z <| rl Z <| jb (fun e : Bool => ⟨108, [(1, .lpb 0 0), (3, li c), (77, lb e)], [(0, bx (Aa b))], 1⟩) au (fun e ax => ?_) (fun e bg => ?_))
  .refine rg AA <| rn 2 Z <| bq ax fun ch v ay => sx Z (Ai (NR _ _ v) (.inl Z) Z Z Z <| rn 2 Z <| gs 51 ay Z Z Z (fun az => ?_) (fun a0 => ?_))
   .exact rl Z <| Ae az (wf hA [(0, 0)] Z Z Z)
   refine rn 2 Z <| bq a0 fun ci w a1 => sx Z (Ai (NS _ _ w) (.inl Z) Z Z Z <| rn 3 Z <| gs 57 a1 Z Z Z (fun a2 => ?_) (fun a3 => ?_))
   .exact rl Z <| Ae a2 (wf hA [(0, 0)] Z Z Z)
   refine rn 4 Z <| gs 61 a3 Z Z Z (fun a4 => ?_) (fun ba => ?_)
   .refine rn 6 Z <| gs 67 a4 Z Z Z (fun a5 => ?_) (fun a6 => ?_)
    .exact rl Z <| Ae a5 (wf hA [(0, 0)] Z Z Z)
    refine rn 4 Z <| gs 71 a6 Z Z Z (fun a7 => ?_) (fun a9 => ?_)
    .exact rn 2 Z <| bq a7 fun ck y a8 => sx Z (Ai (Fv _ _ _ _ y) (.inl Z) Z Z Z <| rl Z <| Ae a8 (wf hA [(0, 0)] Z Z Z))
    exact rl Z <| Ae a9 (wf hA [(0, 0)] Z Z Z)
   refine rn 10 Z <| gs 71 ba Z Z Z (fun bb => ?_) (fun bf => ?_)
   .exact rn 2 Z <| bq bb fun cl z be => sx Z (Ai (Fv _ _ _ _ z) (.inl Z) Z Z Z <| rl Z <| Ae be (wf hA [(0, 0)] Z Z Z))
   exact rl Z <| Ae bf (wf hA [(0, 0)] Z Z Z)
  refine cd Z bg (fun bh => ?_) (fun bj => ?_)
  .refine rs AA <| rl Z <| AI <| Af <| AK <| Bq bh fun b5 bi => Af <| AK ?_
   cases bi
   exact er Z Le.rfl
  exact AG <| As <| AD <| rg AA <| rl Z <| BM bj (wf hA [(0, 0)] Z Z Z)
 refine Al <| An <| D9 bk fun l bm => A5 <| AD <| AC <| rs AA <| rl Z <| AJ ?_
 apply lp (a := l) (fun j : Int => ⟨108, [(1, .lpb 0 0), (5, li j)], [(0, bx (Aa b))], 1⟩) bm
 . exact wf hA [(0, 0)] Z Z Z
 intro j b8 g
 unfold GW at g
 refine AC <| rs AA <| rn 3 Z <| sx Z (Az Z Z <| rl Z <| cd Z g (fun bs => ?_) (fun b0 => ?_))
 .refine AG <| AD <| AC <| AJ <| rs AA <| rn 3 Z <| bq bs fun cm aa bt => sx Z (Ar aa Z Z Z <| rn 2 Z <| bq bt fun cn ab bu => sx Z (Ai (NR _ _ ab) (.inl Z) Z Z Z <| rl Z <| cd Z bu (fun bv => ?_) (fun bz => ?_)))
  .refine rs AA <| rl Z <| AI <| Af <| AK <| Bq bv fun b6 bw => Af <| AK ?_
   cases bw
   exact er Z Le.rfl
  exact AG <| As <| AD <| rg AA <| rl Z <| BM bz (wf hA [(0, 0)] Z Z Z)
 refine Al <| An <| D9 b0 fun m b1 => A5 <| AD <| AC <| rs AA <| rl Z <| AJ ?_
 apply lp (a := m) (fun k : Int => ⟨108, [(1, .lpb 0 0), (6, li k)], [(0, bx (Aa b))], 1⟩) b1
 . exact wf hA [(0, 0)] Z Z Z
 intro k b9 i
 unfold GV at i
 refine AC <| rs AA <| rn 3 Z <| sx Z (Az Z Z <| rl Z <| cd Z i (fun b2 => ?_) (fun ah => ?_))
 .refine AG <| AD <| AC <| AJ <| rs AA <| rn 3 Z <| bq b2 fun ca n ac => sx Z (Ar n Z Z Z <| rn 2 Z <| bq ac fun cb o ad => sx Z (Ai (NR _ _ o) (.inl Z) Z Z Z <| rl Z <| cd Z ad (fun ae => ?_) (fun ag => ?_)))
  .refine rs AA <| rl Z <| AI <| Af <| AK <| Bq ae fun b3 af => Af <| AK ?_
   cases af
   exact er Z Le.rfl
  exact AG <| As <| AD <| rg AA <| rl Z <| BM ag (wf hA [(0, 0)] Z Z Z)
 refine Al <| An <| B9 ah fun b4 ai => A5 <| AD <| rs AA <| rl Z <| AI ?_
 cases ai
 exact er Z Le.rfl
noncomputable def Fi (c : (List ByteArray)) (a : Int) (b : Int) : Option (Int ⊕ (Int ⊕ Bool)) :=
 bif decide (b < a) then (Ak c a).bind fun d => (Ak c b).bind fun e => bif (d.toList == e.toList) then some (.inr (.inr true)) else some (.inl (AZ (b + 1))) else some (.inr (.inl (AZ (a + 1))))
noncomputable def HQ (b : (List ByteArray)) (a : Int) : Option (Int ⊕ Bool) :=
 bif decide (a < (b.length : Int)) then AQ (Fi b a) 0 else some (.inr false)
noncomputable def FK (a : (List ByteArray)) : Option Bool :=
 AQ (HQ a) 0
theorem MN (b : (List ByteArray)) (r : Bool) (h : FK b = some r) : BY Try.prog 93 [.slice 1 (b.map Em)] (· = .bool r) := by
 refine fn AA Try.func93 Z Z 25 Z [.tmp 2] Z [(0, .p (.slice 1 (b.map Em)))] Z Z fun A hA => ?_
 unfold FK at h
 refine rs AA <| rl Z <| AC <| rs AA <| rl Z <| AJ ?_
 apply lp (a := r) (fun c : Int => ⟨25, [(0, ls 1 Em b), (3, li c)], [], 0⟩) h
 . exact wf hA [] Z Z Z
 intro c g d
 unfold HQ at d
 refine AC <| rs AA <| rn 2 Z <| sx Z (Az Z Z <| rl Z <| cd Z d (fun k => ?_) (fun w => ?_))
 .refine AG <| AD <| AC <| AJ <| rs AA <| rl Z <| AJ ?_
  apply lp (a := g) (fun f : Int => ⟨25, [(0, ls 1 Em b), (3, li c), (4, li f)], [], 0⟩) k
  . exact wf hA [] Z Z Z
  intro f ac e
  unfold Fi at e
  refine AC <| rs AA <| rl Z <| cd Z e (fun l => ?_) (fun u => ?_)
  .refine AG <| AD <| AC <| AJ <| AC ?_
   refine CV AA mixed [0, 1, 2, 3, 4, 5, 6, 7, 8] 9 (by kernel_rfl) Z Z Z ?_
   refine Av 2 Z <| bq l fun ad i m => AU Z (Ag Z (Ar i Z Z Z <| Av 3 Z <| bq m fun ae j n => AU Z (Ag Z (Ar j Z Z Z <| A2 Z <| AD <| cd Z n (fun o => ?_) (fun t => ?_)))))
   .refine rs AA <| rl Z <| AI <| Af <| AK <| Bq o fun y q => Af <| Af <| AK <| Bq q fun z s => Af <| AK ?_
    cases s
    exact er Z Le.rfl
   exact AG <| As <| AD <| rg AA <| rl Z <| BM t (wf hA [] Z Z Z)
  exact Al <| An <| B9 u fun aa v => A5 <| As <| AD <| rg AA <| rl Z <| BM v (wf hA [] Z Z Z)
 refine Al <| An <| B9 w fun ab x => A5 <| AD <| rs AA <| rl Z <| AI ?_
 cases x
 exact er Z Le.rfl
end Go.E
/- Plain functions, and walks in step with them. Written by a program (gen.py). No condition. -/
set_option maxRecDepth 100000
namespace Go.E
open Go Go.RowKit Go.Proofs
noncomputable def GZ (b : AH) (a : AE) : Option Bool :=
 ((bif decide (0 <= a.elem) then bif decide (a.elem < (b.elems.length : Int)) then bif decide (0 <= a.fin) then (Ak b.elems a.elem).bind fun d => (GU d.kind).bind fun e => some (decide (a.fin < e)) else some false else some false else some false : Option (Bool))).bind fun (c : Bool) => some c
theorem MO (b : AH) (c : AE) (r : Bool) (h : GZ b c = some r) : BY Try.prog 134 [.agg (Aa b), .agg (Aw c)] (· = .bool r) := by
 refine fn AA Try.func134 Z Z 34 Z [.tmp 4] Z [(0, .p (.agg (Aa b))), (1, .p (.agg (Aw c)))] Z Z fun A hA => ?_
 unfold GZ at h
 refine rs AA <| rl Z <| jb (fun a : Bool => ⟨34, [(4, lb a)], [], 0⟩) h (fun a f => ?_) (fun a q => ?_)
 .refine CV AA mixed [0, 1, 2, 3, 4, 5, 6, 7, 8, 9, 10, 11, 12, 13, 14, 15, 16, 17, 18, 19, 20, 21, 22, 23, 24, 25, 26, 27, 28, 29] 30 (by kernel_rfl) Z Z Z ?_
  refine Av 4 Z <| Ml 8 f Z Z Z (fun g => ?_) (fun o => ?_)
  .refine Av 4 Z <| AU Z (Lb Z Z <| Av 3 Z <| Ml 16 g Z Z Z (fun i => ?_) (fun n => ?_))
   .refine Av 5 Z <| Ml 21 i Z Z Z (fun j => ?_) (fun m => ?_)
    .exact Av 6 Z <| bq j fun s d k => AU Z (Ag Z (Ar d Z Z Z <| Av 2 Z <| bq k fun t e l => AU Z (Ax (NS _ _ e) (.inl Z) Z Z Z <| A2 Z <| Ae l (wf hA [] Z Z Z))))
    exact A2 Z <| Ae m (wf hA [] Z Z Z)
   exact A2 Z <| Ae n (wf hA [] Z Z Z)
  exact A2 Z <| Ae o (wf hA [] Z Z Z)
 refine AI ?_
 have hr := Option.some.inj q; subst hr
 exact er Z Le.rfl
noncomputable def H6 (d : AH) (e : AE) (c : Int) : Option (Int ⊕ (AE × Bool)) :=
 bif decide (c < (d.joins.length : Int)) then (Ak d.joins c).bind fun f => bif (f.a == e) then (Ak d.joins c).bind fun g => some (.inr (g.b, true)) else (Ak d.joins c).bind fun h => bif (h.b == e) then (Ak d.joins c).bind fun i => some (.inr (i.a, true)) else some (.inl (AZ (c + 1))) else some (.inr ((⟨0, 0⟩ : AE), false))
noncomputable def CR (a : AH) (b : AE) : Option (AE × Bool) :=
 AQ (H6 a b) 0
theorem DC (d : AH) (c : AE) (r : (AE × Bool)) (h : CR d c = some r) : BY Try.prog 89 [.agg (Aa d), .agg (Aw c)] (· = .tup [.agg (Aw r.1), .bool r.2]) := by
 refine fn AA Try.func89 Z Z 43 Z [.cell 4 96, .tmp 5] Z [(0, .p (.agg (Aa d))), (1, .p (.agg (Aw c)))] Z Z fun A hA => ?_
 unfold CR at h
 refine rs AA <| rl Z <| AC <| rs AA <| rl Z <| AJ ?_
 apply lp (a := r) (fun f : Int => ⟨43, [(2, .lpb 0 0), (3, .lpb 1 0), (4, .lpb 2 0), (6, li f)], [(0, bx (Aa d)), (1, .box [li c.elem, li c.fin]), (2, .box [li 0, li 0])], 3⟩) h
 . exact wf hA (gi 3 []) Z Z Z
 intro f af e
 unfold H6 at e
 refine AC <| rs AA <| rn 3 Z <| sx Z (Az Z Z <| rl Z <| cd Z e (fun l => ?_) (fun y => ?_))
 .refine AG <| AD <| AC <| AJ <| AC <| AC ?_
  refine CV AA mixed [0, 1, 2, 3, 4, 5, 6, 7] 8 (by kernel_rfl) Z Z Z ?_
  refine Av 3 Z <| bq l fun aa g m => AU Z (Ag Z (Ar g Z Z Z <| Av 3 Z <| AU Z (Lf (KQ aa.a c) Z Z Z Z Z <| A2 Z <| AD <| cd Z m (fun n => ?_) (fun s => ?_))))
  .refine rs AA <| rn 3 Z <| bq n fun ag i o => sx Z (Ar i Z Z Z <| rl Z <| AI <| AK <| Af <| AK <| Bq o fun ac q => Af <| AK ?_)
   cases q
   exact er Z Le.rfl
  refine AG <| AD <| AC ?_
  refine CV AA mixed [0, 1, 2, 3, 4, 5, 6, 7] 8 (by kernel_rfl) Z Z Z ?_
  refine Av 3 Z <| bq s fun ab j t => AU Z (Ag Z (Ar j Z Z Z <| Av 3 Z <| AU Z (Lf (KQ ab.b c) Z Z Z Z Z <| A2 Z <| AD <| cd Z t (fun u => ?_) (fun x => ?_))))
  .refine rs AA <| rn 3 Z <| bq u fun ah k v => sx Z (Ar k Z Z Z <| rl Z <| AI <| Af <| AK <| Bq v fun ad w => Af <| AK ?_)
   cases w
   exact er Z Le.rfl
  exact AG <| As <| AD <| rg AA <| rl Z <| BM x (wf hA (gi 3 []) Z Z Z)
 refine Al <| An <| B9 y fun ae z => A5 <| AD <| rs AA <| rl Z <| AI ?_
 cases z
 exact er Z Le.rfl
noncomputable def DD (b : AH) (a : Int) : Option Int :=
 ((bif decide (a < 0) then some true else some (decide ((b.elems.length : Int) <= a)) : Option (Bool))).bind fun (c : Bool) => bif c then some 0 else (Ak b.elems a).bind fun d => some d.kind
theorem E3 (a : AH) (b : Int) (r : Int) (h : DD a b = some r) : BY Try.prog 135 [.agg (Aa a), .int .i64 b] (· = .int .i64 r) := by
 refine fn AA Try.func135 Z Z 20 Z [.tmp 4] Z [(0, .p (.agg (Aa a))), (1, .p (.int .i64 b))] Z Z fun A hA => ?_
 unfold DD at h
 refine rs AA <| rl Z <| AC <| jb (fun c : Bool => ⟨20, [(1, li b), (2, .lpb 0 0), (13, lb c)], [(0, bx (Aa a))], 1⟩) h (fun c e => ?_) (fun c i => ?_)
 .refine rg AA <| rn 3 Z <| gs 7 e Z Z Z (fun f => ?_) (fun g => ?_)
  .exact rl Z <| Ae f (wf hA [(0, 0)] Z Z Z)
  exact rn 3 Z <| sx Z (Az Z Z <| rl Z <| Ae g (wf hA [(0, 0)] Z Z Z))
 refine cd Z i (fun j => ?_) (fun k => ?_)
 .refine rs AA <| rl Z <| AI <| AK ?_
  cases j
  exact er Z Le.rfl
 refine AG <| AD <| rs AA <| rn 3 Z <| bq k fun m d l => sx Z (Ar d Z Z Z <| rl Z <| AI ?_)
 cases l
 exact er Z Le.rfl
noncomputable def Ep (c : (Int × (List AE))) (b : Int) (a : Int) : Option (Int ⊕ (Int ⊕ Bool)) :=
 bif decide (a < b) then (Ak c.2 a).bind fun d => (Ak c.2 b).bind fun e => bif (d == e) then some (.inr (.inr false)) else some (.inl (AZ (a + 1))) else some (.inr (.inl (AZ (b + 1))))
noncomputable def Er (b : AH) (a : Int) : Option (Int ⊕ Bool) :=
 bif decide (a < (b.elems.length : Int)) then Jk (((Ak b.elems a).bind fun e => bif (e.kind == 4) then (CR b (⟨a, 0⟩ : AE)).bind fun c => ((bif (!c.2) then some true else (DD b c.1.elem).bind fun f => some (f == 4) : Option (Bool))).bind fun (d : Bool) => bif d then some (.inr (.inr false)) else some (.inl ()) else some (.inl ()) : Option (Unit ⊕ (Int ⊕ Bool)))) fun (g : Unit) => some (.inl (AZ (a + 1))) else some (.inr true)
noncomputable def Es (c : AH) (a : (Int × (List AE))) (b : Int) : Option (Int ⊕ Bool) :=
 bif decide (b < (a.2.length : Int)) then (Ak a.2 b).bind fun d => (GZ c d).bind fun e => bif (!e) then some (.inr false) else AQ (Ep a b) 0 else (AQ (Er c) 0).map .inr
noncomputable def Gq (d : AH) (c : Int × (List AE)) : Option ((Int × (List AE)) ⊕ Bool) :=
 bif decide (c.1 < (d.joins.length : Int)) then (Ak d.joins c.1).bind fun e => (Ak d.joins c.1).bind fun f => (BN c.2 [e.a, f.b]).bind fun g => some (.inl (AZ (c.1 + 1), g)) else (AQ (Es d c) 0).map .inr
noncomputable def G8 (a : AH) : Option Bool :=
 AQ (Gq a) (0, ([] : List AE))
theorem TS (d : AH) (r : Bool) (h : G8 d = some r) : BY Try.prog 94 [.agg (Aa d)] (· = .bool r) := by
 refine fn AA Try.func94 Z Z 89 Z [.tmp 2] Z [(0, .p (.agg (Aa d)))] Z Z fun A hA => ?_
 unfold G8 at h
 refine rs AA <| rl Z <| rs AA <| rl Z <| AC <| rs AA <| rl Z <| AJ ?_
 apply lp (a := r) (fun c : (Int × (List AE)) => ⟨89, [(1, .lpb 0 0), (3, .lsl 1 2 0 c.2.length), (4, li c.1)], [(0, bx (Aa d)), (1, .row 96 2 (c.2.map Aw))], 2⟩) h
 . exact BB.trans (CG 3 96 2 Z) (wf hA [(0, 0), (1, 1)] Z Z Z)
 intro c b2 o
 unfold Gq at o
 refine AC <| rs AA <| rn 3 Z <| sx Z (Az Z Z <| rl Z <| cd Z o (fun ag => ?_) (fun aw => ?_))
 .refine AG <| AD <| AC <| AJ ?_
  refine CV AA mixed [0, 1, 2, 3, 4, 5, 6, 7, 8, 9, 10, 11, 12, 13, 14, 15] 16 (by kernel_rfl) Z Z Z ?_
  exact Av 4 Z <| bq ag fun bo z am => AU Z (Ag Z (Ar z Z Z Z <| Av 5 Z <| bq am fun bp aa an => AU Z (Ag Z (Ar aa Z Z Z <| Av 3 Z <| bq an fun b7 ab ap => AU Z (Bc (A7 (enc := Aw) (l := c.2) (m := [bo.a, bp.b]) ab (fun _ => ⟨Z, Z⟩) Z Z Z Z Z Z <| A2 Z <| As <| AD <| rg AA <| rl Z <| BM ap (wf hA [(0, 0), (1, 16)] Z Z Z)))))))
 refine Al <| An <| D9 aw fun v a3 => A5 <| AD <| AC <| rs AA <| rl Z <| AJ ?_
 apply lp (a := v) (fun f : Int => ⟨89, [(1, .lpb 0 0), (3, .lsl 1 2 0 c.2.length), (5, li f)], [(0, bx (Aa d)), (1, .row 96 2 (c.2.map Aw))], 2⟩) a3
 . exact wf hA [(0, 0), (1, 1)] Z Z Z
 intro f w n
 unfold Es at n
 refine AC <| rs AA <| rl Z <| cd Z n (fun af => ?_) (fun a1 => ?_)
 .refine AG <| AD <| AC <| AJ <| AC <| AC ?_
  refine CV AA mixed [0, 1, 2, 3, 4, 5, 6] 7 (by kernel_rfl) Z Z Z ?_
  refine Av 3 Z <| bq af fun b5 i ah => AU Z (Ag Z (CZ i Z Z Z Z <| AU Z (Bi Z (Bs i Z Z Z <| bq ah fun b6 y ai => AU Z (Ax (MO _ _ _ y) (.inl Z) Z Z Z <| A2 Z <| AD <| cd Z ai (fun aj => ?_) (fun al => ?_))))))
  .refine rs AA <| rl Z <| AI <| AK <| Af <| AK <| Bq aj fun bt ak => Af <| AK ?_
   cases ak
   exact er Z Le.rfl
  refine AG <| AD <| rs AA <| rl Z <| AJ ?_
  apply lp (a := w) (fun t : Int => ⟨89, [(1, .lpb 0 0), (3, .lsl 1 2 0 c.2.length), (5, li f), (6, li t)], [(0, bx (Aa d)), (1, .row 96 2 (c.2.map Aw))], 2⟩) al
  . exact wf hA [(0, 0), (1, 1)] Z Z Z
  intro t b3 q
  unfold Ep at q
  refine AC <| rs AA <| rl Z <| cd Z q (fun ao => ?_) (fun az => ?_)
  .refine AG <| AD <| AC <| AJ <| AC ?_
   refine CV AA mixed [0, 1, 2, 3, 4, 5, 6, 7, 8] 9 (by kernel_rfl) Z Z Z ?_
   refine Av 2 Z <| bq ao fun br j aq => AU Z (Ag Z (CZ j Z Z Z Z <| AU Z (Bi Z (Bs j Z Z Z <| Av 2 Z <| bq aq fun bs k ar => AU Z (Ag Z (CZ k Z Z Z Z <| AU Z (Bi Z (Bs k Z Z Z <| AU Z (Lf (KQ br bs) Z Z Z Z Z <| A2 Z <| AD <| cd Z ar (fun au => ?_) (fun ay => ?_))))))))))
   .refine rs AA <| rl Z <| AI <| Af <| AK <| Bq au fun bu av => Af <| Af <| AK <| Bq av fun bv ax => Af <| AK ?_
    cases ax
    exact er Z Le.rfl
   exact AG <| As <| AD <| rg AA <| rl Z <| BM ay (wf hA [(0, 0), (1, 1)] Z Z Z)
  exact Al <| An <| B9 az fun bw a0 => A5 <| As <| AD <| rg AA <| rl Z <| BM a0 (wf hA [(0, 0), (1, 1)] Z Z Z)
 refine Al <| An <| D9 a1 fun u a2 => A5 <| AD <| AC <| rs AA <| rl Z <| AJ ?_
 apply lp (a := u) (fun e : Int => ⟨89, [(1, .lpb 0 0), (7, li e)], [(0, bx (Aa d))], 1⟩) a2
 . exact wf hA [(0, 0)] Z Z Z
 intro e x s
 unfold Er at s
 refine AC <| rs AA <| rn 3 Z <| sx Z (Az Z Z <| rl Z <| cd Z s (fun a4 => ?_) (fun bl => ?_))
 .refine AG <| AD ?_
  apply jn (a := x) (fun bn : Unit => ⟨89, [(1, .lpb 0 0), (7, li e)], [(0, bx (Aa d))], 1⟩) a4
  .intro b4 a5
   refine AJ <| rs AA <| rn 3 Z <| bq a5 fun b8 ac a6 => sx Z (Ar ac Z Z Z <| rl Z <| cd Z a6 (fun a7 => ?_) (fun bj => ?_))
   .refine rs AA <| rn 3 Z <| bq a7 fun b9 ad a8 => sx Z (Ai (DC _ _ _ ad) (.inl Z) Z Z Z <| rl Z <| jb (fun g : Bool => ⟨89, [(1, .lpb 0 0), (7, li e), (88, lb g)], [(0, bx (Aa d))], 1⟩) a8 (fun g a9 => ?_) (fun g be => ?_))
    .refine rg AA <| rn 3 Z <| gs 82 a9 Z Z Z (fun ba => ?_) (fun bb => ?_)
     .exact rl Z <| Ae ba (wf hA [(0, 0)] Z Z Z)
     exact rn 3 Z <| bq bb fun ca ae bc => sx Z (Ai (E3 _ _ _ ae) (.inl Z) Z Z Z <| rl Z <| Ae bc (wf hA [(0, 0)] Z Z Z))
    refine cd Z be (fun bf => ?_) (fun bi => ?_)
    .refine rs AA <| rl Z <| AI <| Af <| Bq bf fun bz bg => Bq bg fun b0 bh => Af <| AK ?_
     cases bh
     exact er Z Le.rfl
    exact AG <| As <| BM bi (wf hA [(0, 0)] Z Z Z)
   exact AG <| As <| BM bj (wf hA [(0, 0)] Z Z Z)
  intro bn bk
  exact rg AA <| rl Z <| BM bk (wf hA [(0, 0)] Z Z Z)
 refine Al <| An <| B9 bl fun b1 bm => A5 <| AD <| rs AA <| rl Z <| AI ?_
 cases bm
 exact er Z Le.rfl
noncomputable def HR (b : AH) (c : AE) (a : Int) : Option (Int ⊕ Int) :=
 bif decide (a < (b.signals.length : Int)) then (Ak b.signals a).bind fun d => bif (d.at_ == c) then some (.inr a) else some (.inl (AZ (a + 1))) else some (.inr (-1))
noncomputable def EG (a : AH) (b : AE) : Option Int :=
 AQ (HR a b) 0
theorem Jw (c : AH) (b : AE) (r : Int) (h : EG c b = some r) : BY Try.prog 130 [.agg (Aa c), .agg (Aw b)] (· = .int .i64 r) := by
 refine fn AA Try.func130 Z Z 22 Z [.tmp 4] Z [(0, .p (.agg (Aa c))), (1, .p (.agg (Aw b)))] Z Z fun A hA => ?_
 unfold EG at h
 refine rs AA <| rl Z <| AC <| rs AA <| rl Z <| AJ ?_
 apply lp (a := r) (fun e : Int => ⟨22, [(2, .lpb 0 0), (3, .lpb 1 0), (5, li e)], [(0, bx (Aa c)), (1, .box [li b.elem, li b.fin])], 2⟩) h
 . exact wf hA [(0, 0), (1, 1)] Z Z Z
 intro e t d
 unfold HR at d
 refine AC <| rs AA <| rn 3 Z <| sx Z (Az Z Z <| rl Z <| cd Z d (fun n => ?_) (fun l => ?_))
 .refine AG <| AD <| AC <| AJ <| AC ?_
  refine CV AA mixed [0, 1, 2, 3, 4, 5, 6, 7] 8 (by kernel_rfl) Z Z Z ?_
  refine Av 3 Z <| bq n fun o f g => AU Z (Ag Z (Ar f Z Z Z <| Av 3 Z <| AU Z (Lf (KQ o.at_ b) Z Z Z Z Z <| A2 Z <| AD <| cd Z g (fun i => ?_) (fun k => ?_))))
  .refine rs AA <| rl Z <| AI <| Af <| AK <| Bq i fun q j => Af <| AK ?_
   have hr := Option.some.inj j; subst hr
   exact er Z Le.rfl
  exact AG <| As <| AD <| rg AA <| rl Z <| BM k (wf hA [(0, 0), (1, 1)] Z Z Z)
 refine Al <| An <| B9 l fun s m => A5 <| AD <| rs AA <| rl Z <| AI ?_
 cases m
 exact er Z Le.rfl
noncomputable def EH (b : AH) (a : Int) : Option (Int ⊕ Bool) :=
 bif decide (a < (b.elems.length : Int)) then (((Ak b.elems a).bind fun d => bif (d.kind == 4) then (EG b (⟨a, 0⟩ : AE)).bind fun e => some (decide (e < 0)) else some false : Option (Bool))).bind fun (c : Bool) => bif c then some (.inr false) else some (.inl (AZ (a + 1))) else some (.inr true)
noncomputable def F6 (a : AH) (b : Int) : Option (Int ⊕ Bool) :=
 bif decide (b < (a.signals.length : Int)) then (Ak a.signals b).bind fun c => (DD a c.at_.elem).bind fun d => (((GZ a c.at_).bind fun h => bif (!h) then some true else bif (d != 1) then some (d != 4) else some false : Option (Bool))).bind fun (f : Bool) => bif f then some (.inr false) else (CR a c.at_).bind fun e => ((bif (!e.2) then some true else (DD a e.1.elem).bind fun i => bif (i == 4) then some true else (EG a c.at_).bind fun j => some (j != b) : Option (Bool))).bind fun (g : Bool) => bif g then some (.inr false) else some (.inl (AZ (b + 1))) else (AQ (EH a) 0).map .inr
noncomputable def Ga (a : AH) : Option Bool :=
 AQ (F6 a) 0
theorem SX (b : AH) (r : Bool) (h : Ga b = some r) : BY Try.prog 95 [.agg (Aa b)] (· = .bool r) := by
 refine fn AA Try.func95 Z Z 81 Z [.tmp 2] Z [(0, .p (.agg (Aa b)))] Z Z fun A hA => ?_
 unfold Ga at h
 refine rs AA <| rl Z <| AC <| rs AA <| rl Z <| AJ ?_
 apply lp (a := r) (fun c : Int => ⟨81, [(1, .lpb 0 0), (3, li c)], [(0, bx (Aa b))], 1⟩) h
 . exact wf hA [(0, 0)] Z Z Z
 intro c bh j
 unfold F6 at j
 refine AC <| rs AA <| rn 3 Z <| sx Z (Az Z Z <| rl Z <| cd Z j (fun ai => ?_) (fun a9 => ?_))
 .refine AG <| AD <| AC <| AJ <| rs AA <| rn 3 Z <| bq ai fun k o aj => sx Z (Ar o Z Z Z <| rl Z <| rs AA <| rn 3 Z <| bq aj fun bk q ak => sx Z (Ai (E3 _ _ _ q) (.inl Z) Z Z Z <| rl Z <| AC <| jb (fun f : Bool => ⟨81, [(1, .lpb 0 0), (3, li c), (4, .lpb 1 0), (37, lb f)], [(0, bx (Aa b)), (1, .box [li k.at_.elem, li k.at_.fin])], 2⟩) ak (fun f al => ?_) (fun f ar => ?_)))
  .refine rg AA <| rn 2 Z <| bq al fun bl s am => sx Z (Ai (MO _ _ _ s) (.inl Z) Z Z Z <| rn 2 Z <| gs 30 am Z Z Z (fun an => ?_) (fun ao => ?_))
   .exact rl Z <| Ae an (wf hA [(0, 0), (1, 1)] Z Z Z)
   refine rn 3 Z <| gs 33 ao Z Z Z (fun ap => ?_) (fun aq => ?_)
   .exact rl Z <| Ae ap (wf hA [(0, 0), (1, 1)] Z Z Z)
   exact rl Z <| Ae aq (wf hA [(0, 0), (1, 1)] Z Z Z)
  refine cd Z ar (fun au => ?_) (fun aw => ?_)
  .refine rs AA <| rl Z <| AI <| AK <| Af <| AK <| Bq au fun be av => Af <| AK ?_
   cases av
   exact er Z Le.rfl
  refine AG <| AD <| rs AA <| rn 2 Z <| bq aw fun bm t ax => sx Z (Ai (DC _ _ _ t) (.inl Z) Z Z Z <| rl Z <| jb (fun g : Bool => ⟨81, [(1, .lpb 0 0), (3, li c), (59, lb g)], [(0, bx (Aa b))], 1⟩) ax (fun g ay => ?_) (fun g a5 => ?_))
  .refine rg AA <| rn 3 Z <| gs 46 ay Z Z Z (fun az => ?_) (fun a0 => ?_)
   .exact rl Z <| Ae az (wf hA [(0, 0)] Z Z Z)
   refine rn 3 Z <| bq a0 fun bn u a1 => sx Z (Ai (E3 _ _ _ u) (.inl Z) Z Z Z <| rn 3 Z <| gs 53 a1 Z Z Z (fun a2 => ?_) (fun a3 => ?_))
   .exact rl Z <| Ae a2 (wf hA [(0, 0)] Z Z Z)
   exact rn 2 Z <| bq a3 fun bo v a4 => sx Z (Ai (Jw _ _ _ v) (.inl Z) Z Z Z <| rl Z <| Ae a4 (wf hA [(0, 0)] Z Z Z))
  refine cd Z a5 (fun a6 => ?_) (fun a8 => ?_)
  .refine rs AA <| rl Z <| AI <| Af <| AK <| Bq a6 fun bf a7 => Af <| AK ?_
   cases a7
   exact er Z Le.rfl
  exact AG <| As <| AD <| rg AA <| rl Z <| BM a8 (wf hA [(0, 0)] Z Z Z)
 refine Al <| An <| D9 a9 fun l ba => A5 <| AD <| AC <| rs AA <| rl Z <| AJ ?_
 apply lp (a := l) (fun d : Int => ⟨81, [(1, .lpb 0 0), (8, li d)], [(0, bx (Aa b))], 1⟩) ba
 . exact wf hA [(0, 0)] Z Z Z
 intro d bg i
 unfold EH at i
 refine AC <| rs AA <| rn 3 Z <| sx Z (Az Z Z <| rl Z <| cd Z i (fun w => ?_) (fun ag => ?_))
 .refine AG <| AD <| AC <| AJ <| jb (fun e : Bool => ⟨81, [(1, .lpb 0 0), (8, li d), (80, lb e)], [(0, bx (Aa b))], 1⟩) w (fun e x => ?_) (fun e ac => ?_)
  .refine rg AA <| rn 3 Z <| bq x fun bi m y => sx Z (Ar m Z Z Z <| rn 4 Z <| gs 74 y Z Z Z (fun z => ?_) (fun ab => ?_))
   .exact rn 3 Z <| bq z fun bj n aa => sx Z (Ai (Jw _ _ _ n) (.inl Z) Z Z Z <| rl Z <| Ae aa (wf hA [(0, 0)] Z Z Z))
   exact rl Z <| Ae ab (wf hA [(0, 0)] Z Z Z)
  refine cd Z ac (fun ad => ?_) (fun af => ?_)
  .refine rs AA <| rl Z <| AI <| Af <| AK <| Bq ad fun bb ae => Af <| AK ?_
   cases ae
   exact er Z Le.rfl
  exact AG <| As <| AD <| rg AA <| rl Z <| BM af (wf hA [(0, 0)] Z Z Z)
 refine Al <| An <| B9 ag fun bc ah => A5 <| AD <| rs AA <| rl Z <| AI ?_
 cases ah
 exact er Z Le.rfl
noncomputable def EI (b : (List Int)) (c : Int) (a : Int) : Option (Int ⊕ Bool) :=
 bif decide (a < (b.length : Int)) then (Ak b a).bind fun d => bif (d == c) then some (.inr true) else some (.inl (AZ (a + 1))) else some (.inr false)
noncomputable def DL (a : (List Int)) (b : Int) : Option Bool :=
 AQ (EI a b) 0
theorem Hj (b : (List Int)) (c : Int) (r : Bool) (h : DL b c = some r) : BY Try.prog 28 [.slice 1 (b.map AN), .int .i64 c] (· = .bool r) := by
 refine fn AA Try.func28 Z Z 18 Z [.tmp 4] Z [(0, .p (.slice 1 (b.map AN))), (1, .p (.int .i64 c))] Z Z fun A hA => ?_
 unfold DL at h
 refine rs AA <| rl Z <| AC <| rs AA <| rl Z <| AJ ?_
 apply lp (a := r) (fun e : Int => ⟨18, [(0, ls 1 AN b), (1, li c), (5, li e)], [], 0⟩) h
 . exact wf hA [] Z Z Z
 intro e s d
 unfold EI at d
 refine AC <| rs AA <| rn 2 Z <| sx Z (Az Z Z <| rl Z <| cd Z d (fun n => ?_) (fun l => ?_))
 .refine AG <| AD <| AC <| AJ <| rs AA <| rn 2 Z <| bq n fun t f g => sx Z (Ar f Z Z Z <| rl Z <| cd Z g (fun i => ?_) (fun k => ?_))
  .refine rs AA <| rl Z <| AI <| Af <| AK <| Bq i fun o j => Af <| AK ?_
   cases j
   exact er Z Le.rfl
  exact AG <| As <| AD <| rg AA <| rl Z <| BM k (wf hA [] Z Z Z)
 refine Al <| An <| B9 l fun q m => A5 <| AD <| rs AA <| rl Z <| AI ?_
 cases m
 exact er Z Le.rfl
noncomputable def Cv (e : AH) (c : (List Int)) (a : Int × Int × (List Int)) : Option ((Int × Int × (List Int)) ⊕ ((List Int) × Bool)) :=
 bif decide (a.2.1 < (c.length : Int)) then (Ak c (AZ (a.2.1 - 1))).bind fun f => (CR e (⟨f, a.1⟩ : AE)).bind fun b => ((bif (!b.2) then some true else (Ak c a.2.1).bind fun g => some (b.1.elem != g) : Option (Bool))).bind fun (d : Bool) => bif d then some (.inr ([], false)) else (BN a.2.2 [b.1.fin]).bind fun h => some (.inl (AZ (1 - b.1.fin), AZ (a.2.1 + 1), h)) else some (.inr (a.2.2, true))
noncomputable def By (c : AH) (b : (List Int)) (a : Int × Int) : Option ((Int × Int) ⊕ ((List Int) × Bool)) :=
 bif decide (0 <= a.2) then (((Ak b 0).bind fun g => (CR c (⟨g, a.2⟩ : AE)).bind fun d => ((bif d.2 then (Ak b 1).bind fun h => some (d.1.elem == h) else some false : Option (Bool))).bind fun (f : Bool) => bif f then some a.2 else some a.1 : Option (Int))).bind fun (e : Int) => some (.inl (e, AZ (a.2 - 1))) else (bif decide (a.1 < 0) then some ([], false) else AQ (Cv c b) (a.1, 1, [AZ (1 - a.1)])).map .inr
noncomputable def Dx (c : AH) (a : (List Int)) (b : Int) : Option (Int ⊕ ((List Int) × Bool)) :=
 bif decide (b < (a.length : Int)) then (Ak a b).bind fun d => (DD c d).bind fun e => bif (e != 1) then some (.inr ([], false)) else some (.inl (AZ (b + 1))) else (bif ((a.length : Int) == 1) then some ([0], true) else AQ (By c a) ((-1), 1)).map .inr
noncomputable def Ds (b : AH) (a : (List Int)) : Option ((List Int) × Bool) :=
 bif ((a.length : Int) == 0) then some ([], false) else AQ (Dx b a) 0
theorem OK (c : AH) (d : (List Int)) (r : ((List Int) × Bool)) (h : Ds c d = some r) : BY Try.prog 136 [.agg (Aa c), .slice 1 (d.map AN)] (· = .tup [.slice 1 (r.1.map AN), .bool r.2]) := by
 refine fn AA Try.func136 Z Z 102 Z [.tmp 4, .tmp 5] Z [(0, .p (.agg (Aa c))), (1, .p (.slice 1 (d.map AN)))] Z Z fun A hA => ?_
 unfold Ds at h
 refine rs AA <| rl Z <| AC <| rs AA <| rn 1 Z <| sx Z (Az Z Z <| rl Z <| cd Z h (fun an => ?_) (fun ao => ?_))
 .refine rs AA <| rl Z <| AI <| AK ?_
  cases an
  exact er Z (Le.tup' (.cons (Le.nil _) (.cons Le.rfl .nil)))
 refine AG <| AD <| AC <| rs AA <| rl Z <| AJ ?_
 apply lp (a := r) (fun q : Int => ⟨102, [(1, ls 1 AN d), (2, .lpb 0 0), (6, li q)], [(0, bx (Aa c))], 1⟩) ao
 . exact wf hA [(0, 0)] Z Z Z
 intro q bp k
 unfold Dx at k
 refine AC <| rs AA <| rn 2 Z <| sx Z (Az Z Z <| rl Z <| cd Z k (fun ad => ?_) (fun aj => ?_))
 .refine AG <| AD <| AC <| AJ <| AC ?_
  refine CV AA mixed [0, 1, 2, 3, 4, 5, 6] 7 (by kernel_rfl) Z Z Z ?_
  refine Av 3 Z <| bq ad fun bt u ae => AU Z (Ag Z (Ar u Z Z Z <| Av 1 Z <| bq ae fun bu v af => AU Z (Ax (E3 _ _ _ v) (.inl Z) Z Z Z <| A2 Z <| AD <| cd Z af (fun ag => ?_) (fun ai => ?_))))
  .refine rs AA <| rl Z <| AI <| Af <| AK <| Bq ag fun bm ah => Af <| AK ?_
   cases ah
   exact er Z (Le.tup' (.cons (Le.nil _) (.cons Le.rfl .nil)))
  exact AG <| As <| AD <| rg AA <| rl Z <| BM ai (wf hA [(0, 0)] Z Z Z)
 refine Al <| An <| D9 aj fun s ak => A5 <| AD <| AC <| rs AA <| rn 1 Z <| sx Z (Az Z Z <| rl Z <| cd Z ak (fun al => ?_) (fun am => ?_))
 .refine rs AA <| rl Z <| AI <| AK ?_
  cases al
  exact er (XQ Z (.cons (.one (.own (enc := AN) ([0] : List Int) Z Z)) (.cons (.one (.p _)) .nil))) Le.rfl
 refine AG <| AD <| rs AA <| rl Z <| AC <| rs AA <| rl Z <| AJ ?_
 apply lp (a := s) (fun e : (Int × Int) => ⟨102, [(1, ls 1 AN d), (2, .lpb 0 0), (7, li e.1), (8, li e.2)], [(0, bx (Aa c))], 1⟩) am
 . exact wf hA [(0, 0)] Z Z Z
 intro e br n
 unfold By at n
 refine AC <| rs AA <| rl Z <| cd Z n (fun ap => ?_) (fun a3 => ?_)
 .refine AG <| AD <| jb (fun f : Int => ⟨102, [(1, ls 1 AN d), (2, .lpb 0 0), (7, li f), (8, li e.2)], [(0, bx (Aa c))], 1⟩) ap (fun f aq => ?_) (fun f a2 => ?_)
  .refine AJ <| AC ?_
   refine CV AA mixed [0, 1, 2, 3, 4, 5, 6, 7, 8, 9, 10, 11, 12] 13 (by kernel_rfl) Z Z Z ?_
   refine Av 2 Z <| bq aq fun bv w ar => AU Z (Ag Z (Ar w Z Z Z <| Av 3 Z <| bq ar fun bw x au => AU Z (Ax (DC _ _ _ x) (.inl Z) Z Z Z <| A2 Z <| AD <| jb (fun g : Bool => ⟨102, [(1, ls 1 AN d), (2, .lpb 0 0), (7, li e.1), (8, li e.2), (57, lb g)], [(0, bx (Aa c))], 1⟩) au (fun g av => ?_) (fun g az => ?_))))
   .refine CV AA mixed [0, 1, 2, 3, 4, 5, 6, 7, 8] 9 (by kernel_rfl) Z Z Z ?_
    refine Av 2 Z <| Ml 50 av Z Z Z (fun aw => ?_) (fun ay => ?_)
    .exact Av 3 Z <| bq aw fun bz y ax => AU Z (Ag Z (Ar y Z Z Z <| A2 Z <| Ae ax (wf hA [(0, 0)] Z Z Z)))
    exact A2 Z <| Ae ay (wf hA [(0, 0)] Z Z Z)
   refine cd Z az (fun a0 => ?_) (fun a1 => ?_)
   .exact rg AA <| rl Z <| As <| Ae a0 (wf hA [(0, 0)] Z Z Z)
   exact AG <| As <| Ae a1 (wf hA [(0, 0)] Z Z Z)
  exact rg AA <| rl Z <| BM a2 (wf hA [(0, 0)] Z Z Z)
 refine Al <| An <| D9 a3 fun t a4 => A5 <| AD <| AC <| rs AA <| rl Z <| cd Z a4 (fun a5 => ?_) (fun a6 => ?_)
 .refine rs AA <| rl Z <| AI <| AK ?_
  cases a5
  exact er Z (Le.tup' (.cons (Le.nil _) (.cons Le.rfl .nil)))
 refine AG <| AD <| rs AA <| rl Z <| AC <| rs AA <| rl Z <| AJ ?_
 apply lp (a := t) (fun b : (Int × Int × (List Int)) => ⟨102, [(1, ls 1 AN d), (2, .lpb 0 0), (7, li b.1), (11, .lsl 1 1 0 b.2.2.length), (12, li b.2.1)], [(0, bx (Aa c)), (1, .row 3 1 (b.2.2.map AN))], 2⟩) a6
 . exact wf hA [(0, 0), (1, 1)] Z Z Z
 intro b bs o
 unfold Cv at o
 refine AC <| rs AA <| rn 2 Z <| sx Z (Az Z Z <| rl Z <| cd Z o (fun a7 => ?_) (fun bk => ?_))
 .refine AG <| AD <| AC <| AJ <| AC ?_
  refine CV AA mixed [0, 1, 2, 3, 4, 5, 6, 7, 8, 9, 10, 11, 12, 13, 14] 15 (by kernel_rfl) Z Z Z ?_
  refine Av 4 Z <| bq a7 fun b0 z a8 => AU Z (Ag Z (Ar z Z Z Z <| Av 3 Z <| bq a8 fun j aa a9 => AU Z (Ax (DC _ _ _ aa) (.inl Z) Z Z Z <| A2 Z <| AD <| AC <| jb (fun i : Bool => ⟨102, [(1, ls 1 AN d), (2, .lpb 0 0), (11, .lsl 1 1 0 b.2.2.length), (12, li b.2.1), (13, .lpb 2 0), (92, lb i)], [(0, bx (Aa c)), (1, .row 3 1 (b.2.2.map AN)), (2, .box [li j.1.elem, li j.1.fin])], 3⟩) a9 (fun i ba => ?_) (fun i bf => ?_))))
  .refine CV AA mixed [0, 1, 2, 3, 4, 5, 6, 7, 8, 9, 10] 11 (by kernel_rfl) Z Z Z ?_
   refine Av 3 Z <| Ml 84 ba Z Z Z (fun bb => ?_) (fun bc => ?_)
   .exact A2 Z <| Ae bb (wf hA [(0, 0), (1, 1), (2, 14)] Z Z Z)
   exact Av 4 Z <| bq bc fun b1 ab be => AU Z (Ag Z (Ar ab Z Z Z <| A2 Z <| Ae be (wf hA [(0, 0), (1, 1), (2, 14)] Z Z Z)))
  refine cd Z bf (fun bg => ?_) (fun bi => ?_)
  .refine rs AA <| rl Z <| AI <| AK <| Af <| AK <| Bq bg fun bn bh => Af <| AK ?_
   cases bh
   exact er Z (Le.tup' (.cons (Le.nil _) (.cons Le.rfl .nil)))
  exact AG <| AD <| rs AA <| rn 4 Z <| bq bi fun b2 ac bj => sx Z (A7 (enc := AN) (l := b.2.2) (m := [j.1.fin]) ac (fun _ => ⟨Z, Z⟩) Z Z Z Z Z Z <| rl Z <| rg AA <| rl Z <| As <| AD <| rg AA <| rl Z <| BM bj (wf hA [(0, 0), (1, 4)] Z Z Z))
 refine Al <| An <| B9 bk fun bo bl => A5 <| AD <| rs AA <| rl Z <| AI ?_
 cases bl
 exact er (XQ Z (.cons (.one (.own (enc := AN) b.2.2 Z Z)) (.cons (.one (.p _)) .nil))) Le.rfl
end Go.E
/- Plain functions, and walks in step with them. Written by a program (gen.py). No condition. -/
set_option maxRecDepth 100000
namespace Go.E
open Go Go.RowKit Go.Proofs
noncomputable def Fk (d : AH) (c : (Int × (List Int))) (b : B5) (a : Int × (List Int)) : Option ((Int × (List Int)) ⊕ ((Int × (List Int)) ⊕ Bool)) :=
 bif decide (a.1 < (b.elems.length : Int)) then (Ak b.elems a.1).bind fun e => (DL a.2 e).bind fun f => bif f then some (.inr (.inr false)) else (Ak b.elems a.1).bind fun g => (BN a.2 [g]).bind fun h => some (.inl (AZ (a.1 + 1), h)) else ((Ds d b.elems).bind fun i => bif (!i.2) then some (.inr false) else some (.inl (AZ (c.1 + 1), a.2))).map .inr
noncomputable def HS (b : AH) (a : Int × (List Int)) : Option ((Int × (List Int)) ⊕ Bool) :=
 bif decide (a.1 < (b.lines.length : Int)) then (Ak b.lines a.1).bind fun c => AQ (Fk b a c) (0, a.2) else some (.inr true)
noncomputable def H7 (a : AH) : Option Bool :=
 AQ (HS a) (0, ([] : List Int))
theorem Uj (d : AH) (r : Bool) (h : H7 d = some r) : BY Try.prog 96 [.agg (Aa d)] (· = .bool r) := by
 refine fn AA Try.func96 Z Z 49 Z [.tmp 2] Z [(0, .p (.agg (Aa d)))] Z Z fun A hA => ?_
 unfold H7 at h
 refine rs AA <| rl Z <| rs AA <| rl Z <| AC <| rs AA <| rl Z <| AJ ?_
 apply lp (a := r) (fun c : (Int × (List Int)) => ⟨49, [(1, .lpb 0 0), (3, .lsl 1 1 0 c.2.length), (4, li c.1)], [(0, bx (Aa d)), (1, .row 3 1 (c.2.map AN))], 2⟩) h
 . exact BB.trans (CG 3 3 1 Z) (wf hA [(0, 0), (1, 1)] Z Z Z)
 intro c g e
 unfold HS at e
 refine AC <| rs AA <| rn 3 Z <| sx Z (Az Z Z <| rl Z <| cd Z e (fun s => ?_) (fun aj => ?_))
 .refine AG <| AD <| AC <| AJ <| rs AA <| rn 3 Z <| bq s fun al i t => sx Z (Ar i Z Z Z <| rl Z <| AC <| rs AA <| rl Z <| AJ ?_)
  apply lp (a := g) (fun b : (Int × (List Int)) => ⟨49, [(1, .lpb 0 0), (3, .lsl 1 1 0 b.2.length), (4, li c.1), (5, ls 1 AN al.elems), (6, li b.1)], [(0, bx (Aa d)), (1, .row 3 1 (b.2.map AN))], 2⟩) t
  . exact wf hA [(0, 0), (1, 1)] Z Z Z
  intro b au f
  unfold Fk at f
  refine AC <| rs AA <| rn 2 Z <| sx Z (Az Z Z <| rl Z <| cd Z f (fun u => ?_) (fun ad => ?_))
  .refine AG <| AD <| AC <| AJ <| AC <| rs AA <| rn 3 Z <| bq u fun av j v => sx Z (Ar j Z Z Z <| rn 1 Z <| bq v fun aw k w => sx Z (Ai (Hj _ _ _ k) (.inl Z) Z Z (Ca.eq (.cons (.one (.own (enc := AN) b.2 Z Z)) (.cons (.one (.p _)) .nil))) <| rl Z <| cd Z w (fun x => ?_) (fun aa => ?_)))
   .refine rs AA <| rl Z <| AI <| AK <| Af <| AK <| Bq x fun an y => Af <| AK <| Af <| AK <| Bq y fun ao z => Af <| AK ?_
    cases z
    exact er Z Le.rfl
   exact AG <| AD <| rg AA <| rn 3 Z <| bq aa fun am n ab => sx Z (Ar n Z Z Z <| rn 2 Z <| bq ab fun ax o ac => sx Z (A7 (enc := AN) (l := b.2) (m := [am]) o (fun _ => ⟨Z, Z⟩) Z Z Z Z Z Z <| rl Z <| As <| AD <| rg AA <| rl Z <| BM ac (wf hA [(0, 0), (1, 3)] Z Z Z)))
  refine Al <| An <| D9 ad fun ap ae => A5 <| AD <| rs AA <| rn 2 Z <| bq ae fun ay q af => sx Z (Ai (OK _ _ _ q) (.inr Z) Z Z Z <| rl Z <| rs AA <| rl Z <| cd Z af (fun ag => ?_) (fun ai => ?_))
  .refine rs AA <| rl Z <| AI <| Af <| AK <| Bq ag fun aq ah => Af <| AK ?_
   cases ah
   exact er Z Le.rfl
  exact AG <| As <| AD <| rg AA <| rl Z <| BM ai (wf hA [(0, 0), (1, 1)] Z Z Z)
 refine Al <| An <| B9 aj fun ar ak => A5 <| AD <| rs AA <| rl Z <| AI ?_
 cases ak
 exact er Z Le.rfl
noncomputable def H8 (b : Int) (a : Int × Int) : Option ((Int × Int) ⊕ Int) :=
 bif decide (0 < a.1) then some (.inl (AZ (a.1 - b), AZ (a.2 + a.1))) else some (.inr a.2)
noncomputable def Hm (b : Int) (a : Int) : Option Int :=
 ((bif decide (b < 0) then some true else bif decide (60 < b) then some true else bif decide (a < 1) then some true else some (decide (10 < a)) : Option (Bool))).bind fun (c : Bool) => bif c then some 0 else AQ (H8 a) (AZ (b - a), 0)
theorem Ve (c : Int) (b : Int) (r : Int) (h : Hm c b = some r) : BY Try.prog 137 [.int .i64 c, .int .i64 b] (· = .int .i64 r) := by
 refine fn AA Try.func137 Z Z 32 Z [.tmp 4] Z [(0, .p (.int .i64 c)), (1, .p (.int .i64 b))] Z Z fun A hA => ?_
 unfold Hm at h
 refine rs AA <| rl Z <| AC <| jb (fun e : Bool => ⟨32, [(0, li c), (1, li b), (19, lb e)], [], 0⟩) h (fun e g => ?_) (fun e o => ?_)
 .refine rg AA <| rn 3 Z <| gs 8 g Z Z Z (fun i => ?_) (fun j => ?_)
  .exact rl Z <| Ae i (wf hA [] Z Z Z)
  refine rn 4 Z <| gs 12 j Z Z Z (fun k => ?_) (fun l => ?_)
  .exact rl Z <| Ae k (wf hA [] Z Z Z)
  refine rn 4 Z <| gs 16 l Z Z Z (fun m => ?_) (fun n => ?_)
  .exact rl Z <| Ae m (wf hA [] Z Z Z)
  exact rl Z <| Ae n (wf hA [] Z Z Z)
 refine cd Z o (fun q => ?_) (fun s => ?_)
 .refine rs AA <| rl Z <| AI <| AK ?_
  cases q
  exact er Z Le.rfl
 refine AG <| AD <| rs AA <| rl Z <| AC <| rs AA <| rl Z <| AJ ?_
 apply lp (a := r) (fun d : (Int × Int) => ⟨32, [(0, li d.1), (1, li b), (5, li d.2)], [], 0⟩) s
 . exact wf hA [] Z Z Z
 intro d x f
 unfold H8 at f
 refine AC <| rs AA <| rl Z <| cd Z f (fun t => ?_) (fun u => ?_)
 .exact AG <| AD <| AC <| AJ <| rg AA <| rl Z <| As <| AD <| rg AA <| rl Z <| BM t (wf hA [] Z Z Z)
 refine Al <| An <| B9 u fun w v => A5 <| AD <| rs AA <| rl Z <| AI ?_
 cases v
 exact er Z Le.rfl
noncomputable def G9 (b : AH) (a : Int) : Option Int :=
 ((bif decide (a < 0) then some true else some (decide ((b.elems.length : Int) <= a)) : Option (Bool))).bind fun (c : Bool) => bif c then some 0 else (Ak b.elems a).bind fun d => some d.length
theorem TT (a : AH) (b : Int) (r : Int) (h : G9 a b = some r) : BY Try.prog 138 [.agg (Aa a), .int .i64 b] (· = .int .i64 r) := by
 refine fn AA Try.func138 Z Z 20 Z [.tmp 4] Z [(0, .p (.agg (Aa a))), (1, .p (.int .i64 b))] Z Z fun A hA => ?_
 unfold G9 at h
 refine rs AA <| rl Z <| AC <| jb (fun c : Bool => ⟨20, [(1, li b), (2, .lpb 0 0), (13, lb c)], [(0, bx (Aa a))], 1⟩) h (fun c e => ?_) (fun c i => ?_)
 .refine rg AA <| rn 3 Z <| gs 7 e Z Z Z (fun f => ?_) (fun g => ?_)
  .exact rl Z <| Ae f (wf hA [(0, 0)] Z Z Z)
  exact rn 3 Z <| sx Z (Az Z Z <| rl Z <| Ae g (wf hA [(0, 0)] Z Z Z))
 refine cd Z i (fun j => ?_) (fun k => ?_)
 .refine rs AA <| rl Z <| AI <| AK ?_
  cases j
  exact er Z Le.rfl
 refine AG <| AD <| rs AA <| rn 3 Z <| bq k fun m d l => sx Z (Ar d Z Z Z <| rl Z <| AI ?_)
 cases l
 exact er Z Le.rfl
noncomputable def Gb (b : AH) (a : Int) : Option (Int ⊕ Bool) :=
 bif decide (a < (b.elems.length : Int)) then (((Ak b.elems a).bind fun d => bif (d.kind != 4) then (Ak b.elems a).bind fun e => some (decide (e.length < b.top)) else some false : Option (Bool))).bind fun (c : Bool) => bif c then some (.inr false) else some (.inl (AZ (a + 1))) else some (.inr true)
noncomputable def H9 (a : AH) (b : Int) : Option (Int ⊕ Bool) :=
 bif decide (b < (a.signals.length : Int)) then (Ak a.signals b).bind fun c => (((DD a c.at_.elem).bind fun e => bif (e == 1) then (G9 a c.at_.elem).bind fun f => some (decide (f < a.margin)) else some false : Option (Bool))).bind fun (d : Bool) => bif d then some (.inr false) else some (.inl (AZ (b + 1))) else (AQ (Gb a) 0).map .inr
noncomputable def JV (a : AH) : Option Bool :=
 (Hm a.top a.brake).bind fun b => bif decide (a.margin < AZ (a.top + b)) then some false else AQ (H9 a) 0
theorem Vf (b : AH) (r : Bool) (h : JV b = some r) : BY Try.prog 97 [.agg (Aa b)] (· = .bool r) := by
 refine fn AA Try.func97 Z Z 68 Z [.tmp 2] Z [(0, .p (.agg (Aa b)))] Z Z fun A hA => ?_
 unfold JV at h
 refine rs AA <| rl Z <| AC <| AC ?_
 refine CV AA mixed [0, 1, 2, 3, 4, 5, 6, 7, 8, 9, 10] 11 (by kernel_rfl) Z Z Z ?_
 refine Av 8 Z <| bq h fun a6 q s => AU Z (Ax (Ve _ _ _ q) (.inl Z) Z Z Z <| A2 Z <| AD <| cd Z s (fun t => ?_) (fun u => ?_))
 .refine rs AA <| rl Z <| AI <| AK ?_
  cases t
  exact er Z Le.rfl
 refine AG <| AD <| AC <| rs AA <| rl Z <| AJ ?_
 apply lp (a := r) (fun c : Int => ⟨68, [(1, .lpb 0 0), (3, li c)], [(0, bx (Aa b))], 1⟩) u
 . exact wf hA [(0, 0)] Z Z Z
 intro c az g
 unfold H9 at g
 refine AC <| rs AA <| rn 3 Z <| sx Z (Az Z Z <| rl Z <| cd Z g (fun v => ?_) (fun ag => ?_))
 .refine AG <| AD <| AC <| AJ <| rs AA <| rn 3 Z <| bq v fun a1 k w => sx Z (Ar k Z Z Z <| rl Z <| jb (fun e : Bool => ⟨68, [(1, .lpb 0 0), (3, li c), (42, lb e)], [(0, bx (Aa b))], 1⟩) w (fun e x => ?_) (fun e ac => ?_))
  .refine CV AA mixed [0, 1, 2, 3, 4, 5, 6, 7, 8, 9, 10, 11] 12 (by kernel_rfl) Z Z Z ?_
   refine Av 2 Z <| bq x fun a2 l y => AU Z (Ax (E3 _ _ _ l) (.inl Z) Z Z Z <| Av 2 Z <| Ml 35 y Z Z Z (fun z => ?_) (fun ab => ?_))
   .exact Av 2 Z <| bq z fun a3 m aa => AU Z (Ax (TT _ _ _ m) (.inl Z) Z Z Z <| A2 Z <| Ae aa (wf hA [(0, 0)] Z Z Z))
   exact A2 Z <| Ae ab (wf hA [(0, 0)] Z Z Z)
  refine cd Z ac (fun ad => ?_) (fun af => ?_)
  .refine rs AA <| rl Z <| AI <| Af <| AK <| Bq ad fun aw ae => Af <| AK ?_
   cases ae
   exact er Z Le.rfl
  exact AG <| As <| AD <| rg AA <| rl Z <| BM af (wf hA [(0, 0)] Z Z Z)
 refine Al <| An <| D9 ag fun j ah => A5 <| AD <| AC <| rs AA <| rl Z <| AJ ?_
 apply lp (a := j) (fun d : Int => ⟨68, [(1, .lpb 0 0), (5, li d)], [(0, bx (Aa b))], 1⟩) ah
 . exact wf hA [(0, 0)] Z Z Z
 intro d a0 i
 unfold Gb at i
 refine AC <| rs AA <| rn 3 Z <| sx Z (Az Z Z <| rl Z <| cd Z i (fun ai => ?_) (fun au => ?_))
 .refine AG <| AD <| AC <| AJ <| jb (fun f : Bool => ⟨68, [(1, .lpb 0 0), (5, li d), (67, lb f)], [(0, bx (Aa b))], 1⟩) ai (fun f aj => ?_) (fun f ao => ?_)
  .refine CV AA mixed [0, 1, 2, 3, 4, 5, 6, 7, 8, 9, 10, 11, 12, 13, 14, 15, 16, 17] 18 (by kernel_rfl) Z Z Z ?_
   refine Av 3 Z <| bq aj fun a4 n ak => AU Z (Ag Z (Ar n Z Z Z <| Av 4 Z <| Ml 57 ak Z Z Z (fun al => ?_) (fun an => ?_)))
   .exact Av 3 Z <| bq al fun a5 o am => AU Z (Ag Z (Ar o Z Z Z <| A2 Z <| Ae am (wf hA [(0, 0)] Z Z Z)))
   exact A2 Z <| Ae an (wf hA [(0, 0)] Z Z Z)
  refine cd Z ao (fun ap => ?_) (fun ar => ?_)
  .refine rs AA <| rl Z <| AI <| Af <| AK <| Bq ap fun ax aq => Af <| AK ?_
   cases aq
   exact er Z Le.rfl
  exact AG <| As <| AD <| rg AA <| rl Z <| BM ar (wf hA [(0, 0)] Z Z Z)
 refine Al <| An <| B9 au fun ay av => A5 <| AD <| rs AA <| rl Z <| AI ?_
 cases av
 exact er Z Le.rfl
noncomputable def Do (a : AH) : Option Int :=
 ((bif decide (40 < (a.elems.length : Int)) then some true else bif decide (24 < (a.signals.length : Int)) then some true else bif decide (4 < (a.lines.length : Int)) then some true else some (decide (80 < (a.joins.length : Int))) : Option (Bool))).bind fun (d : Bool) => bif d then some 3 else (H5 a).bind fun b => (JT a).bind fun l => bif (!l) then some 1 else (((FK b.1).bind fun e => bif e then some true else (FK b.2.1).bind fun f => bif f then some true else (FK b.2.2).bind fun g => some g : Option (Bool))).bind fun (c : Bool) => bif c then some 4 else (G8 a).bind fun h => bif (!h) then some 6 else (Ga a).bind fun i => bif (!i) then some 7 else (H7 a).bind fun j => bif (!j) then some 8 else (JV a).bind fun k => bif (!k) then some 9 else some 0
theorem PZ (a : AH) (r : Int) (h : Do a = some r) : BY Try.prog 44 [.agg (Aa a)] (· = .int .i64 r) := by
 refine fn AA Try.func44 Z Z 65 Z [.tmp 2] Z [(0, .p (.agg (Aa a)))] Z Z fun A hA => ?_
 unfold Do at h
 refine rs AA <| rl Z <| AC <| jb (fun c : Bool => ⟨65, [(1, .lpb 0 0), (27, lb c)], [(0, bx (Aa a))], 1⟩) h (fun c am => ?_) (fun c av => ?_)
 .refine rg AA <| rn 2 Z <| sx Z (Az Z Z <| rn 2 Z <| gs 10 am Z Z Z (fun an => ?_) (fun ao => ?_))
  .exact rl Z <| Ae an (wf hA [(0, 0)] Z Z Z)
  refine rn 2 Z <| sx Z (Az Z Z <| rn 3 Z <| gs 16 ao Z Z Z (fun ap => ?_) (fun aq => ?_))
  .exact rl Z <| Ae ap (wf hA [(0, 0)] Z Z Z)
  refine rn 2 Z <| sx Z (Az Z Z <| rn 3 Z <| gs 22 aq Z Z Z (fun ar => ?_) (fun au => ?_))
  .exact rl Z <| Ae ar (wf hA [(0, 0)] Z Z Z)
  exact rn 2 Z <| sx Z (Az Z Z <| rl Z <| Ae au (wf hA [(0, 0)] Z Z Z))
 refine cd Z av (fun aw => ?_) (fun ax => ?_)
 .refine rs AA <| rl Z <| AI <| AK ?_
  cases aw
  exact er Z Le.rfl
 refine AG <| AD <| rs AA <| rn 1 Z <| bq ax fun a9 l ay => sx Z (Ai (Ui _ _ l) (.inr Z) Z Z Z <| rl Z <| AC <| AJ <| rs AA <| rn 1 Z <| bq ay fun ba m az => sx Z (Ai (Vb _ _ m) (.inl Z) Z Z Z <| rl Z <| cd Z az (fun a0 => ?_) (fun a1 => ?_)))
 .refine rs AA <| rl Z <| AI <| Af <| AK ?_
  cases a0
  exact er Z Le.rfl
 refine jb (fun b : Bool => ⟨65, [(1, .lpb 0 0), (38, lb b)], [(0, bx (Aa a))], 1⟩) a1 (fun b n => ?_) (fun b x => ?_)
 .refine rg AA <| rn 1 Z <| bq n fun a2 d o => sx Z (Ai (MN _ _ d) (.inl Z) Z Z Z <| rn 1 Z <| gs 41 o Z Z Z (fun q => ?_) (fun s => ?_))
  .exact rl Z <| Ae q (wf hA [(0, 0)] Z Z Z)
  refine rn 1 Z <| bq s fun a3 e t => sx Z (Ai (MN _ _ e) (.inl Z) Z Z Z <| rn 2 Z <| gs 45 t Z Z Z (fun u => ?_) (fun v => ?_))
  .exact rl Z <| Ae u (wf hA [(0, 0)] Z Z Z)
  exact rn 1 Z <| bq v fun a4 f w => sx Z (Ai (MN _ _ f) (.inl Z) Z Z Z <| rl Z <| Ae w (wf hA [(0, 0)] Z Z Z))
 refine cd Z x (fun y => ?_) (fun z => ?_)
 .refine rs AA <| rl Z <| AI <| Af <| AK ?_
  cases y
  exact er Z Le.rfl
 refine rs AA <| rn 1 Z <| bq z fun a5 g aa => sx Z (Ai (TS _ _ g) (.inl Z) Z Z Z <| rl Z <| cd Z aa (fun ab => ?_) (fun ac => ?_))
 .refine rs AA <| rl Z <| AI <| Af <| AK ?_
  cases ab
  exact er Z Le.rfl
 refine rs AA <| rn 1 Z <| bq ac fun a6 i ad => sx Z (Ai (SX _ _ i) (.inl Z) Z Z Z <| rl Z <| cd Z ad (fun ae => ?_) (fun af => ?_))
 .refine rs AA <| rl Z <| AI <| Af <| AK ?_
  cases ae
  exact er Z Le.rfl
 refine rs AA <| rn 1 Z <| bq af fun a7 j ag => sx Z (Ai (Uj _ _ j) (.inl Z) Z Z Z <| rl Z <| cd Z ag (fun ah => ?_) (fun ai => ?_))
 .refine rs AA <| rl Z <| AI <| Af <| AK ?_
  cases ah
  exact er Z Le.rfl
 refine rs AA <| rn 1 Z <| bq ai fun a8 k aj => sx Z (Ai (Vf _ _ k) (.inl Z) Z Z Z <| rl Z <| cd Z aj (fun ak => ?_) (fun al => ?_))
 .refine rs AA <| rl Z <| AI <| Af <| AK ?_
  cases ak
  exact er Z Le.rfl
 refine AG <| As <| AD <| rs AA <| rl Z <| AI ?_
 cases al
 exact er Z Le.rfl
noncomputable def GY (a : AH) : Option Bool :=
 (((Ii a).bind fun d => bif d then (Do a).bind fun c => some (c == 0) else some false : Option (Bool))).bind fun (b : Bool) => some b
theorem Vc (b : AH) (r : Bool) (h : GY b = some r) : BY Try.prog 12 [.agg (Aa b)] (· = .bool r) := by
 refine fn AA Try.func12 Z Z 10 Z [.tmp 2] Z [(0, .p (.agg (Aa b)))] Z Z fun A hA => ?_
 unfold GY at h
 refine rs AA <| rl Z <| jb (fun a : Bool => ⟨10, [(2, lb a)], [], 0⟩) h (fun a k => ?_) (fun a j => ?_)
 .refine rg AA <| rn 1 Z <| bq k fun m d e => sx Z (Ai (Wo _ _ d) (.inl Z) Z Z Z <| rn 1 Z <| gs 5 e Z Z Z (fun f => ?_) (fun i => ?_))
  .exact rn 1 Z <| bq f fun l c g => sx Z (Ai (PZ _ _ c) (.inl Z) Z Z Z <| rl Z <| Ae g (wf hA [] Z Z Z))
  exact rl Z <| Ae i (wf hA [] Z Z Z)
 refine AI ?_
 have hr := Option.some.inj j; subst hr
 exact er Z Le.rfl
noncomputable def HT (a : Int) : Option Bool :=
 ((bif decide (97 <= a) then bif decide (a <= 122) then some true else bif decide (65 <= a) then some (decide (a <= 90)) else some false else bif decide (65 <= a) then some (decide (a <= 90)) else some false : Option (Bool))).bind fun (b : Bool) => some b
noncomputable def Gr (b : ByteArray) (a : Int) : Option (Int ⊕ Bool) :=
 bif decide (a < (b.size : Int)) then (((MI b a).bind fun d => (HT (d.toNat : Int)).bind fun e => bif (!e) then (MI b a).bind fun f => bif decide ((f.toNat : Int) < 48) then some true else (MI b a).bind fun g => some (decide (57 < (g.toNat : Int))) else some false : Option (Bool))).bind fun (c : Bool) => bif c then some (.inr false) else some (.inl (AZ (a + 1))) else some (.inr true)
noncomputable def HA (a : ByteArray) : Option Bool :=
 ((bif (a.toList == ByteArray.empty.toList) then some true else bif decide (8 < (a.size : Int)) then some true else (MI a 0).bind fun c => (HT (c.toNat : Int)).bind fun d => some (!d) : Option (Bool))).bind fun (b : Bool) => bif b then some false else AQ (Gr a) 1
noncomputable def JB (a : Int) : Option Int :=
 bif (a == 1) then some 2 else bif (a == 2) then some 3 else bif (a == 3) then some 4 else bif (a == 4) then some 1 else some 0
noncomputable def Dk (b : AH) (a : Int) : Option (Int ⊕ Bool) :=
 bif decide (a < (b.lines.length : Int)) then (Ak b.lines a).bind fun c => (HA c.name).bind fun d => bif (!d) then some (.inr false) else some (.inl (AZ (a + 1))) else some (.inr true)
noncomputable def Dl (b : AH) (a : Int) : Option (Int ⊕ Bool) :=
 bif decide (a < (b.signals.length : Int)) then (Ak b.signals a).bind fun c => (HA c.name).bind fun d => bif (!d) then some (.inr false) else some (.inl (AZ (a + 1))) else (AQ (Dk b) 0).map .inr
noncomputable def Ed (c : AH) (b : Int) : Option (Int ⊕ Bool) :=
 bif decide (b < (c.elems.length : Int)) then Jk (((Ak c.elems b).bind fun a => (((HA a.name).bind fun f => bif (!f) then some true else (JB a.kind).bind fun g => some (g == 0) : Option (Bool))).bind fun (d : Bool) => bif d then some (.inr (.inr false)) else bif (a.kind == 4) then bif (a.length != 0) then some (.inr (.inr false)) else some (.inl ()) else ((bif decide (a.length < 1) then some true else some (decide (4000 < a.length)) : Option (Bool))).bind fun (e : Bool) => bif e then some (.inr (.inr false)) else some (.inl ()) : Option (Unit ⊕ (Int ⊕ Bool)))) fun (h : Unit) => some (.inl (AZ (b + 1))) else (AQ (Dl c) 0).map .inr
noncomputable def Ij (a : AH) : Option Bool :=
 ((bif decide (a.top < 1) then some true else bif decide (60 < a.top) then some true else bif decide (a.brake < 1) then some true else bif decide (10 < a.brake) then some true else bif decide (a.margin < 1) then some true else bif decide (4000 < a.margin) then some true else bif decide (a.throw < 1) then some true else bif decide (20 < a.throw) then some true else some ((a.elems.length : Int) == 0) : Option (Bool))).bind fun (b : Bool) => bif b then some false else AQ (Ed a) 0
noncomputable def Ik (a : Int) (b : AH) : Option ByteArray :=
 (Ak b.elems a).bind fun c => some c.name
noncomputable def Il (a : Int) (b : AH) : Option ByteArray :=
 (Ak b.signals a).bind fun c => some c.name
noncomputable def Im (a : Int) (b : AH) : Option ByteArray :=
 (Ak b.lines a).bind fun c => some c.name
noncomputable def JC (b : AH) (a : AE) : Option Bool :=
 ((bif decide (0 <= a.elem) then bif decide (a.elem < (b.elems.length : Int)) then bif decide (0 <= a.fin) then (Ak b.elems a.elem).bind fun d => (JB d.kind).bind fun e => some (decide (a.fin < e)) else some false else some false else some false : Option (Bool))).bind fun (c : Bool) => some c
noncomputable def D2 (c : AH) (b : (Int × (List (AE × AE)))) (a : Int) : Option (Int ⊕ ((List (AE × AE)) × Bool)) :=
 bif decide (a < (c.elems.length : Int)) then Jk (((Ak c.elems a).bind fun e => bif (e.kind != 4) then some (.inl ()) else ((bif (!(AW b.2 (⟨a, 0⟩ : AE)).isSome) then some true else (Ak c.elems (((AW b.2 (⟨a, 0⟩ : AE)).getD (⟨0, 0⟩ : AE)).elem)).bind fun f => some (f.kind == 4) : Option (Bool))).bind fun (d : Bool) => bif d then some (.inr (.inr ([], false))) else some (.inl ()) : Option (Unit ⊕ (Int ⊕ ((List (AE × AE)) × Bool))))) fun (g : Unit) => some (.inl (AZ (a + 1))) else some (.inr (b.2, true))
noncomputable def FN (e : AH) (d : Int × (List (AE × AE))) : Option ((Int × (List (AE × AE))) ⊕ ((List (AE × AE)) × Bool)) :=
 bif decide (d.1 < (e.joins.length : Int)) then (Ak e.joins d.1).bind fun c => ((bif (AW d.2 c.a).isSome then some true else bif (AW d.2 c.b).isSome then some true else bif (c.a == c.b) then some true else (JC e c.a).bind fun g => bif (!g) then some true else (JC e c.b).bind fun h => some (!h) : Option (Bool))).bind fun (f : Bool) => bif f then some (.inr ([], false)) else some (.inl (AZ (d.1 + 1), Ay c.b c.a (Ay c.a c.b d.2))) else (AQ (D2 e d) 0).map .inr
noncomputable def Jn (a : AH) : Option ((List (AE × AE)) × Bool) :=
 AQ (FN a) (0, [])
noncomputable def Dm (b : AH) (c : (Int × (List (AE × Bool)))) (a : Int) : Option (Int ⊕ Bool) :=
 bif decide (a < (b.elems.length : Int)) then (Ak b.elems a).bind fun e => ((bif (e.kind == 4) then some (!((AW c.2 (⟨a, 0⟩ : AE)).getD false)) else some false : Option (Bool))).bind fun (d : Bool) => bif d then some (.inr false) else some (.inl (AZ (a + 1))) else some (.inr true)
noncomputable def Ee (b : AH) (d : (List (AE × AE))) (a : Int × (List (AE × Bool))) : Option ((Int × (List (AE × Bool))) ⊕ Bool) :=
 bif decide (a.1 < (b.signals.length : Int)) then (Ak b.signals a.1).bind fun c => (((JC b c.at_).bind fun j => bif (!j) then some true else some ((AW a.2 c.at_).getD false) : Option (Bool))).bind fun (g : Bool) => bif g then some (.inr false) else (Ak b.elems c.at_.elem).bind fun e => ((bif (e.kind != 1) then some (e.kind != 4) else some false : Option (Bool))).bind fun (h : Bool) => bif h then some (.inr false) else ((bif (!(AW d c.at_).isSome) then some true else (Ak b.elems (((AW d c.at_).getD (⟨0, 0⟩ : AE)).elem)).bind fun i => some (i.kind == 4) : Option (Bool))).bind fun (f : Bool) => bif f then some (.inr false) else some (.inl (AZ (a.1 + 1), Ay c.at_ true a.2)) else (AQ (Dm b a) 0).map .inr
noncomputable def Io (a : AH) (b : (List (AE × AE))) : Option Bool :=
 AQ (Ee a b) (0, [])
noncomputable def Fm (b : (List Int)) (c : (List (AE × AE))) (a : Int × Int) : Option ((Int × Int) ⊕ Bool) :=
 bif decide (a.2 < (b.length : Int)) then (Ak b (AZ (a.2 - 1))).bind fun d => ((bif (!(AW c (⟨d, a.1⟩ : AE)).isSome) then some true else (Ak b a.2).bind fun f => some ((((AW c (⟨d, a.1⟩ : AE)).getD (⟨0, 0⟩ : AE)).elem) != f) : Option (Bool))).bind fun (e : Bool) => bif e then some (.inr false) else some (.inl (AZ (1 - (((AW c (⟨d, a.1⟩ : AE)).getD (⟨0, 0⟩ : AE)).fin)), AZ (a.2 + 1))) else some (.inr true)
noncomputable def ED (b : (List Int)) (c : (List (AE × AE))) (a : Int × Int) : Option ((Int × Int) ⊕ Bool) :=
 bif decide (0 <= a.2) then (((Ak b 0).bind fun d => ((bif (AW c (⟨d, a.2⟩ : AE)).isSome then (Ak b 1).bind fun g => some ((((AW c (⟨d, a.2⟩ : AE)).getD (⟨0, 0⟩ : AE)).elem) == g) else some false : Option (Bool))).bind fun (f : Bool) => bif f then some a.2 else some a.1 : Option (Int))).bind fun (e : Int) => some (.inl (e, AZ (a.2 - 1))) else (bif decide (a.1 < 0) then some false else AQ (Fm b c) (a.1, 1)).map .inr
noncomputable def MP (a : (List Int)) (b : (List (AE × AE))) : Option Bool :=
 bif decide ((a.length : Int) < 2) then some true else AQ (ED a b) ((-1), 1)
noncomputable def F7 (d : AH) (g : (List (AE × AE))) (e : (Int × (List (Int × Bool)))) (c : B5) (a : Int × (List (Int × Bool))) : Option ((Int × (List (Int × Bool))) ⊕ ((Int × (List (Int × Bool))) ⊕ Bool)) :=
 bif decide (a.1 < (c.elems.length : Int)) then (Ak c.elems a.1).bind fun b => ((bif decide (b < 0) then some true else bif decide ((d.elems.length : Int) <= b) then some true else (Ak d.elems b).bind fun h => bif (h.kind != 1) then some true else some ((AW a.2 b).getD false) : Option (Bool))).bind fun (f : Bool) => bif f then some (.inr (.inr false)) else some (.inl (AZ (a.1 + 1), Ay b true a.2)) else ((MP c.elems g).bind fun i => bif (!i) then some (.inr false) else some (.inl (AZ (e.1 + 1), a.2))).map .inr
noncomputable def F8 (b : AH) (d : (List (AE × AE))) (a : Int × (List (Int × Bool))) : Option ((Int × (List (Int × Bool))) ⊕ Bool) :=
 bif decide (a.1 < (b.lines.length : Int)) then (Ak b.lines a.1).bind fun c => bif ((c.elems.length : Int) == 0) then some (.inr false) else AQ (F7 b d a c) (0, a.2) else some (.inr true)
noncomputable def KR (a : AH) (b : (List (AE × AE))) : Option Bool :=
 AQ (F8 a b) (0, [])
noncomputable def QL (b : Int) (a : Int × Int) : Option ((Int × Int) ⊕ Int) :=
 bif decide (0 < a.1) then some (.inl (AZ (a.1 - b), AZ (a.2 + a.1))) else some (.inr a.2)
noncomputable def OM (b : Int) (a : Int) : Option Int :=
 ((bif decide (b < 0) then some true else bif decide (60 < b) then some true else bif decide (a < 1) then some true else some (decide (10 < a)) : Option (Bool))).bind fun (c : Bool) => bif c then some 0 else AQ (QL a) (AZ (b - a), 0)
noncomputable def Et (b : AH) (a : Int) : Option (Int ⊕ Bool) :=
 bif decide (a < (b.elems.length : Int)) then (Ak b.elems a).bind fun c => ((bif (c.kind != 4) then some (decide (c.length < b.top)) else some false : Option (Bool))).bind fun (d : Bool) => bif d then some (.inr false) else some (.inl (AZ (a + 1))) else some (.inr true)
noncomputable def Gs (a : AH) (b : Int) : Option (Int ⊕ Bool) :=
 bif decide (b < (a.signals.length : Int)) then (Ak a.signals b).bind fun e => (Ak a.elems e.at_.elem).bind fun c => ((bif (c.kind == 1) then some (decide (c.length < a.margin)) else some false : Option (Bool))).bind fun (d : Bool) => bif d then some (.inr false) else some (.inl (AZ (b + 1))) else (AQ (Et a) 0).map .inr
noncomputable def LJ (a : AH) : Option Bool :=
 (OM a.top a.brake).bind fun b => bif decide (a.margin < AZ (a.top + b)) then some false else AQ (Gs a) 0
noncomputable def EJ (b : AH) (a : Int × (List (ByteArray × Bool))) : Option ((Int × (List (ByteArray × Bool))) ⊕ Bool) :=
 bif decide (a.1 < (b.elems.length : Int)) then (Ik a.1 b).bind fun c => bif ((AW a.2 c).getD false) then some (.inr true) else (Ik a.1 b).bind fun d => some (.inl (AZ (a.1 + 1), Ay d true a.2)) else some (.inr false)
noncomputable def EK (b : AH) (a : Int × (List (ByteArray × Bool))) : Option ((Int × (List (ByteArray × Bool))) ⊕ Bool) :=
 bif decide (a.1 < (b.signals.length : Int)) then (Il a.1 b).bind fun c => bif ((AW a.2 c).getD false) then some (.inr true) else (Il a.1 b).bind fun d => some (.inl (AZ (a.1 + 1), Ay d true a.2)) else some (.inr false)
noncomputable def EL (b : AH) (a : Int × (List (ByteArray × Bool))) : Option ((Int × (List (ByteArray × Bool))) ⊕ Bool) :=
 bif decide (a.1 < (b.lines.length : Int)) then (Im a.1 b).bind fun c => bif ((AW a.2 c).getD false) then some (.inr true) else (Im a.1 b).bind fun d => some (.inl (AZ (a.1 + 1), Ay d true a.2)) else some (.inr false)
noncomputable def KS (a : AH) : Option Int :=
 ((bif decide (40 < (a.elems.length : Int)) then some true else bif decide (24 < (a.signals.length : Int)) then some true else bif decide (4 < (a.lines.length : Int)) then some true else some (decide (80 < (a.joins.length : Int))) : Option (Bool))).bind fun (c : Bool) => bif c then some 3 else (Ij a).bind fun h => bif (!h) then some 1 else ((((AQ (EJ a) (0, []) : Option (Bool))).bind fun (e : Bool) => bif e then some true else ((AQ (EK a) (0, []) : Option (Bool))).bind fun (f : Bool) => bif f then some true else ((AQ (EL a) (0, []) : Option (Bool))).bind fun (g : Bool) => some g : Option (Bool))).bind fun (d : Bool) => bif d then some 4 else (Jn a).bind fun b => bif (!b.2) then some 6 else (Io a b.1).bind fun i => bif (!i) then some 7 else (KR a b.1).bind fun j => bif (!j) then some 8 else (LJ a).bind fun k => bif (!k) then some 9 else some 0
end Go.E
/- Plain functions, and walks in step with them. Written by a program (gen.py). No condition. -/
set_option maxRecDepth 100000
namespace Go.E
open Go Go.RowKit Go.Proofs
noncomputable def HB (a : (List Bl)) : Option (List Bl) :=
 LF a (some []) ((BN ([] : List Bl) a).bind fun b => some b)
noncomputable def HD (a : (List Bk)) : Option (List Bk) :=
 LF a (some []) ((BN ([] : List Bk) a).bind fun b => some b)
noncomputable def Gc (a : (List A9)) : Option (List A9) :=
 LF a (some []) ((BN ([] : List A9) a).bind fun b => some b)
noncomputable def HE (a : (List B5)) : Option (List B5) :=
 LF a (some []) ((BN ([] : List B5) a).bind fun b => some b)
noncomputable def CA (a : (List Int)) : Option (List Int) :=
 LF a (some []) ((BN ([] : List Int) a).bind fun b => some b)
theorem NT (a : (List Int)) (r : (List Int)) (h : CA a = some r) : BY Try.prog 71 [.slice 1 (a.map AN)] (· = .slice 1 (r.map AN)) := by
 refine fn AA Try.func71 Z Z 8 Z [.tmp 2] Z [(0, .p (.slice 1 (a.map AN)))] Z Z fun A hA => ?_
 unfold CA at h
 refine rs AA <| rl Z <| AC <| rs AA <| rn 1 Z <| sx Z (PN h Z Z Z (fun d => ?_) (fun e => ?_))
 .refine rl Z <| Qi Z <| rs AA <| rl Z <| AI <| AK ?_
  cases d
  exact er Z (Le.nil _)
 refine rl Z <| Qj Z <| AG <| AD <| rs AA <| rn 2 Z <| bq e fun f b c => sx Z (A7 (enc := AN) (l := ([] : List Int)) (m := a) b (fun _ => ⟨Z, Z⟩) Z Z Z Z Z Z <| rl Z <| AI ?_)
 have hr := Option.some.inj c; subst hr
 exact er (Kr Z (.one (.own (enc := AN) f Z Z))) Le.rfl
theorem Mv (a : (List Int)) (r : (List Int)) (h : CA a = some r) : E9 Try.prog 71 [.slice 1 (a.map AN)] 3 1 (r.map AN) := by
 refine VU (enc := AN) (fun _ => ⟨Z, Z⟩) Try.func71 Z Z 8 Z 2 Z [(0, .p (.slice 1 (a.map AN)))] Z Z fun A hA => ?_
 unfold CA at h
 refine rs AA <| rl Z <| AC <| rs AA <| rn 1 Z <| sx Z (PN h Z Z Z (fun d => ?_) (fun e => ?_))
 .refine rl Z <| Qi Z <| rs AA <| rl Z <| AI <| AK ?_
  cases d
  exact YX Z
 refine rl Z <| Qj Z <| AG <| AD <| rs AA <| rn 2 Z <| bq e fun f b c => sx Z (A7 (enc := AN) (l := ([] : List Int)) (m := a) b (fun _ => ⟨Z, Z⟩) Z Z Z Z Z Z <| rl Z <| AI ?_)
 have hr := Option.some.inj c; subst hr
 exact VV Z Z Z
noncomputable def HU (b : AH) (h : (List Bl)) (i : (List Bk)) (c : (List A9)) (g : (List B5)) (a : Int × (List B5)) : Option ((Int × (List B5)) ⊕ AH) :=
 bif decide (a.1 < (g.length : Int)) then (Ak a.2 a.1).bind fun d => (CA d.elems).bind fun e => (Ak a.2 a.1).bind fun f => some (.inl (AZ (a.1 + 1), KN a.2 a.1 (⟨f.name, e⟩ : B5))) else some (.inr (⟨h, i, c, a.2, b.top, b.brake, b.margin, b.throw, b.hard⟩ : AH))
noncomputable def Jx (a : AH) : Option AH :=
 (HB a.elems).bind fun d => (HD a.joins).bind fun e => (Gc a.signals).bind fun c => (HE a.lines).bind fun b => AQ (HU a d e c b) (0, b)
noncomputable def IA (e : (Int × (List (AE × AE)))) (c : (Int × (List (Int × Fx)) × (List (Int × Int)))) (d : B5) (a : Int × Int × (List (Int × Fx)) × (List (Int × Int))) : Option ((Int × Int × (List (Int × Fx)) × (List (Int × Int))) ⊕ ((Int × (List (Int × Fx)) × (List (Int × Int))) ⊕ ((Option CE) × Int))) :=
 bif decide (a.2.1 < (d.elems.length : Int)) then (Ak d.elems a.2.1).bind fun b => some (.inl (((AW e.2 (⟨b, AZ (1 - a.1)⟩ : AE)).getD (⟨0, 0⟩ : AE)).fin, AZ (a.2.1 + 1), Ay b (⟨c.1, a.2.1⟩ : Fx) a.2.2.1, Ay b a.1 a.2.2.2)) else some (.inr (.inl (AZ (c.1 + 1), a.2.2.1, a.2.2.2)))
noncomputable def Gd (d : AH) (j : AH) (b : (Int × (List (AE × AE)))) (f : (Int × (List (AE × Int)))) (a : Int × (List (Int × Fx)) × (List (Int × Int))) : Option ((Int × (List (Int × Fx)) × (List (Int × Int))) ⊕ ((Option CE) × Int)) :=
 bif decide (a.1 < (d.lines.length : Int)) then (Ak d.lines a.1).bind fun c => ((bif decide (1 < (c.elems.length : Int)) then (Ak c.elems 0).bind fun e => ((bif (AW b.2 (⟨e, 0⟩ : AE)).isSome then (Ak c.elems 1).bind fun i => some ((((AW b.2 (⟨e, 0⟩ : AE)).getD (⟨0, 0⟩ : AE)).elem) == i) else some false : Option (Bool))).bind fun (h : Bool) => bif h then some 1 else some 0 else some 0 : Option (Int))).bind fun (g : Int) => AQ (IA b a c) (g, 0, a.2.1, a.2.2) else some (.inr (some (⟨j, b.2, f.2, a.2.1, a.2.2⟩ : CE), 0))
noncomputable def IB (b : AH) (d : AH) (c : (Int × (List (AE × AE)))) (a : Int × (List (AE × Int))) : Option ((Int × (List (AE × Int))) ⊕ ((Option CE) × Int)) :=
 bif decide (a.1 < (b.signals.length : Int)) then (Ak b.signals a.1).bind fun e => some (.inl (AZ (a.1 + 1), Ay e.at_ a.1 a.2)) else (AQ (Gd b d c a) (0, [], [])).map .inr
noncomputable def IC (e : AH) (f : AH) (c : Int × (List (AE × AE))) : Option ((Int × (List (AE × AE))) ⊕ ((Option CE) × Int)) :=
 bif decide (c.1 < (e.joins.length : Int)) then (Ak e.joins c.1).bind fun d => some (.inl (AZ (c.1 + 1), Ay d.b d.a (Ay d.a d.b c.2))) else (AQ (IB e f c) (0, [])).map .inr
noncomputable def Qu (a : AH) : Option ((Option CE) × Int) :=
 (KS a).bind fun b => bif (b != 0) then some (none, b) else (Jx a).bind fun c => AQ (IC a c) (0, [])
noncomputable def Lk (b : AH) (a : Int) : Option (AE × Bool) :=
 ((bif decide (a < 0) then some true else some (decide ((b.signals.length : Int) <= a)) : Option (Bool))).bind fun (c : Bool) => bif c then some ((⟨0, 0⟩ : AE), false) else (Ak b.signals a).bind fun d => some (d.at_, true)
theorem X0 (a : AH) (b : Int) (r : (AE × Bool)) (h : Lk a b = some r) : BY Try.prog 88 [.agg (Aa a), .int .i64 b] (· = .tup [.agg (Aw r.1), .bool r.2]) := by
 refine fn AA Try.func88 Z Z 22 Z [.cell 4 96, .tmp 5] Z [(0, .p (.agg (Aa a))), (1, .p (.int .i64 b))] Z Z fun A hA => ?_
 unfold Lk at h
 refine rs AA <| rl Z <| AC <| jb (fun c : Bool => ⟨22, [(1, li b), (2, .lpb 0 0), (4, .lpb 1 0), (14, lb c)], [(0, bx (Aa a)), (1, .box [li 0, li 0])], 2⟩) h (fun c e => ?_) (fun c i => ?_)
 .refine rg AA <| rn 3 Z <| gs 8 e Z Z Z (fun f => ?_) (fun g => ?_)
  .exact rl Z <| Ae f (wf hA [(0, 0), (1, 1)] Z Z Z)
  exact rn 3 Z <| sx Z (Az Z Z <| rl Z <| Ae g (wf hA [(0, 0), (1, 1)] Z Z Z))
 refine cd Z i (fun j => ?_) (fun k => ?_)
 .refine rs AA <| rl Z <| AI <| AK ?_
  cases j
  exact er Z Le.rfl
 refine AG <| AD <| rs AA <| rn 3 Z <| bq k fun m d l => sx Z (Ar d Z Z Z <| rl Z <| AI ?_)
 cases l
 exact er Z Le.rfl
noncomputable def Ge (a : AH) (b : Int) : Option Int :=
 (DD a b).bind fun c => some c
theorem NU (a : AH) (b : Int) (r : Int) (h : Ge a b = some r) : BY Try.prog 105 [.agg (Aa a), .int .i64 b] (· = .int .i64 r) := by
 refine fn AA Try.func105 Z Z 8 Z [.tmp 4] Z [(0, .p (.agg (Aa a))), (1, .p (.int .i64 b))] Z Z fun A hA => ?_
 unfold Ge at h
 refine rs AA <| rl Z <| rs AA <| rn 2 Z <| bq h fun e c d => sx Z (Ai (E3 _ _ _ c) (.inl Z) Z Z Z <| rl Z <| AI ?_)
 have hr := Option.some.inj d; subst hr
 exact er Z Le.rfl
noncomputable def EM (a : AO) (b : Ao) (c : Int) (f : Int) (g : Int) : Option AO :=
 (BN ([] : List Ao) a.steps).bind fun i => (BN i [b]).bind fun j => (BN ([] : List AM) a.needs).bind fun d => ((bif (c != 0) then (BN d [(⟨b.elem, c⟩ : AM)]).bind fun h => some h else some d : Option ((List AM)))).bind fun (e : (List AM)) => some (⟨a.frm, g, f, j, e, [], [], [], false⟩ : AO)
theorem Jy (a : AO) (b : Ao) (f : Int) (g : Int) (i : Int) (r : AO) (h : EM a b f g i = some r) : BY Try.prog 128 [.agg (Aq a), .agg (BH b), .int .i64 f, .int .i64 g, .int .i64 i] (· = .agg (Aq r)) := by
 refine fn AA Try.func128 Z Z 42 Z [.cell 10 36] Z [(0, .p (.agg (Aq a))), (1, .p (.agg (BH b))), (2, .p (.int .i64 f)), (3, .p (.int .i64 g)), (4, .p (.int .i64 i))] Z Z fun A hA => ?_
 unfold EM at h
 refine rs AA <| rl Z <| rs AA <| rl Z <| AC <| bq h fun j c x => bq x fun k d y => ?_
 refine Wp AA mixed (.picks [1, 2] (.alt 0 [] (.alt 3 [4, 5, 6, 7, 8] .done (.alt 4 [] (.alt 3 [5, 6, 7, 8] .done (.alt 5 [3, 6, 7, 8] .done .nil)) .nil)) (.alt 4 [0] (.alt 3 [5, 6, 7, 8] .done (.alt 5 [3, 6, 7, 8] .done .nil)) .nil))) 9 ⟨42, [(2, li f), (5, .lpb 0 0), (6, .lpb 1 0), (10, .lpb 2 0), (11, .lpb 3 0)], [(0, bx (Aq a)), (1, bx (BH b)), (2, .box [li 0, li 0, li 0, .p (.nils), .p (.nils), .p (.nils), .p (.nils), .p (.nils), lb false]), (3, .box [li a.frm, li i, li g, .lsl 4 3 0 k.length, .p (.nils), .p (.nils), .p (.nils), .p (.nils), lb false]), (4, .row 90 3 (k.map BH))], 5⟩ (by kernel_rfl) Z ?_ ?_
 .refine Rg <| A2 Z <| BX ?_ ?_
  .refine A2 Z <| BX ?_ ?_
   .exact AU Z (Bc (A7 (enc := BH) (l := ([] : List Ao)) (m := a.steps) c (fun _ => ⟨Z, Z⟩) Z Z Z Z Z Z <| Av 2 Z <| AU Z (Bc (A7 (enc := BH) (l := j) (m := [b]) d (fun _ => ⟨Z, Z⟩) Z Z Z Z Z Z <| A2 Z <| CN (wf hA (gi 4 [(4, 10)]) Z Z Z)))))
   refine BX ?_ ?_
   .refine A2 Z <| BX ?_ ?_
    .exact AU Z (Bc (A7 (enc := BH) (l := ([] : List Ao)) (m := a.steps) c (fun _ => ⟨Z, Z⟩) Z Z Z Z Z Z <| Av 1 Z <| AU Z (Bc (A7 (enc := BH) (l := j) (m := [b]) d (fun _ => ⟨Z, Z⟩) Z Z Z Z Z Z <| A2 Z <| CN (wf hA (gi 4 [(4, 10)]) Z Z Z)))))
    refine BX ?_ ?_
    .exact Av 1 Z <| AU Z (Bc (A7 (enc := BH) (l := ([] : List Ao)) (m := a.steps) c (fun _ => ⟨Z, Z⟩) Z Z Z Z Z Z <| AU Z (Bc (A7 (enc := BH) (l := j) (m := [b]) d (fun _ => ⟨Z, Z⟩) Z Z Z Z Z Z <| A2 Z <| CN (wf hA (gi 4 [(4, 10)]) Z Z Z)))))
    exact DE
   exact DE
  refine BX ?_ ?_
  .refine A2 Z <| BX ?_ ?_
   .exact AU Z (Bc (A7 (enc := BH) (l := ([] : List Ao)) (m := a.steps) c (fun _ => ⟨Z, Z⟩) Z Z Z Z Z Z <| Av 1 Z <| AU Z (Bc (A7 (enc := BH) (l := j) (m := [b]) d (fun _ => ⟨Z, Z⟩) Z Z Z Z Z Z <| A2 Z <| CN (wf hA (gi 4 [(4, 10)]) Z Z Z)))))
   refine BX ?_ ?_
   .exact Av 1 Z <| AU Z (Bc (A7 (enc := BH) (l := ([] : List Ao)) (m := a.steps) c (fun _ => ⟨Z, Z⟩) Z Z Z Z Z Z <| AU Z (Bc (A7 (enc := BH) (l := j) (m := [b]) d (fun _ => ⟨Z, Z⟩) Z Z Z Z Z Z <| A2 Z <| CN (wf hA (gi 4 [(4, 10)]) Z Z Z)))))
   exact DE
  exact DE
 refine AD <| rs AA <| rn 3 Z <| bq y fun z n q => sx Z (A7 (enc := AP) (l := ([] : List AM)) (m := a.needs) n (fun _ => ⟨Z, Z⟩) Z Z Z Z Z Z <| rl Z <| jb (fun e : (List AM) => ⟨42, [(10, .lpb 0 0), (11, .lpb 1 0)], [(0, .box [li 0, li 0, li 0, .p (.nils), .p (.nils), .p (.nils), .p (.nils), .p (.nils), lb false]), (1, .box [li a.frm, li i, li g, .lsl 2 3 0 k.length, .lsl 3 2 0 e.length, .p (.nils), .p (.nils), .p (.nils), lb false]), (2, .row 90 3 (k.map BH)), (3, .row 46 2 (e.map AP))], 4⟩) q (fun e s => ?_) (fun e w => ?_))
 .refine rs AA <| rl Z <| cd Z s (fun t => ?_) (fun v => ?_)
  .exact rg AA <| rn 7 Z <| bq t fun aa o u => sx Z (A7 (enc := AP) (l := z) (m := [(⟨b.elem, f⟩ : AM)]) o (fun _ => ⟨Z, Z⟩) Z Z Z Z Z Z <| rl Z <| Ae u (wf hA [(0, 2), (1, 3), (2, 4), (3, 8)] Z Z Z))
  exact AG <| Ae v (wf hA [(0, 2), (1, 3), (2, 4), (3, 6)] Z Z Z)
 refine rs AA <| rl Z <| AI ?_
 cases w
 exact er (Kr Z (.agg (.cons (.p _) (.cons (.p _) (.cons (.p _) (.cons (.own (enc := BH) k Z Z) (.cons (.own (enc := AP) e Z Z) (.cons (.p _) (.cons (.p _) (.cons (.p _) (.cons (.p _) .nil))))))))))) (Le.agg' (.cons Le.rfl (.cons Le.rfl (.cons Le.rfl (.cons Le.rfl (.cons Le.rfl (.cons (Le.nil _) (.cons (Le.nil _) (.cons (Le.nil _) (.cons Le.rfl .nil))))))))))
noncomputable def Hn (c : AH) (d : Int) (a : Int) : Option (List Co) :=
 (GZ c (⟨d, a⟩ : AE)).bind fun e => bif (!e) then some [] else (DD c d).bind fun b => bif (b == 1) then some [(⟨AZ (1 - a), 0⟩ : Co)] else bif (b == 3) then some [(⟨XT a 1, 0⟩ : Co)] else bif (b == 2) then bif (a == 0) then some [(⟨1, 1⟩ : Co), (⟨2, 2⟩ : Co)] else some [(⟨0, a⟩ : Co)] else some []
theorem Qv (b : AH) (c : Int) (a : Int) (r : (List Co)) (h : Hn b c a = some r) : BY Try.prog 129 [.agg (Aa b), .int .i64 c, .int .i64 a] (· = .slice 2 (r.map MQ)) := by
 refine fn AA Try.func129 Z Z 38 Z [.tmp 6] Z [(0, .p (.agg (Aa b))), (1, .p (.int .i64 c)), (2, .p (.int .i64 a))] Z Z fun A hA => ?_
 unfold Hn at h
 refine rs AA <| rl Z <| AC <| rs AA <| rn 4 Z <| bq h fun v e f => sx Z (Ai (MO _ _ _ e) (.inl Z) Z Z Z <| rl Z <| cd Z f (fun g => ?_) (fun i => ?_))
 .refine rs AA <| rl Z <| AI <| AK ?_
  cases g
  exact er Z (Le.nil _)
 refine AG <| AD <| AC <| rs AA <| rn 2 Z <| bq i fun u d j => sx Z (Ai (E3 _ _ _ d) (.inl Z) Z Z Z <| rl Z <| AJ <| rs AA <| rl Z <| cd Z j (fun k => ?_) (fun l => ?_))
 .refine rs AA <| rl Z <| AI <| Af <| AK ?_
  cases k
  exact er (Kr Z (.one (.own (enc := MQ) ([(⟨AZ (1 - a), 0⟩ : Co)] : List Co) Z Z))) Le.rfl
 refine rs AA <| rl Z <| cd Z l (fun m => ?_) (fun n => ?_)
 .refine rs AA <| rl Z <| AI <| Af <| AK ?_
  cases m
  exact er (Kr Z (.one (.own (enc := MQ) ([(⟨XT a 1, 0⟩ : Co)] : List Co) Z Z))) Le.rfl
 refine rs AA <| rl Z <| cd Z n (fun o => ?_) (fun t => ?_)
 .refine AC <| rs AA <| rl Z <| cd Z o (fun q => ?_) (fun s => ?_)
  .refine rs AA <| rl Z <| AI <| AK <| Af <| AK ?_
   cases q
   exact er (Kr Z (.one (.own (enc := MQ) ([(⟨1, 1⟩ : Co), (⟨2, 2⟩ : Co)] : List Co) Z Z))) Le.rfl
  refine AG <| AD <| rs AA <| rl Z <| AI <| Af <| AK ?_
  cases s
  exact er (Kr Z (.one (.own (enc := MQ) ([(⟨0, a⟩ : Co)] : List Co) Z Z))) Le.rfl
 refine AG <| As <| AD <| rs AA <| rl Z <| AI ?_
 cases t
 exact er Z (Le.nil _)
noncomputable def Fo (d : AH) (e : AO) (b : AE) (rc : (AH × AO × AE × (List Int)) -> Option (List AO)) (u : (List Int)) (c : (List Co)) (a : Int × (List AO)) : Option ((Int × (List AO)) ⊕ (List AO)) :=
 bif decide (a.1 < (c.length : Int)) then (((Ak c a.1).bind fun g => (Ak c a.1).bind fun f => (EG d (⟨b.elem, g.out⟩ : AE)).bind fun h => bif decide (0 <= h) then (Ak c a.1).bind fun k => (EM e (⟨b.elem, b.fin, f.out⟩ : Ao) k.pos 1 h).bind fun l => (BN a.2 [l]).bind fun m => some m else (CR d (⟨b.elem, g.out⟩ : AE)).bind fun i => bif (!i.2) then (Ak c a.1).bind fun n => (EM e (⟨b.elem, b.fin, f.out⟩ : Ao) n.pos 3 (-1)).bind fun o => (BN a.2 [o]).bind fun p => some p else (Ak c a.1).bind fun q => (EM e (⟨b.elem, b.fin, f.out⟩ : Ao) q.pos 0 (-1)).bind fun r => (rc (d, r, i.1, u)).bind fun s => (BN a.2 s).bind fun t => some t : Option ((List AO)))).bind fun (j : (List AO)) => some (.inl (AZ (a.1 + 1), j)) else some (.inr a.2)
noncomputable def FO (rc : (AH × AO × AE × (List Int)) -> Option (List AO)) (b : AH) (c : AO) (a : AE) (d : (List Int)) : Option (List AO) :=
 (((DL d a.elem).bind fun f => bif f then some true else some ((c.steps.length : Int) == 12) : Option (Bool))).bind fun (e : Bool) => bif e then some [] else (BN ([] : List Int) d).bind fun g => (BN g [a.elem]).bind fun h => (Ge b a.elem).bind fun i => bif (i == 4) then (EM c (⟨a.elem, a.fin, (-1)⟩ : Ao) 0 2 (-1)).bind fun j => some [j] else (Hn b a.elem a.fin).bind fun k => AQ (Fo b c a rc h k) (0, ([] : List AO))
noncomputable def SY (b : AH) (c : AO) (d : AE) (e : (List Int)) : Option (List AO) :=
 NV (fun (rc : (AH × AO × AE × (List Int)) -> Option (List AO)) (a : (AH × AO × AE × (List Int))) => FO rc a.1 a.2.1 a.2.2.1 a.2.2.2) 1000 (b, c, d, e)
theorem Uk (rc : (AH × AO × AE × (List Int)) -> Option (List AO)) (hrec : ∀ (d : AH) (e : AO) (b : AE) (c : (List Int)) (r : (List AO)), rc (d, e, b, c) = some r -> BY Try.prog 90 [.agg (Aa d), .agg (Aq e), .agg (Aw b), .slice 1 (c.map AN)] (· = .slice 9 (r.map Aq))) (d : AH) (e : AO) (b : AE) (c : (List Int)) (r : (List AO)) (h : FO rc d e b c = some r) : BY Try.prog 90 [.agg (Aa d), .agg (Aq e), .agg (Aw b), .slice 1 (c.map AN)] (· = .slice 9 (r.map Aq)) := by
 refine fn AA Try.func90 Z Z 128 Z [.tmp 8] Z [(0, .p (.agg (Aa d))), (1, .p (.agg (Aq e))), (2, .p (.agg (Aw b))), (3, .p (.slice 1 (c.map AN)))] Z Z fun A hA => ?_
 unfold FO at h
 refine rs AA <| rl Z <| AC <| jb (fun o : Bool => ⟨128, [(3, ls 1 AN c), (4, .lpb 0 0), (5, .lpb 1 0), (6, .lpb 2 0), (26, lb o)], [(0, bx (Aa d)), (1, bx (Aq e)), (2, .box [li b.elem, li b.fin])], 3⟩) h (fun o ba => ?_) (fun o bf => ?_)
 .refine rg AA <| rn 3 Z <| bq ba fun b9 ah bb => sx Z (Ai (Hj _ _ _ ah) (.inl Z) Z Z Z <| rn 1 Z <| gs 21 bb Z Z Z (fun bc => ?_) (fun be => ?_))
  .exact rl Z <| Ae bc (wf hA (gi 3 []) Z Z Z)
  exact rn 2 Z <| sx Z (Az Z Z <| rl Z <| Ae be (wf hA (gi 3 []) Z Z Z))
 refine cd Z bf (fun bg => ?_) (fun bh => ?_)
 .refine rs AA <| rl Z <| AI <| AK ?_
  cases bg
  exact er Z (Le.nil _)
 refine AG <| AD <| AC <| bq bh fun j g bi => bq bi fun k i bj => ?_
 refine Wp AA mixed (.picks [1, 3] (.alt 0 [] (.alt 2 [4, 5, 6, 7] .done (.alt 4 [] (.alt 2 [5, 6, 7] .done (.alt 5 [2, 6, 7] .done .nil)) .nil)) (.alt 4 [0] (.alt 2 [5, 6, 7] .done (.alt 5 [2, 6, 7] .done .nil)) .nil))) 8 ⟨128, [(3, .lsl 0 1 0 k.length), (4, .lpb 1 0), (5, .lpb 2 0), (6, .lpb 3 0)], [(0, .row 3 1 (k.map AN)), (1, bx (Aa d)), (2, bx (Aq e)), (3, .box [li b.elem, li b.fin])], 4⟩ (by kernel_rfl) Z ?_ ?_
 .refine Rg <| A2 Z <| BX ?_ ?_
  .refine A2 Z <| BX ?_ ?_
   .exact AU Z (Bc (A7 (enc := AN) (l := ([] : List Int)) (m := c) g (fun _ => ⟨Z, Z⟩) Z Z Z Z Z Z <| Av 2 Z <| AU Z (Bc (A7 (enc := AN) (l := j) (m := [b.elem]) i (fun _ => ⟨Z, Z⟩) Z Z Z Z Z Z <| A2 Z <| CN (wf hA [(0, 9), (1, 0), (2, 1), (3, 2)] Z Z Z)))))
   refine BX ?_ ?_
   .refine A2 Z <| BX ?_ ?_
    .exact AU Z (Bc (A7 (enc := AN) (l := ([] : List Int)) (m := c) g (fun _ => ⟨Z, Z⟩) Z Z Z Z Z Z <| Av 1 Z <| AU Z (Bc (A7 (enc := AN) (l := j) (m := [b.elem]) i (fun _ => ⟨Z, Z⟩) Z Z Z Z Z Z <| A2 Z <| CN (wf hA [(0, 9), (1, 0), (2, 1), (3, 2)] Z Z Z)))))
    refine BX ?_ ?_
    .exact Av 1 Z <| AU Z (Bc (A7 (enc := AN) (l := ([] : List Int)) (m := c) g (fun _ => ⟨Z, Z⟩) Z Z Z Z Z Z <| AU Z (Bc (A7 (enc := AN) (l := j) (m := [b.elem]) i (fun _ => ⟨Z, Z⟩) Z Z Z Z Z Z <| A2 Z <| CN (wf hA [(0, 9), (1, 0), (2, 1), (3, 2)] Z Z Z)))))
    exact DE
   exact DE
  refine BX ?_ ?_
  .refine A2 Z <| BX ?_ ?_
   .exact AU Z (Bc (A7 (enc := AN) (l := ([] : List Int)) (m := c) g (fun _ => ⟨Z, Z⟩) Z Z Z Z Z Z <| Av 1 Z <| AU Z (Bc (A7 (enc := AN) (l := j) (m := [b.elem]) i (fun _ => ⟨Z, Z⟩) Z Z Z Z Z Z <| A2 Z <| CN (wf hA [(0, 9), (1, 0), (2, 1), (3, 2)] Z Z Z)))))
   refine BX ?_ ?_
   .exact Av 1 Z <| AU Z (Bc (A7 (enc := AN) (l := ([] : List Int)) (m := c) g (fun _ => ⟨Z, Z⟩) Z Z Z Z Z Z <| AU Z (Bc (A7 (enc := AN) (l := j) (m := [b.elem]) i (fun _ => ⟨Z, Z⟩) Z Z Z Z Z Z <| A2 Z <| CN (wf hA [(0, 9), (1, 0), (2, 1), (3, 2)] Z Z Z)))))
   exact DE
  exact DE
 refine AD <| AC <| rs AA <| rn 3 Z <| bq bj fun ca ai bk => sx Z (Ai (NU _ _ _ ai) (.inl Z) Z Z Z <| rl Z <| cd Z bk (fun bl => ?_) (fun bn => ?_))
 .refine rs AA <| rn 6 Z <| bq bl fun bt aj bm => sx Z (Ai (Jy _ _ _ _ _ _ aj) (.inr Z) Z Z Z <| rl Z <| AI <| AK ?_)
  cases bm
  exact er (Kr Z (.one (.own (enc := Aq) ([bt] : List AO) Z Z))) Le.rfl
 refine AG <| AD <| rs AA <| rl Z <| rs AA <| rn 5 Z <| bq bn fun s ak bo => sx Z (Ai (Qv _ _ _ _ ak) (.inr Z) Z Z Z <| rl Z <| AC <| rs AA <| rl Z <| AJ ?_)
 apply lp (a := r) (fun f : (Int × (List AO)) => ⟨128, [(3, ls 1 AN k), (4, .lpb 0 0), (5, .lpb 1 0), (6, .lpb 2 0), (9, .lsl 3 9 0 f.2.length), (10, ls 2 MQ s), (11, li f.1)], [(0, bx (Aa d)), (1, bx (Aq e)), (2, .box [li b.elem, li b.fin]), (3, .row 36 9 (f.2.map Aq))], 4⟩) bo
 . exact BB.trans (Ip 0 (Ll (enc := AN) (l := k) Z) (.cons 3 .hit (.cons 4 (.same _) (.cons 5 (.same _) (.cons 6 (.same _) (.cons 9 (.same _) (.cons 10 (.same _) (.cons 11 (.same _) .nil))))))) (.cons 1 Z Z (.same _) (.cons 2 Z Z (.same _) (.cons 3 Z Z (.same _) .nil)))) (BB.trans (CG 9 36 9 Z) (wf hA [(0, 1), (1, 2), (2, 3), (3, 4)] Z Z Z))
 intro f bv q
 unfold Fo at q
 refine AC <| rs AA <| rn 2 Z <| sx Z (Az Z Z <| rl Z <| cd Z q (fun al => ?_) (fun a8 => ?_))
 .refine AG <| AD <| jb (fun n : (List AO) => ⟨128, [(3, ls 1 AN k), (4, .lpb 0 0), (5, .lpb 1 0), (6, .lpb 2 0), (9, .lsl 3 9 0 n.length), (10, ls 2 MQ s), (11, li f.1)], [(0, bx (Aa d)), (1, bx (Aq e)), (2, .box [li b.elem, li b.fin]), (3, .row 36 9 (n.map Aq))], 4⟩) al (fun n am => ?_) (fun n a7 => ?_)
  .refine AJ <| AC ?_
   refine CV AA mixed [0, 1, 2, 3, 4, 5, 6, 7, 8, 9] 10 (by kernel_rfl) Z Z Z ?_
   refine Av 4 Z <| bq am fun bw t an => AU Z (Ag Z (Ar t Z Z Z <| A2 Z <| AD <| AC ?_))
   refine CV AA mixed [0, 1, 2, 3, 4, 5, 6, 7, 8, 9, 10, 11] 12 (by kernel_rfl) Z Z Z ?_
   refine Av 6 Z <| bq an fun bz u ao => AU Z (Ag Z (Ar u Z Z Z <| A2 Z <| AD <| AC <| rs AA <| rn 2 Z <| bq ao fun b0 v ap => sx Z (Ai (Jw _ _ _ v) (.inl Z) Z Z Z <| rl Z <| rs AA <| rl Z <| cd Z ap (fun aq => ?_) (fun aw => ?_))))
   .refine AC ?_
    refine CV AA mixed [0, 1, 2, 3, 4, 5, 6, 7, 8, 9, 10, 11, 12] 13 (by kernel_rfl) Z Z Z ?_
    exact Av 5 Z <| bq aq fun b1 w ar => AU Z (Ag Z (Ar w Z Z Z <| Av 3 Z <| bq ar fun bp x au => AU Z (Ax (Jy _ _ _ _ _ _ x) (.inr Z) Z Z Z <| Av 1 Z <| bq au fun b2 y av => AU Z (Bc (A7 (enc := Aq) (l := f.2) (m := [bp]) y (fun _ => ⟨Z, Z⟩) Z Z Z Z Z Z <| A2 Z <| AD <| Al <| An <| A5 <| Ae av (wf hA (gi 3 [(3, 37)]) Z Z Z))))))
   refine AG <| AD <| rs AA <| rn 2 Z <| bq aw fun b3 z ax => sx Z (Ai (DC _ _ _ z) (.inl Z) Z Z Z <| rl Z <| AC <| rs AA <| rl Z <| cd Z ax (fun ay => ?_) (fun a2 => ?_))
   .refine AC ?_
    refine CV AA mixed [0, 1, 2, 3, 4, 5, 6, 7, 8, 9, 10, 11] 12 (by kernel_rfl) Z Z Z ?_
    exact Av 5 Z <| bq ay fun b4 aa az => AU Z (Ag Z (Ar aa Z Z Z <| Av 2 Z <| bq az fun br ab a0 => AU Z (Ax (Jy _ _ _ _ _ _ ab) (.inr Z) Z Z Z <| Av 1 Z <| bq a0 fun b5 ac a1 => AU Z (Bc (A7 (enc := Aq) (l := f.2) (m := [br]) ac (fun _ => ⟨Z, Z⟩) Z Z Z Z Z Z <| A2 Z <| AD <| Al <| An <| A5 <| Ae a1 (wf hA (gi 3 [(3, 37)]) Z Z Z))))))
   refine AG <| AD ?_
   refine CV AA mixed [0, 1, 2, 3, 4, 5, 6, 7, 8, 9, 10, 11, 12, 13, 14] 15 (by kernel_rfl) Z Z Z ?_
   exact Av 6 Z <| bq a2 fun b6 ad a3 => AU Z (Ag Z (Ar ad Z Z Z <| Av 2 Z <| bq a3 fun b7 ae a4 => AU Z (Ax (Jy _ _ _ _ _ _ ae) (.inr Z) Z Z Z <| Av 2 Z <| bq a4 fun bs af a5 => AU Z (Ax (hrec _ _ _ _ _ af) (.inr Z) Z Z Z <| bq a5 fun b8 ag a6 => AU Z (Bc (A7 (enc := Aq) (l := f.2) (m := bs) ag (fun _ => ⟨Z, Z⟩) Z Z Z Z Z Z <| A2 Z <| As <| Ae a6 (wf hA (gi 3 [(3, 40)]) Z Z Z)))))))
  exact rg AA <| rl Z <| BM a7 (wf hA (gi 4 []) Z Z Z)
 refine Al <| An <| B9 a8 fun bu a9 => A5 <| AD <| rs AA <| rl Z <| AI ?_
 cases a9
 exact er (Kr Z (.one (.own (enc := Aq) f.2 Z Z))) Le.rfl
theorem Wq (b : AH) (c : AO) (d : AE) (e : (List Int)) (r : (List AO)) (h : SY b c d e = some r) : BY Try.prog 90 [.agg (Aa b), .agg (Aq c), .agg (Aw d), .slice 1 (e.map AN)] (· = .slice 9 (r.map Aq)) :=
 recF_holds (F := fun (rc : (AH × AO × AE × (List Int)) -> Option (List AO)) (a : (AH × AO × AE × (List Int))) => FO rc a.1 a.2.1 a.2.2.1 a.2.2.2) (C := fun (a : (AH × AO × AE × (List Int))) (r : (List AO)) => BY Try.prog 90 [.agg (Aa a.1), .agg (Aq a.2.1), .agg (Aw a.2.2.1), .slice 1 (a.2.2.2.map AN)] (· = .slice 9 (r.map Aq))) (fun rc hrec a r h => Uk rc (fun f g i j r h => hrec (f, g, i, j) r h) a.1 a.2.1 a.2.2.1 a.2.2.2 r h) 1000 (b, c, d, e) r h
noncomputable def KT (a : AH) (c : Int) : Option (List AO) :=
 (Lk a c).bind fun b => bif (!b.2) then some [] else (CR a b.1).bind fun d => bif (!d.2) then some [] else (SY a (⟨c, 0, 0, [], [], [], [], [], false⟩ : AO) d.1 ([b.1.elem] : (List Int))).bind fun e => some e
theorem Wr (a : AH) (b : Int) (r : (List AO)) (h : KT a b = some r) : BY Try.prog 42 [.agg (Aa a), .int .i64 b] (· = .slice 9 (r.map Aq)) := by
 refine fn AA Try.func42 Z Z 33 Z [.tmp 4] Z [(0, .p (.agg (Aa a))), (1, .p (.int .i64 b))] Z Z fun A hA => ?_
 unfold KT at h
 refine rs AA <| rl Z <| rs AA <| rn 2 Z <| bq h fun n e k => sx Z (Ai (X0 _ _ _ e) (.inl Z) Z Z Z <| rl Z <| AC <| rs AA <| rl Z <| cd Z k (fun l => ?_) (fun m => ?_))
 .refine rs AA <| rl Z <| AI <| AK ?_
  cases l
  exact er Z (Le.nil _)
 refine AG <| AD <| rs AA <| rn 2 Z <| bq m fun o c f => sx Z (Ai (DC _ _ _ c) (.inl Z) Z Z Z <| rl Z <| AC <| rs AA <| rl Z <| cd Z f (fun g => ?_) (fun i => ?_))
 .refine rs AA <| rl Z <| AI <| AK ?_
  cases g
  exact er Z (Le.nil _)
 refine AG <| AD <| rs AA <| rn 7 Z <| bq i fun q d j => sx Z (Xt (BY.le (Wq _ _ _ _ _ d) (.cons Le.rfl (.cons (Le.agg' (.cons Le.rfl (.cons Le.rfl (.cons Le.rfl (.cons (Le.nil _) (.cons (Le.nil _) (.cons (Le.nil _) (.cons (Le.nil _) (.cons (Le.nil _) (.cons Le.rfl .nil)))))))))) (.cons Le.rfl (.cons Le.rfl .nil))))) Z Z Z (Ca.eq (.cons (.one (.p _)) (.cons (.one (.p _)) (.cons (.one (.p _)) (.cons (.one (.own (enc := AN) ([n.1.elem] : List Int) Z Z)) .nil))))) Z <| rl Z <| AI ?_)
 have hr := Option.some.inj j; subst hr
 exact er Z Le.rfl
noncomputable def HF (a : (List Ao)) : Option (List Ao) :=
 LF a (some []) ((BN ([] : List Ao) a).bind fun b => some b)
noncomputable def BL (a : (List AM)) : Option (List AM) :=
 LF a (some []) ((BN ([] : List AM) a).bind fun b => some b)
theorem HG (a : (List AM)) (r : (List AM)) (h : BL a = some r) : BY Try.prog 50 [.slice 2 (a.map AP)] (· = .slice 2 (r.map AP)) := by
 refine fn AA Try.func50 Z Z 8 Z [.tmp 2] Z [(0, .p (.slice 2 (a.map AP)))] Z Z fun A hA => ?_
 unfold BL at h
 refine rs AA <| rl Z <| AC <| rs AA <| rn 1 Z <| sx Z (PN h Z Z Z (fun d => ?_) (fun e => ?_))
 .refine rl Z <| Qi Z <| rs AA <| rl Z <| AI <| AK ?_
  cases d
  exact er Z (Le.nil _)
 refine rl Z <| Qj Z <| AG <| AD <| rs AA <| rn 2 Z <| bq e fun f b c => sx Z (A7 (enc := AP) (l := ([] : List AM)) (m := a) b (fun _ => ⟨Z, Z⟩) Z Z Z Z Z Z <| rl Z <| AI ?_)
 have hr := Option.some.inj c; subst hr
 exact er (Kr Z (.one (.own (enc := AP) f Z Z))) Le.rfl
theorem Kh (a : (List AM)) (r : (List AM)) (h : BL a = some r) : E9 Try.prog 50 [.slice 2 (a.map AP)] 46 2 (r.map AP) := by
 refine VU (enc := AP) (fun _ => ⟨Z, Z⟩) Try.func50 Z Z 8 Z 2 Z [(0, .p (.slice 2 (a.map AP)))] Z Z fun A hA => ?_
 unfold BL at h
 refine rs AA <| rl Z <| AC <| rs AA <| rn 1 Z <| sx Z (PN h Z Z Z (fun d => ?_) (fun e => ?_))
 .refine rl Z <| Qi Z <| rs AA <| rl Z <| AI <| AK ?_
  cases d
  exact YX Z
 refine rl Z <| Qj Z <| AG <| AD <| rs AA <| rn 2 Z <| bq e fun f b c => sx Z (A7 (enc := AP) (l := ([] : List AM)) (m := a) b (fun _ => ⟨Z, Z⟩) Z Z Z Z Z Z <| rl Z <| AI ?_)
 have hr := Option.some.inj c; subst hr
 exact VV Z Z Z
noncomputable def Iq (a : CE) : Option AH :=
 (Jx a.p).bind fun b => some b
noncomputable def Ir (b : CE) (a : Int) : Option Bl :=
 ((bif decide (a < 0) then some true else some (decide ((b.p.elems.length : Int) <= a)) : Option (Bool))).bind fun (c : Bool) => bif c then some (⟨ByteArray.empty, 0, 0⟩ : Bl) else (Ak b.p.elems a).bind fun d => some d
noncomputable def Dy (a : CE) (b : Int) : Option Int :=
 (Ir a b).bind fun c => some c.kind
noncomputable def Cg (a : CE) (b : AE) : Option (AE × Bool) :=
 some (((AW a.next b).getD (⟨0, 0⟩ : AE)), (AW a.next b).isSome)
end Go.E
/- Plain functions, and walks in step with them. Written by a program (gen.py). No condition. -/
set_option maxRecDepth 100000
namespace Go.E
open Go Go.RowKit Go.Proofs
noncomputable def F9 (g : CE) (e : (Int × (List AE))) (c : Ao) (b : (List Int)) (a : Int × (List AE)) : Option ((Int × (List AE)) ⊕ ((Int × (List AE)) ⊕ (List AE))) :=
 bif decide (a.1 < (b.length : Int)) then (((Ak b a.1).bind fun d => (Cg g (⟨c.elem, d⟩ : AE)).bind fun h => bif h.2 then (BN a.2 [(⟨c.elem, d⟩ : AE)]).bind fun i => some i else some a.2 : Option ((List AE)))).bind fun (f : (List AE)) => some (.inl (AZ (a.1 + 1), f)) else some (.inr (.inl (AZ (e.1 + 1), a.2)))
noncomputable def ID (c : CE) (d : AO) (b : Int × (List AE)) : Option ((Int × (List AE)) ⊕ (List AE)) :=
 bif decide (b.1 < (d.steps.length : Int)) then (Ak d.steps b.1).bind fun a => (((Dy c a.elem).bind fun e => bif (e == 2) then some [AZ (3 - (if a.out > a.in_ then a.out else a.in_))] else bif (e == 3) then bif decide (1 < a.in_) then some [0, 1] else some [2, 3] else some ([] : List Int) : Option ((List Int)))).bind fun (f : (List Int)) => AQ (F9 c b a f) (0, b.2) else some (.inr b.2)
noncomputable def KU (a : CE) (b : AO) : Option (List AE) :=
 AQ (ID a b) (0, ([] : List AE))
noncomputable def NW (a : Ao) (b : Int) : Option Bool :=
 some (a.elem == b)
noncomputable def HV (b : AO) (c : Int) (a : Int) : Option (Int ⊕ Int) :=
 bif decide (a < (b.steps.length : Int)) then (Ak b.steps a).bind fun d => (NW d c).bind fun e => bif e then some (.inr a) else some (.inl (AZ (a + 1))) else some (.inr (-1))
noncomputable def MR (c : AO) (d : Int) : Option Bool :=
 ((((AQ (HV c d) 0 : Option (Int))).bind fun (b : Int) => some (decide (0 <= b)) : Option (Bool))).bind fun (a : Bool) => some a
noncomputable def IE (a : CE) (b : AE) : Option Int :=
 bif (AW a.reads b).isSome then some ((AW a.reads b).getD 0) else some (-1)
noncomputable def Cw (b : (List Int)) (c : Int) (a : Int) : Option (Int ⊕ Int) :=
 bif decide (a < (b.length : Int)) then (Ak b a).bind fun d => bif (c == d) then some (.inr a) else some (.inl (AZ (a + 1))) else some (.inr (-1))
noncomputable def DU (a : (List Int)) (b : Int) : Option Int :=
 AQ (Cw a b) 0
theorem JW (b : (List Int)) (c : Int) (r : Int) (h : DU b c = some r) : BY Try.prog 72 [.slice 1 (b.map AN), .int .i64 c] (· = .int .i64 r) := by
 refine fn AA Try.func72 Z Z 19 Z [.tmp 4] Z [(0, .p (.slice 1 (b.map AN))), (1, .p (.int .i64 c))] Z Z fun A hA => ?_
 unfold DU at h
 refine rs AA <| rl Z <| AC <| rs AA <| rn 1 Z <| sx Z (Az Z Z <| rl Z <| AJ ?_)
 apply lp (a := r) (fun e : Int => ⟨19, [(0, ls 1 AN b), (1, li c), (7, li (b.length : Int)), (8, li e)], [], 0⟩) h
 . exact wf hA [] Z Z Z
 intro e s d
 unfold Cw at d
 refine rs AA <| rl Z <| AC <| cd Z d (fun n => ?_) (fun l => ?_)
 .refine AG <| AD <| AC <| AJ <| rs AA <| rl Z <| rs AA <| rn 3 Z <| bq n fun t f g => sx Z (Ar f Z Z Z <| rl Z <| cd Z g (fun i => ?_) (fun k => ?_))
  .refine rs AA <| rl Z <| AI <| Af <| AK <| Bq i fun o j => Af <| AK ?_
   have hr := Option.some.inj j; subst hr
   exact er Z Le.rfl
  exact AG <| As <| AD <| rg AA <| rl Z <| BM k (wf hA [] Z Z Z)
 refine Al <| An <| B9 l fun q m => A5 <| AD <| rs AA <| rl Z <| AI ?_
 cases m
 exact er Z Le.rfl
noncomputable def BU (a : (List Int)) (b : Int) : Option Bool :=
 (DU a b).bind fun c => some (decide (0 <= c))
theorem Ho (a : (List Int)) (b : Int) (r : Bool) (h : BU a b = some r) : BY Try.prog 57 [.slice 1 (a.map AN), .int .i64 b] (· = .bool r) := by
 refine fn AA Try.func57 Z Z 9 Z [.tmp 4] Z [(0, .p (.slice 1 (a.map AN))), (1, .p (.int .i64 b))] Z Z fun A hA => ?_
 unfold BU at h
 refine rs AA <| rl Z <| rs AA <| rn 2 Z <| bq h fun e c d => sx Z (Ai (JW _ _ _ c) (.inl Z) Z Z Z <| rl Z <| AI ?_)
 cases d
 exact er Z Le.rfl
noncomputable def C0 (b : (List AM)) (c : AM) (a : Int) : Option (Int ⊕ Int) :=
 bif decide (a < (b.length : Int)) then (Ak b a).bind fun d => bif (c == d) then some (.inr a) else some (.inl (AZ (a + 1))) else some (.inr (-1))
noncomputable def HH (a : (List AM)) (b : AM) : Option Int :=
 AQ (C0 a b) 0
noncomputable def CU (a : (List AM)) (b : AM) : Option Bool :=
 (HH a b).bind fun c => some (decide (0 <= c))
noncomputable def Is (c : CE) (d : Int) (a : Int) : Option (List Co) :=
 ((bif decide (a < 0) then some true else (Dy c d).bind fun f => (JB f).bind fun g => some (decide (g <= a)) : Option (Bool))).bind fun (e : Bool) => bif e then some [] else (Dy c d).bind fun b => bif (b == 1) then some [(⟨AZ (1 - a), 0⟩ : Co)] else bif (b == 3) then (Ak ([1, 0, 3, 2] : List Int) a).bind fun h => some [(⟨h, 0⟩ : Co)] else bif (b == 2) then bif (a == 0) then some [(⟨1, 1⟩ : Co), (⟨2, 2⟩ : Co)] else (Ak ([0, 1, 2] : List Int) a).bind fun i => some [(⟨0, i⟩ : Co)] else some []
noncomputable def FP (e : Int) (c : (List Co)) (a : Int) : Option (Int ⊕ (Int × Bool)) :=
 bif decide (a < (c.length : Int)) then (Ak c a).bind fun b => ((bif (b.pos == 0) then some true else some (b.pos == e) : Option (Bool))).bind fun (d : Bool) => bif d then some (.inr (b.out, true)) else some (.inl (AZ (a + 1))) else some (.inr (0, false))
noncomputable def Gx (a : CE) (b : Int) (c : Int) (d : Int) : Option (Int × Bool) :=
 (Is a b c).bind fun e => AQ (FP d e) 0
noncomputable def Lm (b : CE) (c : Int) (d : Int) (e : Int) : Option (Int × Bool) :=
 (Gx b c d e).bind fun a => some (a.1, a.2)
noncomputable def Br (d : CE) (e : AO) (r : (List Ao)) (l : (List AM)) (am : AH) (a : Bool × (List (AE × Bool)) × (List AM) × (List Int) × (List Int) × (List AE)) : Option ((Bool × (List (AE × Bool)) × (List AM) × (List Int) × (List Int) × (List AE)) ⊕ AO) :=
 bif decide (0 < (a.2.2.2.2.2.length : Int)) then (Ak a.2.2.2.2.2 (AZ ((a.2.2.2.2.2.length : Int) - 1))).bind fun b => (Ye a.2.2.2.2.2 0 (AZ ((a.2.2.2.2.2.length : Int) - 1))).bind fun c => (((MR (⟨e.frm, e.to, e.fin, r, l, a.2.2.1, a.2.2.2.1, a.2.2.2.2.1, a.1⟩ : AO) b.elem).bind fun an => bif an then some true else some ((AW a.2.1 b).getD false) : Option (Bool))).bind fun (y : Bool) => bif y then some (.inl (a.1, a.2.1, a.2.2.1, a.2.2.2.1, a.2.2.2.2.1, c)) else (IE d b).bind fun m => ((bif decide (0 <= m) then some (!am.hard) else some false : Option (Bool))).bind fun (z : Bool) => bif z then (((BU a.2.2.2.2.1 m).bind fun ao => bif (!ao) then (BN a.2.2.2.2.1 [m]).bind fun ap => some ap else some a.2.2.2.2.1 : Option ((List Int)))).bind fun (aa : (List Int)) => some (.inl (a.1, Ay b true a.2.1, a.2.2.1, a.2.2.2.1, aa, c)) else (Dy d b.elem).bind fun s => bif (s == 4) then some (.inl (true, Ay b true a.2.1, a.2.2.1, a.2.2.2.1, a.2.2.2.2.1, c)) else bif (s == 2) then bif (b.fin == 0) then (((((BU a.2.2.2.1 b.elem).bind fun aq => bif aq then some (true, a.1, a.2.2.2.1) else bif decide (12 <= (a.2.2.2.1.length : Int)) then some (false, true, a.2.2.2.1) else (BN a.2.2.2.1 [b.elem]).bind fun ar => some (true, a.1, ar) : Option (Bool × Bool × (List Int)))).bind fun (h : Bool × Bool × (List Int)) => bif h.1 then (((Cg d (⟨b.elem, 2⟩ : AE)).bind fun t => bif t.2 then (BN c [t.1]).bind fun au => some au else some c : Option ((List AE)))).bind fun (n : (List AE)) => (((Cg d (⟨b.elem, 1⟩ : AE)).bind fun u => bif u.2 then (BN n [u.1]).bind fun av => some av else some n : Option ((List AE)))).bind fun (ab : (List AE)) => some (h.2.1, h.2.2, ab) else some (h.2.1, h.2.2, c) : Option (Bool × (List Int) × (List AE)))).bind fun (k : Bool × (List Int) × (List AE)) => some (.inl (k.1, Ay b true a.2.1, a.2.2.1, k.2.1, a.2.2.2.2.1, k.2.2)) else (((CU l (⟨b.elem, b.fin⟩ : AM)).bind fun ac => bif ac then some true else (CU a.2.2.1 (⟨b.elem, b.fin⟩ : AM)).bind fun ad => some ad : Option (Bool))).bind fun (v : Bool) => bif v then (((((BU a.2.2.2.1 b.elem).bind fun ae => bif ae then some (true, a.1, a.2.2.2.1) else bif decide (12 <= (a.2.2.2.1.length : Int)) then some (false, true, a.2.2.2.1) else (BN a.2.2.2.1 [b.elem]).bind fun af => some (true, a.1, af) : Option (Bool × Bool × (List Int)))).bind fun (f : Bool × Bool × (List Int)) => bif f.1 then (((Cg d (⟨b.elem, 0⟩ : AE)).bind fun o => bif o.2 then (BN c [o.1]).bind fun ag => some ag else some c : Option ((List AE)))).bind fun (w : (List AE)) => some (f.2.1, f.2.2, w) else some (f.2.1, f.2.2, c) : Option (Bool × (List Int) × (List AE)))).bind fun (i : Bool × (List Int) × (List AE)) => some (.inl (i.1, Ay b true a.2.1, a.2.2.1, i.2.1, a.2.2.2.2.1, i.2.2)) else (CU a.2.2.1 (⟨b.elem, AZ (3 - b.fin)⟩ : AM)).bind fun ah => bif (!ah) then (BN a.2.2.1 [(⟨b.elem, AZ (3 - b.fin)⟩ : AM)]).bind fun ai => some (.inl (a.1, Ay b true a.2.1, ai, a.2.2.2.1, a.2.2.2.2.1, c)) else some (.inl (a.1, Ay b true a.2.1, a.2.2.1, a.2.2.2.1, a.2.2.2.2.1, c)) else (Lm d b.elem b.fin 0).bind fun p => ((bif p.2 then (((BU a.2.2.2.1 b.elem).bind fun aj => bif aj then some (true, a.1, a.2.2.2.1) else bif decide (12 <= (a.2.2.2.1.length : Int)) then some (false, true, a.2.2.2.1) else (BN a.2.2.2.1 [b.elem]).bind fun ak => some (true, a.1, ak) : Option (Bool × Bool × (List Int)))).bind fun (j : Bool × Bool × (List Int)) => some (j.1, j.2.1, j.2.2) else some (false, a.1, a.2.2.2.1) : Option (Bool × Bool × (List Int)))).bind fun (g : Bool × Bool × (List Int)) => bif g.1 then (((Cg d (⟨b.elem, p.1⟩ : AE)).bind fun q => bif q.2 then (BN c [q.1]).bind fun al => some al else some c : Option ((List AE)))).bind fun (x : (List AE)) => some (.inl (g.2.1, Ay b true a.2.1, a.2.2.1, g.2.2, a.2.2.2.2.1, x)) else some (.inl (g.2.1, Ay b true a.2.1, a.2.2.1, g.2.2, a.2.2.2.2.1, c)) else some (.inr (⟨e.frm, e.to, e.fin, r, l, a.2.2.1, a.2.2.2.1, a.2.2.2.2.1, a.1⟩ : AO))
noncomputable def Fp (b : CE) (c : AO) (i : (List Ao)) (j : (List AM)) (d : AH) (e : (List AE)) (a : Int × (List AE)) : Option ((Int × (List AE)) ⊕ AO) :=
 bif decide (0 <= a.1) then (Ak e a.1).bind fun f => (Cg b f).bind fun g => (BN a.2 [g.1]).bind fun h => some (.inl (AZ (a.1 - 1), h)) else (AQ (Br b c i j d) (false, [], ([] : List AM), ([] : List Int), ([] : List Int), a.2)).map .inr
noncomputable def FQ (b : CE) (a : AO) : Option AO :=
 (HF a.steps).bind fun d => (BL a.needs).bind fun e => (Iq b).bind fun f => (KU b (⟨a.frm, a.to, a.fin, d, e, [], [], [], false⟩ : AO)).bind fun c => AQ (Fp b a d e f c) (AZ ((c.length : Int) - 1), ([] : List AE))
noncomputable def KV (b : (List Int)) (c : (List Int)) (a : Int) : Option (Int ⊕ Bool) :=
 bif decide (a < (b.length : Int)) then (Ak b a).bind fun d => (Ak c a).bind fun e => bif (d != e) then some (.inr false) else some (.inl (AZ (a + 1))) else some (.inr true)
noncomputable def HW (a : (List Int)) (b : (List Int)) : Option Bool :=
 bif ((a.length : Int) != (b.length : Int)) then some false else AQ (KV a b) 0
theorem RM (b : (List Int)) (c : (List Int)) (r : Bool) (h : HW b c = some r) : BY Try.prog 33 [.slice 1 (b.map AN), .slice 1 (c.map AN)] (· = .bool r) := by
 refine fn AA Try.func33 Z Z 26 Z [.tmp 4] Z [(0, .p (.slice 1 (b.map AN))), (1, .p (.slice 1 (c.map AN)))] Z Z fun A hA => ?_
 unfold HW at h
 refine rs AA <| rl Z <| AC <| rs AA <| rn 1 Z <| sx Z (Az Z Z <| rn 1 Z <| sx Z (Az Z Z <| rl Z <| cd Z h (fun s => ?_) (fun t => ?_)))
 .refine rs AA <| rl Z <| AI <| AK ?_
  cases s
  exact er Z Le.rfl
 refine AG <| AD <| AC <| rs AA <| rl Z <| AJ ?_
 apply lp (a := r) (fun e : Int => ⟨26, [(0, ls 1 AN b), (1, ls 1 AN c), (5, li e)], [], 0⟩) t
 . exact wf hA [] Z Z Z
 intro e w d
 unfold KV at d
 refine AC <| rs AA <| rn 2 Z <| sx Z (Az Z Z <| rl Z <| cd Z d (fun i => ?_) (fun o => ?_))
 .refine AG <| AD <| AC <| AJ <| AC ?_
  refine CV AA mixed [0, 1, 2, 3, 4, 5, 6, 7, 8] 9 (by kernel_rfl) Z Z Z ?_
  refine Av 2 Z <| bq i fun x f j => AU Z (Ag Z (Ar f Z Z Z <| Av 3 Z <| bq j fun y g k => AU Z (Ag Z (Ar g Z Z Z <| A2 Z <| AD <| cd Z k (fun l => ?_) (fun n => ?_)))))
  .refine rs AA <| rl Z <| AI <| Af <| AK <| Bq l fun u m => Af <| AK ?_
   cases m
   exact er Z Le.rfl
  exact AG <| As <| AD <| rg AA <| rl Z <| BM n (wf hA [] Z Z Z)
 refine Al <| An <| B9 o fun v q => A5 <| AD <| rs AA <| rl Z <| AI ?_
 cases q
 exact er Z Le.rfl
noncomputable def Eu (b : AH) (a : Int × (List AO)) : Option ((Int × (List AO)) ⊕ ((List AO) × Int)) :=
 bif decide (a.1 < (b.signals.length : Int)) then (KT b a.1).bind fun d => (BN a.2 d).bind fun c => bif decide (64 < (c.length : Int)) then some (.inr (([] : List AO), 3)) else some (.inl (AZ (a.1 + 1), c)) else some (.inr (a.2, 0))
noncomputable def JX (a : AH) : Option ((List AO) × Int) :=
 AQ (Eu a) (0, ([] : List AO))
theorem Vg (c : AH) (r : ((List AO) × Int)) (h : JX c = some r) : Gy Try.prog 46 [] 0 [.p (.agg (Aa c))] (.tup [.lsl 0 9 0 r.1.length, li r.2]) [(0, .row 36 9 (r.1.map Aq))] 1 := by
 refine SZ AA Try.func46 22 [.tmp 2, .tmp 3] [(0, .p (.agg (Aa c)))] Z Z Z Z Z Z (fun A hA => ?_)
 unfold JX at h
 refine rs AA <| rl Z <| rs AA <| rl Z <| AC <| rs AA <| rl Z <| AJ ?_
 apply lp (a := r) (fun b : (Int × (List AO)) => ⟨22, [(1, .lpb 0 0), (4, .lsl 1 9 0 b.2.length), (5, li b.1)], [(0, bx (Aa c)), (1, .row 36 9 (b.2.map Aq))], 2⟩) h
 . exact BB.trans (CG 4 36 9 Z) (wj hA [(0, 0), (1, 1)] Z Z Z Z)
 intro b w d
 unfold Eu at d
 refine AC <| rs AA <| rn 3 Z <| sx Z (Az Z Z <| rl Z <| cd Z d (fun g => ?_) (fun q => ?_))
 .refine AG <| AD <| AC <| AJ <| rs AA <| rn 3 Z <| bq g fun t e i => sx Z (Ai (Wr _ _ _ e) (.inr Z) Z Z Z <| bq i fun x f j => sx Z (A7 (enc := Aq) (l := b.2) (m := t) f (fun _ => ⟨Z, Z⟩) Z Z Z Z Z Z <| rl Z <| rs AA <| rl Z <| cd Z j (fun k => ?_) (fun o => ?_)))
  .refine rs AA <| rl Z <| AI <| Af <| AK <| Bq k fun u n => Af <| AK ?_
   cases n
   exact El (nt := 22) (sl := [(2, .lsl 0 9 0 ([] : List AO).length), (3, li 3)]) (BB.trans (CG 2 36 9 Z) (wj hA [(0, 3)] Z Z Z Z)) Z
  exact AG <| As <| AD <| rg AA <| rl Z <| BM o (wj hA [(0, 0), (1, 2)] Z Z Z Z)
 refine Al <| An <| B9 q fun v s => A5 <| AD <| rs AA <| rl Z <| AI ?_
 cases s
 exact El (nt := 22) (sl := [(2, .lsl 0 9 0 b.2.length), (3, li 0)]) (wj hA [(0, 1)] Z Z Z Z) Z
noncomputable def Ev (e : AH) (c : (Int × (List AE))) (b : (List AE)) (a : Int × (List AE)) : Option ((Int × (List AE)) ⊕ ((Int × (List AE)) ⊕ (List AE))) :=
 bif decide (a.1 < (b.length : Int)) then (((Ak b a.1).bind fun f => (CR e f).bind fun g => bif g.2 then (Ak b a.1).bind fun h => (BN a.2 [h]).bind fun i => some i else some a.2 : Option ((List AE)))).bind fun (d : (List AE)) => some (.inl (AZ (a.1 + 1), d)) else some (.inr (.inl (AZ (c.1 + 1), a.2)))
noncomputable def Gt (d : AH) (e : AO) (b : Int × (List AE)) : Option ((Int × (List AE)) ⊕ (List AE)) :=
 bif decide (b.1 < (e.steps.length : Int)) then (Ak e.steps b.1).bind fun a => (((Ge d a.elem).bind fun f => bif (f == 2) then (BN ([] : List AE) [(⟨a.elem, AZ (3 - (if a.out > a.in_ then a.out else a.in_))⟩ : AE)]).bind fun h => some h else bif (f == 3) then ((bif decide (2 <= a.in_) then some 0 else some 2 : Option (Int))).bind fun (c : Int) => (BN ([] : List AE) [(⟨a.elem, c⟩ : AE), (⟨a.elem, AZ (c + 1)⟩ : AE)]).bind fun i => some i else some ([] : List AE) : Option ((List AE)))).bind fun (g : (List AE)) => AQ (Ev d b g) (0, b.2) else some (.inr b.2)
noncomputable def HI (a : AH) (b : AO) : Option (List AE) :=
 AQ (Gt a b) (0, ([] : List AE))
theorem TU (d : AH) (f : AO) (r : (List AE)) (h : HI d f = some r) : BY Try.prog 62 [.agg (Aa d), .agg (Aq f)] (· = .slice 2 (r.map Aw)) := by
 refine fn AA Try.func62 Z Z 84 Z [.tmp 4] Z [(0, .p (.agg (Aa d))), (1, .p (.agg (Aq f)))] Z Z fun A hA => ?_
 unfold HI at h
 refine rs AA <| rl Z <| rs AA <| rl Z <| AC <| rs AA <| rl Z <| AJ ?_
 apply lp (a := r) (fun b : (Int × (List AE)) => ⟨84, [(2, .lpb 0 0), (3, .lpb 1 0), (5, .lsl 2 2 0 b.2.length), (6, li b.1)], [(0, bx (Aa d)), (1, bx (Aq f)), (2, .row 96 2 (b.2.map Aw))], 3⟩) h
 . exact BB.trans (CG 5 96 2 Z) (wf hA (gi 3 []) Z Z Z)
 intro b t q
 unfold Gt at q
 refine AC <| rs AA <| rn 3 Z <| sx Z (Az Z Z <| rl Z <| cd Z q (fun aa => ?_) (fun a2 => ?_))
 .refine AG <| AD <| AC <| AJ <| rs AA <| rn 3 Z <| bq aa fun g u ab => sx Z (Ar u Z Z Z <| rl Z <| rs AA <| rl Z <| jb (fun c : (List AE) => ⟨84, [(2, .lpb 0 0), (3, .lpb 1 0), (5, .lsl 2 2 0 b.2.length), (6, li b.1), (8, .lsl 3 2 0 c.length)], [(0, bx (Aa d)), (1, bx (Aq f)), (2, .row 96 2 (b.2.map Aw)), (3, .row 96 2 (c.map Aw))], 4⟩) ab (fun c ac => ?_) (fun c ao => ?_))
  .refine rs AA <| rn 3 Z <| bq ac fun a8 v ad => sx Z (Ai (NU _ _ _ v) (.inl Z) Z Z Z <| rl Z <| AJ <| rs AA <| rl Z <| cd Z ad (fun ae => ?_) (fun ag => ?_))
   .exact rg AA <| rn 11 Z <| bq ae fun a9 w af => sx Z (VT (e := 96) (sz := 2) (enc := Aw) (m := [(⟨g.elem, AZ (3 - (if g.out > g.in_ then g.out else g.in_))⟩ : AE)]) w (fun _ => ⟨Z, Z⟩) Z Z Z <| rl Z <| As <| Ae af (wf hA (gi 3 [(3, 5)]) Z Z Z))
   refine rs AA <| rl Z <| cd Z ag (fun ah => ?_) (fun an => ?_)
   .refine rs AA <| rl Z <| jb (fun j : Int => ⟨84, [(2, .lpb 0 0), (3, .lpb 1 0), (5, .lsl 2 2 0 b.2.length), (6, li b.1), (7, .lpb 3 0), (8, .p (.nils)), (9, li j)], [(0, bx (Aa d)), (1, bx (Aq f)), (2, .row 96 2 (b.2.map Aw)), (3, bx (BH g))], 4⟩) ah (fun j ai => ?_) (fun j al => ?_)
    .refine rs AA <| rl Z <| cd Z ai (fun aj => ?_) (fun ak => ?_)
     .exact rg AA <| rl Z <| Ae aj (wf hA (gi 4 []) Z Z Z)
     exact AG <| Ae ak (wf hA (gi 4 []) Z Z Z)
    exact rg AA <| rn 11 Z <| bq al fun ba x am => sx Z (VT (e := 96) (sz := 2) (enc := Aw) (m := [(⟨g.elem, j⟩ : AE), (⟨g.elem, AZ (j + 1)⟩ : AE)]) x (fun _ => ⟨Z, Z⟩) Z Z Z <| rl Z <| As <| Ae am (wf hA (gi 3 [(3, 5)]) Z Z Z))
   exact AG <| As <| Ae an (BB.trans (CG 8 96 2 Z) (wf hA (gi 3 [(3, 4)]) Z Z Z))
  refine rs AA <| rl Z <| AJ ?_
  apply lp (a := t) (fun i : (Int × (List AE)) => ⟨84, [(2, .lpb 0 0), (3, .lpb 1 0), (5, .lsl 2 2 0 i.2.length), (6, li b.1), (8, .lsl 3 2 0 c.length), (10, li i.1)], [(0, bx (Aa d)), (1, bx (Aq f)), (2, .row 96 2 (i.2.map Aw)), (3, .row 96 2 (c.map Aw))], 4⟩) ao
  . exact wf hA (gi 4 []) Z Z Z
  intro i a7 s
  unfold Ev at s
  refine AC <| rs AA <| rl Z <| cd Z s (fun ap => ?_) (fun a0 => ?_)
  .refine AG <| AD <| jb (fun k : (List AE) => ⟨84, [(2, .lpb 0 0), (3, .lpb 1 0), (5, .lsl 2 2 0 k.length), (6, li b.1), (8, .lsl 3 2 0 c.length), (10, li i.1)], [(0, bx (Aa d)), (1, bx (Aq f)), (2, .row 96 2 (k.map Aw)), (3, .row 96 2 (c.map Aw))], 4⟩) ap (fun k aq => ?_) (fun k az => ?_)
   .refine AJ <| AC ?_
    refine CV AA mixed [0, 1, 2, 3, 4, 5, 6, 7, 8, 9, 10, 11] 12 (by kernel_rfl) Z Z Z ?_
    refine Av 3 Z <| bq aq fun bb n ar => AU Z (Ag Z (CZ n Z Z Z Z <| AU Z (Bi Z (Bs n Z Z Z <| bq ar fun bc y au => AU Z (Ax (DC _ _ _ y) (.inl Z) Z Z Z <| A2 Z <| AD <| rs AA <| rl Z <| cd Z au (fun av => ?_) (fun ay => ?_))))))
    .exact rg AA <| rn 3 Z <| bq av fun a4 o aw => sx Z (CZ o Z Z Z Z <| sx Z (Bs o Z Z Z <| rn 1 Z <| bq aw fun be z ax => sx Z (A7 (enc := Aw) (l := i.2) (m := [a4]) z (fun _ => ⟨Z, Z⟩) Z Z Z Z Z Z <| rl Z <| As <| Ae ax (wf hA [(0, 0), (1, 1), (2, 17), (3, 3)] Z Z Z))))
    exact AG <| As <| Ae ay (wf hA (gi 4 []) Z Z Z)
   exact rg AA <| rl Z <| BM az (wf hA (gi 4 []) Z Z Z)
  exact Al <| An <| B9 a0 fun a5 a1 => A5 <| As <| AD <| rg AA <| rl Z <| BM a1 (wf hA (gi 3 []) Z Z Z)
 refine Al <| An <| B9 a2 fun a6 a3 => A5 <| AD <| rs AA <| rl Z <| AI ?_
 cases a3
 exact er (Kr Z (.one (.own (enc := Aw) b.2 Z Z))) Le.rfl
noncomputable def It (b : AO) (a : Int × (List Int)) : Option ((Int × (List Int)) ⊕ (List Int)) :=
 bif decide (a.1 < (b.steps.length : Int)) then (Ak b.steps a.1).bind fun c => (BN a.2 [c.elem]).bind fun d => some (.inl (AZ (a.1 + 1), d)) else some (.inr a.2)
noncomputable def Dt (a : AO) : Option (List Int) :=
 AQ (It a) (0, ([] : List Int))
theorem OL (c : AO) (r : (List Int)) (h : Dt c = some r) : BY Try.prog 22 [.agg (Aq c)] (· = .slice 1 (r.map AN)) := by
 refine fn AA Try.func22 Z Z 22 Z [.tmp 2] Z [(0, .p (.agg (Aq c)))] Z Z fun A hA => ?_
 unfold Dt at h
 refine rs AA <| rl Z <| rs AA <| rl Z <| AC <| rs AA <| rl Z <| AJ ?_
 apply lp (a := r) (fun b : (Int × (List Int)) => ⟨22, [(1, .lpb 0 0), (3, .lsl 1 1 0 b.2.length), (4, li b.1)], [(0, bx (Aq c)), (1, .row 3 1 (b.2.map AN))], 2⟩) h
 . exact BB.trans (CG 3 3 1 Z) (wf hA [(0, 0), (1, 1)] Z Z Z)
 intro b s d
 unfold It at d
 refine AC <| rs AA <| rn 3 Z <| sx Z (Az Z Z <| rl Z <| cd Z d (fun n => ?_) (fun j => ?_))
 .exact AG <| AD <| AC <| AJ <| rg AA <| rn 4 Z <| bq n fun o e g => sx Z (Ar e Z Z Z <| rn 3 Z <| bq g fun t f i => sx Z (A7 (enc := AN) (l := b.2) (m := [o.elem]) f (fun _ => ⟨Z, Z⟩) Z Z Z Z Z Z <| rl Z <| As <| AD <| rg AA <| rl Z <| BM i (wf hA [(0, 0), (1, 3)] Z Z Z)))
 refine Al <| An <| B9 j fun q k => A5 <| AD <| rs AA <| rl Z <| AI ?_
 cases k
 exact er (Kr Z (.one (.own (enc := AN) b.2 Z Z))) Le.rfl
theorem Sa (c : AO) (r : (List Int)) (h : Dt c = some r) : E9 Try.prog 22 [.agg (Aq c)] 3 1 (r.map AN) := by
 refine VU (enc := AN) (fun _ => ⟨Z, Z⟩) Try.func22 Z Z 22 Z 2 Z [(0, .p (.agg (Aq c)))] Z Z fun A hA => ?_
 unfold Dt at h
 refine rs AA <| rl Z <| rs AA <| rl Z <| AC <| rs AA <| rl Z <| AJ ?_
 apply lp (a := r) (fun b : (Int × (List Int)) => ⟨22, [(1, .lpb 0 0), (3, .lsl 1 1 0 b.2.length), (4, li b.1)], [(0, bx (Aq c)), (1, .row 3 1 (b.2.map AN))], 2⟩) h
 . exact BB.trans (CG 3 3 1 Z) (wf hA [(0, 0), (1, 1)] Z Z Z)
 intro b s d
 unfold It at d
 refine AC <| rs AA <| rn 3 Z <| sx Z (Az Z Z <| rl Z <| cd Z d (fun n => ?_) (fun j => ?_))
 .exact AG <| AD <| AC <| AJ <| rg AA <| rn 4 Z <| bq n fun o e g => sx Z (Ar e Z Z Z <| rn 3 Z <| bq g fun t f i => sx Z (A7 (enc := AN) (l := b.2) (m := [o.elem]) f (fun _ => ⟨Z, Z⟩) Z Z Z Z Z Z <| rl Z <| As <| AD <| rg AA <| rl Z <| BM i (wf hA [(0, 0), (1, 3)] Z Z Z)))
 refine Al <| An <| B9 j fun q k => A5 <| AD <| rs AA <| rl Z <| AI ?_
 cases k
 exact VV Z Z Z
noncomputable def JY (a : AO) (b : Int) : Option Bool :=
 (Dt a).bind fun c => (DL c b).bind fun d => some d
theorem Vh (a : AO) (b : Int) (r : Bool) (h : JY a b = some r) : BY Try.prog 153 [.agg (Aq a), .int .i64 b] (· = .bool r) := by
 refine fn AA Try.func153 Z Z 9 Z [.tmp 4] Z [(0, .p (.agg (Aq a))), (1, .p (.int .i64 b))] Z Z fun A hA => ?_
 unfold JY at h
 refine rs AA <| rl Z <| rs AA <| rn 1 Z <| bq h fun g c e => sx Z (Tu (Sa _ _ c) Z Z Z Z <| rn 1 Z <| bq e fun i d f => sx Z (Ai (Hj _ _ _ d) (.inl Z) Z Z (Ca.eq (.cons (.one (.own (enc := AN) g Z Z)) (.cons (.one (.p _)) .nil))) <| rl Z <| AI ?_))
 have hr := Option.some.inj f; subst hr
 exact er Z Le.rfl
noncomputable def DM (b : (List AE)) (c : AE) (a : Int) : Option (Int ⊕ Bool) :=
 bif decide (a < (b.length : Int)) then (Ak b a).bind fun d => bif (d == c) then some (.inr true) else some (.inl (AZ (a + 1))) else some (.inr false)
noncomputable def Fq (a : (List AE)) (b : AE) : Option Bool :=
 AQ (DM a b) 0
theorem RN (c : (List AE)) (b : AE) (r : Bool) (h : Fq c b = some r) : BY Try.prog 154 [.slice 2 (c.map Aw), .agg (Aw b)] (· = .bool r) := by
 refine fn AA Try.func154 Z Z 18 Z [.tmp 4] Z [(0, .p (.slice 2 (c.map Aw))), (1, .p (.agg (Aw b)))] Z Z fun A hA => ?_
 unfold Fq at h
 refine rs AA <| rl Z <| AC <| rs AA <| rl Z <| AJ ?_
 apply lp (a := r) (fun e : Int => ⟨18, [(0, ls 2 Aw c), (3, .lpb 0 0), (5, li e)], [(0, .box [li b.elem, li b.fin])], 1⟩) h
 . exact wf hA [(0, 0)] Z Z Z
 intro e t d
 unfold DM at d
 refine AC <| rs AA <| rn 2 Z <| sx Z (Az Z Z <| rl Z <| cd Z d (fun n => ?_) (fun l => ?_))
 .refine AG <| AD <| AC <| AJ <| AC ?_
  refine CV AA mixed [0, 1, 2, 3, 4, 5] 6 (by kernel_rfl) Z Z Z ?_
  refine Av 2 Z <| bq n fun o f g => AU Z (Ag Z (Ar f Z Z Z <| Av 2 Z <| AU Z (Lf (KQ o b) Z Z Z Z Z <| A2 Z <| AD <| cd Z g (fun i => ?_) (fun k => ?_))))
  .refine rs AA <| rl Z <| AI <| Af <| AK <| Bq i fun q j => Af <| AK ?_
   cases j
   exact er Z Le.rfl
  exact AG <| As <| AD <| rg AA <| rl Z <| BM k (wf hA [(0, 0)] Z Z Z)
 refine Al <| An <| B9 l fun s m => A5 <| AD <| rs AA <| rl Z <| AI ?_
 cases m
 exact er Z Le.rfl
end Go.E
