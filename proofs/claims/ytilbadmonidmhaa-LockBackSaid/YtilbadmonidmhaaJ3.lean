/- slices.Delete as a call out of a data state: the row goes on under a new name. For an own slice, i up to j up to its length. -/
import Derived.Test.YtilbadmonidmhaaDel
import Derived.Shelf.Sort.Plain
import Derived.Shelf.Slices.In.SortNone
import Derived.Shelf.Slices.CompactI
import Derived.Lib.RowBridge
import Derived.ScopeJumps
import Derived.Test.YtilbadmonidmhaaJ2
set_option linter.unusedVariables false
set_option linter.unusedSimpArgs false
namespace Go.E
open Go Go.RowKit Go.Shelf Go.Proofs
theorem FJ (b : Nat) : ∀ (vs : List Value) (o : Nat) (w : World) (c : Array Value) (e : TypeId), w.heap[b]? = some (.cells c e (0, 0)) -> o + vs.length <= c.size ->
  ∃ c', (w.setCells b o vs).heap[b]? = some (.cells c' e (0, 0)) /\ c'.size = c.size /\ ∀ t, c'[t]? = if o <= t /\ t < o + vs.length then vs[t - o]? else c[t]?
 | [], o, w, c, e, h, _ => ⟨c, h, rfl, fun t => by rw [if_neg (by simp)]⟩
 | v :: r, o, w, c, e, h, hl => by
  simp only [List.length_cons] at hl
  have hb : (w.setCell ⟨b, o, none⟩ v).heap[b]? = some (.cells (c.setIfInBounds o v) e (0, 0)) := by
   simp [World.setCell, Array.getElem?_modify, h]
  obtain ⟨c', h1, h2, h3⟩ := FJ b r (o + 1) _ _ e hb (by simp; omega)
  refine ⟨c', h1, by rw [h2]; simp, fun t => ?_⟩
  rw [h3 t]
  simp only [List.length_cons]
  by_cases h4 : t = o
  .subst h4
   rw [if_neg (by omega), if_pos (by omega), Array.getElem?_setIfInBounds, if_pos rfl, if_pos (by omega)]
   simp
  by_cases h5 : o + 1 <= t /\ t < o + 1 + r.length
  .rw [if_pos h5, if_pos (by omega)]
   rw [show t - o = t - (o + 1) + 1 by omega, List.getElem?_cons_succ]
  rw [if_neg h5, if_neg (by omega), Array.getElem?_setIfInBounds, if_neg (fun e => h4 e.symm)]
theorem HK (b : Nat) : ∀ (vs : List Value) (o : Nat) (w : World), (w.setCells b o vs).heap.size = w.heap.size
 | [], _, _ => rfl
 | v :: r, o, w => by rw [World.setCells, HK b r]; simp [World.setCell]
theorem Iw (b : Nat) : ∀ (vs : List Value) (o : Nat) (w : World), (w.setCells b o vs).os = w.os
 | [], _, _ => rfl
 | v :: r, o, w => by rw [World.setCells, Iw b r]; rfl
theorem HL (b : Nat) : ∀ (vs : List Value) (o : Nat) (w : World), (w.setCells b o vs).tape = w.tape
 | [], _, _ => rfl
 | v :: r, o, w => by rw [World.setCells, HL b r]; rfl
theorem Fz (b : Nat) : ∀ (vs : List Value) (o : Nat) (w : World), (w.setCells b o vs).output = w.output
 | [], _, _ => rfl
 | v :: r, o, w => by rw [World.setCells, Fz b r]; rfl
theorem Gh (b : Nat) : ∀ (vs : List Value) (o : Nat) (w : World) (q : Nat), q ≠ b -> (w.setCells b o vs).heap[q]? = w.heap[q]?
 | [], _, _, _, _ => rfl
 | v :: r, o, w, q, h => by
  rw [World.setCells, Gh b r _ _ q h]
  simp only [World.setCell, Array.getElem?_modify]
  rw [if_neg (fun e => h e.symm)]
variable {P : Program} {ρ : Ren} {AB : Ax} {A : BF}
theorem WH {e : Nat} {te : TI} (hok : F7 P e te) (hsz : 0 < te.size) : ∃ z i, (∀ w, (zeroValue e).run P w = .ok z w) /\ P.info? e = some i /\ i.size = te.size /\
  ∀ n, (Builtin.zeroCells z.cells n).toList.length = n * te.size /\ ∀ u ∈ (Builtin.zeroCells z.cells n).toList, u.oneCell' = true := by
 obtain ⟨i, z, hi, hs, hb, hz, hzs, hm, _⟩ := hok.info
 obtain ⟨h1, h2⟩ := Lh hm
 refine ⟨z, i, fun w => by simp [zeroValue, typeInfo, hi, hz], hi, hs, fun n => ⟨by simp [Builtin.zeroCells, hzs], fun u hu => ?_⟩⟩
 simp only [Builtin.zeroCells, Array.toList_map, List.mem_map] at hu
 obtain ⟨t, _, rfl⟩ := hu
 have hlt : t % z.cells.size < z.cells.size := Nat.mod_lt _ (by omega)
 rw [getElem!_pos z.cells _ hlt]
 have hd : ∃ d, te.zero[t % z.cells.size]? = some d := ⟨te.zero[t % z.cells.size]'(by rw [<- h1]; simpa using hlt), List.getElem?_eq_getElem _⟩
 obtain ⟨d, hd⟩ := hd
 have hc := h2 (t % z.cells.size) _ d (by rw [Array.getElem?_toList]; exact Array.getElem?_eq_getElem hlt) hd
 obtain ⟨k1, k2⟩ := ET hc (fun _ => True) default
 exact (k1.oneCell k2).1
theorem WI (hE : Ay P AB) (L : SlLaysE0.n45 P ρ) {e : Nat} {te : TI} (he : ρ.t 23 = e) (h3 : AB.tt e = some te) (hsz : 0 < te.size) {h : AN} {ctr id off len i j : Nat} {elems : List (List DV)}
  (hl : AF id h = some (.row e te.size elems)) (hfit : off + len <= elems.length) (hone : ∀ y ∈ (elems.drop off).take len, y.all DV.cell = true) (hij : i <= j) (hj : j <= len) {F : Nat -> Prop} {μ : Nat -> Option BX} {w : World} {v0 : Value}
  (hh : HRel A μ h F w) (hc : F ctr) (h0 : AZ (Ad A μ h) μ w v0 (.lsl id te.size off len)) :
  Calls P (ρ.f 45) #[v0, .int .i64 i, .int .i64 j] w fun en w' => ∃ u μ', en = .returned u /\ HRel A μ' ((ctr, A1.row e te.size (((elems.drop off).take len).take i ++ ((elems.drop off).take len).drop j)) :: Dy id h) (fun q => F q /\ q ≠ ctr) w' /\ AZ (Ad A μ' ((ctr, A1.row e te.size (((elems.drop off).take len).take i ++ ((elems.drop off).take len).drop j)) :: Dy id h)) μ' w' u (.lsl ctr te.size 0 (len - (j - i))) /\ ∀ v x, AZ (Ad A μ h) μ w v x -> AZ (Ad A μ' ((ctr, A1.row e te.size (((elems.drop off).take len).take i ++ ((elems.drop off).take len).drop j)) :: Dy id h)) μ' w' v x := by
 have hok := hE.tt e te h3
 have hno := hh.fresh ctr hc
 have hsub : ∀ (o : A1) q x, AF q ((ctr, o) :: Dy id h) = some x -> (q = ctr /\ x = o) \/ AF q h = some x := fun o q x hx => by
  simp only [AF] at hx
  split at hx
  .cases hx; exact .inl ⟨‹_›, rfl⟩
  exact .inr (FW hx).2
 obtain ⟨sz, hs0⟩ : ∃ sz, te.size = sz := ⟨_, rfl⟩
 rw [hs0] at hl h0 hsz ⊢
 cases h0 with
 | lsln _ loc hm hn =>
  have : j = 0 := by omega
  subst this
  have : i = 0 := by omega
  subst this
  have hnil : ((elems.drop 0).take 0).take 0 ++ ((elems.drop 0).take 0).drop 0 = ([] : List (List DV)) := by simp
  rw [hnil]
  refine (run_delete0 L loc.sz (fun w => by rw [he, <- hs0]; exact hok.run_sizeOf w) none 0 0 0 w (by omega) (by omega) (by omega)).mono ?_
  rintro en w' ⟨rfl, rfl⟩
  let lc : BX := ⟨true, 0, 0, loc.sz, 0⟩
  have hadd := hh.add hno lc (.row e loc.sz []) _ (fun h => by cases h) (fun h => by cases h) (hsub _) (BT.refl _ _) (fun q x l hx hne hm hn => rfl) rfl rfl rfl ⟨rfl, by simp, .inl ⟨rfl, rfl⟩⟩
  exact ⟨_, _, rfl, hadd, .lsln ctr lc (by simp [Bz]) rfl, fun v x hv => hv.mono (BT.refl _ _) (hh.sub_add lc _ _ (fun h => by cases h) (hsub _)) (Iq hno lc)⟩
 | lsl _ _ _ cap ad loc hm hn hcap hlc had hbk hsp =>
  obtain ⟨loc', hm', hz, hel, hrow⟩ := hh.obj id _ hl
  rw [hm] at hm'; cases hm'
  rcases hrow with ⟨hn', _⟩ | ⟨_, c, hblk, hcs, hle, hcm, hrel⟩
  .rw [hn] at hn'; cases hn'
  have hlt := (hh.base id _ loc hl hm hn).1
  have hlen : ((elems.drop off).take len).length = len := by simp; omega
  have elt : ∀ q, q < len -> ((elems.drop off).take len)[q]? = elems[off + q]? := fun q hq => by rw [List.getElem?_take, if_pos hq, List.getElem?_drop]
  have hlen' : (((elems.drop off).take len).take i ++ ((elems.drop off).take len).drop j).length = len - (j - i) := by
   rw [List.length_append, List.length_take, List.length_drop, hlen]; omega
  have fin : ∀ (w' : World) (c' : Array Value), w'.heap[loc.b]? = some (.cells c' e (0, 0)) -> c'.size = c.size -> w'.heap.size = w.heap.size -> (∀ b, b ≠ loc.b -> w'.heap[b]? = w.heap[b]?) -> w'.os = w.os -> w'.tape = w.tape -> w'.output = w.output ->
    (∀ q m, q < i -> m < loc.sz -> c'[loc.o + (off + q) * loc.sz + m]? = c[loc.o + (off + q) * loc.sz + m]?) ->
    (∀ q m, q < len - j -> m < loc.sz -> c'[loc.o + (off + (i + q)) * loc.sz + m]? = c[loc.o + (off + (j + q)) * loc.sz + m]?) ->
    ∃ u μ', Ending.returned (.slice (some ad) (len - (j - i)) cap) = .returned u /\ HRel A μ' ((ctr, A1.row e loc.sz (((elems.drop off).take len).take i ++ ((elems.drop off).take len).drop j)) :: Dy id h) (fun q => F q /\ q ≠ ctr) w' /\ AZ (Ad A μ' ((ctr, A1.row e loc.sz (((elems.drop off).take len).take i ++ ((elems.drop off).take len).drop j)) :: Dy id h)) μ' w' u (.lsl ctr loc.sz 0 (len - (j - i))) /\ ∀ v x, AZ (Ad A μ h) μ w v x -> AZ (Ad A μ' ((ctr, A1.row e loc.sz (((elems.drop off).take len).take i ++ ((elems.drop off).take len).drop j)) :: Dy id h)) μ' w' v x := by
   intro w' c' hw' hc' hwsz hoth hos htape hout hold hmov
   let lc : BX := ⟨false, loc.b, loc.o + off * loc.sz, loc.sz, cap⟩
   have hdead : AF id ((ctr, A1.row e loc.sz (((elems.drop off).take len).take i ++ ((elems.drop off).take len).drop j)) :: Dy id h) = none := by
    simp only [AF]
    rw [if_neg (fun e => by subst e; rw [hm] at hno; cases hno)]
    exact FX
   have hfresh : Lg μ h ((ctr, A1.row e loc.sz (((elems.drop off).take len).take i ++ ((elems.drop off).take len).drop j)) :: Dy id h) w lc := fun _ => .inr ⟨id, _, loc, hl, hdead, hm, hn, rfl⟩
   have hkept : BT (B3 μ h) w w' := ⟨by omega, fun b _ hmine => hoth b fun e => hmine ⟨id, _, loc, hl, hm, hn, e.symm⟩⟩
   have hs := hh.sub_add lc _ _ hfresh (hsub _)
   have hadd := hh.add hno lc _ _ (w' := w') (fun _ => by rw [hwsz]; exact hlt) hfresh (hsub _) hkept (fun q x l hx hne hmq hnq => by
    simp only [AF] at hx
    rw [if_neg hne] at hx
    obtain ⟨h7, h8⟩ := FW hx
    exact hoth _ fun e => h7 (hh.inj _ _ _ _ _ _ h8 hl hmq hm hnq hn e)) hos htape hout ⟨rfl, fun y hy => by
     rcases List.mem_append.1 hy with hy | hy
     .exact hel y (List.mem_of_mem_drop (List.mem_of_mem_take (List.mem_of_mem_take hy)))
     exact hel y (List.mem_of_mem_drop (List.mem_of_mem_take (List.mem_of_mem_drop hy))), .inr ⟨rfl, c', hw', by rw [hc', hcs, <- hcap, Nat.add_mul]; simp only [lc]; omega, by rw [hlen']; simp only [lc]; omega, by simp only [lc]; omega, fun q m y d v hy hd hv => by
     simp only [lc] at hv
     have hyl : y.length = loc.sz := by
      rcases List.mem_append.1 (List.mem_of_getElem? hy) with hy | hy
      .exact hel y (List.mem_of_mem_drop (List.mem_of_mem_take (List.mem_of_mem_take hy)))
      exact hel y (List.mem_of_mem_drop (List.mem_of_mem_take (List.mem_of_mem_drop hy)))
     have hm' : m < loc.sz := by have := (List.getElem?_eq_some_iff.1 hd).1; omega
     have hq := (List.getElem?_eq_some_iff.1 hy).1
     rw [hlen'] at hq
     rw [List.getElem?_append] at hy
     have hl1 : (((elems.drop off).take len).take i).length = i := by rw [List.length_take, hlen]; omega
     rw [hl1] at hy
     have e1 : loc.o + off * loc.sz + q * loc.sz + m = loc.o + (off + q) * loc.sz + m := by rw [Nat.add_mul]; omega
     rw [e1] at hv
     by_cases hqi : q < i
     .rw [if_pos hqi, List.getElem?_take, if_pos hqi, elt q (by omega)] at hy
      rw [hold q m hqi hm'] at hv
      exact (hrel (off + q) m y d v hy hd hv).mono hkept.own hs
     rw [if_neg hqi, List.getElem?_drop, elt _ (by omega)] at hy
     have := hmov (q - i) m (by omega) hm'
     rw [show i + (q - i) = q by omega] at this
     rw [this] at hv
     exact (hrel (off + (j + (q - i))) m y d v hy hd hv).mono hkept.own hs⟩⟩
   refine ⟨_, _, rfl, hadd, ?_, fun v x hv => hv.mono hkept.own hs (Iq hno lc)⟩
   refine .lsl ctr 0 _ cap ad lc (by simp [Bz]) rfl (by simp [lc]) (by omega) (fun h0 => ?_) hbk hsp
   rw [had h0]; simp [lc]
  by_cases hne : i = j
  .subst hne
   have hm0 : maxLen <= 9223372036854775807 := by decide
   have hm2 : cap <= 9223372036854775807 := by omega
   refine (run_delete0 L loc.sz (fun w => by rw [he, <- hs0]; exact hok.run_sizeOf w) (some ad) len cap i w hlc hm2 hj).mono ?_
   rintro e' w' ⟨rfl, rfl⟩
   have := fin w' c hblk rfl rfl (fun _ _ => rfl) rfl rfl rfl (fun _ _ _ _ => rfl) (fun _ _ _ _ => rfl)
   simp only [Nat.sub_self, Nat.sub_zero] at this ⊢
   exact this
  have hlt' : i < j := by omega
  have had' := had (by omega)
  subst had'
  obtain ⟨z, i0, hz1, hz2, hz3, hz4⟩ := WH hok (by omega)
  rw [hs0] at hz3 hz4
  obtain ⟨hz5, hz6⟩ := hz4 (len - (i + (len - j)))
  have hm0 : maxLen <= 9223372036854775807 := by decide
  have hm2 : cap <= 9223372036854775807 := by omega
  have hin : ∀ t, t < len * loc.sz -> loc.o + off * loc.sz + t < c.size := fun t ht => by
   have : (off + len) * loc.sz <= loc.cap * loc.sz := Nat.mul_le_mul_right _ (by omega)
   rw [Nat.add_mul] at this; omega
  obtain ⟨cs, hcsd⟩ : ∃ cs, cs = (List.range (len * loc.sz)).map fun t => c.getD (loc.o + off * loc.sz + t) undef := ⟨_, rfl⟩
  have hcsl : cs.length = len * loc.sz := by rw [hcsd]; simp
  have hcsg : ∀ t u, cs[t]? = some u -> t < len * loc.sz /\ c[loc.o + off * loc.sz + t]? = some u := fun t u hu => by
   have ht := (List.getElem?_eq_some_iff.1 hu).1
   rw [hcsl] at ht
   refine ⟨ht, ?_⟩
   rw [hcsd] at hu
   simp only [List.getElem?_map, List.getElem?_range ht, Option.map_some, Option.some.injEq] at hu
   rw [<- hu, Array.getElem?_eq_getElem (hin t ht)]
   simp [Array.getD, hin t ht]
  have hrun := run_delete (P := P) L loc.sz (fun w => by rw [he, <- hs0]; exact hok.run_sizeOf w) z (fun w => by rw [he]; exact hz1 w) i0 (by rw [he]; exact hz2) hz3 _ loc.b (loc.o + off * loc.sz) len cap i j w cs hcsl
   (fun t u hu => Cg hblk (hcsg t u hu).2) (fun t _ => by simp [World.frozen?, hblk]) (fun u hu => by
    obtain ⟨t, ht⟩ := List.mem_iff_getElem?.1 hu
    obtain ⟨g1, g2⟩ := hcsg t u ht
    have q1 : t / loc.sz < len := Nat.div_lt_of_lt_mul (by rw [Nat.mul_comm]; exact g1)
    have q2 : t % loc.sz < loc.sz := Nat.mod_lt _ hsz
    have q3 := Nat.div_add_mod t loc.sz
    obtain ⟨y, hy⟩ : ∃ y, elems[off + t / loc.sz]? = some y := ⟨_, List.getElem?_eq_getElem (by omega)⟩
    have hyl := hel y (List.mem_of_getElem? hy)
    obtain ⟨d, hd⟩ : ∃ d, y[t % loc.sz]? = some d := ⟨_, List.getElem?_eq_getElem (by omega)⟩
    have hyc := hone y (List.mem_of_getElem? (i := t / loc.sz) (by rw [elt _ q1]; exact hy))
    refine ((hrel _ _ y d u hy hd ?_).oneCell (List.all_eq_true.1 hyc _ (List.mem_of_getElem? hd))).1
    rw [<- g2]; congr 1; rw [Nat.add_mul]; rw [Nat.mul_comm loc.sz] at q3; omega) rfl hz5 hz6 hlc hm2 hlt' hj
  refine hrun.mono ?_
  rintro e' w' ⟨rfl, hw'⟩
  have b1 : (i + (len - j)) * loc.sz + (len - (i + (len - j))) * loc.sz = len * loc.sz := by rw [<- Nat.add_mul]; congr 1; omega
  have b2 : i * loc.sz + (len - j) * loc.sz = (i + (len - j)) * loc.sz := (Nat.add_mul _ _ _).symm
  have b3 : (off + len) * loc.sz <= loc.cap * loc.sz := Nat.mul_le_mul_right _ (by omega)
  rw [Nat.add_mul] at b3
  have b4 : j * loc.sz + (len - j) * loc.sz = len * loc.sz := by rw [<- Nat.add_mul]; congr 1; omega
  have hdl : (cs.drop (j * loc.sz)).length = (len - j) * loc.sz := by rw [List.length_drop, hcsl]; omega
  obtain ⟨c1, k1, k2, k3⟩ := FJ loc.b (cs.drop (j * loc.sz)) (loc.o + off * loc.sz + i * loc.sz) w.drew c e hblk (by rw [hdl]; omega)
  obtain ⟨c2, m1, m2, m3⟩ := FJ loc.b (Builtin.zeroCells z.cells (len - (i + (len - j)))).toList (loc.o + off * loc.sz + (i + (len - j)) * loc.sz) _ c1 e k1 (by rw [hz5, k2]; omega)
  refine fin w' c2 (by rw [hw']; exact m1) (by rw [m2, k2]) ?_ ?_ ?_ ?_ ?_ ?_ ?_
  .rw [hw', HK, HK]; rfl
  .intro b hb; rw [hw', Gh _ _ _ _ _ hb, Gh _ _ _ _ _ hb]; rfl
  .rw [hw', Iw, Iw]; rfl
  .rw [hw', HL, HL]; rfl
  .rw [hw', Fz, Fz]; rfl
  .intro q m hq hmm
   have b5 : (q + 1) * loc.sz <= i * loc.sz := Nat.mul_le_mul_right _ hq
   rw [Nat.add_mul] at b5
   have b6 := Nat.add_mul off q loc.sz
   rw [m3, if_neg (by omega), k3, if_neg (by omega)]
  intro q m hq hmm
  have b5 : (q + 1) * loc.sz <= (len - j) * loc.sz := Nat.mul_le_mul_right _ hq
  rw [Nat.add_mul] at b5
  have b6 : loc.o + (off + (i + q)) * loc.sz + m = loc.o + off * loc.sz + i * loc.sz + (q * loc.sz + m) := by rw [Nat.add_mul, Nat.add_mul]; omega
  rw [m3, if_neg (by rw [b6]; omega), k3, if_pos (by rw [b6, hdl]; omega), b6, Nat.add_sub_cancel_left, List.getElem?_drop]
  have b7 : loc.o + (off + (j + q)) * loc.sz + m = loc.o + off * loc.sz + (j * loc.sz + (q * loc.sz + m)) := by rw [Nat.add_mul, Nat.add_mul]; omega
  have b8 : j * loc.sz + (q * loc.sz + m) < len * loc.sz := by omega
  obtain ⟨u, hu⟩ : ∃ u, cs[j * loc.sz + (q * loc.sz + m)]? = some u := ⟨_, List.getElem?_eq_getElem (by omega)⟩
  rw [hu, b7, (hcsg _ _ hu).2]
theorem Xb (hE : Ay P AB) (L : SlLaysE0.n45 P ρ) {e : Nat} {te : TI} (he : ρ.t 23 = e) (h3 : AB.tt e = some te) (hsz : 0 < te.size) {h : AN} {ctr id i j : Nat} {elems : List (List DV)} (hl : AF id h = some (.row e te.size elems)) (hone : ∀ y ∈ elems, y.all DV.cell = true) (hij : i <= j) (hj : j <= elems.length) :
  Mp P h ctr (ρ.f 45) [.lsl id te.size 0 elems.length, .p (.int .i64 i), .p (.int .i64 j)] (.lsl ctr te.size 0 (elems.length - (j - i))) ((ctr, .row e te.size (elems.take i ++ elems.drop j)) :: Dy id h) := by
 refine ⟨?_, fun A F μ w vs hh hc _ hsz' hr => ?_⟩
 .obtain ⟨nm, hn, hf⟩ := L.f45
  exact JA hf rfl hn
 have hvs : ∃ a b c, vs = #[a, b, c] := by
  obtain ⟨l⟩ := vs
  match l, hsz' with
  | [a, b, c], _ => exact ⟨a, b, c, rfl⟩
 obtain ⟨v0, v1, v2, rfl⟩ := hvs
 have e1 := (hr 1 v1 _ rfl rfl).int_inv
 have e2 := (hr 2 v2 _ rfl rfl).int_inv
 have h0 := hr 0 v0 _ rfl rfl
 subst e1 e2
 have e0 : (elems.drop 0).take elems.length = elems := by simp
 have := WI (off := 0) (len := elems.length) hE L he h3 hsz hl (by omega) (by rw [e0]; exact hone) hij hj hh hc h0
 rw [e0] at this
 exact this
def WJ {α : Type} (l : List α) (i j : Int) : Option (List α) := if 0 <= i /\ i <= j /\ j <= l.length then some (l.take i.toNat ++ l.drop j.toNat) else none
section
variable {α : Type} {enc : α -> List DV} {l r : List α} {i j : Int} {nt : Nat} {sl : List (Nat × LV)} {h h' : AN} {c d : Nat} {f : St -> Prop} {hf : Hq f}
theorem YI (hE : Ay P AB) {k : Nat} (L : SlLaysE0.n45 P ρ) (hk : ρ.f 45 = k) {t e sz : Nat} (he : ρ.t 23 = e) {fo a1 a2 a3 : Operand} {args : Array Operand} {ts : Array TypeId} {id n : Nat}
  (hr : WJ l i j = some r) (hen : RG enc sz) (hl : Ba id h = some (.row e sz (l.map enc))) (hn : n = l.length) (hd : OU id h some = some h') (ht : P3 AB t e sz = true)
  (hfn : (Cs fo, BI nt sl fo) = (true, .fn k [])) (ha : args.toList = [a1, a2, a3]) (h1 : BI nt sl a1 = .lsl id sz 0 n) (h2 : BI nt sl a2 = .p (.int .i64 i)) (h3 : BI nt sl a3 = .p (.int .i64 j))
  (kk : f ⟨nt, (d, .lsl c sz 0 r.length) :: sl, (c, .row e sz (r.map enc)) :: h', c + 1⟩) : Hv P A AB ⟨nt, sl, h, c⟩ (some d) (.call ⟨.value fo, args, ts⟩) ⟨f, hf⟩ := by
 obtain ⟨ti, te, g1, g2, g3, g4, g5, g6⟩ := Nq ht
 obtain ⟨hdl, hfn⟩ := Prod.mk.inj hfn
 rw [BO (h := h) (c := c)] at hfn h1 h2 h3
 rw [LJ, Option.some.injEq] at hd
 rw [Be] at hl
 subst g4 hn hd hk
 have haa : args = #[a1, a2, a3] := by rw [<- Array.toList_inj, ha]
 subst haa
 unfold WJ at hr
 split at hr
 .rename_i hb
  obtain ⟨b1, b2, b3⟩ := hb
  simp only [Option.some.injEq] at hr
  subst hr
  obtain ⟨i, rfl⟩ := Int.eq_ofNat_of_zero_le b1
  obtain ⟨j, rfl⟩ := Int.eq_ofNat_of_zero_le (Int.le_trans b1 b2)
  show (if Cs fo = true then _ else _)
  rw [if_pos hdl]
  have hlen : (l.map enc).length = l.length := List.length_map ..
  refine ⟨.lsl c te.size 0 ((l.map enc).length - (j - i)), (c, .row e te.size ((l.map enc).take i ++ (l.map enc).drop j)) :: Dy id h, ⟨fo, _, [], rfl, hfn, ?_, fun q hq hn => ?_, fun b _ id' cells hi hbi hx => ?_⟩, ?_⟩
  .have := Xb (P := P) (ctr := c) hE L he g3 g5 hl (fun y hy => by
    obtain ⟨x, _, rfl⟩ := List.mem_map.1 hy
    exact (hen x).2) (show i <= j by omega) (by rw [hlen]; omega)
   show Mp P h c _ ([St.eval _ a1, St.eval _ a2, St.eval _ a3] ++ []) _ _
   rw [h1, h2, h3, List.append_nil, <- hlen]
   exact this
  .simp only [AF, hq, if_false, J3, hn]; split <;> rfl
  .have hne : id' ≠ id := fun e2 => by rw [e2, hl] at hx; cases hx
   simp only [AF, hi, if_false]
   rw [DL hne]; exact hx
  have e1 : ((l.take i ++ l.drop j).map enc) = (l.map enc).take i ++ (l.map enc).drop j := by simp [List.map_take, List.map_drop]
  have e2 : (l.take i ++ l.drop j).length = (l.map enc).length - (j - i) := by simp; omega
  simp only [Int.toNat_natCast] at kk
  rw [e1, e2] at kk
  exact kk
 cases hr
end
end Go.E
/- slices.Sort and slices.Compact of an own row of whole numbers, as calls out of a data state. For rows of fewer than 2^62 numbers. -/
namespace Go.E
open Go Go.RowKit Go.Shelf Go.Proofs Go.Sort
def IL (n : Int) : List DV := [.int .i64 n]
def Ok (x : Int) : List Int -> List Int
 | [] => [x]
 | y :: l => if x <= y then x :: y :: l else y :: Ok x l
def FR : List Int -> List Int
 | [] => []
 | x :: l => Ok x (FR l)
theorem Nd (x : Int) : ∀ l, (Ok x l).Perm (x :: l)
 | [] => .refl _
 | y :: l => by
  unfold Ok
  split
  .exact .refl _
  exact ((Nd x l).cons y).trans (.swap x y l)
theorem ES : ∀ l, (FR l).Perm l
 | [] => .refl _
 | x :: l => (Nd x (FR l)).trans ((ES l).cons x)
theorem Qx (x : Int) : ∀ l, l.Pairwise (· <= ·) -> (Ok x l).Pairwise (· <= ·)
 | [], _ => by simp [Ok]
 | y :: l, h => by
  unfold Ok
  rw [List.pairwise_cons] at h
  split
  .rename_i hxy
   refine List.pairwise_cons.2 ⟨fun z hz => ?_, List.pairwise_cons.2 h⟩
   rcases List.mem_cons.1 hz with rfl | hz
   .exact hxy
   exact Int.le_trans hxy (h.1 z hz)
  rename_i hxy
  refine List.pairwise_cons.2 ⟨fun z hz => ?_, Qx x l h.2⟩
  rcases List.mem_cons.1 ((Nd x l).mem_iff.1 hz) with rfl | hz
  .omega
  exact h.1 z hz
theorem Jt : ∀ l, (FR l).Pairwise (· <= ·)
 | [] => by simp [FR]
 | x :: l => Qx x _ (Jt l)
theorem Ww (l : List Int) : l.mergeSort (fun x y => decide (x <= y)) = FR l := by
 refine List.Perm.eq_of_pairwise (le := fun a b : Int => a <= b) (fun a b _ _ h1 h2 => Int.le_antisymm h1 h2) ?_ (Jt l) ((List.mergeSort_perm _ _).trans (ES l).symm)
 have := List.pairwise_mergeSort (le := fun x y : Int => decide (x <= y)) (by simp; intro a b c; omega) (by simp; omega) l
 simpa using this
def IE (l : List Int) : Option (List Int) := if l.length < 4611686018427387904 then some (FR l) else none
theorem Qf {l r : List Int} (h : IE l = some r) : l.length = r.length := by
 unfold IE at h
 split at h
 .cases h; exact (ES l).length_eq.symm
 cases h
section
variable {P : Program} {ρ : Ren} {AB : Ax} {A : BF}
theorem row_holds {O : Nat -> Prop} {w : World} {b o : Nat} {c : Array Value} {e : TypeId} {zs : List Int} {n : Nat} (hb : w.heap[b]? = some (.cells c e (0, 0))) (hc : c.size = o + n) (hn : zs.length <= n)
  (hrel : ∀ (i j : Nat) (x : List DV) (d : DV) (v : Value), (zs.map IL)[i]? = some x -> x[j]? = some d -> c[o + i * 1 + j]? = some v -> Ar O w v d) : Holds (Value.int .i64) w b o zs.toArray := by
 intro j hj
 have hj' : j < zs.length := by simpa using hj
 have hlt : o + j < c.size := by omega
 have hz : (zs.map IL)[j]? = some (IL zs[j]) := by simp [hj']
 have := hrel j 0 _ (.int .i64 zs[j]) c[o + j] hz rfl (by simp [hlt])
 have key : ∀ u, Ar O w u (.int .i64 zs[j]) -> u = .int .i64 zs[j] := fun u h => by cases h; rfl
 refine ⟨?_, by simp [World.frozen?, hb]⟩
 rw [Cg hb (Array.getElem?_eq_getElem hlt), key _ this]
 simp [hj']
theorem Um (hE : Ay P AB) (L : Lays.n189 P ρ) {e : Nat} {te : TI} (h3 : AB.tt e = some te) (h1 : te.size = 1) {h : AN} {ctr id : Nat} {zs ys : List Int}
  (hl : AF id h = some (.row e 1 (zs.map IL))) (hs : IE zs = some ys) {K : LV -> AN -> Nat -> Prop} (hK : K (.p (.tup [])) (Bo id (.row e 1 (ys.map IL)) h) ctr) :
  C2 P A h ctr (ρ.f 189) [.lsl id 1 0 zs.length] K := by
 unfold IE at hs
 rw [<- Ww] at hs
 split at hs
 .rename_i hlen
  cases hs
  refine ⟨JA L.f189 rfl rfl, fun μ w vs hh hsz hr => ?_⟩
  have hvs : ∃ a, vs = #[a] := by
   obtain ⟨l⟩ := vs
   match l, hsz with
   | [a], _ => exact ⟨a, rfl⟩
  obtain ⟨v0, rfl⟩ := hvs
  have h0 := hr 0 v0 _ rfl rfl
  have htup : ∀ w', AZ (Ad A μ (Bo id (.row e 1 ((zs.mergeSort fun x y => decide (x <= y)).map IL)) h)) μ w' (.tuple #[]) (.p (.tup [])) := fun w' => .p _ _ (.tup #[] [] rfl (by simp))
  obtain ⟨loc, hm, hz, hel, hrow⟩ := hh.obj id _ hl
  have empty : zs = [] -> ∀ p cap, v0 = .slice p 0 cap -> Calls P (ρ.f 189) #[v0] w fun en w' => ∃ u l h' c' μ', en = .returned u /\ K l h' c' /\ HRel A μ' h' (Fr c') w' /\ AZ (Ad A μ' h') μ' w' u l /\ ∀ v x, AZ (Ad A μ h) μ w v x -> AZ (Ad A μ' h') μ' w' v x := by
   rintro rfl p cap rfl
   refine (Any.slices_Sort_int_none L p cap w).mono ?_
   rintro en w' ⟨rfl, rfl⟩
   have hu : ∀ q, AF q (Bo id (.row e 1 ((([] : List Int).mergeSort fun x y => decide (x <= y)).map IL)) h) = AF q h := fun q => by
    by_cases hq : q = id
    .subst hq; rw [HJ hl, hl]; simp
    rw [DN hq]
   have hmine : B3 μ (Bo id (.row e 1 ((([] : List Int).mergeSort fun x y => decide (x <= y)).map IL)) h) = B3 μ h := by
    funext b; simp only [B3, hu]
   have hown : Ad A μ (Bo id (.row e 1 ((([] : List Int).mergeSort fun x y => decide (x <= y)).map IL)) h) = Ad A μ h := by funext b; simp only [Ad, hmine]
   refine ⟨_, _, _, _, μ, rfl, hK, ?_, htup _, fun v x hv => by rw [hown]; exact hv⟩
   refine ⟨fun q o hq => ?_, fun q q' o o' l l' hq hq' => ?_, hh.fresh, fun q o l hq => ?_, hh.size, hh.block, hh.os, hh.tape, hh.output, hh.ext⟩
   .rw [hu] at hq; rw [hown]; exact hh.obj q o hq
   .rw [hu] at hq hq'; exact hh.inj q q' o o' l l' hq hq'
   rw [hu] at hq; exact hh.base q o l hq
  rcases hrow with ⟨hn, hz0⟩ | ⟨hn, c, hblk, hcs, hle, hcm, hrel⟩
  .have hzs : zs = [] := by simpa using hz0
   subst hzs
   generalize hgen : (LV.lsl id 1 0 ([] : List Int).length) = lv at h0
   cases h0 with
   | lsln => exact empty rfl _ _ rfl
   | lsl _ _ _ cap ad loc' hm' hn' hcap hlc had hbk hsp =>
    simp only [LV.lsl.injEq, List.length_nil] at hgen
    obtain ⟨-, -, -, e4⟩ := hgen
    subst e4
    exact empty rfl _ _ rfl
   | _ => cases hgen
  by_cases hne : zs = []
  .subst hne
   generalize hgen : (LV.lsl id 1 0 ([] : List Int).length) = lv at h0
   cases h0 with
   | lsln => exact empty rfl _ _ rfl
   | lsl _ _ _ cap ad loc' hm' hn' hcap hlc had hbk hsp =>
    simp only [LV.lsl.injEq, List.length_nil] at hgen
    obtain ⟨-, -, -, e4⟩ := hgen
    subst e4
    exact empty rfl _ _ rfl
   | _ => cases hgen
  have hpos : 0 < zs.length := List.length_pos_iff.2 hne
  generalize hgen : (LV.lsl id 1 0 zs.length) = lv at h0
  cases h0 with
  | lsl id' off len cap ad loc' hm' hn' hcap hlc had hbk hsp =>
   simp only [LV.lsl.injEq] at hgen
   obtain ⟨e1, e2, e3, e4⟩ := hgen
   subst e1 e3 e4
   rw [hm] at hm'; cases hm'
   have had' := had (by omega)
   simp only [Nat.zero_mul, Nat.add_zero] at had'
   subst had'
   have hlt := (hh.base id _ loc hl hm hn).1
   simp only [List.length_map] at hle
   have hH := row_holds (zs := zs) (o := loc.o) (n := loc.cap) hblk (by rw [hcs]; omega) hle (by rw [<- hz] at hrel ⊢; exact hrel)
   refine (Any.slices_Sort_int L loc.b loc.o cap zs w hH hlt hlen).mono ?_
   rintro en w' ⟨rfl, q, os, rfl⟩
   have hsl : (zs.mergeSort fun x y => decide (x <= y)).length = zs.length := List.length_mergeSort _
   rw [Lib.putRow_eq_setCells (Value.int .i64) w loc.b loc.o zs.toArray (zs.mergeSort fun x y => decide (x <= y)) q hH (by simp [hsl])]
   obtain ⟨c1, k1, k2, k3⟩ := FJ loc.b ((zs.mergeSort fun x y => decide (x <= y)).map (Value.int .i64)) loc.o (w.drewN q) c e hblk (by simp [hsl]; omega)
   have hw := hh.write (w' := (w.drewN q).setCells loc.b loc.o ((zs.mergeSort fun x y => decide (x <= y)).map (Value.int .i64))) (o := .row e 1 ((zs.mergeSort fun x y => decide (x <= y)).map IL)) hl hm hn
    (by rw [HK]; rfl) (fun b hb => by rw [Gh _ _ _ _ _ hb]; rfl) (by rw [Iw]; rfl) (by rw [HL]; rfl) (by rw [Fz]; rfl)
    ⟨hz, fun y hy => by obtain ⟨n, _, rfl⟩ := List.mem_map.1 hy; rfl, .inr ⟨hn, c1, k1, by rw [k2]; exact hcs, by simpa [hsl] using hle, hcm, fun i j x d v hx hd hv => by
     simp only [List.getElem?_map, Option.map_eq_some_iff] at hx
     obtain ⟨n, hn', rfl⟩ := hx
     have hj : j = 0 := by
      have := (List.getElem?_eq_some_iff.1 hd).1
      simp [IL] at this; omega
     subst hj
     simp only [IL, List.getElem?_cons_zero, Option.some.injEq] at hd
     subst hd
     have hi := (List.getElem?_eq_some_iff.1 hn').1
     rw [k3, if_pos (by simp; omega)] at hv
     rw [show loc.o + i * 1 + 0 - loc.o = i by omega, List.getElem?_map, hn'] at hv
     cases hv
     exact .int _ _⟩⟩
   obtain ⟨w1, w2, w3⟩ := hw
   have hk := w1.keep (w' := grow ((w.drewN q).setCells loc.b loc.o ((zs.mergeSort fun x y => decide (x <= y)).map (Value.int .i64))) os) (h' := Bo id (.row e 1 ((zs.mergeSort fun x y => decide (x <= y)).map IL)) h) (μ' := μ) (F' := Fr ctr) (fun _ _ h => h) w1.fresh (fun _ _ h => h)
    (fun b hb => by show (_ ++ os)[b]? = _; rw [Array.getElem?_append_left hb]) (by show _ <= (_ ++ os).size; simp) rfl rfl rfl
   refine ⟨_, _, _, _, μ, rfl, hK, hk.1, htup _, fun v x hv => ?_⟩
   have hv1 := hv.mono w2.own (fun b _ => w3 b) (fun _ _ h => h)
   refine hv1.mono (BT.mk ?_ ?_) (fun b _ hb => hb) (fun _ _ h => h)
   .show _ <= (_ ++ os).size; simp
   intro b hb _; show (_ ++ os)[b]? = _; rw [Array.getElem?_append_left hb]
  | lsln =>
   simp only [LV.lsl.injEq] at hgen
   obtain ⟨-, -, -, e4⟩ := hgen
   omega
  | _ => cases hgen
 cases hs
end
section
variable {P : Program} {ρ : Ren} {AB : Ax} {A : BF} {l r : List Int} {nt : Nat} {sl : List (Nat × LV)} {h h' : AN} {c d : Nat} {f : St -> Prop} {hf : Hq f}
theorem VI (hE : Ay P AB) {k : Nat} (L : Lays.n189 P ρ) (hk : ρ.f 189 = k) {t e : Nat} {fo : Operand} {args : Array Operand} {ts : Array TypeId} {id n : Nat} {enc : Int -> List DV} (henc : enc = IL)
  (hr : IE l = some r) (hl : Ba id h = some (.row e 1 (l.map enc))) (hn : n = l.length) (hd : Bo id (.row e 1 (r.map enc)) h = h') (ht : P3 AB t e 1 = true)
  (hfn : BI nt sl fo = .fn k []) (ha : DY nt sl args.toList some = some [.lsl id 1 0 n])
  (kk : f ⟨nt, (d, .p (.tup [])) :: sl, h', c⟩) : BH P A AB ⟨nt, sl, h, c⟩ (some d) (.call ⟨.value fo, args, ts⟩) ⟨f, hf⟩ := by
 obtain ⟨ti, te, h1, h2, h3, h4, h5, h6⟩ := Nq ht
 rw [BO (h := h) (c := c)] at hfn
 rw [Be] at hl
 subst henc hn hd hk
 show LH _ _
 rw [hfn]
 show Ht P A h c _ (args.toList.map _ ++ []) _
 rw [En ha, List.append_nil]
 exact Um hE L h3 h4 hl hr kk
end
end Go.E
/- A scope in which the run jumps back to one label, and on to another. No condition. -/
namespace Go.E
open Go Go.RowKit
section
variable {P : Program} {A : BF} {st : St} {σ Ans : Type}
end
def YO {α : Type} (l : List α) (lo hi : Int) : Option (List α) := match l with
 | [] => none
 | x :: r => YC (x :: r) lo hi
section
variable {P : Program} {A : BF} {AB : Ax} {α : Type} {enc : α -> List DV} {l r : List α} {nt : Nat} {sl : List (Nat × LV)} {h : AN} {c d : Nat} {f : St -> Prop} {hf : Hq f} {x : Operand} {t sz : Nat}
end
end Go.E
/- Ad rows cut short; nil cells of own boxes; functions that call themselves. No condition. -/
namespace Go.E
open Go Go.RowKit
section
variable {A : BF} {μ : Nat -> Option BX} {h : List (Nat × A1)} {F : Nat -> Prop} {w : World}
theorem HRel.swap (hh : HRel A μ h F w) {id : Nat} {o o' : A1} (hx : AF id h = some o) (hor : ∀ loc, μ id = some loc -> Df (Ad A μ h) μ w loc o -> Df (Ad A μ h) μ w loc o') :
  HRel A μ (Bo id o' h) F w /\ ∀ b, Ad A μ (Bo id o' h) b -> Ad A μ h b := by
 have hlook : ∀ j y, AF j (Bo id o' h) = some y -> (j = id /\ y = o') \/ (j ≠ id /\ AF j h = some y) := by
  intro j y hy
  by_cases e : j = id
  .subst e; rw [HJ hx] at hy; cases hy; exact .inl ⟨rfl, rfl⟩
  rw [DN e] at hy; exact .inr ⟨e, hy⟩
 have hmine : ∀ b, B3 μ (Bo id o' h) b -> B3 μ h b := by
  rintro b ⟨j, y, lc, h1, h2, h3, h4⟩
  rcases hlook j y h1 with ⟨rfl, rfl⟩ | ⟨_, h1⟩
  .exact ⟨j, o, lc, hx, h2, h3, h4⟩
  exact ⟨j, y, lc, h1, h2, h3, h4⟩
 have hown : ∀ b, Ad A μ (Bo id o' h) b -> Ad A μ h b := fun b hb => hb.imp (fun h => h) (hmine b)
 have f : ∀ j y, AF j (Bo id o' h) = some y -> ∃ y, AF j h = some y := by
  intro j y hy
  rcases hlook j y hy with ⟨rfl, rfl⟩ | ⟨_, hy⟩
  .exact ⟨_, hx⟩
  exact ⟨_, hy⟩
 refine ⟨⟨?_, ?_, hh.fresh, ?_, hh.size, hh.block, hh.os, hh.tape, hh.output, hh.ext⟩, hown⟩
 .intro j y hy
  rcases hlook j y hy with ⟨rfl, rfl⟩ | ⟨e, hy⟩
  .obtain ⟨lc, h1, h2⟩ := hh.obj j o hx
   exact ⟨lc, h1, (hor lc h1 h2).mono (BT.refl _ _) (fun b _ hb => hown b hb) (fun _ _ h => h) fun _ => rfl⟩
  obtain ⟨lc, h1, h2⟩ := hh.obj j y hy
  exact ⟨lc, h1, h2.mono (BT.refl _ _) (fun b _ hb => hown b hb) (fun _ _ h => h) fun _ => rfl⟩
 .intro j j' y y' lc lc' h1 h2 m1 m2 n1 n2 he
  obtain ⟨z, hz⟩ := f j y h1
  obtain ⟨z', hz'⟩ := f j' y' h2
  exact hh.inj _ _ _ _ _ _ hz hz' m1 m2 n1 n2 he
 intro j y lc h1 m1 n1
 obtain ⟨z, hz⟩ := f j y h1
 exact hh.base _ _ _ hz m1 n1
end
section
variable {A : BF} {nt : Nat} {sl : List (Nat × LV)} {h h' : AN} {c : Nat}
theorem Ft (id j e sz : Nat) {cells cells' : List LV} (hl : Ba id h = some (.box cells)) (hj : cells[j]? = some (.p .nils)) (hc : cells.set j (.lsl c sz 0 0) = cells')
  (hu : JZ id (.box cells') h some = some h') : A6 A ⟨nt, sl, h, c⟩ ⟨nt, sl, (c, .row e sz []) :: h', c + 1⟩ := fun a w ⟨⟨μ, hh, hr⟩, hnt, hdef⟩ => by
 rw [Be] at hl
 rw [Gg, Option.some.injEq] at hu
 subst hu hc
 have hno := hh.fresh c (Nat.le_refl _)
 let loc : BX := ⟨true, 0, 0, sz, 0⟩
 have hsub : ∀ id x, AF id ((c, A1.row e sz []) :: h) = some x -> (id = c /\ x = .row e sz []) \/ AF id h = some x := by
  intro id x hx
  simp only [AF] at hx
  split at hx
  .cases hx; exact .inl ⟨‹_›, rfl⟩
  exact .inr hx
 have hadd := hh.add hno loc (.row e sz []) ((c, .row e sz []) :: h) (fun hn => by cases hn) (fun hn => by cases hn) hsub (BT.refl _ _) (fun _ _ _ _ _ _ _ => rfl) rfl rfl rfl ⟨rfl, by simp, .inl ⟨rfl, rfl⟩⟩
 have hown := hh.sub_add loc (.row e sz []) ((c, .row e sz []) :: h) (fun hn => by cases hn) hsub
 have hadd' := hadd.less (F' := Fr (c + 1)) fun id hid => by simp only [Fr] at hid ⊢; omega
 have hne : id ≠ c := hh.live_ne hno hl
 have hl' : AF id ((c, A1.row e sz []) :: h) = some (.box cells) := by simp only [AF, if_neg hne]; exact hl
 obtain ⟨g1, g2⟩ := hadd'.swap hl' (o' := .box (cells.set j (.lsl c sz 0 0))) fun lc _ ⟨k1, cs, t, k2, k3, k4⟩ => by
  refine ⟨k1, cs, t, k2, by rw [List.length_set]; exact k3, fun i v l hv hl => ?_⟩
  rw [List.getElem?_set] at hl
  split at hl
  .split at hl
   .cases hl
    subst_vars
    have := k4 _ v _ hv hj
    rw [this.nils_inv]
    exact .lsln c loc (by simp [Bz]) rfl
   cases hl
  exact k4 i v l hv hl
 have hup : Bo id (.box (cells.set j (.lsl c sz 0 0))) ((c, A1.row e sz []) :: h) = (c, .row e sz []) :: Bo id (.box (cells.set j (.lsl c sz 0 0))) h := by
  simp only [Bo, if_neg hne]
 rw [hup] at g1 g2
 exact ⟨⟨_, g1, fun u hu => (hr u hu).mono (BT.refl _ _) (fun b hb hb' => hown b hb (g2 b hb')) (Iq hno loc)⟩, hnt, hdef⟩
end
section
variable {P : Program} {A : BF} {AB : Ax} {α : Type} {enc : α -> List DV} {l r : List α} {nt : Nat} {sl : List (Nat × LV)} {h : AN} {c d : Nat} {f : St -> Prop} {hf : Hq f} {x : Operand} {t sz : Nat}
end
section
variable (id : Nat) (src d : LV)
mutual
inductive Nb : LV -> LV -> Prop
 | same (v : LV) : Nb v v
 | hit : Nb src d
 | nil (z : Nat) : Nb (.p .nils) (.p (.slice z []))
 | agg {a b : List LV} : N1 a b -> Nb (.agg a) (.agg b)
inductive N1 : List LV -> List LV -> Prop
 | nil : N1 [] []
 | cons {x y : LV} {a b : List LV} : Nb x y -> N1 a b -> N1 (x :: a) (y :: b)
end
inductive Oh (sl : List (Nat × LV)) : List (Nat × LV) -> Prop
 | nil : Oh sl []
 | cons (t : Nat) {v : LV} {r : List (Nat × LV)} : Nb src d (Bj sl t) v -> Oh sl r -> Oh sl ((t, v) :: r)
inductive Ul : A1 -> A1 -> Prop
 | same (o : A1) : Ul o o
 | box {a b : List LV} : N1 src d a b -> Ul (.box a) (.box b)
inductive Oi (h : AN) : AN -> Prop
 | nil : Oi h []
 | cons (i : Nat) {o o' : A1} {r : AN} (hne : Nat.beq i id = false) (hl : Ba i h = some o) : Ul src d o o' -> Oi h r -> Oi h ((i, o') :: r)
end
section
variable {A : BF} {nt : Nat} {sl sl' : List (Nat × LV)} {h h' : AN} {c : Nat} {id : Nat} {src d : LV}
mutual
theorem Sf {O O' : Nat -> Prop} {μ μ' : Nat -> Option BX} {w : World} (hμ : ∀ id l, μ id = some l -> μ' id = some l) (hO : ∀ b, b < w.heap.size -> O' b -> O b) (hd : ∀ v, AZ O μ w v src -> AZ O' μ' w v d) : ∀ {x y : LV}, Nb src d x y -> ∀ v, AZ O μ w v x -> AZ O' μ' w v y
 | _, _, .same _, v, h => h.mono (BT.refl _ _) hO hμ
 | _, _, .hit, v, h => hd v h
 | _, _, .nil z, v, h => by
  rw [h.nils_inv]
  exact .p _ _ (.snil z)
 | _, _, .agg (a := ls) (b := b) q, v, h => by
  cases h with
  | agg vs _ hsz hr =>
   obtain ⟨g1, g2⟩ := Nc hμ hO hd q
   exact .agg vs _ (by omega) fun i v l hv hl => by
    have hi := (List.getElem?_eq_some_iff.1 hl).1
    obtain ⟨x, hx⟩ : ∃ x, ls[i]? = some x := ⟨ls[i]'(by omega), List.getElem?_eq_getElem _⟩
    exact g2 i x l hx hl v (hr i v x hv hx)
theorem Nc {O O' : Nat -> Prop} {μ μ' : Nat -> Option BX} {w : World} (hμ : ∀ id l, μ id = some l -> μ' id = some l) (hO : ∀ b, b < w.heap.size -> O' b -> O b) (hd : ∀ v, AZ O μ w v src -> AZ O' μ' w v d) : ∀ {a b : List LV}, N1 src d a b -> a.length = b.length /\ ∀ (i : Nat) (x y : LV), a[i]? = some x -> b[i]? = some y -> ∀ v, AZ O μ w v x -> AZ O' μ' w v y
 | _, _, .nil => ⟨rfl, fun i x y h => by simp at h⟩
 | _, _, .cons q r => by
  obtain ⟨g1, g2⟩ := Nc hμ hO hd r
  refine ⟨by simp [g1], fun i x y hx hy => ?_⟩
  cases i with
  | zero => simp at hx hy; subst hx hy; exact Sf hμ hO hd q
  | succ i => exact g2 i x y (by simpa using hx) (by simpa using hy)
end
theorem Qu : ∀ {sl' : List (Nat × LV)}, Oh src d sl sl' -> ∀ t l, AF t sl' = some l -> Nb src d (Bj sl t) l
 | _, .nil, t, l, h => by simp [AF] at h
 | _, .cons u q r, t, l, h => by
  simp only [AF] at h
  split at h
  .cases h; subst_vars; exact q
  exact Qu r t l h
theorem Qv : ∀ {h' : AN}, Oi id src d h h' -> ∀ i o', AF i h' = some o' -> i ≠ id /\ ∃ o, AF i h = some o /\ Ul src d o o'
 | _, .nil, i, o, h => by simp [AF] at h
 | _, .cons u hne hl q r, i, o, h => by
  simp only [AF] at h
  split at h
  .cases h; subst_vars
   rw [Be] at hl
   exact ⟨fun e => by subst e; simp at hne, _, hl, q⟩
  exact Qv r i o h
theorem Qw (id : Nat) {d0 : DV} (hd : ∀ μ w (O' : Nat -> Prop), HRel A μ h (Fr c) w -> (∀ b, O' b -> Ad A μ (B6 [id] h) b) -> ∀ v, AZ (Ad A μ h) μ w v src -> Ar O' w v d0) (hs : Oh src (.p d0) sl sl') (hh : Oi id src (.p d0) h h') : A6 A ⟨nt, sl, h, c⟩ ⟨nt, sl', h', c⟩ := fun a w ⟨⟨μ, hR, hr⟩, hnt, hdef⟩ => by
 have hlk := fun i o' => Qv hh i o'
 have hmine : ∀ b, B3 μ h' b -> B3 μ (B6 [id] h) b := by
  rintro b ⟨j, y, lc, h1, h2, h3, h4⟩
  obtain ⟨g1, o, g2, -⟩ := hlk j y h1
  refine ⟨j, o, lc, ?_, h2, h3, h4⟩
  show AF j (Dy id h) = some o
  rw [DL g1]; exact g2
 have hown1 : ∀ b, Ad A μ h' b -> Ad A μ (B6 [id] h) b := fun b hb => hb.imp (fun h => h) (hmine b)
 have hown : ∀ b, Ad A μ h' b -> Ad A μ h b := fun b hb => HV b (hown1 b hb)
 have hp : ∀ v, AZ (Ad A μ h) μ w v src -> AZ (Ad A μ h') μ w v (.p d0) := fun v hv => .p _ _ (hd μ w _ hR hown1 v hv)
 refine ⟨⟨μ, ⟨?_, ?_, hR.fresh, ?_, hR.size, hR.block, hR.os, hR.tape, hR.output, hR.ext⟩, fun t ht => ?_⟩, hnt, hdef⟩
 .intro j o' hj
  obtain ⟨g1, o, g2, q⟩ := hlk j o' hj
  obtain ⟨lc, h1, h2⟩ := hR.obj j o g2
  refine ⟨lc, h1, ?_⟩
  cases q with
  | same _ => exact h2.mono (BT.refl _ _) (fun b _ hb => hown b hb) (fun _ _ h => h) fun _ => rfl
  | box q =>
   obtain ⟨k1, cs, ty, k2, k3, k4⟩ := h2
   obtain ⟨q1, q2⟩ := Nc (O' := Ad A μ h') (w := w) (fun _ _ h => h) (fun b _ hb => hown b hb) hp q
   refine ⟨k1, cs, ty, k2, by omega, fun i v l hv hl => ?_⟩
   have hi := (List.getElem?_eq_some_iff.1 hl).1
   rename_i a b
   have hx : a[i]? = some (a[i]'(by omega)) := List.getElem?_eq_getElem _
   exact q2 i _ l hx hl v (k4 i v _ hv hx)
 .intro j j' y y' lc lc' h1 h2 m1 m2 n1 n2 he
  obtain ⟨-, z, hz, -⟩ := hlk j y h1
  obtain ⟨-, z', hz', -⟩ := hlk j' y' h2
  exact hR.inj _ _ _ _ _ _ hz hz' m1 m2 n1 n2 he
 .intro j y lc h1 m1 n1
  obtain ⟨-, z, hz, -⟩ := hlk j y h1
  exact hR.base _ _ _ hz m1 n1
 show AZ _ _ _ _ (match AF t sl' with | some v => v | none => .any)
 cases hl : AF t sl' with
 | none => exact .any _
 | some l => exact Sf (fun _ _ h => h) (fun b _ hb => hown b hb) hp (Qu hs t l hl) _ (hr t ht)
theorem Ii (id : Nat) {d0 : DV} (hd : E7 h src = some d0 /\ IR src = [id]) (hs : Oh src (.p d0) sl sl') (hh : Oi id src (.p d0) h h') : A6 A ⟨nt, sl, h, c⟩ ⟨nt, sl', h', c⟩ :=
 Qw id (fun μ w O' hR hown v hv => (KV hR (l := [id]) hv hd.1 (by rw [hd.2]; simp)).mono (BT.refl _ _) fun b _ hb => hown b hb) hs hh
theorem Wv {O : Nat -> Prop} {μ : Nat -> Option BX} {w : World} {v : Value} {id sz off n : Nat} (h : AZ O μ w v (.lsl id sz off n)) : ∃ loc, μ id = some loc := by
 cases h with
 | lsln _ loc hm hn => exact ⟨loc, hm⟩
 | lsl _ _ _ cap a loc hm => exact ⟨loc, hm⟩
theorem E5 (hs : Oh (.lsl c 0 0 0) (.p .nils) sl sl') (hh : Oi c (.lsl c 0 0 0) (.p .nils) h h') : A6 A ⟨nt, sl, h, c⟩ ⟨nt, sl', h', c⟩ :=
 Qw c (fun μ w O' hR hown v hv => by
  have hno := hR.fresh c (Nat.le_refl _)
  obtain ⟨loc, hm⟩ := Wv hv
  rw [hno] at hm; cases hm) hs hh
theorem LR {α : Type} {enc : α -> List DV} {l : List α} {e : Nat} {sz : Nat} (hl : Ba id h = some (.row e sz (l.map enc))) : E7 h (.lsl id sz 0 l.length) = some (.slice sz (l.map enc)) /\ IR (.lsl id sz 0 l.length) = [id] := by
 refine ⟨?_, rfl⟩
 rw [Be] at hl
 simp only [E7, hl, Nat.zero_add, List.length_map, Nat.le_refl, and_self, if_true, List.drop_zero]
 rw [List.take_of_length_le (by simp)]
end
section
variable {P : Program} {A : BF} {AB : Ax}
theorem C2.ownF {h : AN} {ctr k : Nat} {args : List LV} {ds : List DV} {e sz : Nat} {elems : List (List DV)} {K : LV -> AN -> Nat -> Prop} (hds : Bt h args = some ds) (hf : E9 P k ds e sz elems)
  (hfl : ∀ x ∈ elems, ∀ d ∈ x, d.flat = true) (hK : K (.lsl ctr sz 0 elems.length) ((ctr, .row e sz elems) :: h) (ctr + 1)) : C2 P A h ctr k args K := by
 refine ⟨hf.enters, fun μ w vs hh hsz hr => ?_⟩
 obtain ⟨g1, g2⟩ := EU hh (l := args.flatMap (Dc h)) hds (fun id hid => hid)
 generalize args.flatMap (Dc h) = dl at g2
 have hO : ∀ b, Ad A μ (B6 dl h) b -> b < w.heap.size := by
  intro b hb
  rcases HV b hb with hb | ⟨id, x, lc, h1, h2, h3, rfl⟩
  .exact Nat.lt_of_lt_of_le (A.hO b hb).1 hh.size
  exact (hh.base id x lc h1 h2 h3).1
 refine (hf.run (Ad A μ (B6 dl h)) w vs hO (by omega) fun i v d hv hd => ?_).mono fun en w' ⟨v, he, hn, hb⟩ => ?_
 .have hi := (List.getElem?_eq_some_iff.1 hd).1
  have hx : args[i]? = some (args[i]'(by omega)) := List.getElem?_eq_getElem _
  exact g2 i v _ d hx hd (hr i v _ hv hx)
 have hno : μ ctr = none := hh.fresh ctr (Nat.le_refl _)
 obtain ⟨hlen, hn⟩ := hn
 have hkm : BT (B3 μ h) w w' := ⟨hb.size, fun b hb' _ => hb.block b hb'⟩
 have hsub : ∀ id x, AF id ((ctr, A1.row e sz elems) :: h) = some x -> (id = ctr /\ x = .row e sz elems) \/ AF id h = some x := by
  intro id x hx
  simp only [AF] at hx
  split at hx
  .cases hx; exact .inl ⟨‹_›, rfl⟩
  exact .inr hx
 have hold : ∀ id x lc, AF id ((ctr, A1.row e sz elems) :: h) = some x -> id ≠ ctr -> μ id = some lc -> lc.nil = false -> w'.heap[lc.b]? = w.heap[lc.b]? := by
  intro id x lc hx hne hm hnl
  rcases hsub id x hx with ⟨rfl, _⟩ | hx
  .exact absurd rfl hne
  exact hb.block _ (hh.base id x lc hx hm hnl).1
 have fin : ∀ (loc : BX), (loc.nil = false -> loc.b < w'.heap.size /\ w.heap.size <= loc.b) ->
   (∀ O' : Nat -> Prop, Df O' (Bz μ ctr loc) w' loc (.row e sz elems)) ->
   (∀ O', AZ O' (Bz μ ctr loc) w' v (.lsl ctr sz 0 elems.length)) ->
   ∃ u l h' c' μ', en = .returned u /\ K l h' c' /\ HRel A μ' h' (Fr c') w' /\ AZ (Ad A μ' h') μ' w' u l /\ ∀ v x, AZ (Ad A μ h) μ w v x -> AZ (Ad A μ' h') μ' w' v x := by
  intro loc hloc ho hu
  have hfr : Lg μ h ((ctr, A1.row e sz elems) :: h) w loc := fun hn => .inl (hloc hn).2
  have hown := hh.sub_add loc (.row e sz elems) ((ctr, .row e sz elems) :: h) hfr hsub
  have hadd := hh.add (w' := w') hno loc (.row e sz elems) ((ctr, .row e sz elems) :: h) (fun hn => (hloc hn).1) hfr hsub hkm hold hb.os hb.tape hb.output (ho _)
  exact ⟨v, _, _, _, _, he, hK, hadd.less (fun id hid => by simp only [Fr] at hid ⊢; omega), hu _, fun v x hv => hv.mono hkm.own hown (Iq hno loc)⟩
 rcases hn with ⟨rfl, rfl⟩ | ⟨a, b, o, cap, c, rfl, h1, h2, h3, h4, h5, h6, h7, h8, h9, h10⟩
 .exact fin ⟨true, 0, 0, sz, 0⟩ (fun hn => by cases hn) (fun O' => ⟨rfl, hlen, .inl ⟨rfl, rfl⟩⟩) (fun O' => .lsln ctr ⟨true, 0, 0, sz, 0⟩ (by simp [Bz]) rfl)
 refine fin ⟨false, b, o, sz, cap⟩ (fun _ => ⟨h2, h1⟩) (fun O' => ⟨rfl, hlen, .inr ⟨rfl, c, h6, h7, h8, h9, fun i j x d u hx hd hu => ?_⟩⟩) (fun O' => ?_)
 .exact (h10 i j x d u hx hd hu).flat (hfl x (List.mem_of_getElem? hx) d (List.mem_of_getElem? hd)) _ _
 exact .lsl ctr 0 elems.length cap a ⟨false, b, o, sz, cap⟩ (by simp [Bz]) rfl (by simp) h8 (fun hc => by rw [h3 hc]; simp) h4 h5
end
section
variable {P : Program} {A : BF} {AB : Ax} {α : Type} {enc : α -> List DV} {nt : Nat} {sl : List (Nat × LV)} {h : AN} {c d : Nat} {f : St -> Prop} {hf : Hq f}
theorem Ia {fo : Operand} {args : Array Operand} {ts : Array TypeId} {k e sz : Nat} {caps ls : List LV} {ds : List DV} {r : List α} (hF : E9 P k ds e sz (r.map enc)) (hfl : ∀ x : α, (enc x).all (·.flat) = true)
  (hfn : BI nt sl fo = .fn k caps) (hl : DY nt sl args.toList some = some ls) (hds : Bt h (ls ++ caps) = some ds)
  (kk : f ⟨nt, (d, .lsl c sz 0 r.length) :: sl, (c, .row e sz (r.map enc)) :: h, c + 1⟩) : BH P A AB ⟨nt, sl, h, c⟩ (some d) (.call ⟨.value fo, args, ts⟩) ⟨f, hf⟩ := by
 rw [BO (h := h) (c := c)] at hfn
 show LH _ _
 rw [hfn]
 show Ht P A h c k (args.toList.map _ ++ caps) _
 rw [En hl]
 refine C2.ownF hds hF (fun x hx d hd => ?_) ?_
 .obtain ⟨a, _, rfl⟩ := List.mem_map.1 hx
  exact List.all_eq_true.1 (hfl a) d hd
 rw [List.length_map]
 exact kk
end
noncomputable def NG {α β : Type} (F : (α -> Option β) -> α -> Option β) (n : Nat) : α -> Option β := Nat.rec (fun _ => none) (fun _ ih => F ih) n
theorem recF_holds {α β : Type} {F : (α -> Option β) -> α -> Option β} {C : α -> β -> Prop} (h : ∀ rec : α -> Option β, (∀ a r, rec a = some r -> C a r) -> ∀ a r, F rec a = some r -> C a r) : ∀ n a r, NG F n a = some r -> C a r
 | 0, a, r, e => by cases e
 | n + 1, a, r, e => h (NG F n) (recF_holds h n) a r e
end Go.E
/- Drawn regions of which the orders do not all come to one by waiting: a tree of orders. No condition. -/
namespace Go.E
open Go Go.RowKit
inductive HU where
 | done
 | nil
 | picks (l : List Nat) (t : HU)
 | alt (i : Nat) (l : List Nat) (t r : HU)
def KT (listed : Array Bool) : List Nat -> Array Bool
 | [] => listed
 | i :: l => KT (listed.setIfInBounds i true) l
def Ho (q w : Bool) (md : Region.Mode) (ops : Array Oper) : List Nat -> Array Bool -> Bool
 | [], _ => true
 | i :: rest, listed => (match ops[i]? with
  | none => false
  | some oi => (Region.ready md ops listed == [i]) || ((Region.ready md ops listed).contains i && Nj q w md ops listed i oi (Lo md ops listed i))) &&
  Ho q w md ops rest (listed.setIfInBounds i true)
def HU.heads : HU -> List Nat
 | .alt i _ _ r => i :: r.heads
 | _ => []
def Jj (q w : Bool) (md : Region.Mode) (ops : Array Oper) : HU -> Bool -> Array Bool -> Nat -> Bool
 | .done, b, listed, n => !b && (Region.ready md ops listed).isEmpty && n == 0
 | .nil, b, _, _ => b
 | .picks l t, b, listed, n => !b && Ho q w md ops l listed && decide (l.length <= n) && Jj q w md ops t false (KT listed l) (n - l.length)
 | .alt i l t r, b, listed, n => (b || decide (0 < n) && !(Region.ready md ops listed).isEmpty && (Region.ready md ops listed).all fun j => (i :: r.heads).contains j) &&
   (decide (i < ops.size) && Ho q w md ops l (listed.setIfInBounds i true) && decide (l.length <= (bif b then n else n - 1)) &&
    Jj q w md ops t false (KT (listed.setIfInBounds i true) l) ((bif b then n else n - 1) - l.length) && Jj q w md ops r true listed (bif b then n else n - 1))
section
variable (P : Program) (A : BF) (AB : Ax) (base n : Nat) (K : St -> Prop) (ops : List Oper)
def Lc : HU -> St -> Prop
 | .done, st => K st
 | .nil, _ => True
 | .picks l t, st => C4 P A AB base n ⟨Lc t, ⟨⟩⟩ (Ef ops l) st
 | .alt i l t r, st => C4 P A AB base n ⟨Lc t, ⟨⟩⟩ (Ef ops (i :: l)) st /\ Lc r st
end
section
variable {P : Program} {A : BF} {AB : Ax} {md : Region.Mode} {base : Nat} {K : St -> Prop}
theorem RM {ops : List Oper} {n : Nat} {l : List Nat} {t : HU} {st : St} (k : C4 P A AB base n ⟨Lc P A AB base n K ops t, ⟨⟩⟩ (Ef ops l) st) : Lc P A AB base n K ops (.picks l t) st := k
theorem Bb {ops : List Oper} {n : Nat} {i : Nat} {l : List Nat} {t r : HU} {st : St} (k : C4 P A AB base n ⟨Lc P A AB base n K ops t, ⟨⟩⟩ (Ef ops (i :: l)) st) (k' : Lc P A AB base n K ops r st) : Lc P A AB base n K ops (.alt i l t r) st := ⟨k, k'⟩
theorem CP {ops : List Oper} {n c c' nt : Nat} {sl : List (Nat × LV)} {h : AN} {S : St} (k : A6 A ⟨nt, sl, h, c + n⟩ S) : Lc P A AB c n (fun st => A6 A { st with ctr := c + n } S) ops .done ⟨nt, sl, h, c'⟩ := k
theorem DH {ops : List Oper} {n : Nat} {st : St} : Lc P A AB base n K ops .nil st := trivial
theorem Ol {q w : Bool} {ops : Array Oper} : ∀ {l : List Nat} {listed : Array Bool}, Ho q w md ops l listed = true -> ∀ i ∈ l, i < ops.size
 | [], _, _, i, hi => by simp at hi
 | j :: l, listed, h, i, hi => by
  simp only [Ho, Bool.and_eq_true] at h
  rcases List.mem_cons.1 hi with rfl | hi
  .cases ho : ops[i]? with
   | none => rw [ho] at h; simp at h
   | some o => exact (Array.getElem?_eq_some_iff.1 ho).1
  exact Ol h.2 i hi
theorem MU (q : Bool) (hq : q = true -> ∃ b, AB.calm = some b) {ops : Array Oper} {T Q : St -> Prop} (fuel : Nat) : ∀ (l : List Nat) (listed : Array Bool) (st : St), Ho q AB.own md ops l listed = true -> (∀ k, listed.getD k true = false -> AF (base + k) st.heap = none) ->
  (∀ st', (∀ k, (KT listed l).getD k true = false -> AF (base + k) st'.heap = none) -> T st' -> HW P AB md ops base Q fuel (KT listed l) st') ->
  Fy P AB ops base T l st -> HW P AB md ops base Q (l.length + fuel) listed st
 | [], listed, st, _, hfresh, hT, h => by
  rw [List.length_nil, Nat.zero_add]
  exact hT st hfresh h
 | i :: rest, listed, st, hok, hfresh, hT, h => by
  obtain ⟨o, l, e, ho, hd, hrest⟩ := Lp h
  simp only [Ho, ho, Bool.and_eq_true, Bool.or_eq_true] at hok
  have hrec : HW P AB md ops base Q (rest.length + fuel) (listed.setIfInBounds i true) (apS st (base + i) o l e) := by
   refine MU q hq fuel rest _ _ hok.2 (fun k hk => ?_) hT hrest
   have hik : i ≠ k := by
    rintro rfl
    rcases Nat.lt_or_ge i listed.size with h' | h'
    .simp [h'] at hk
    simp [Array.getElem?_eq_none h'] at hk
   rw [Bm]
   exact KW hd (by simp only [St.at]; omega) (hfresh k (by rw [getD_set_ne true hik] at hk; exact hk))
  rw [show (i :: rest).length + fuel = rest.length + fuel + 1 by simp; omega]
  rcases hok.1 with h1 | h1
  .have hr : Region.ready md ops listed = [i] := by simpa using h1
   refine ⟨fun h0 => (by rw [hr] at h0; cases h0), fun j hj => ?_⟩
   rw [hr] at hj
   simp at hj
   subst hj
   exact ⟨o, l, e, ho, hd, hrec⟩
  obtain ⟨h1, h2⟩ := h1
  simp only [Nj, Bool.and_eq_true, List.all_eq_true, List.mem_range] at h2
  obtain ⟨h2, h3⟩ := h2
  generalize hBe : Lo md ops listed i = B at h2 h3
  refine Oz q hq ho (fun j => B.contains j) (fun j hj => ?_) (rest.length + fuel) listed st (fun j hj => ?_) (fun j oj hoj hji hun hBj => ?_) hfresh (by simpa using h1) hd hrec
  .have := h2 j (by simpa using hj)
   obtain ⟨⟨a1, a2⟩, a3⟩ := this
   refine ⟨by simpa using a1, fun oj hoj => ?_⟩
   rw [hoj] at a3
   obtain ⟨x, hx, hx2⟩ := Array.any_eq_true'.1 a3
   simp only [Bool.and_eq_true, Bool.or_eq_true, beq_iff_eq] at hx2
   exact ⟨x, hx, hx2.1, hx2.2⟩
  .have := (h2 j (by simpa using hj)).1.2
   simpa using this
  have := h3 j (Array.getElem?_eq_some_iff.1 hoj).1
  simp only [Bool.or_eq_true, beq_iff_eq, hji, false_or, hun, Bool.false_eq_true] at this
  rw [hBj] at this
  simp only [Bool.false_eq_true, false_or, hoj, Bool.and_eq_true] at this
  refine ⟨this.1, this.2.1, fun ho => ?_⟩
  have := this.2.2
  rw [ho] at this; simpa using this
theorem JX (q : Bool) (hq : q = true -> ∃ b, AB.calm = some b) {ops : List Oper} : ∀ (T : HU) (listed : Array Bool) (st : St) (n : Nat), (∀ k, listed.getD k true = false -> AF (base + k) st.heap = none) -> Lc P A AB base ops.length K ops T st ->
  (Jj q AB.own md ops.toArray T false listed n = true -> HW P AB md ops.toArray base K n listed st) /\
  (Jj q AB.own md ops.toArray T true listed n = true -> ∀ i ∈ T.heads, ∃ o l e, ops.toArray[i]? = some o /\ Cu P AB ops.toArray (st.at (base + i)) o l e /\ HW P AB md ops.toArray base K n (listed.setIfInBounds i true) (apS st (base + i) o l e))
 | .done, listed, st, n, hfresh, h => by
  refine ⟨fun hok => ?_, fun hok => by simp [Jj] at hok⟩
  simp only [Jj, Bool.not_false, Bool.true_and, Bool.and_eq_true, beq_iff_eq, List.isEmpty_iff] at hok
  obtain ⟨h1, rfl⟩ := hok
  exact ⟨h1, st, FZ.refl st, h⟩
 | .nil, listed, st, n, hfresh, h => ⟨fun hok => by simp [Jj] at hok, fun _ i hi => by simp [HU.heads] at hi⟩
 | .picks l t, listed, st, n, hfresh, h => by
  refine ⟨fun hok => ?_, fun hok => by simp [Jj] at hok⟩
  simp only [Jj, Bool.not_false, Bool.true_and, Bool.and_eq_true, decide_eq_true_eq] at hok
  obtain ⟨⟨h1, h2⟩, h3⟩ := hok
  have hb : (l.all fun i => decide (i < ops.length)) = true := List.all_eq_true.2 fun i hi => by simpa using Ol h1 i hi
  have := MU q hq (md := md) (Q := K) (n - l.length) l listed st h1 hfresh (fun st' hf' hT => ?_) (GF l st hb h)
  .rwa [show l.length + (n - l.length) = n by omega] at this
  refine Ln _ _ { st' with ctr := base + ops.length } _ ⟨rfl, fun _ => rfl, fun _ => rfl⟩ ?_
  exact (JX q hq t (KT listed l) { st' with ctr := base + ops.length } (n - l.length) hf' hT).1 h3
 | .alt i l t r, listed, st, n, hfresh, ⟨h, h'⟩ => by
  have key : ∀ m, (decide (i < ops.toArray.size) && Ho q AB.own md ops.toArray l (listed.setIfInBounds i true) && decide (l.length <= m) && Jj q AB.own md ops.toArray t false (KT (listed.setIfInBounds i true) l) (m - l.length) && Jj q AB.own md ops.toArray r true listed m) = true ->
    ∀ j ∈ i :: r.heads, ∃ o l e, ops.toArray[j]? = some o /\ Cu P AB ops.toArray (st.at (base + j)) o l e /\ HW P AB md ops.toArray base K m (listed.setIfInBounds j true) (apS st (base + j) o l e) := by
   intro m hok j hj
   simp only [Bool.and_eq_true, decide_eq_true_eq] at hok
   obtain ⟨⟨⟨⟨h0, h1⟩, h2⟩, h3⟩, h4⟩ := hok
   rcases List.mem_cons.1 hj with rfl | hj
   .have hb : ((j :: l).all fun i => decide (i < ops.length)) = true := List.all_eq_true.2 fun i hi => by
     rcases List.mem_cons.1 hi with rfl | hi
     .simpa using h0
     simpa using Ol h1 i hi
    obtain ⟨o, lv, e, ho, hd, hrest⟩ := Lp (GF (j :: l) st hb h)
    refine ⟨o, lv, e, ho, hd, ?_⟩
    have := MU q hq (md := md) (Q := K) (m - l.length) l (listed.setIfInBounds j true) (apS st (base + j) o lv e) h1 (fun k hk => ?_) (fun st' hf' hT => ?_) hrest
    .rwa [show l.length + (m - l.length) = m by omega] at this
    .have hik : j ≠ k := by
      rintro rfl
      rcases Nat.lt_or_ge j listed.size with h' | h'
      .simp [h'] at hk
      simp [Array.getElem?_eq_none h'] at hk
     rw [Bm]
     exact KW hd (by simp only [St.at]; omega) (hfresh k (by rw [getD_set_ne true hik] at hk; exact hk))
    refine Ln _ _ { st' with ctr := base + ops.length } _ ⟨rfl, fun _ => rfl, fun _ => rfl⟩ ?_
    exact (JX q hq t _ { st' with ctr := base + ops.length } (m - l.length) hf' hT).1 h3
   exact (JX q hq r listed st m hfresh h').2 h4 j hj
  refine ⟨fun hok => ?_, fun hok => ?_⟩
  .rw [Jj, Bool.false_or] at hok
   obtain ⟨h1, h2⟩ := Bool.and_eq_true_iff.1 hok
   simp only [Bool.and_eq_true, decide_eq_true_eq, Bool.not_eq_true', List.all_eq_true] at h1
   obtain ⟨⟨h3, h4⟩, h5⟩ := h1
   obtain ⟨m, rfl⟩ : ∃ m, n = m + 1 := ⟨n - 1, by omega⟩
   refine ⟨fun h0 => by rw [h0] at h4; simp at h4, fun j hj => ?_⟩
   exact key m (by simpa using h2) j (by simpa using h5 j hj)
  simp only [Jj, Bool.true_or, Bool.true_and, cond_true] at hok
  exact key n hok
theorem WM (hE : Ay P AB) (hm : P.follows .mixedOrders = true) {id : Nat} {ops : List Oper} {Q : Exit -> St -> Prop} {nt : Nat} {sl : List (Nat × LV)} {h : AN} {c : Nat} (T : HU) (n : Nat) (S : St)
  (hok : Jj false AB.own .any ops.toArray T false (Array.replicate ops.length false) ops.length = true) (hn : Nat.beq ops.length n = true)
  (k : Lc P A AB c n (fun st => A6 A { st with ctr := c + n } S) ops T ⟨nt, sl, h, c⟩) (kk : Q .normal S) : B2 P A (.region id ops.toArray true) Q ⟨nt, sl, h, c⟩ := fun a w hR => by
 have hn' := Nat.eq_of_beq_eq_true hn
 subst hn'
 refine wp_region_any hm ?_
 have hR' := (hR.drawn (w.drawn + 1)).toRF
 have hfr : ∀ k, AF (c + k) h = none := by
  intro k
  cases hx : AF (c + k) h with
  | none => rfl
  | some o =>
   obtain ⟨⟨μ, hh, _⟩, _, _⟩ := hR
   obtain ⟨loc, h1, _⟩ := hh.obj _ _ hx
   rw [hh.fresh _ (by simp [Fr])] at h1; cases h1
 have hD := (JX false (fun h => by cases h) (md := .any) T (Array.replicate ops.length false) ⟨nt, sl, h, c⟩ ops.length (fun k _ => hfr k) k).1 hok
 rw [show ops.toArray.size = ops.length by simp]
 refine HI (A := A) (n := ops.length) hE (by simp) (fun st' a' w' listed hk hR'' => ?_) ops.length _ ⟨nt, sl, h, c⟩ a _ (by simp) hD ?_
 .refine ⟨S, ?_, kk⟩
  obtain ⟨⟨μ, x1, x2⟩, x3, x4⟩ := hR''
  exact hk a' w' ⟨⟨μ, x1.less fun id hid => .inl hid, x2⟩, x3, x4⟩
 obtain ⟨⟨μ, x1, x2⟩, x3, x4⟩ := hR'
 refine ⟨⟨μ, x1.less fun id hid => ?_, x2⟩, x3, x4⟩
 rcases hid with hid | ⟨k, _, _, rfl⟩
 .simp only [Fr]; omega
 simp [Fr]
theorem ZG (hE : Ay P AB) (hm : P.follows .mixedOrders = true) {id : Nat} {ops : List Oper} {Q : Exit -> St -> Prop} {nt : Nat} {sl : List (Nat × LV)} {h : AN} {c : Nat} (T : HU) (n : Nat) (S : St)
  (hq : AB.calm.isSome = true) (hok : Jj true AB.own .any ops.toArray T false (Array.replicate ops.length false) ops.length = true) (hn : Nat.beq ops.length n = true)
  (k : Lc P A AB c n (fun st => A6 A { st with ctr := c + n } S) ops T ⟨nt, sl, h, c⟩) (kk : Q .normal S) : B2 P A (.region id ops.toArray true) Q ⟨nt, sl, h, c⟩ := fun a w hR => by
 have hn' := Nat.eq_of_beq_eq_true hn
 subst hn'
 refine wp_region_any hm ?_
 have hR' := (hR.drawn (w.drawn + 1)).toRF
 have hfr : ∀ k, AF (c + k) h = none := by
  intro k
  cases hx : AF (c + k) h with
  | none => rfl
  | some o =>
   obtain ⟨⟨μ, hh, _⟩, _, _⟩ := hR
   obtain ⟨loc, h1, _⟩ := hh.obj _ _ hx
   rw [hh.fresh _ (by simp [Fr])] at h1; cases h1
 have hD := (JX true (fun _ => Option.isSome_iff_exists.1 hq) (md := .any) T (Array.replicate ops.length false) ⟨nt, sl, h, c⟩ ops.length (fun k _ => hfr k) k).1 hok
 rw [show ops.toArray.size = ops.length by simp]
 refine HI (A := A) (n := ops.length) hE (by simp) (fun st' a' w' listed hk hR'' => ?_) ops.length _ ⟨nt, sl, h, c⟩ a _ (by simp) hD ?_
 .refine ⟨S, ?_, kk⟩
  obtain ⟨⟨μ, x1, x2⟩, x3, x4⟩ := hR''
  exact hk a' w' ⟨⟨μ, x1.less fun id hid => .inl hid, x2⟩, x3, x4⟩
 obtain ⟨⟨μ, x1, x2⟩, x3, x4⟩ := hR'
 refine ⟨⟨μ, x1.less fun id hid => ?_, x2⟩, x3, x4⟩
 rcases hid with hid | ⟨k, _, _, rfl⟩
 .simp only [Fr]; omega
 simp [Fr]
end
end Go.E
/- Ad objects handed to a function that turns them: its contract (C2 of the objects alone), and its use among other objects (Td, Cw). No condition. -/
namespace Go.E
open Go Go.RowKit
def Ki (ρ : Nat -> Nat) : LV -> LV
 | .lsl id sz off len => .lsl (ρ id) sz off len
 | .lpb id off => .lpb (ρ id) off
 | .lpe id i off => .lpe (ρ id) i off
 | .lmap id => .lmap (ρ id)
 | x => x
def YS : LV -> Option Nat
 | .lsl id _ _ _ => some id
 | .lpb id _ => some id
 | .lpe id _ _ => some id
 | .lmap id => some id
 | _ => none
def YT : LV -> Bool
 | .p _ => true
 | .lsl _ _ _ _ => true
 | .lpb _ _ => true
 | .lpe _ _ _ => true
 | .lmap _ => true
 | .und => true
 | .any => true
 | _ => false
def LX (ρ : Nat -> Nat) : A1 -> A1
 | .box cs => .box (cs.map (Ki ρ))
 | o => o
def LY (gl : List (Nat × Nat)) (m : Nat) (l : LV) : Bool := YT l && (match YS l with
 | none => true
 | some i => Nat.ble m i || (AF i gl).isSome)
def SJ (gl : List (Nat × Nat)) (m : Nat) : A1 -> Bool
 | .box cs => cs.all (LY gl m)
 | _ => true
def YU (ρ : Nat -> Nat) : LV -> LV
 | .agg l => .agg (l.map (Ki ρ))
 | l => Ki ρ l
def YV (gl : List (Nat × Nat)) (m : Nat) : LV -> Bool
 | .agg l => l.all (LY gl m)
 | l => LY gl m l
def SK (ρ : Nat -> Nat) : LV -> LV
 | .tup l => .tup (l.map (YU ρ))
 | l => YU ρ l
def VO (gl : List (Nat × Nat)) (m : Nat) : LV -> Bool
 | .tup l => l.all (YV gl m)
 | l => YV gl m l
def E6 (ρ : Nat -> Nat) : AN -> AN
 | [] => []
 | (i, o) :: h => (ρ i, LX ρ o) :: E6 ρ h
def B7 (gl : List (Nat × Nat)) (m c i : Nat) : Nat := match AF i gl with
 | some j => j
 | none => c + (i - m)
def KN (ρ : Nat -> Nat) (h : AN) : AN -> Prop
 | [] => True
 | (i, o) :: r => AF (ρ i) h = some (LX ρ o) /\ KN ρ h r
def P9 (gl : List (Nat × Nat)) (m m1 : Nat) (H H1 : AN) : Bool :=
 Nat.ble m m1 && H.all (fun p => Nat.ble (p.1 + 1) m && (AF p.1 gl).isSome && SJ gl m p.2) && gl.all (fun p => (AF p.1 H).isSome && gl.all fun q => p.1 == q.1 || p.2 != q.2) && H1.all (fun p => (Nat.ble m p.1 || (AF p.1 gl).isSome) && SJ gl m p.2)
theorem Du {α : Type} {i : Nat} {o : α} : ∀ {l : List (Nat × α)}, AF i l = some o -> (i, o) ∈ l
 | [], h => by simp [AF] at h
 | (k, v) :: l, h => by
  unfold AF at h
  split at h
  .rename_i e; cases h; subst e; simp
  exact List.mem_cons_of_mem _ (Du h)
theorem OC {ρ : Nat -> Nat} {h : AN} {i : Nat} {o : A1} : ∀ {H : AN}, KN ρ h H -> AF i H = some o -> AF (ρ i) h = some (LX ρ o)
 | [], _, hl => by simp [AF] at hl
 | (k, v) :: H, hk, hl => by
  unfold AF at hl
  split at hl
  .rename_i e; cases hl; subst e; exact hk.1
  exact OC hk.2 hl
theorem Ob {ρ : Nat -> Nat} {id : Nat} {o : A1} : ∀ {H : AN}, AF id (E6 ρ H) = some o -> ∃ i o1, AF i H = some o1 /\ ρ i = id /\ o = LX ρ o1
 | [], h => by simp [E6, AF] at h
 | (k, v) :: H, h => by
  unfold E6 AF at h
  split at h
  .rename_i e; cases h; exact ⟨k, v, by simp [AF], e.symm, rfl⟩
  rename_i e
  obtain ⟨i, o1, h1, h2, h3⟩ := Ob h
  refine ⟨i, o1, ?_, h2, h3⟩
  unfold AF
  rw [if_neg (fun e2 => e (by rw [<- h2, e2]))]
  exact h1
theorem SL {α : Type} {id : Nat} {o : α} : ∀ {a b : List (Nat × α)}, AF id (a ++ b) = some o -> AF id a = some o \/ AF id b = some o
 | [], b, h => .inr h
 | (k, v) :: a, b, h => by
  rw [List.cons_append] at h
  have e1 : ∀ l : List (Nat × α), AF id ((k, v) :: l) = if id = k then some v else AF id l := fun _ => rfl
  rw [e1] at h
  by_cases e : id = k
  .rw [if_pos e] at h; rw [e1, if_pos e]; exact .inl h
  rw [if_neg e] at h; rw [e1, if_neg e]; exact SL h
section
variable {O : Nat -> Prop} {μ μ' : Nat -> Option BX} {w : World} {ρ : Nat -> Nat}
theorem Te {v : Value} {l : LV} (hf : YT l = true) (hμ : ∀ i loc, YS l = some i -> μ (ρ i) = some loc -> μ' i = some loc) (h : AZ O μ w v (Ki ρ l)) : AZ O μ' w v l := by
 cases l with
 | p d => cases h with | p _ _ h => exact .p _ _ h
 | lsl id sz off len =>
  cases h with
  | lsln _ loc hm hn => exact .lsln id loc (hμ _ _ rfl hm) hn
  | lsl _ _ _ cap a loc hm hn hcap hl ha hb hs => exact .lsl id off len cap a loc (hμ _ _ rfl hm) hn hcap hl ha hb hs
 | lpb id off => cases h with | lpb _ _ loc hm hn => exact .lpb id off loc (hμ _ _ rfl hm) hn
 | lpe id i off => cases h with | lpe _ _ _ loc hm hn => exact .lpe id i off loc (hμ _ _ rfl hm) hn
 | lmap id => cases h with | lmap _ loc hm hn => exact .lmap id loc (hμ _ _ rfl hm) hn
 | und => cases h; exact .und
 | any => exact .any v
 | agg l => cases hf
 | tup l => cases hf
 | fn f l => cases hf
theorem SM {v : Value} {l : LV} (hf : YT l = true) (hμ : ∀ i loc, YS l = some i -> μ' i = some loc -> μ (ρ i) = some loc) (h : AZ O μ' w v l) : AZ O μ w v (Ki ρ l) := by
 cases l with
 | p d => cases h with | p _ _ h => exact .p _ _ h
 | lsl id sz off len =>
  cases h with
  | lsln _ loc hm hn => exact .lsln _ loc (hμ _ _ rfl hm) hn
  | lsl _ _ _ cap a loc hm hn hcap hl ha hb hs => exact .lsl _ off len cap a loc (hμ _ _ rfl hm) hn hcap hl ha hb hs
 | lpb id off => cases h with | lpb _ _ loc hm hn => exact .lpb _ off loc (hμ _ _ rfl hm) hn
 | lpe id i off => cases h with | lpe _ _ _ loc hm hn => exact .lpe _ i off loc (hμ _ _ rfl hm) hn
 | lmap id => cases h with | lmap _ loc hm hn => exact .lmap _ loc (hμ _ _ rfl hm) hn
 | und => cases h; exact .und
 | any => exact .any v
 | agg l => cases hf
 | tup l => cases hf
 | fn f l => cases hf
theorem Xi {gl : List (Nat × Nat)} {m : Nat} {loc : BX} {o : A1} (hf : SJ gl m o = true) (hμ : ∀ i lc, (m <= i \/ ∃ j, AF i gl = some j) -> μ (ρ i) = some lc -> μ' i = some lc) (h : Df O μ w loc (LX ρ o)) : Df O μ' w loc o := by
 cases o with
 | row e sz el => exact h
 | map mp => exact h
 | iter cur left => exact h
 | box cs =>
  obtain ⟨hn, c, t, h1, h2, h3⟩ := h
  refine ⟨hn, c, t, h1, by simpa using h2, fun i v l hv hl => ?_⟩
  have hok := List.all_eq_true.1 hf l (List.mem_of_getElem? hl)
  simp only [LY, Bool.and_eq_true] at hok
  refine Te hok.1 (fun j lc hj hm => hμ j lc ?_ hm) (h3 i v _ hv (by rw [List.getElem?_map, hl]; rfl))
  have h4 := hok.2
  rw [hj] at h4
  simp only [Bool.or_eq_true, Nat.ble_eq] at h4
  exact h4.imp (fun x => x) fun h5 => Option.isSome_iff_exists.1 h5
theorem WS {gl : List (Nat × Nat)} {m : Nat} {loc : BX} {o : A1} (hf : SJ gl m o = true) (hμ : ∀ i lc, (m <= i \/ ∃ j, AF i gl = some j) -> μ' i = some lc -> μ (ρ i) = some lc) (h : Df O μ' w loc o) : Df O μ w loc (LX ρ o) := by
 cases o with
 | row e sz el => exact h
 | map mp => exact h
 | iter cur left => exact h
 | box cs =>
  obtain ⟨hn, c, t, h1, h2, h3⟩ := h
  refine ⟨hn, c, t, h1, by simpa using h2, fun i v l hv hl => ?_⟩
  rw [List.getElem?_map] at hl
  cases hc : cs[i]? with
  | none => rw [hc] at hl; cases hl
  | some x =>
   rw [hc] at hl
   cases hl
   have hok := List.all_eq_true.1 hf x (List.mem_of_getElem? hc)
   simp only [LY, Bool.and_eq_true] at hok
   refine SM hok.1 (fun j lc hj hm => hμ j lc ?_ hm) (h3 i v x hv hc)
   have h4 := hok.2
   rw [hj] at h4
   simp only [Bool.or_eq_true, Nat.ble_eq] at h4
   exact h4.imp (fun x => x) fun h5 => Option.isSome_iff_exists.1 h5
end
section
variable {P : Program}
theorem Tf {k : Nat} {H H1 : AN} {m m1 : Nat} {ls : List LV} {L : LV} (hM : ∀ A : BF, (∀ id, A.μ0 id ≠ none -> id < m) -> C2 P A H m k ls (fun l h c => l = L /\ h = H1 /\ c = m1))
  (gl : List (Nat × Nat)) {A : BF} {h : AN} {c : Nat} {F : Nat -> Prop} (hF : ∀ q, c <= q -> F q) (hB : P9 gl m m1 H H1 = true) (hobj : KN (B7 gl m c) h H) (hls : ls.all (LY gl m) = true) (hL : VO gl m L = true)
  {μ : Nat -> Option BX} {w : World} {vs : Array Value} (hh : HRel A μ h F w) (hsz : vs.size = ls.length) (hr : ∀ (i : Nat) (v : Value) (x : LV), vs[i]? = some v -> (ls.map (Ki (B7 gl m c)))[i]? = some x -> AZ (Ad A μ h) μ w v x) :
  Calls P k vs w fun en w' => ∃ u μ', en = .returned u /\ HRel A μ' (E6 (B7 gl m c) H1 ++ B6 (gl.map (·.2)) h) (fun q => F q /\ (q < c \/ c + (m1 - m) <= q)) w' /\ AZ (Ad A μ' (E6 (B7 gl m c) H1 ++ B6 (gl.map (·.2)) h)) μ' w' u (SK (B7 gl m c) L) /\ ∀ v x, AZ (Ad A μ h) μ w v x -> AZ (Ad A μ' (E6 (B7 gl m c) H1 ++ B6 (gl.map (·.2)) h)) μ' w' v x := by
 simp only [P9, Bool.and_eq_true, List.all_eq_true, Nat.ble_eq, Bool.or_eq_true, beq_iff_eq, bne_iff_ne] at hB
 obtain ⟨⟨⟨hm, hH⟩, hgl⟩, hH1⟩ := hB
 have key : ∀ i o, AF i H = some o -> i < m /\ (∃ j, AF i gl = some j) /\ SJ gl m o = true := fun i o hl => by
  obtain ⟨⟨h1, h2⟩, h3⟩ := hH _ (Du hl)
  exact ⟨h1, Option.isSome_iff_exists.1 h2, h3⟩
 have gkey : ∀ i j, AF i gl = some j -> ∃ o, AF i H = some o := fun i j hl => Option.isSome_iff_exists.1 (hgl _ (Du hl)).1
 have ginj : ∀ i i' j, AF i gl = some j -> AF i' gl = some j -> i = i' := fun i i' j h1 h2 => by
  have := (hgl _ (Du h1)).2 _ (Du h2)
  rcases this with h | h
  .exact h
  exact absurd rfl h
 have rg : ∀ i j, AF i gl = some j -> B7 gl m c i = j := fun i j hl => by unfold B7; rw [hl]
 have rn : ∀ i, m <= i -> B7 gl m c i = c + (i - m) := fun i hi => by
  unfold B7
  cases hl : AF i gl with
  | none => rfl
  | some j =>
   obtain ⟨o, ho⟩ := gkey i j hl
   have := (key i o ho).1
   omega
 have hlt : ∀ id loc, μ id = some loc -> id < c := by
  intro id loc hm'
  by_cases hi : id < c
  .exact hi
  rw [hh.fresh id (hF id (by omega))] at hm'; cases hm'
 let μ' : Nat -> Option BX := fun i => match AF i gl with | some j => μ j | none => none
 have μg : ∀ i j, AF i gl = some j -> μ' i = μ j := fun i j hl => by simp only [μ', hl]
 have μlt : ∀ i loc, μ' i = some loc -> ∃ j, AF i gl = some j /\ μ j = some loc := by
  intro i loc hi
  cases hl : AF i gl with
  | none => simp only [μ', hl] at hi; cases hi
  | some j => exact ⟨j, rfl, by rw [<- μg i j hl]; exact hi⟩
 have hobj' : ∀ i o, AF i H = some o -> ∃ j, AF i gl = some j /\ AF j h = some (LX (B7 gl m c) o) := fun i o hl => by
  obtain ⟨_, ⟨j, hj⟩, _⟩ := key i o hl
  have := OC hobj hl
  rw [rg i j hj] at this
  exact ⟨j, hj, this⟩
 have mine : ∀ b, B3 μ' H b -> B3 μ h b /\ ∃ i j o loc, AF i H = some o /\ AF i gl = some j /\ AF j h = some (LX (B7 gl m c) o) /\ μ j = some loc /\ loc.nil = false /\ loc.b = b := by
  rintro b ⟨i, o, loc, h1, h2, h3, h4⟩
  obtain ⟨j, hj, hj2⟩ := hobj' i o h1
  rw [μg i j hj] at h2
  exact ⟨⟨j, _, loc, hj2, h2, h3, h4⟩, i, j, o, loc, h1, hj, hj2, h2, h3, h4⟩
 have ownlt : ∀ b, Ad A μ h b -> b < w.heap.size := by
  rintro b (hb | ⟨id, o, loc, h1, h2, h3, rfl⟩)
  .exact Nat.lt_of_lt_of_le (A.hO b hb).1 hh.size
  exact (hh.base id o loc h1 h2 h3).1
 let A' : BF := ⟨w, fun b => Ad A μ h b /\ ¬ B3 μ' H b, B3 μ' H, μ', fun b hb => ⟨ownlt b hb.1, hb.2⟩⟩
 have own1 : ∀ b, Ad A' μ' H b -> Ad A μ h b := by
  rintro b (hb | hb)
  .exact hb.1
  exact .inr (mine b hb).1
 have own2 : ∀ b, Ad A μ h b -> Ad A' μ' H b := fun b hb => by
  by_cases hc : B3 μ' H b
  .exact .inr hc
  exact .inl ⟨hb, hc⟩
 have hh' : HRel A' μ' H (Fr m) w := by
  refine ⟨?_, ?_, ?_, ?_, Nat.le_refl _, fun _ _ _ => rfl, rfl, rfl, rfl, fun _ _ hm' => hm'⟩
  .intro i o hl
   obtain ⟨j, hj, hj2⟩ := hobj' i o hl
   obtain ⟨loc, h1, h2⟩ := hh.obj j _ hj2
   refine ⟨loc, by rw [μg i j hj]; exact h1, ?_⟩
   have h3 : Df (Ad A' μ' H) μ w loc (LX (B7 gl m c) o) := h2.mono (BT.refl _ _) (fun b _ hb => own1 b hb) (fun _ _ h => h) (fun _ => rfl)
   refine Xi (key i o hl).2.2 (fun i' lc hi' hm' => ?_) h3
   rcases hi' with hi' | ⟨j', hj'⟩
   .rw [rn i' hi'] at hm'
    have := hlt _ _ hm'
    omega
   rw [rg i' j' hj'] at hm'
   rw [μg i' j' hj']; exact hm'
  .intro i i' o o' loc loc' h1 h2 m1' m2' n1 n2 he
   obtain ⟨j, hj, hj2⟩ := hobj' i o h1
   obtain ⟨j', hj', hj2'⟩ := hobj' i' o' h2
   rw [μg i j hj] at m1'
   rw [μg i' j' hj'] at m2'
   have := hh.inj _ _ _ _ _ _ hj2 hj2' m1' m2' n1 n2 he
   subst this
   exact ginj _ _ _ hj hj'
  .intro i hi
   cases hm' : μ' i with
   | none => rfl
   | some loc =>
    obtain ⟨j, hj, _⟩ := μlt i loc hm'
    obtain ⟨o, ho⟩ := gkey i j hj
    have := (key i o ho).1
    simp only [Fr] at hi; omega
  intro i o loc h1 h2 h3
  have hmine : B3 μ' H loc.b := ⟨i, o, loc, h1, h2, h3, rfl⟩
  exact ⟨ownlt _ (.inr (mine _ hmine).1), fun hb => hb.2 hmine, .inr hmine⟩
 have hargs : ∀ (i : Nat) (v : Value) (l : LV), vs[i]? = some v -> ls[i]? = some l -> AZ (Ad A' μ' H) μ' w v l := by
  intro i v l hv hl
  have hok := List.all_eq_true.1 hls l (List.mem_of_getElem? hl)
  simp only [LY, Bool.and_eq_true] at hok
  have h1 := (hr i v _ hv (by rw [List.getElem?_map, hl]; rfl)).mono (O' := Ad A' μ' H) (BT.refl _ _) (fun b _ hb => own1 b hb) (fun _ _ h => h)
  refine Te hok.1 (fun i' lc hi' hm' => ?_) h1
  have h4 := hok.2
  rw [hi'] at h4
  simp only [Bool.or_eq_true, Nat.ble_eq] at h4
  rcases h4 with h4 | h4
  .rw [rn i' h4] at hm'
   have := hlt _ _ hm'
   omega
  obtain ⟨j', hj'⟩ := Option.isSome_iff_exists.1 h4
  rw [rg i' j' hj'] at hm'
  rw [μg i' j' hj']; exact hm'
 have hμ0 : ∀ id, A'.μ0 id ≠ none -> id < m := by
  intro id hid
  cases hm' : μ' id with
  | none => exact absurd hm' hid
  | some loc =>
   obtain ⟨j, hj, _⟩ := μlt id loc hm'
   obtain ⟨o, ho⟩ := gkey id j hj
   exact (key id o ho).1
 refine ((hM A' hμ0).2 μ' w vs hh' hsz hargs).mono ?_
 rintro e w' ⟨u, l, h1, c1, μ'', he, ⟨rfl, rfl, rfl⟩, hh2, hu, -⟩
 let μ3 : Nat -> Option BX := fun id => if id < c then μ id else μ'' (m + (id - c))
 have ext : ∀ i loc, μ' i = some loc -> μ'' i = some loc := fun i loc hi => hh2.ext i loc hi
 have μ3o : ∀ id loc, μ id = some loc -> μ3 id = some loc := fun id loc hm' => by simp only [μ3, if_pos (hlt id loc hm'), hm']
 have name : ∀ i lc, (m <= i \/ ∃ j, AF i gl = some j) -> μ'' i = some lc -> μ3 (B7 gl m c i) = some lc := by
  intro i lc hi hm'
  rcases hi with hi | ⟨j, hj⟩
  .rw [rn i hi]
   simp only [μ3]
   rw [if_neg (by omega), show m + (c + (i - m) - c) = i by omega]
   exact hm'
  obtain ⟨o, ho⟩ := gkey i j hj
  obtain ⟨j', hj', hj2⟩ := hobj' i o ho
  rw [hj] at hj'
  cases hj'
  obtain ⟨loc, g1, _⟩ := hh.obj j _ hj2
  have := ext i loc (by rw [μg i j hj]; exact g1)
  rw [hm'] at this
  cases this
  rw [rg i j hj]
  exact μ3o j _ g1
 have new : ∀ id o, AF id (E6 (B7 gl m c) h1) = some o -> ∃ i o1, AF i h1 = some o1 /\ B7 gl m c i = id /\ o = LX (B7 gl m c) o1 /\ (m <= i \/ ∃ j, AF i gl = some j) /\ SJ gl m o1 = true := by
  intro id o hl
  obtain ⟨i, o1, g1, g2, g3⟩ := Ob hl
  obtain ⟨g4, g5⟩ := hH1 _ (Du g1)
  exact ⟨i, o1, g1, g2, g3, g4.imp (fun x => x) fun h5 => Option.isSome_iff_exists.1 h5, g5⟩
 have cases' : ∀ id o, AF id (E6 (B7 gl m c) h1 ++ B6 (gl.map (·.2)) h) = some o -> (∃ i o1, AF i h1 = some o1 /\ B7 gl m c i = id /\ o = LX (B7 gl m c) o1 /\ (m <= i \/ ∃ j, AF i gl = some j) /\ SJ gl m o1 = true) \/ (id ∉ gl.map (·.2) /\ AF id h = some o) := by
  intro id o hl
  rcases SL hl with hl | hl
  .exact .inl (new id o hl)
  exact .inr (F8 hl)
 have other : ∀ id o loc, id ∉ gl.map (·.2) -> AF id h = some o -> μ id = some loc -> loc.nil = false -> ¬ B3 μ' H loc.b := by
  intro id o loc hid hl hm' hn hmine
  obtain ⟨_, i, j, o', loc', g1, g2, g3, g4, g5, g6⟩ := mine _ hmine
  have := hh.inj _ _ _ _ _ _ g3 hl g4 hm' g5 hn g6
  subst this
  exact hid (List.mem_map.2 ⟨(i, j), Du g2, rfl⟩)
 have hkept : BT (Ad A μ h) w w' := ⟨hh2.size, fun b hb hO => hh2.block b hb fun hm' => hO (.inr (mine b hm').1)⟩
 have nmine : ∀ b, B3 μ3 (E6 (B7 gl m c) h1 ++ B6 (gl.map (·.2)) h) b -> B3 μ'' h1 b \/ (Ad A μ h b /\ ¬ B3 μ' H b) := by
  rintro b ⟨id, o, loc, g1, g2, g3, g4⟩
  rcases cases' id o g1 with ⟨i, o1, k1, k2, k3, k4, k5⟩ | ⟨k1, k2⟩
  .left
   obtain ⟨lc, q1, _⟩ := hh2.obj i o1 k1
   have := name i lc k4 q1
   rw [k2, g2] at this
   cases this
   exact ⟨i, o1, loc, k1, q1, g3, g4⟩
  right
  obtain ⟨lc, q1, _⟩ := hh.obj id o k2
  have := μ3o id lc q1
  rw [g2] at this
  cases this
  rw [<- g4]
  exact ⟨.inr ⟨id, o, loc, k2, q1, g3, rfl⟩, other id o loc k1 k2 q1 g3⟩
 have own3 : ∀ b, Ad A μ3 (E6 (B7 gl m c) h1 ++ B6 (gl.map (·.2)) h) b -> Ad A' μ'' h1 b := by
  rintro b (hb | hb)
  .refine .inl ⟨.inl hb, fun hm' => ?_⟩
   obtain ⟨_, i, j, o', loc', g1, g2, g3, g4, g5, rfl⟩ := mine _ hm'
   exact (hh.base j _ loc' g3 g4 g5).2.1 hb
  rcases nmine b hb with hb | hb
  .exact .inr hb
  exact .inl hb
 have own4 : ∀ b, b < w.heap.size -> Ad A μ3 (E6 (B7 gl m c) h1 ++ B6 (gl.map (·.2)) h) b -> Ad A μ h b := by
  rintro b hlt' (hb | hb)
  .exact .inl hb
  rcases nmine b hb with ⟨i, o1, loc, k1, k2, k3, rfl⟩ | hb
  .rcases (hh2.base i o1 loc k1 k2 k3).2.2 with hx | hx
   .exact absurd hx (by show ¬ w.heap.size <= _; omega)
   exact .inr (mine _ hx).1
  exact hb.1
 have hu2 : AZ (Ad A μ3 (E6 (B7 gl m c) h1 ++ B6 (gl.map (·.2)) h)) μ'' w' u l := hu.mono (BT.refl _ _) (fun b _ hb => own3 b hb) (fun _ _ h => h)
 have one : ∀ v x, LY gl m x = true -> AZ (Ad A μ3 (E6 (B7 gl m c) h1 ++ B6 (gl.map (·.2)) h)) μ'' w' v x -> AZ (Ad A μ3 (E6 (B7 gl m c) h1 ++ B6 (gl.map (·.2)) h)) μ3 w' v (Ki (B7 gl m c) x) := by
  intro v x hx hv
  simp only [LY, Bool.and_eq_true] at hx
  refine SM hx.1 (fun i' lc' hi' hm' => name i' lc' ?_ hm') hv
  have h4 := hx.2
  rw [hi'] at h4
  simp only [Bool.or_eq_true, Nat.ble_eq] at h4
  exact h4.imp (fun x => x) fun h5 => Option.isSome_iff_exists.1 h5
 refine ⟨u, μ3, he, ⟨?_, ?_, ?_, ?_, Nat.le_trans hh.size hh2.size, ?_, hh2.os.trans hh.os, hh2.tape.trans hh.tape, hh2.output.trans hh.output, fun id loc hm' => μ3o id loc (hh.ext id loc hm')⟩, ?_, fun v x hv => hv.mono hkept own4 μ3o⟩
 .intro id o hl
  rcases cases' id o hl with ⟨i, o1, k1, k2, rfl, k4, k5⟩ | ⟨k1, k2⟩
  .obtain ⟨lc, q1, q2⟩ := hh2.obj i o1 k1
   refine ⟨lc, by rw [<- k2]; exact name i lc k4 q1, ?_⟩
   have q3 : Df (Ad A μ3 (E6 (B7 gl m c) h1 ++ B6 (gl.map (·.2)) h)) μ'' w' lc o1 := q2.mono (BT.refl _ _) (fun b _ hb => own3 b hb) (fun _ _ h => h) (fun _ => rfl)
   exact WS k5 (fun i' lc' hi' hm' => name i' lc' hi' hm') q3
  obtain ⟨lc, q1, q2⟩ := hh.obj id o k2
  refine ⟨lc, μ3o id lc q1, q2.mono hkept own4 μ3o fun hn => ?_⟩
  exact hh2.block _ (hh.base id o lc k2 q1 hn).1 (other id o lc k1 k2 q1 hn)
 .intro id id' o o' loc loc' g1 g2 m1' m2' n1 n2 hb
  rcases cases' id o g1 with ⟨i, o1, k1, k2, k3, k4, k5⟩ | ⟨k1, k2⟩
  .obtain ⟨lc, q1, _⟩ := hh2.obj i o1 k1
   have e1 := name i lc k4 q1
   rw [k2, m1'] at e1
   cases e1
   rcases cases' id' o' g2 with ⟨i', o1', k1', k2', k3', k4', k5'⟩ | ⟨k1', k2'⟩
   .obtain ⟨lc', q1', _⟩ := hh2.obj i' o1' k1'
    have e1' := name i' lc' k4' q1'
    rw [k2', m2'] at e1'
    cases e1'
    have := hh2.inj _ _ _ _ _ _ k1 k1' q1 q1' n1 n2 hb
    rw [<- k2, <- k2', this]
   exfalso
   obtain ⟨lc', q1', _⟩ := hh.obj id' o' k2'
   have e1' := μ3o id' lc' q1'
   rw [m2'] at e1'
   cases e1'
   have hno := other id' o' loc' k1' k2' q1' n2
   have hsz' := (hh.base id' o' loc' k2' q1' n2).1
   rcases (hh2.base i o1 loc k1 q1 n1).2.2 with hx | hx
   .have : w.heap.size <= loc.b := hx
    omega
   rw [hb] at hx; exact hno hx
  obtain ⟨lc, q1, _⟩ := hh.obj id o k2
  have e1 := μ3o id lc q1
  rw [m1'] at e1
  cases e1
  rcases cases' id' o' g2 with ⟨i', o1', k1', k2', k3', k4', k5'⟩ | ⟨k1', k2'⟩
  .exfalso
   obtain ⟨lc', q1', _⟩ := hh2.obj i' o1' k1'
   have e1' := name i' lc' k4' q1'
   rw [k2', m2'] at e1'
   cases e1'
   have hno := other id o loc k1 k2 q1 n1
   have hsz' := (hh.base id o loc k2 q1 n1).1
   rcases (hh2.base i' o1' loc' k1' q1' n2).2.2 with hx | hx
   .have : w.heap.size <= loc'.b := hx
    omega
   rw [<- hb] at hx; exact hno hx
  obtain ⟨lc', q1', _⟩ := hh.obj id' o' k2'
  have e1' := μ3o id' lc' q1'
  rw [m2'] at e1'
  cases e1'
  exact hh.inj _ _ _ _ _ _ k2 k2' q1 q1' n1 n2 hb
 .rintro id ⟨hid, hid2⟩
  simp only [μ3]
  by_cases hc : id < c
  .rw [if_pos hc]; exact hh.fresh id hid
  rw [if_neg hc]
  exact hh2.fresh _ (by simp only [Fr]; omega)
 .intro id o loc g1 g2 g3
  rcases cases' id o g1 with ⟨i, o1, k1, k2, k3, k4, k5⟩ | ⟨k1, k2⟩
  .obtain ⟨lc, q1, _⟩ := hh2.obj i o1 k1
   have e1 := name i lc k4 q1
   rw [k2, g2] at e1
   cases e1
   obtain ⟨b1, b2, b3⟩ := hh2.base i o1 loc k1 q1 g3
   refine ⟨b1, fun hO => b2 ⟨.inl hO, fun hm' => ?_⟩, ?_⟩
   .obtain ⟨_, i', j', o', loc', g1', g2', g3', g4', g5', g6'⟩ := mine _ hm'
    rw [<- g6'] at hO
    exact (hh.base j' _ loc' g3' g4' g5').2.1 hO
   rcases b3 with hx | hx
   .exact .inl (Nat.le_trans hh.size hx)
   obtain ⟨_, i', j', o', loc', g1', g2', g3', g4', g5', g6'⟩ := mine _ hx
   rw [<- g6']
   exact (hh.base j' _ loc' g3' g4' g5').2.2
  obtain ⟨lc, q1, _⟩ := hh.obj id o k2
  have e1 := μ3o id lc q1
  rw [g2] at e1
  cases e1
  obtain ⟨b1, b2, b3⟩ := hh.base id o loc k2 q1 g3
  exact ⟨Nat.lt_of_lt_of_le b1 hh2.size, b2, b3⟩
 .intro b hb hnf
  have hnm : ¬ B3 μ' H b := by
   intro hm'
   obtain ⟨_, i', j', o', loc', g1', g2', g3', g4', g5', g6'⟩ := mine _ hm'
   have := (hh.base j' _ loc' g3' g4' g5').2.2
   rw [g6'] at this
   rcases this with hx | hx
   .omega
   exact hnf hx
  rw [hh2.block b (Nat.lt_of_lt_of_le hb hh.size) hnm]
  exact hh.block b hb hnf
 have oneA : ∀ v x, YV gl m x = true -> AZ (Ad A μ3 (E6 (B7 gl m c) h1 ++ B6 (gl.map (·.2)) h)) μ'' w' v x -> AZ (Ad A μ3 (E6 (B7 gl m c) h1 ++ B6 (gl.map (·.2)) h)) μ3 w' v (YU (B7 gl m c) x) := by
  intro v x hx hv
  cases x with
  | agg xs =>
   cases hv with
   | agg vs' _ hsz' hxs =>
    refine .agg vs' _ (by simpa using hsz') fun i v x hv hx' => ?_
    rw [List.getElem?_map] at hx'
    cases hc : xs[i]? with
    | none => rw [hc] at hx'; cases hx'
    | some y =>
     rw [hc] at hx'
     cases hx'
     exact one v y (List.all_eq_true.1 hx y (List.mem_of_getElem? hc)) (hxs i v y hv hc)
  | p d => exact one v _ hx hv
  | lsl id sz off len => exact one v _ hx hv
  | lpb id off => exact one v _ hx hv
  | lpe id i off => exact one v _ hx hv
  | lmap id => exact one v _ hx hv
  | und => exact one v _ hx hv
  | any => exact one v _ hx hv
  | tup l => exact one v _ hx hv
  | fn f l => exact one v _ hx hv
 cases l with
 | tup xs =>
  cases hu2 with
  | tup vs' _ hsz' hxs =>
   refine .tup vs' _ (by simpa using hsz') fun i v x hv hx => ?_
   rw [List.getElem?_map] at hx
   cases hc : xs[i]? with
   | none => rw [hc] at hx; cases hx
   | some y =>
    rw [hc] at hx
    cases hx
    exact oneA v y (List.all_eq_true.1 hL y (List.mem_of_getElem? hc)) (hxs i v y hv hc)
 | p d => exact oneA u (.p d) hL hu2
 | lsl id sz off len => exact oneA u (.lsl id sz off len) hL hu2
 | lpb id off => exact oneA u (.lpb id off) hL hu2
 | lpe id i off => exact oneA u (.lpe id i off) hL hu2
 | lmap id => exact oneA u (.lmap id) hL hu2
 | und => exact oneA u .und hL hu2
 | any => exact oneA u .any hL hu2
 | agg l => exact oneA u (.agg l) hL hu2
 | fn f l => exact oneA u (.fn f l) hL hu2
theorem Td {k : Nat} {H H1 : AN} {m m1 : Nat} {ls : List LV} {L : LV} (hM : ∀ A : BF, (∀ id, A.μ0 id ≠ none -> id < m) -> C2 P A H m k ls (fun l h c => l = L /\ h = H1 /\ c = m1))
  (gl : List (Nat × Nat)) {A : BF} {h : AN} {c : Nat} {K : LV -> AN -> Nat -> Prop} (hB : P9 gl m m1 H H1 = true) (hobj : KN (B7 gl m c) h H) (hls : ls.all (LY gl m) = true) (hL : VO gl m L = true)
  (hK : K (SK (B7 gl m c) L) (E6 (B7 gl m c) H1 ++ B6 (gl.map (·.2)) h) (c + (m1 - m))) : C2 P A h c k (ls.map (Ki (B7 gl m c))) K := by
 refine ⟨(hM ⟨default, fun _ => False, fun _ => False, fun _ => none, fun _ h => h.elim⟩ (fun _ h => absurd rfl h)).1, fun μ w vs hh hsz hr => ?_⟩
 refine (Tf hM gl (fun q hq => by simp only [Fr]; omega) hB hobj hls hL hh (by simpa using hsz) hr).mono ?_
 rintro e w' ⟨u, μ', he, g, hu, hk⟩
 exact ⟨u, _, _, _, μ', he, hK, ⟨g.obj, g.inj, fun id hid => g.fresh id (by simp only [Fr] at hid ⊢; omega), g.base, g.size, g.block, g.os, g.tape, g.output, g.ext⟩, hu, hk⟩
theorem YW {k : Nat} {H H1 : AN} {m : Nat} {ls : List LV} {L : LV} (hM : ∀ A : BF, (∀ id, A.μ0 id ≠ none -> id < m) -> C2 P A H m k ls (fun l h c => l = L /\ h = H1 /\ c = m))
  (gl : List (Nat × Nat)) {h h' : AN} {ctr : Nat} {args : List LV} {l : LV} (hB : P9 gl m m H H1 = true) (hobj : ∀ c, KN (B7 gl m c) h H) (hls : ls.all (LY gl m) = true) (hL : VO gl m L = true)
  (ha : ∀ c, ls.map (Ki (B7 gl m c)) = args) (hl : ∀ c, SK (B7 gl m c) L = l) (hh' : ∀ c, E6 (B7 gl m c) H1 ++ B6 (gl.map (·.2)) h = h') : Mp P h ctr k args l h' := by
 refine ⟨(hM ⟨default, fun _ => False, fun _ => False, fun _ => none, fun _ h => h.elim⟩ (fun _ h => absurd rfl h)).1, fun A F μ w vs hh hc hF hsz hr => ?_⟩
 obtain ⟨c, hF⟩ := hF
 rw [<- ha c] at hsz hr
 have := Tf hM gl hF hB (hobj c) hls hL hh (by simpa using hsz) hr
 rw [hh' c, hl c] at this
 refine this.mono ?_
 rintro e w' ⟨u, μ', he, g, hu, hk⟩
 exact ⟨u, μ', he, ⟨g.obj, g.inj, fun id hid => g.fresh id ⟨hid.1, by omega⟩, g.base, g.size, g.block, g.os, g.tape, g.output, g.ext⟩, hu, hk⟩
end
def Gu (P : Program) (k : Nat) (H : AN) (c : Nat) (args : List LV) (L : LV) (H1 : AN) (C : Nat) : Prop :=
 ∀ A : BF, (∀ id, A.μ0 id ≠ none -> id < c) -> C2 P A H c k args fun l h c' => l = L /\ h = H1 /\ c' = C
section
variable {P : Program} {AB : Ax}
theorem SF (hE : Ay P AB) {k : Nat} {fn : Func} {cd : Code} (hfun : P.funcs[k]? = some fn) (nt' : Nat) (rs : List ResultVar) (sl' : List (Nat × LV)) (hb : fn.body = some cd) (hn : (fn.name == "runtime.NumGoroutine") = false) (hnt : Nat.beq fn.ntmps nt' = true) (hrs : fn.results.toList = rs)
  {H H1 : AN} {c C : Nat} {ls : List LV} {L : LV} (hlen : Nat.ble ls.length nt' = true) (hsl : Ke 0 ls = sl')
  (body : ∀ A : BF, (∀ id, A.μ0 id ≠ none -> id < c) -> B2 P A cd (IP AB.tt rs A L H1 C) ⟨nt', sl', H, c⟩) : Gu P k H c ls L H1 C := by
 intro A hA
 subst hsl
 refine Rz hE hfun hb hn nt' (Nat.eq_of_beq_eq_true hnt) rs hrs (Nat.le_of_ble_eq_true hlen) fun A' hA' => ?_
 refine GB (TW (body A' hA')) fun e s q => ?_
 have fin : (Hx AB.tt rs s = some L /\ s.heap = H1 /\ s.ctr = C) -> ∃ l, Hx AB.tt rs s = some l /\ l = L /\ s.heap = H1 /\ s.ctr = C := fun ⟨q1, q2, q3⟩ => ⟨_, q1, rfl, q2, q3⟩
 cases e <;> first | exact fin q | exact q.elim
section
variable {A : BF} {f : St -> Prop} {hf : Hq f} {nt : Nat} {sl : List (Nat × LV)} {h : AN} {c : Nat}
theorem Cw {k : Nat} {H H1 : AN} {m m1 : Nat} {ls : List LV} {L L' : LV} (hM : Gu P k H m ls L H1 m1) (gl : List (Nat × Nat)) {h' : AN} {c' : Nat} {dst : Option Tmp} {fo : Operand} {args : Array Operand} {ts : Array TypeId}
  (hB : P9 gl m m1 H H1 = true) (hobj : KN (B7 gl m c) h H) (hls : ls.all (LY gl m) = true) (hfn : BI nt sl fo = .fn k []) (hl : DY nt sl args.toList some = some (ls.map (Ki (B7 gl m c))))
  (hh : E6 (B7 gl m c) H1 ++ B6 (gl.map (·.2)) h = h') (hc : c + (m1 - m) = c') (hL : VO gl m L = true) (hL' : SK (B7 gl m c) L = L') (kk : f (match dst with | some d => ⟨nt, (d, L') :: sl, h', c'⟩ | none => ⟨nt, sl, h', c'⟩)) :
  BH P A AB ⟨nt, sl, h, c⟩ dst (.call ⟨.value fo, args, ts⟩) ⟨f, hf⟩ := by
 rw [BO (h := h) (c := c)] at hfn
 show LH _ _
 rw [hfn]
 show Ht P A h c k (args.toList.map _ ++ []) _
 rw [En hl, List.append_nil]
 refine Td hM gl hB hobj hls hL ?_
 rw [hh, hc, hL']
 show f (St.go ⟨nt, sl, h, c⟩ dst L' h' c')
 rw [L1]
 cases dst <;> exact kk
theorem Mc {α : Type} {id : Nat} : ∀ {a b : List (Nat × α)}, AF id a = none -> AF id (a ++ b) = AF id b
 | [], _, _ => rfl
 | (k, v) :: a, b, h => by
  unfold AF at h
  split at h
  .cases h
  rename_i e
  show (if id = k then some v else AF id (a ++ b)) = _
  rw [if_neg e]
  exact Mc h
theorem Q2 {l : List Nat} : ∀ {h : AN} {id : Nat}, id ∉ l -> AF id (B6 l h) = AF id h := by
 induction l with
 | nil => intro h id _; rfl
 | cons i l ih =>
  intro h id hi
  simp only [List.mem_cons, not_or] at hi
  show AF id (B6 l (Dy i h)) = _
  rw [ih hi.2, DL hi.1]
def Zc {β : Type} (gl : List (Nat × Nat)) (v : LV) (k : LV -> Option β) : Option β := match v with
 | .lsl id sz off len => (match AF id gl with | some j => k (.lsl j sz off len) | none => none)
 | .lpb id off => (match AF id gl with | some j => k (.lpb j off) | none => none)
 | .lpe id i off => (match AF id gl with | some j => k (.lpe j i off) | none => none)
 | .lmap id => (match AF id gl with | some j => k (.lmap j) | none => none)
 | x => k x
def WT {β : Type} (gl : List (Nat × Nat)) : List LV -> (List LV -> Option β) -> Option β
 | [], k => k []
 | v :: r, k => Zc gl v fun v' => WT gl r fun r' => k (v' :: r')
def Zd {β : Type} (gl : List (Nat × Nat)) (o : A1) (k : A1 -> Option β) : Option β := match o with
 | .box cs => WT gl cs fun cs' => k (.box cs')
 | o => k o
def XC {β : Type} (gl : List (Nat × Nat)) : AN -> (AN -> Option β) -> Option β
 | [], k => k []
 | (i, o) :: h, k => match AF i gl with
  | some j => Zd gl o fun o' => XC gl h fun r => k ((j, o') :: r)
  | none => none
def RQ {β : Type} : List (Nat × Nat) -> AN -> (AN -> Option β) -> Option β
 | [], h, k => k h
 | p :: l, h, k => OU p.2 h fun h2 => RQ l h2 k
def RR {β : Type} : AN -> AN -> (AN -> Option β) -> Option β
 | [], b, k => k b
 | x :: a, b, k => RR a b fun r => k (x :: r)
theorem YX {β : Type} {gl : List (Nat × Nat)} {m c : Nat} {v : LV} {k : LV -> Option β} {z : β} (h : Zc gl v k = some z) : k (Ki (B7 gl m c) v) = some z := by
 have key : ∀ (i : Nat) (f : Nat -> LV), (match AF i gl with | some j => k (f j) | none => none) = some z -> k (f (B7 gl m c i)) = some z := fun i f h => by
  unfold B7
  cases e : AF i gl with
  | none => rw [e] at h; cases h
  | some j => rw [e] at h; exact h
 cases v with
 | lsl id sz off len => exact key id (fun j => .lsl j sz off len) h
 | lpb id off => exact key id (fun j => .lpb j off) h
 | lpe id i off => exact key id (fun j => .lpe j i off) h
 | lmap id => exact key id (fun j => .lmap j) h
 | p d => exact h
 | und => exact h
 | any => exact h
 | agg l => exact h
 | tup l => exact h
 | fn f l => exact h
theorem Tg {β : Type} {gl : List (Nat × Nat)} {m c : Nat} {z : β} : ∀ {l : List LV} {k : List LV -> Option β}, WT gl l k = some z -> k (l.map (Ki (B7 gl m c))) = some z
 | [], _, h => h
 | v :: r, k, h => Tg (l := r) (k := fun r' => k (Ki (B7 gl m c) v :: r')) (YX (m := m) (c := c) h)
theorem YY {β : Type} {gl : List (Nat × Nat)} {m c : Nat} {o : A1} {k : A1 -> Option β} {z : β} (h : Zd gl o k = some z) : k (LX (B7 gl m c) o) = some z := by
 cases o <;> first | exact h | exact Tg (m := m) (c := c) h
theorem VP {β : Type} {gl : List (Nat × Nat)} {m c : Nat} {z : β} : ∀ {l : AN} {k : AN -> Option β}, XC gl l k = some z -> k (E6 (B7 gl m c) l) = some z /\ ∀ p ∈ l, (AF p.1 gl).isSome = true
 | [], _, h => ⟨h, fun _ hp => by simp at hp⟩
 | (i, o) :: r, k, h => by
  unfold XC at h
  split at h
  .rename_i j e
   have h1 := YY (m := m) (c := c) h
   obtain ⟨h2, h3⟩ := VP (l := r) (k := fun r => k ((j, LX (B7 gl m c) o) :: r)) h1
   refine ⟨?_, fun p hp => ?_⟩
   .have : B7 gl m c i = j := by unfold B7; rw [e]
    simp only [E6, this]; exact h2
   rcases List.mem_cons.1 hp with rfl | hp
   .simp only [e, Option.isSome_some]
   exact h3 p hp
  cases h
theorem SN {β : Type} : ∀ {l : List (Nat × Nat)} {h : AN} {k : AN -> Option β}, RQ l h k = k (B6 (l.map (·.2)) h)
 | [], _, _ => rfl
 | p :: l, h, k => by
  simp only [RQ, LJ, SN, List.map_cons, B6]
theorem SO {β : Type} : ∀ {a b : AN} {k : AN -> Option β}, RR a b k = k (a ++ b)
 | [], _, _ => rfl
 | x :: a, b, k => by simp only [RR, SO, List.cons_append]
def YZ (gl : List (Nat × Nat)) (H1 h : AN) : Option AN := XC gl H1 fun a => RQ gl h fun b => RR a b some
theorem QA {gl : List (Nat × Nat)} {H1 h h' : AN} (hu : YZ gl H1 h = some h') (m c : Nat) : E6 (B7 gl m c) H1 ++ B6 (gl.map (·.2)) h = h' /\ ∀ p ∈ H1, (AF p.1 gl).isSome = true := by
 obtain ⟨h1, h2⟩ := VP (m := m) (c := c) hu
 rw [SN, SO] at h1
 exact ⟨Option.some.inj h1, h2⟩
theorem BE {k : Nat} {H H1 : AN} {m : Nat} {ls args' : List LV} {L L' : LV} (hM : Gu P k H m ls L H1 m) (gl : List (Nat × Nat)) {h' : AN} {dst : Option Tmp} {fo : Operand} {args : Array Operand} {ts : Array TypeId}
  (hB : P9 gl m m H H1 = true) (hobj : ∀ c, KN (B7 gl m c) h H) (hls : ls.all (LY gl m) = true) (hfn : (Cs fo, BI nt sl fo) = (true, .fn k [])) (hl : DY nt sl args.toList some = some args') (ha : ∀ c, ls.map (Ki (B7 gl m c)) = args')
  (hu : YZ gl H1 h = some h') (hL : VO gl m L = true) (hL' : SK (B7 gl m 0) L = L') (hLc : ∀ c, SK (B7 gl m c) L = SK (B7 gl m 0) L) (hk1 : (h'.all fun p => (AF p.1 h).isSome) = true)
  (hcm : (gl.all fun p => match AB.calm with | none => true | some b => b p.2) = true) (kk : f (match dst with | some d => ⟨nt, (d, L') :: sl, h', c + 1⟩ | none => ⟨nt, sl, h', c + 1⟩)) :
  Hv P A AB ⟨nt, sl, h, c⟩ dst (.call ⟨.value fo, args, ts⟩) ⟨f, hf⟩ := by
 obtain ⟨hdl, hfn⟩ := Prod.mk.inj hfn
 rw [BO (h := h) (c := c)] at hfn
 show (if Cs fo = true then _ else _)
 rw [if_pos hdl]
 refine ⟨L', h', ⟨fo, k, [], rfl, hfn, ?_, fun q hq hn => ?_, fun b hb id cells hi hbi hx => ?_⟩, ?_⟩
 .show Mp P h c k (args.toList.map _ ++ []) L' h'
  rw [En hl, List.append_nil]
  exact YW hM gl hB hobj hls hL ha (fun c => (hLc c).trans hL') (fun c => (QA hu m c).1)
 .cases hx : AF q h' with
  | none => rfl
  | some o =>
   have := List.all_eq_true.1 hk1 _ (Du hx)
   simp only at this
   have hn' : AF q h = none := hn
   rw [hn'] at this; cases this
 .have hnot : id ∉ gl.map (·.2) := fun hm => by
   obtain ⟨p, hp, rfl⟩ := List.mem_map.1 hm
   have := List.all_eq_true.1 hcm p hp
   rw [hb] at this
   simp only at this
   rw [this] at hbi; cases hbi
  rw [<- (QA hu m 0).1]
  have hno : AF id (E6 (B7 gl m 0) H1) = none := by
   cases hx2 : AF id (E6 (B7 gl m 0) H1) with
   | none => rfl
   | some o =>
    obtain ⟨i, o1, g1, g2, _⟩ := Ob hx2
    obtain ⟨j, hj⟩ := Option.isSome_iff_exists.1 ((QA hu m 0).2 _ (Du g1))
    refine absurd (List.mem_map.2 ⟨(i, j), Du hj, ?_⟩) hnot
    rw [<- g2]; unfold B7; rw [hj]
  rw [Mc hno, Q2 hnot]
  exact hx
 show f (St.go ⟨nt, sl, h, c⟩ dst L' h' (c + 1))
 rw [L1]
 cases dst <;> exact kk
end
end
end Go.E
/- Loops over maps, in whatever order (ID); iterators. No condition. -/
namespace Go.E
open Go Go.RowKit
section
variable {σ α Ans : Type}
def D4 (left : σ -> List α) (z : σ -> Option (σ ⊕ Ans)) (g : σ -> α -> List α -> Option (σ ⊕ Ans)) : Nat -> σ -> Ans -> Prop
 | 0, _, _ => False
 | n + 1, s, r => (left s = [] -> z s = some (.inr r) \/ ∃ s', z s = some (.inl s') /\ D4 left z g n s' r) /\
   ∀ (j : Nat) y, (left s)[j]? = some y -> g s y ((left s).eraseIdx j) = some (.inr r) \/ ∃ s', g s y ((left s).eraseIdx j) = some (.inl s') /\ D4 left z g n s' r
open Classical in
noncomputable def ID (left : σ -> List α) (z : σ -> Option (σ ⊕ Ans)) (g : σ -> α -> List α -> Option (σ ⊕ Ans)) (s : σ) : Option Ans :=
 if h : ∃ r, ∃ n, D4 left z g n s r then some (Classical.choose h) else none
theorem UR {left : σ -> List α} {z : σ -> Option (σ ⊕ Ans)} {g : σ -> α -> List α -> Option (σ ⊕ Ans)} {s : σ} {r : Ans} (h : ID left z g s = some r) : ∃ n, D4 left z g n s r := by
 unfold ID at h
 split at h
 .rename_i hx
  cases h
  exact Classical.choose_spec hx
 cases h
theorem D4.uniq {left : σ -> List α} {z : σ -> Option (σ ⊕ Ans)} {g : σ -> α -> List α -> Option (σ ⊕ Ans)} : ∀ {n m : Nat} {s : σ} {r r' : Ans}, D4 left z g n s r -> D4 left z g m s r' -> r = r'
 | 0, _, _, _, _, h, _ => h.elim
 | _ + 1, 0, _, _, _, _, h => h.elim
 | n + 1, m + 1, s, r, r', h1, h2 => by
  have fin : ∀ o : Option (σ ⊕ Ans), (o = some (.inr r) \/ ∃ s', o = some (.inl s') /\ D4 left z g n s' r) -> (o = some (.inr r') \/ ∃ s', o = some (.inl s') /\ D4 left z g m s' r') -> r = r' := by
   rintro o (e1 | ⟨s1, e1, a1⟩) (e2 | ⟨s2, e2, a2⟩)
   .rw [e1] at e2; cases e2; rfl
   .rw [e1] at e2; cases e2
   .rw [e1] at e2; cases e2
   rw [e1] at e2; cases e2; exact a1.uniq a2
  cases hl : left s with
  | nil => exact fin _ (h1.1 hl) (h2.1 hl)
  | cons y l =>
   have hy : (left s)[0]? = some y := by rw [hl]; rfl
   exact fin _ (h1.2 0 y hy) (h2.2 0 y hy)
theorem WQ {left : σ -> List α} {z : σ -> Option (σ ⊕ Ans)} {g : σ -> α -> List α -> Option (σ ⊕ Ans)} {s : σ} {r : Ans} {n : Nat} (h : D4 left z g n s r) : ID left z g s = some r := by
 have hx : ∃ r, ∃ n, D4 left z g n s r := ⟨r, n, h⟩
 unfold ID
 rw [dif_pos hx]
 obtain ⟨m, hm⟩ := Classical.choose_spec hx
 rw [hm.uniq h]
theorem Kh {left : σ -> List α} {z : σ -> Option (σ ⊕ Ans)} {g : σ -> α -> List α -> Option (σ ⊕ Ans)} (I : σ -> Prop) {r : Ans}
  (h0 : ∀ s, I s -> left s = [] -> z s = some (.inr r)) (h1 : ∀ s (j : Nat) y, I s -> (left s)[j]? = some y -> g s y ((left s).eraseIdx j) = some (.inr r) \/ ∃ s', g s y ((left s).eraseIdx j) = some (.inl s') /\ left s' = (left s).eraseIdx j /\ I s') {s : σ} (hs : I s) : ID left z g s = some r := by
 have key : ∀ (k : Nat) (s : σ), (left s).length = k -> I s -> D4 left z g (k + 1) s r := by
  intro k
  induction k with
  | zero =>
   intro s hk hs
   have hl : left s = [] := List.length_eq_zero_iff.1 hk
   exact ⟨fun _ => .inl (h0 s hs hl), fun j y hy => by rw [hl] at hy; simp at hy⟩
  | succ k ih =>
   intro s hk hs
   refine ⟨fun hl => by rw [hl] at hk; simp at hk, fun j y hy => ?_⟩
   rcases h1 s j y hs hy with h | ⟨s', e1, e2, e3⟩
   .exact .inl h
   have hj : j < (left s).length := (List.getElem?_eq_some_iff.1 hy).1
   exact .inr ⟨s', e1, ih s' (by rw [e2, List.length_eraseIdx, if_pos hj]; omega) e3⟩
 exact WQ (key _ s rfl hs)
end
section
variable {P : Program} {A : BF} {AB : Ax} {st : St} {σ α Ans : Type}
def NX (A : BF) (l : List α) (I0 : St) (I1 : α -> List α -> St) (e : Exit) (st : St) : Prop :=
 e = .normal /\ ((l = [] /\ A6 A st I0) \/ ∃ (j : Nat) (y : α), l[j]? = some y /\ A6 A st (I1 y (l.eraseIdx j)))
theorem W8 {l : List α} {I0 : St} {I1 : α -> List α -> St} (hl : l = []) (w : A6 A st I0) : NX A l I0 I1 .normal st := ⟨rfl, .inl ⟨hl, w⟩⟩
theorem W9 {l : List α} {I0 : St} {I1 : α -> List α -> St} {j : Nat} {y : α} (hl : l[j]? = some y) (w : A6 A st (I1 y (l.eraseIdx j))) : NX A l I0 I1 .normal st := ⟨rfl, .inr ⟨j, y, hl, w⟩⟩
theorem W7 {c1 c2 : Code} {Q : Ans -> Exit -> St -> Prop} {a : Ans} (I : σ -> St) (I0 : σ -> St) (I1 : σ -> α -> List α -> St) {left : σ -> List α} {z : σ -> Option (σ ⊕ Ans)} {g : σ -> α -> List α -> Option (σ ⊕ Ans)} {s0 : σ}
  (h : ID left z g s0 = some a) (hw : A6 A st (I s0)) (hn : ∀ s, B2 P A c1 (NX A (left s) (I0 s) (I1 s)) (I s))
  (h0 : ∀ s b, z s = some b -> B2 P A c2 (LP A I Q b) (I0 s)) (h1 : ∀ s y l b, g s y l = some b -> B2 P A c2 (LP A I Q b) (I1 s y l)) : B2 P A (.loop (.seq c1 c2)) (Q a) st := by
 obtain ⟨n, hn'⟩ := UR h
 refine Rd (ι := Nat × σ) (fun i s => D4 left z g i.1 i.2 a /\ A6 A s (I i.2)) (fun i => i.1) (n, s0) ⟨hn', hw⟩ ?_
 rintro ⟨n, s⟩ st' ⟨hi, hws⟩
 refine GE hws ?_
 cases n with
 | zero => exact hi.elim
 | succ n =>
  have fin : ∀ (o : Option (σ ⊕ Ans)) (S : St), (∀ b, o = some b -> B2 P A c2 (LP A I Q b) S) -> (o = some (.inr a) \/ ∃ s', o = some (.inl s') /\ D4 left z g n s' a) ->
    B2 P A c2 (Nh (fun st' => ∃ i' : Nat × σ, (D4 left z g i'.1 i'.2 a /\ A6 A st' (I i'.2)) /\ i'.1 < n + 1) (Q a)) S := by
   rintro o S hS (e | ⟨s', e, hr⟩)
   .refine GB (hS _ e) fun e st'' q => ?_
    obtain ⟨he, hq⟩ := q
    cases e <;> first | exact absurd rfl he | exact hq
   refine GB (hS _ e) fun e st'' q => ?_
   obtain ⟨he, hw'⟩ := q
   subst he
   exact ⟨(n, s'), ⟨hr, hw'⟩, Nat.lt_succ_self n⟩
  refine AD (GB (hn s) fun e st'' q => ?_)
  obtain ⟨he, q⟩ := q
  subst he
  rcases q with ⟨hl, hw'⟩ | ⟨j, y, hy, hw'⟩
  .exact GE hw' (fin _ _ (h0 s) (hi.1 hl))
  exact GE hw' (fin _ _ (h1 s y _) (hi.2 j y hy))
end
section
variable {P : Program} {A : BF} {AB : Ax} {f : St -> Prop} {hf : Hq f} {nt : Nat} {sl : List (Nat × LV)} {h : AN} {c : Nat} {d : Tmp} {κ υ : Type} {ke : κ -> DV} {ve : υ -> DV}
def US (AB : Ax) (t : Nat) : Bool := match AB.tt t with
 | some ti => match ti.sh with | .mp _ _ => true | _ => false
 | none => false
theorem WR {t : Nat} (h : US AB t = true) : ∃ ti a b, AB.tt t = some ti /\ ti.sh = .mp a b := by
 unfold US at h
 split at h
 .rename_i ti e
  split at h
  .rename_i a b e2; exact ⟨ti, a, b, e, e2⟩
  cases h
 cases h
theorem RN {t : Nat} {x : Operand} {mp : List (κ × υ)} (ht : US AB t = true) (hx : BI nt sl x = .p (.map (AP ke ve mp))) (k : f ⟨nt, (d, .lpb c 0) :: sl, (c, .iter none (AP ke ve mp)) :: h, c + 1⟩) :
  BH P A AB ⟨nt, sl, h, c⟩ (some d) (.range t x) ⟨f, hf⟩ := by
 obtain ⟨ti, a, b, h1, h2⟩ := WR ht
 rw [BO (h := h) (c := c)] at hx
 refine AS.2 ⟨ti, h1, Dv.2 ⟨a, b, h2, ?_⟩⟩
 show V1 _ _
 rw [hx]
 exact k
theorem UT (mp : List (κ × υ)) (j : Nat) : (AP ke ve mp).eraseIdx j = AP ke ve (mp.eraseIdx j) := by
 unfold AP
 rw [List.eraseIdx_eq_take_drop_succ, List.eraseIdx_eq_take_drop_succ, List.map_append, List.map_take, List.map_drop]
theorem YP {cur : Option (DV × DV)} {x : Operand} {id : Nat} {mp : List (κ × υ)} (b : Bool) (hx : BI nt sl x = .lpb id 0) (hl : Ba id h = some (.iter cur (AP ke ve mp))) {H : Option (DV × DV) -> List (κ × υ) -> AN} (hu : ∀ q l, JZ id (.iter q (AP ke ve l)) h some = some (H q l))
  (k0 : mp = [] -> f ⟨nt, (d, .tup [.p (.bool false)]) :: sl, h, c⟩)
  (k1 : ∀ (j : Nat) (y : κ × υ), mp[j]? = some y -> f ⟨nt, (d, .tup [.p (.bool true), .p (ke y.1), .p (ve y.2)]) :: sl, H (if b then some (ke y.1, ve y.2) else none) (mp.eraseIdx j), c⟩) :
  BH P A AB ⟨nt, sl, h, c⟩ (some d) (.next x false) ⟨f, hf⟩ := by
 rw [BO (h := h) (c := c)] at hx
 rw [Be] at hl
 show T8 h (St.eval ⟨nt, sl, h, c⟩ x) (fun _ => f (St.go ⟨nt, sl, h, c⟩ (some d) (.tup [.p (.bool false)]) h c)) (fun id left j p => ∃ cur', (cur' = none \/ cur' = some p) /\ f (St.go ⟨nt, sl, h, c⟩ (some d) (.tup [.p (.bool true), .p p.1, .p p.2]) (Bo id (.iter cur' (left.eraseIdx j)) h) c))
 rw [hx]
 unfold T8
 simp only [hl]
 refine ⟨fun e => ?_, fun j p hp => ?_⟩
 .refine k0 ?_
  cases mp with
  | nil => rfl
  | cons _ _ => simp [AP] at e
 unfold AP at hp
 rw [List.getElem?_map] at hp
 cases hy : mp[j]? with
 | none => rw [hy] at hp; cases hp
 | some y =>
  rw [hy] at hp
  cases hp
  have hu' := hu (if b then some (ke y.1, ve y.2) else none) (mp.eraseIdx j)
  rw [Gg] at hu'
  have hu2 := Option.some.inj hu'
  refine ⟨if b then some (ke y.1, ve y.2) else none, by cases b <;> simp, ?_⟩
  rw [UT, hu2]
  exact k1 j y hy
theorem PT {x : Operand} {id : Nat} {mp : List (κ × υ)} (hx : BI nt sl x = .lpb id 0) (hl : Ba id h = some (.iter none (AP ke ve mp))) {H : κ × υ -> List (κ × υ) -> AN} (hu : ∀ y l, JZ id (.iter (some (ke y.1, ve y.2)) (AP ke ve l)) h some = some (H y l))
  (k0 : mp = [] -> f ⟨nt, (d, .tup [.p (.bool false)]) :: sl, h, c⟩)
  (k1 : ∀ (j : Nat) (y : κ × υ), mp[j]? = some y -> f ⟨nt, (d, .tup [.p (.bool true), .p (ke y.1), .p (ve y.2)]) :: sl, H y (mp.eraseIdx j), c⟩) :
  BH P A AB ⟨nt, sl, h, c⟩ (some d) (.next x false) ⟨f, hf⟩ :=
 YP true hx hl (H := fun q l => (JZ id (.iter q (AP ke ve l)) h some).getD []) (fun q l => by rw [Gg]; rfl) k0 fun j y hy => by
  simp only [if_true, hu, Option.getD_some]; exact k1 j y hy
theorem RO {p : DV × DV} {left : List (DV × DV)} {x : Operand} {id : Nat} (hx : BI nt sl x = .lpb id 0) (hl : Ba id h = some (.iter (some p) left)) {h' : AN} (hu : JZ id (.iter none left) h some = some h')
  (k : f ⟨nt, (d, .tup [.p p.1, .p p.2]) :: sl, h', c⟩) : BH P A AB ⟨nt, sl, h, c⟩ (some d) (.entry x) ⟨f, hf⟩ := by
 rw [BO (h := h) (c := c)] at hx
 rw [Be] at hl
 rw [Gg] at hu
 have hu2 := Option.some.inj hu
 show T9 h (St.eval ⟨nt, sl, h, c⟩ x) (fun id p left => f (St.go ⟨nt, sl, h, c⟩ (some d) (.tup [.p p.1, .p p.2]) (Bo id (.iter none left) h) c))
 rw [hx]
 unfold T9
 simp only [hl]
 rw [hu2]
 exact k
end
end Go.E
/- Drawn regions whose last operation waits for all others: it is run as in the text's order (a call that turns an object, a call that hands back an own row). Condition: the checks, by kernel. -/
namespace Go.E
open Go Go.RowKit
def FT (o : Oper) : Oper := { o with dst := none, op := .move (.tmp 0), guard := none }
def Io : List Oper -> List Oper
 | [] => []
 | [o] => [FT o]
 | o :: o' :: r => o :: Io (o' :: r)
theorem K3 (o : Oper) : ∀ l : List Oper, Io (l ++ [o]) = l ++ [FT o]
 | [] => rfl
 | [a] => rfl
 | a :: b :: l => by
  have := K3 o (b :: l)
  simp only [List.cons_append] at this ⊢
  rw [Io, this]
def PW (md : Region.Mode) (ops : Array Oper) : List Nat -> List Nat -> Bool
 | _, [] => true
 | done, i :: r => (match ops[i]? with
  | some o => o.after.all fun x => !Region.binds md x || done.contains x.on
  | none => false) && PW md ops (i :: done) r
def NI (md : Region.Mode) (ops : Array Oper) : List Nat -> List Nat -> Bool
 | _, [] => true
 | later, j :: r => (later.any fun k => match ops[k]? with
  | some o => o.after.any fun x => Region.binds md x && x.on == j
  | none => false) && NI md ops (j :: later) r
def Tc (ops : Array Oper) (L : Nat) : Bool := ops.all fun o => match o.guard with
 | some (j, _) => !(j == L)
 | none => true
def VM (md : Region.Mode) (ops : Array Oper) (listed : Array Bool) : Prop := ∀ i, listed.getD i false = true -> ∀ o, ops[i]? = some o -> ∀ x ∈ o.after, Region.binds md x = true -> listed.getD x.on false = true
section
variable {P : Program} {A : BF} {AB : Ax} {md : Region.Mode} {ops : Array Oper} {base : Nat} {K : St -> Prop}
theorem PX {listed : Array Bool} (hr : Region.ready md ops listed = []) : ∀ (order done : List Nat), (∀ i ∈ done, listed.getD i false = true) -> (∀ i ∈ order, i < listed.size) -> PW md ops done order = true -> ∀ i ∈ order, listed.getD i false = true
 | [], _, _, _, _, i, hi => by simp at hi
 | k :: r, done, hd, hs, ht, i, hi => by
  simp only [PW, Bool.and_eq_true] at ht
  have hk : listed.getD k false = true := by
   cases hl : listed.getD k false with
   | true => rfl
   | false =>
    exfalso
    cases ho : ops[k]? with
    | none => rw [ho] at ht; simp at ht
    | some o =>
     rw [ho] at ht
     have hks := hs k (by simp)
     have : k ∈ Region.ready md ops listed := mem_ready.2 ⟨by
      simp only [Array.getD_eq_getD_getElem?, Array.getElem?_eq_getElem hks, Option.getD_some] at hl ⊢; exact hl, o, ho, fun x hx hb => by
      have h1 := Array.all_eq_true'.1 ht.1 x hx
      simp only [hb, Bool.not_true, Bool.false_or, List.contains_iff_mem] at h1
      exact hd _ h1⟩
     rw [hr] at this
     cases this
  rcases List.mem_cons.1 hi with rfl | hi
  .exact hk
  exact PX hr r (k :: done) (fun j hj => by
  rcases List.mem_cons.1 hj with rfl | hj
  .exact hk
  exact hd j hj) (fun j hj => hs j (by simp [hj])) ht.2 i hi
theorem NJ {listed : Array Bool} (hc : VM md ops listed) : ∀ (others later : List Nat), (∀ k ∈ later, ∀ o, ops[k]? = some o -> ∀ x ∈ o.after, Region.binds md x = true -> listed.getD x.on false = true) -> NI md ops later others = true -> ∀ j ∈ others, listed.getD j false = true
 | [], _, _, _, j, hj => by simp at hj
 | k :: r, later, hl, h, j, hj => by
  simp only [NI, Bool.and_eq_true, List.any_eq_true] at h
  obtain ⟨⟨m, hm, h1⟩, h2⟩ := h
  have hk : listed.getD k false = true := by
   cases ho : ops[m]? with
   | none => rw [ho] at h1; cases h1
   | some o =>
    rw [ho] at h1
    obtain ⟨x, hx, hx2⟩ := Array.any_eq_true'.1 h1
    simp only [Bool.and_eq_true, beq_iff_eq] at hx2
    rw [<- hx2.2]
    exact hl m hm o ho x hx hx2.1
  rcases List.mem_cons.1 hj with rfl | hj
  .exact hk
  exact NJ hc r (k :: later) (fun i hi => by
   rcases List.mem_cons.1 hi with rfl | hi
   .exact hc _ hk
   exact hl i hi) h2 j hj
theorem VN {Q' : Exit -> Act -> World -> Prop} {listed : Array Bool} (hr : Region.ready md ops listed = []) {a : Act} {w : World} (h : Q' .normal a w) : ∀ fuel, wpAny P md ops Q' fuel listed a w
 | 0 => ⟨hr, h⟩
 | fuel + 1 => ⟨fun _ => h, fun i hi => by rw [hr] at hi; cases hi⟩
theorem PY (hE : Ay P AB) {ops' : Array Oper} {n L : Nat} {oL : Oper} (hn : n = ops.size) (hn' : n = ops'.size) (hL : ops[L]? = some oL) (hL' : ops'[L]? = some (FT oL)) (hg : oL.guard = none) (heq : ∀ i, i ≠ L -> ops'[i]? = ops[i]?) (hgs : Tc ops L = true)
  {others : List Nat} (hall : ∀ i, i < n -> i = L \/ i ∈ others) (hin : ∀ i ∈ others, i < n) (hLn : L < n) (ht : PW md ops [] (others ++ [L]) = true) (hch : NI md ops [L] others.reverse = true)
  {Q' : Exit -> Act -> World -> Prop} {F : St -> Prop} (hQ : ∀ st a w, F st -> R A st a w -> Q' .normal a w) (hK : ∀ st, K st -> ∃ st', A6 A { st with ctr := base + n } st' /\ BH P A AB st' oL.dst oL.op ⟨F, ⟨⟩⟩) :
  ∀ (fuel : Nat) (listed : Array Bool) (st : St) (a : Act) (w : World), listed.size = n -> VM md ops listed -> listed.getD L true = false -> HW P AB md ops' base K fuel listed st -> RF A (Fl base n listed) st a w -> wpAny P md ops Q' fuel listed a w := by
 have hrd : ∀ listed i, i ∈ Region.ready md ops' listed ↔ i ∈ Region.ready md ops listed := fun listed i => by
  rw [mem_ready, mem_ready]
  by_cases e : i = L
  .subst e
   rw [hL, hL']
   constructor
   .rintro ⟨h1, o, h2, h3⟩; cases h2; exact ⟨h1, oL, rfl, h3⟩
   rintro ⟨h1, o, h2, h3⟩; cases h2; exact ⟨h1, FT oL, rfl, h3⟩
  rw [heq i e]
 have hrd0 : ∀ listed, Region.ready md ops' listed = [] ↔ Region.ready md ops listed = [] := fun listed => by
  simp only [List.eq_nil_iff_forall_not_mem, hrd]
 have hne : ∀ listed : Array Bool, listed.size = n -> listed.getD L true = false -> Region.ready md ops listed ≠ [] := fun listed hs hl h0 => by
  have := PX h0 (others ++ [L]) [] (fun i hi => by simp at hi) (fun i hi => by
   rcases List.mem_append.1 hi with hi | hi
   .have := hin i hi; omega
   simp at hi; omega) ht L (by simp)
  rw [Array.getD_eq_getD_getElem?, Array.getElem?_eq_getElem (by omega : L < listed.size)] at this hl
  simp only [Option.getD_some] at this hl
  rw [this] at hl; cases hl
 intro fuel
 induction fuel with
 | zero => intro listed st a w hs _ hl hD _; exact absurd ((hrd0 _).1 hD.1) (hne _ hs hl)
 | succ fuel ih =>
  intro listed st a w hs hc hl hD hR
  refine ⟨fun h0 => absurd h0 (hne _ hs hl), fun i hi => ?_⟩
  obtain ⟨o, l, e, ho, hd, hrec⟩ := hD.2 i ((hrd _ _).2 hi)
  obtain ⟨hun, o', ho', hdep⟩ := mem_ready.1 hi
  by_cases hiL : i = L
  .subst hiL
   rw [hL] at ho'; cases ho'
   rw [hL'] at ho; cases ho
   have hoth : ∀ j ∈ others, listed.getD j false = true := fun j hj => NJ hc others.reverse [i] (fun k hk o hok x hx hb => by
    simp at hk; subst hk
    rw [hL] at hok; cases hok
    exact hdep x hx hb) hch j (List.mem_reverse.2 hj)
   have hend : Region.ready md ops (listed.setIfInBounds i true) = [] := by
    rw [List.eq_nil_iff_forall_not_mem]
    intro j hj
    obtain ⟨g1, o2, g2, _⟩ := mem_ready.1 hj
    have hjn : j < n := by rw [hn]; exact (Array.getElem?_eq_some_iff.1 g2).1
    by_cases hji : i = j
    .subst hji
     simp [show i < listed.size by omega] at g1
    rw [getD_set_ne true hji] at g1
    rcases hall j hjn with rfl | h
    .exact hji rfl
    have := hoth j h
    rw [Array.getD_eq_getD_getElem?, Array.getElem?_eq_getElem (by omega : j < listed.size)] at this g1
    simp only [Option.getD_some] at this g1
    rw [this] at g1; cases g1
   obtain ⟨st', hev, hk⟩ : ∃ st', FZ (apS st (base + i) (FT oL) l e) st' /\ K st' := by
    cases fuel with
    | zero => exact hrec.2
    | succ f => exact hrec.1 ((hrd0 _).2 hend)
   have he : e = .keep := by
    unfold Cu FT at hd
    simp only [CG] at hd
    exact hd.1
   subst he
   have hap : apS st (base + i) (FT oL) l .keep = st := rfl
   rw [hap] at hev
   have hR2 := hR.eqv hev
   have hRR : R A { st' with ctr := base + n } a w := by
    obtain ⟨⟨μ, x1, x2⟩, x3, x4⟩ := hR2
    exact ⟨⟨μ, x1.less fun id hid => .inl hid, x2⟩, x3, x4⟩
   unfold wpOp
   rw [hL]
   have hw : Region.wanted oL (yielded ops a.tmps) = true := by unfold Region.wanted; rw [hg]
   simp only [hw, if_true]
   obtain ⟨st2, hwk, hop⟩ := hK st' hk
   exact .inl (Mj hE (Ng hop) (hwk _ _ hRR) fun st'' a' w' hF hR' => VN hend (hQ st'' a' w' hF hR') fuel)
  rw [heq i hiL] at ho
  have hlt : i < n := by rw [hn]; exact (Array.getElem?_eq_some_iff.1 ho).1
  have hd' : Cu P AB ops (st.at (base + i)) o l e := by
   unfold Cu at hd ⊢
   cases hgo : o.guard with
   | none => rw [hgo] at hd; exact hd
   | some g =>
    obtain ⟨j, want⟩ := g
    rw [hgo] at hd
    have hjL : j ≠ L := by
     have := Array.all_eq_true'.1 hgs o (Array.mem_of_getElem? ho)
     rw [hgo] at this
     simpa using this
    have hgl : DM (st.at (base + i)) ops' j = DM (st.at (base + i)) ops j := by unfold DM; rw [heq j hjL]
    simp only [hgl] at hd ⊢
    exact hd
  refine OK (st := st.at (base + i)) hE ho ⟨hR.ex, hR.nt, hR.defers⟩ (.inr ⟨i, hlt, hun, rfl⟩) ⟨base + n, fun q hq => .inl hq⟩ hd' fun a' w' hR' => ?_
  refine ih _ _ _ _ (by simpa using hs) (fun k hk o2 ho2 x hx hb => ?_) (by rw [getD_set_ne true hiL]; exact hl) hrec ?_
  .by_cases hki : i = k
   .subst hki
    rw [ho] at ho2; cases ho2
    rw [ho] at ho'; cases ho'
    exact getD_set_true (hdep x hx hb)
   rw [getD_set_ne false hki] at hk
   exact getD_set_true (hc k hk o2 ho2 x hx hb)
  have hR'' : RF A (fun id => Fl base n listed id /\ id ≠ base + i) (apS st (base + i) o l e) a' w' := by
   obtain ⟨⟨μ, x1, x2⟩, x3, x4⟩ := hR'
   refine ⟨⟨μ, ?_, fun t ht => ?_⟩, ?_, x4⟩
   .rw [Bm] at x1 ⊢; exact x1
   .have := x2 t (by rw [Fa] at ht ⊢; exact ht)
    rw [Bm, Cp] at this
    rw [Bm, Cp]; exact this
   rw [Fa] at x3 ⊢; exact x3
  obtain ⟨⟨μ, x1, x2⟩, x3, x4⟩ := hR''
  refine ⟨⟨μ, x1.less fun id hid => ?_, x2⟩, x3, x4⟩
  rcases hid with hid | ⟨k, hk1, hk2, rfl⟩
  .exact ⟨.inl hid, by omega⟩
  have hik : i ≠ k := by
   rintro rfl
   simp [show i < listed.size by omega] at hk2
  exact ⟨.inr ⟨k, hk1, by rw [getD_set_ne true hik] at hk2; exact hk2, rfl⟩, by omega⟩
def Hc : List Oper -> Option Oper
 | [] => none
 | [o] => some o
 | _ :: o :: r => Hc (o :: r)
theorem KM {o : Oper} : ∀ {l : List Oper}, Hc l = some o -> ∃ pre, l = pre ++ [o]
 | [a], h => by simp [Hc] at h; subst h; exact ⟨[], rfl⟩
 | a :: b :: l, h => by
  obtain ⟨pre, e⟩ := KM (l := b :: l) (by simpa [Hc] using h)
  exact ⟨a :: pre, by rw [e]; rfl⟩
def PZ (ops : List Oper) (others : List Nat) : Bool :=
 match Hc ops with
 | none => false
 | some o => o.guard.isNone && (Tc ops.toArray (ops.length - 1) && ((List.range ops.length).all (fun i => Nat.beq i (ops.length - 1) || others.contains i) && ((others.all fun i => Nat.blt i ops.length) &&
   (PW .any ops.toArray [] (others ++ [ops.length - 1]) && NI .any ops.toArray [ops.length - 1] others.reverse))))
theorem Zm (q : Bool) (hE : Ay P AB) (hm : P.follows .mixedOrders = true) {id : Nat} {ops : List Oper} {Q : Exit -> St -> Prop} {nt : Nat} {sl : List (Nat × LV)} {h : AN} {c : Nat} (others : List Nat) (n : Nat) {oL : Oper}
  (hq : (!q || AB.calm.isSome) = true) (hlast : Hc ops = some oL) (hcl : PZ ops others = true) (hok : GC q AB.own .any (Io ops).toArray (others ++ [ops.length - 1]) (Array.replicate ops.length false) = true) (hl : Nat.beq (others.length + 1) ops.length = true) (hn : Nat.beq ops.length n = true)
  (k : C4 P A AB c n ⟨fun st => BH P A AB st oL.dst oL.op ⟨Q .normal, ⟨⟩⟩, ⟨⟩⟩ (Ef (Io ops) (others ++ [n - 1])) ⟨nt, sl, h, c⟩) : B2 P A (.region id ops.toArray true) Q ⟨nt, sl, h, c⟩ := fun a w hR => by
 have hn' := Nat.eq_of_beq_eq_true hn
 subst hn'
 have hq' : q = true -> ∃ b, AB.calm = some b := fun e => by subst e; exact Option.isSome_iff_exists.1 (by simpa using hq)
 obtain ⟨pre, rfl⟩ := KM hlast
 unfold PZ at hcl
 rw [hlast] at hcl
 simp only [Bool.and_eq_true, Option.isNone_iff_eq_none] at hcl
 obtain ⟨g0, g1, g2, g3, g4, g5⟩ := hcl
 have hlen : (pre ++ [oL]).length - 1 = pre.length := by simp
 rw [hlen] at g1 g2 g4 g5 hok k
 rw [K3] at hok k
 have hsz : (pre ++ [FT oL]).length = (pre ++ [oL]).length := by simp
 have hb : ((others ++ [pre.length]).all fun i => decide (i < (pre ++ [FT oL]).length)) = true := by
  rw [List.all_eq_true] at g3 ⊢
  intro i hi
  rcases List.mem_append.1 hi with hi | hi
  .have := Nat.le_of_ble_eq_true (g3 i hi)
   simp only [List.length_append, List.length_cons, List.length_nil, decide_eq_true_eq] at this ⊢
   omega
  simp at hi; subst hi; simp
 rw [<- hsz] at k hok
 have hd := GF (others ++ [pre.length]) _ hb k
 refine wp_region_any hm ?_
 have hR' := (hR.drawn (w.drawn + 1)).toRF
 have hfr : ∀ k, AF (c + k) h = none := by
  intro k
  cases hx : AF (c + k) h with
  | none => rfl
  | some o =>
   obtain ⟨⟨μ, hh, _⟩, _, _⟩ := hR
   obtain ⟨loc, h1, _⟩ := hh.obj _ _ hx
   rw [hh.fresh _ (by simp [Fr])] at h1; cases h1
 have hD := HH q hq' (others ++ [pre.length]) (Array.replicate (pre ++ [FT oL]).length false) ⟨nt, sl, h, c⟩ hok (fun k _ => hfr k) hd
 have hol : (others ++ [pre.length]).length = (pre ++ [oL]).length := by
  have := Nat.eq_of_beq_eq_true hl
  simpa using this
 rw [hol, hsz] at hD
 have hs2 : (pre ++ [oL]).toArray.size = (pre ++ [oL]).length := by simp
 rw [hs2]
 have hL0 : pre.length < (pre ++ [oL]).length := by simp
 refine PY (A := A) (n := (pre ++ [oL]).length) (L := pre.length) (oL := oL) (ops' := (pre ++ [FT oL]).toArray) (F := Q .normal) (base := c) hE (by simp) (by simp) (by simp) (by simp) g0 (fun i hi => ?_) g1 (others := others) (fun i hi => ?_) (fun i hi => ?_) hL0 g4 g5
  (fun st a w hF hRR => ⟨st, hRR, hF⟩) (fun st hK => ⟨_, A6.refl _, hK⟩) (pre ++ [oL]).length _ _ a _ (by simp) (fun i hi => ?_) ?_ hD ?_
 .simp only [List.getElem?_toArray]
  rcases Nat.lt_trichotomy i pre.length with h' | h' | h'
  .rw [List.getElem?_append_left h', List.getElem?_append_left h']
  .exact absurd h' hi
  rw [List.getElem?_eq_none (by simp; omega), List.getElem?_eq_none (by simp; omega)]
 .have := List.all_eq_true.1 g2 i (List.mem_range.2 hi)
  simp only [Bool.or_eq_true, List.contains_iff_mem] at this
  exact this.imp (fun h => Nat.eq_of_beq_eq_true h) fun h => h
 .exact Nat.le_of_ble_eq_true (List.all_eq_true.1 g3 i hi)
 .exfalso
  rw [Array.getD_eq_getD_getElem?] at hi
  rcases Nat.lt_or_ge i (pre ++ [oL]).length with h' | h'
  .rw [Array.getElem?_eq_getElem (by simpa using h')] at hi; simp at hi
  rw [Array.getElem?_eq_none (by simpa using h')] at hi; simp at hi
 .rw [Array.getD_eq_getD_getElem?, Array.getElem?_eq_getElem (by simp)]; simp
 obtain ⟨⟨μ, x1, x2⟩, x3, x4⟩ := hR'
 refine ⟨⟨μ, x1.less fun id hid => ?_, x2⟩, x3, x4⟩
 rcases hid with hid | ⟨k, _, _, rfl⟩
 .simp only [Fr]; omega
 simp [Fr]
theorem ZH (q : Bool) (hE : Ay P AB) (hm : P.follows .mixedOrders = true) {id : Nat} {ops : List Oper} {Q : Exit -> St -> Prop} {nt : Nat} {sl : List (Nat × LV)} {h : AN} {c : Nat} (others : List Nat) (n : Nat) {oL : Oper}
  (hq : (!q || AB.calm.isSome) = true) (hlast : Hc ops = some oL) (hcl : PZ ops others = true) (hok : GC q AB.own .any (Io ops).toArray (others ++ [ops.length - 1]) (Array.replicate ops.length false) = true) (hl : Nat.beq (others.length + 1) ops.length = true) (hn : Nat.beq ops.length n = true)
  (k : C4 P A AB c n ⟨fun st => ∃ st', A6 A st st' /\ BH P A AB st' oL.dst oL.op ⟨Q .normal, ⟨⟩⟩, ⟨⟩⟩ (Ef (Io ops) (others ++ [n - 1])) ⟨nt, sl, h, c⟩) : B2 P A (.region id ops.toArray true) Q ⟨nt, sl, h, c⟩ := fun a w hR => by
 have hn' := Nat.eq_of_beq_eq_true hn
 subst hn'
 have hq' : q = true -> ∃ b, AB.calm = some b := fun e => by subst e; exact Option.isSome_iff_exists.1 (by simpa using hq)
 obtain ⟨pre, rfl⟩ := KM hlast
 unfold PZ at hcl
 rw [hlast] at hcl
 simp only [Bool.and_eq_true, Option.isNone_iff_eq_none] at hcl
 obtain ⟨g0, g1, g2, g3, g4, g5⟩ := hcl
 have hlen : (pre ++ [oL]).length - 1 = pre.length := by simp
 rw [hlen] at g1 g2 g4 g5 hok k
 rw [K3] at hok k
 have hsz : (pre ++ [FT oL]).length = (pre ++ [oL]).length := by simp
 have hb : ((others ++ [pre.length]).all fun i => decide (i < (pre ++ [FT oL]).length)) = true := by
  rw [List.all_eq_true] at g3 ⊢
  intro i hi
  rcases List.mem_append.1 hi with hi | hi
  .have := Nat.le_of_ble_eq_true (g3 i hi)
   simp only [List.length_append, List.length_cons, List.length_nil, decide_eq_true_eq] at this ⊢
   omega
  simp at hi; subst hi; simp
 rw [<- hsz] at k hok
 have hd := GF (others ++ [pre.length]) _ hb k
 refine wp_region_any hm ?_
 have hR' := (hR.drawn (w.drawn + 1)).toRF
 have hfr : ∀ k, AF (c + k) h = none := by
  intro k
  cases hx : AF (c + k) h with
  | none => rfl
  | some o =>
   obtain ⟨⟨μ, hh, _⟩, _, _⟩ := hR
   obtain ⟨loc, h1, _⟩ := hh.obj _ _ hx
   rw [hh.fresh _ (by simp [Fr])] at h1; cases h1
 have hD := HH q hq' (others ++ [pre.length]) (Array.replicate (pre ++ [FT oL]).length false) ⟨nt, sl, h, c⟩ hok (fun k _ => hfr k) hd
 have hol : (others ++ [pre.length]).length = (pre ++ [oL]).length := by
  have := Nat.eq_of_beq_eq_true hl
  simpa using this
 rw [hol, hsz] at hD
 have hs2 : (pre ++ [oL]).toArray.size = (pre ++ [oL]).length := by simp
 rw [hs2]
 have hL0 : pre.length < (pre ++ [oL]).length := by simp
 refine PY (A := A) (n := (pre ++ [oL]).length) (L := pre.length) (oL := oL) (ops' := (pre ++ [FT oL]).toArray) (F := Q .normal) (base := c) hE (by simp) (by simp) (by simp) (by simp) g0 (fun i hi => ?_) g1 (others := others) (fun i hi => ?_) (fun i hi => ?_) hL0 g4 g5
  (fun st a w hF hRR => ⟨st, hRR, hF⟩) (fun st hK => hK) (pre ++ [oL]).length _ _ a _ (by simp) (fun i hi => ?_) ?_ hD ?_
 .simp only [List.getElem?_toArray]
  rcases Nat.lt_trichotomy i pre.length with h' | h' | h'
  .rw [List.getElem?_append_left h', List.getElem?_append_left h']
  .exact absurd h' hi
  rw [List.getElem?_eq_none (by simp; omega), List.getElem?_eq_none (by simp; omega)]
 .have := List.all_eq_true.1 g2 i (List.mem_range.2 hi)
  simp only [Bool.or_eq_true, List.contains_iff_mem] at this
  exact this.imp (fun h => Nat.eq_of_beq_eq_true h) fun h => h
 .exact Nat.le_of_ble_eq_true (List.all_eq_true.1 g3 i hi)
 .exfalso
  rw [Array.getD_eq_getD_getElem?] at hi
  rcases Nat.lt_or_ge i (pre ++ [oL]).length with h' | h'
  .rw [Array.getElem?_eq_getElem (by simpa using h')] at hi; simp at hi
  rw [Array.getElem?_eq_none (by simpa using h')] at hi; simp at hi
 .rw [Array.getD_eq_getD_getElem?, Array.getElem?_eq_getElem (by simp)]; simp
 obtain ⟨⟨μ, x1, x2⟩, x3, x4⟩ := hR'
 refine ⟨⟨μ, x1.less fun id hid => ?_, x2⟩, x3, x4⟩
 rcases hid with hid | ⟨k, _, _, rfl⟩
 .simp only [Fr]; omega
 simp [Fr]
end
end Go.E
/- Drawn regions draw by draw, each operation as in the text's order (calls that make or turn objects of their own, too). Condition: no guards. -/
namespace Go.E
open Go Go.RowKit
section
variable {P : Program} {A : BF} {AB : Ax} {md : Region.Mode} {ops : Array Oper} {Q : Exit -> St -> Prop}
def DS (P : Program) (A : BF) (md : Region.Mode) (ops : Array Oper) (Q : Exit -> St -> Prop) (fuel : Nat) (listed : Array Bool) (st : St) : Prop :=
 ∀ a w, R A st a w -> wpAny P md ops (fun e a' w' => ∃ st', R A st' a' w' /\ Q e st') fuel listed a w
theorem Bd {fuel : Nat} {listed : Array Bool} {st st' : St} (hw : A6 A st st') (h : DS P A md ops Q fuel listed st') : DS P A md ops Q fuel listed st := fun a w hR => h a w (hw a w hR)
theorem Tt (hE : Ay P AB) {fuel : Nat} {listed : Array Bool} {st : St} {i : Nat} {o : Oper} (ho : ops[i]? = some o) (hg : o.guard = none)
  (k : Dr P A AB ⟨fun st' => DS P A md ops Q fuel (listed.setIfInBounds i true) st', ⟨⟩⟩ [⟨o.dst, o.op, none⟩] st) {a : Act} {w : World} (hR : R A st a w) :
  wpOp P ops (fun e a' w' => ∃ st', R A st' a' w' /\ Q e st') i (wpAny P md ops (fun e a' w' => ∃ st', R A st' a' w' /\ Q e st') fuel (listed.setIfInBounds i true)) a w := by
 unfold wpOp
 rw [ho]
 have hw : Region.wanted o (yielded ops a.tmps) = true := by unfold Region.wanted; rw [hg]
 simp only [hw, if_true]
 have k' : BH P A AB st o.dst o.op ⟨Dr P A AB ⟨fun st' => DS P A md ops Q fuel (listed.setIfInBounds i true) st', ⟨⟩⟩ [], ⟨⟩⟩ := k
 exact .inl (Mj hE (Ng k') hR fun st' a' w' hF hR' => by
  obtain ⟨hF⟩ := hF
  exact hF a' w' hR')
theorem Zf (hm : P.follows .mixedOrders = true) {id : Nat} {l : List Oper} {st : St} (n : Nat) (hn : Nat.beq l.length n = true)
  (k : DS P A .any l.toArray Q n (Array.replicate n false) st) : B2 P A (.region id l.toArray true) Q st := fun a w hR => by
 have hn' := Nat.eq_of_beq_eq_true hn
 subst hn'
 refine wp_region_any hm ?_
 exact k _ _ (hR.drawn (w.drawn + 1))
theorem ZZ {fuel : Nat} {listed : Array Bool} {st : St} (hr : Region.ready md ops listed = []) (k : Q .normal st) : DS P A md ops Q fuel listed st := fun a w hR => by
 cases fuel with
 | zero => exact ⟨hr, st, hR, k⟩
 | succ f => exact ⟨fun _ => ⟨st, hR, k⟩, fun i hi => by rw [hr] at hi; cases hi⟩
theorem MW (hE : Ay P AB) {fuel : Nat} {listed : Array Bool} {st : St} (i : Nat) {o : Oper} (hr : Region.ready md ops listed = [i]) (ho : ops[i]? = some o) (hg : o.guard = none)
  (k : Dr P A AB ⟨fun st' => DS P A md ops Q fuel (listed.setIfInBounds i true) st', ⟨⟩⟩ [⟨o.dst, o.op, none⟩] st) : DS P A md ops Q (fuel + 1) listed st := fun a w hR =>
 ⟨fun h => absurd (hr.symm.trans h) (by simp), fun j hj => by
  rw [hr] at hj
  simp only [List.mem_singleton] at hj
  subst hj
  exact Tt hE ho hg k hR⟩
theorem K7 (hE : Ay P AB) {fuel : Nat} {listed : Array Bool} {st : St} (i j : Nat) {o o' : Oper} (hr : Region.ready md ops listed = [i, j]) (ho : ops[i]? = some o) (hg : o.guard = none) (ho' : ops[j]? = some o') (hg' : o'.guard = none)
  (k : Dr P A AB ⟨fun st' => DS P A md ops Q fuel (listed.setIfInBounds i true) st', ⟨⟩⟩ [⟨o.dst, o.op, none⟩] st)
  (k' : Dr P A AB ⟨fun st' => DS P A md ops Q fuel (listed.setIfInBounds j true) st', ⟨⟩⟩ [⟨o'.dst, o'.op, none⟩] st) : DS P A md ops Q (fuel + 1) listed st := fun a w hR =>
 ⟨fun h => absurd (hr.symm.trans h) (by simp), fun m hm => by
  rw [hr] at hm
  simp only [List.mem_cons, List.not_mem_nil, or_false] at hm
  rcases hm with rfl | rfl
  .exact Tt hE ho hg k hR
  exact Tt hE ho' hg' k' hR⟩
theorem Ck {fuel fuel' : Nat} {listed listed' : Array Bool} {st st' : St} (h : DS P A md ops Q fuel' listed' st') (k : DS P A md ops Q fuel' listed' st' -> DS P A md ops Q fuel listed st) : DS P A md ops Q fuel listed st := k h
end
end Go.E
/- The program's data in plain Lean, and how they stand in cells. Written by a program (gen.py). No condition. -/
namespace Go.E
open Go Go.RowKit Go.Proofs
theorem bq {α β : Type} {o : Option α} {f : α -> Option β} {b : β} {G : Prop} (h : o.bind f = some b) (k : ∀ a, o = some a -> f a = some b -> G) : G := by
 obtain ⟨a, h1, h2⟩ := bd h
 exact k a h1 h2
abbrev bx (l : List DV) : A1 := .box (l.map .p)
theorem Z {α : Type} {a : α} : a = a := rfl
theorem Ag {σ : Type} {A : BF} {S : σ -> St} {st : St} {s t : σ} (h : some s = some t) (hw : A6 A st (S s)) : NP A S t .normal st := by
 cases h; exact Zq hw
theorem BR {σ Ans : Type} {A : BF} {S : σ -> St} {Q : Ans -> Exit -> St -> Prop} {st : St} {s : σ} {b : σ ⊕ Ans} (h : some (.inl s) = some b) (hw : A6 A st (S s)) : LP A S Q b .normal st := by
 cases h; exact Zp hw
theorem CU {σ Ans : Type} {A : BF} {S : σ -> St} {Q : Ans -> Exit -> St -> Prop} {st : St} {x : Ans} {b : σ ⊕ Ans} {id : Nat} (h : some (.inr x) = some b) (k : ∀ a, some x = some a -> Q a (.exit id) st) : LP A S Q b (.exit id) st := by
 cases h; exact Za (k x rfl)
theorem B8 {σ Ans : Type} {A : BF} {S : σ -> St} {Q : Ans -> Exit -> St -> Prop} {st : St} {x : Ans} {b : σ ⊕ Ans} (h : some (.inr x) = some b) (k : ∀ a, some x = some a -> Q a .ret st) : LP A S Q b .ret st := by
 cases h; exact Zb (k x rfl)
theorem D0 {σ Ans : Type} {A : BF} {S : σ -> St} {Q : Ans -> Exit -> St -> Prop} {st : St} {o : Option Ans} {b : σ ⊕ Ans} {id : Nat} (h : o.map .inr = some b) (k : ∀ a, o = some a -> Q a (.exit id) st) : LP A S Q b (.exit id) st := by
 obtain ⟨a, h1, rfl⟩ := mp h; exact Za (k a h1)
theorem Zt {σ Ans : Type} {A : BF} {S : σ -> St} {Q : Ans -> Exit -> St -> Prop} {st : St} {o : Option Ans} {b : σ ⊕ Ans} (h : o.map .inr = some b) (k : ∀ a, o = some a -> Q a .ret st) : LP A S Q b .ret st := by
 obtain ⟨a, h1, rfl⟩ := mp h; exact Zb (k a h1)

instance : BEq ByteArray := ⟨fun a b => a.toList == b.toList⟩
def Ab (n : Int) : Int := IntKind.wrap .i64 n
def W6 (a b : Int) : Int := IntKind.wrap .i64 (BitVec.ofInt (IntKind.bits .i64) a ^^^ BitVec.ofInt (IntKind.bits .i64) b).toNat
def AJ (n : Int) : List DV := [.int .i64 n]
def Ec (n : Int) : List DV := [.int .u8 n]
def ZJ (b : Bool) : List DV := [.bool b]
def Eo (s : ByteArray) : List DV := [.str s]
def AU {α : Type} (sz : Nat) (enc : α -> List DV) (l : List α) : DV := .slice sz (l.map enc)
def Jg {α : Type} (sz : Nat) (enc : α -> List DV) (l : List α) : List DV := [.slice sz (l.map enc)]
structure AC where
 elem : Int
 fin : Int
 deriving DecidableEq
def As (x : AC) : List DV := [.int .i64 x.elem, .int .i64 x.fin]
theorem KG (x y : AC) : Ci (As x) (As y) = (x == y) := by
 rw [Bool.eq_iff_iff]
 rw [beq_iff_eq]
 simp only [As, Ci, Di, Bool.and_eq_true, beq_iff_eq, Bool.and_true]
 constructor
 .intro h
  obtain ⟨a1, a2⟩ := x; obtain ⟨b1, b2⟩ := y; simp only at h; simp [h]
 rintro rfl; simp
structure Br where
 a : AC
 b : AC
 deriving DecidableEq
def Bv (x : Br) : List DV := [.int .i64 x.a.elem, .int .i64 x.a.fin, .int .i64 x.b.elem, .int .i64 x.b.fin]
structure Bs where
 name : ByteArray
 kind : Int
 length : Int
 deriving DecidableEq
def BV (x : Bs) : List DV := [.str x.name, .int .i64 x.kind, .int .i64 x.length]
structure A4 where
 name : ByteArray
 at_ : AC
 auto : Bool
 deriving DecidableEq
def BJ (x : A4) : List DV := [.str x.name, .int .i64 x.at_.elem, .int .i64 x.at_.fin, .bool x.auto]
structure B9 where
 name : ByteArray
 elems : (List Int)
 deriving DecidableEq
def By (x : B9) : List DV := [.str x.name, .slice 1 (x.elems.map AJ)]
structure AH where
 elems : (List Bs)
 joins : (List Br)
 signals : (List A4)
 lines : (List B9)
 top : Int
 brake : Int
 margin : Int
 throw : Int
 hard : Bool
 deriving DecidableEq
def AY (x : AH) : List DV := [.slice 3 (x.elems.map BV), .slice 4 (x.joins.map Bv), .slice 4 (x.signals.map BJ), .slice 2 (x.lines.map By), .int .i64 x.top, .int .i64 x.brake, .int .i64 x.margin, .int .i64 x.throw, .bool x.hard]
structure Fq where
 a0 : Int
 a1 : Int
 deriving DecidableEq
structure CK where
 p : AH
 next : (List (AC × AC))
 reads : (List (AC × Int))
 line : (List (Int × Fq))
 lead : (List (Int × Int))
 deriving DecidableEq
structure Aq where
 elem : Int
 in_ : Int
 out : Int
 deriving DecidableEq
def BG (x : Aq) : List DV := [.int .i64 x.elem, .int .i64 x.in_, .int .i64 x.out]
structure AM where
 elem : Int
 pos : Int
 deriving DecidableEq
def AL (x : AM) : List DV := [.int .i64 x.elem, .int .i64 x.pos]
theorem WP (x y : AM) : Ci (AL x) (AL y) = (x == y) := by
 rw [Bool.eq_iff_iff]
 rw [beq_iff_eq]
 simp only [AL, Ci, Di, Bool.and_eq_true, beq_iff_eq, Bool.and_true]
 constructor
 .intro h
  obtain ⟨a1, a2⟩ := x; obtain ⟨b1, b2⟩ := y; simp only at h; simp [h]
 rintro rfl; simp
structure AT where
 frm : Int
 to : Int
 fin : Int
 steps : (List Aq)
 needs : (List AM)
 guards : (List AM)
 zone : (List Int)
 holds : (List Int)
 bare : Bool
 deriving DecidableEq
def An (x : AT) : List DV := [.int .i64 x.frm, .int .i64 x.to, .int .i64 x.fin, .slice 3 (x.steps.map BG), .slice 2 (x.needs.map AL), .slice 2 (x.guards.map AL), .slice 1 (x.zone.map AJ), .slice 1 (x.holds.map AJ), .bool x.bare]
structure Cx where
 out : Int
 pos : Int
 deriving DecidableEq
def L9 (x : Cx) : List DV := [.int .i64 x.out, .int .i64 x.pos]
structure Aa where
 p : AH
 r : AT
 met : (List AC)
 deriving DecidableEq
structure MB where
 plan : AH
 roads : (List AT)
 deriving DecidableEq
structure AW where
 elems : Int
 steps : (List (Int × (List Int)))
 zone : (List (Int × (List Int)))
 needs : (List (Int × (List AM)))
 guards : (List (Int × (List AM)))
 deriving DecidableEq
def A2 (x : AW) : List DV := [.int .i64 x.elems, .map (AP (.int .i64) (AU 1 AJ) x.steps), .map (AP (.int .i64) (AU 1 AJ) x.zone), .map (AP (.int .i64) (AU 2 AL) x.needs), .map (AP (.int .i64) (AU 2 AL) x.guards)]
theorem CN : Jb AB 3 (.int .i64) := ⟨fun _ _ => rfl, fun _ => rfl⟩
def ZK : Go.Shelf.Ren := ⟨fun n => if n = 45 then 73 else n, fun n => match n with | 22 => 34 | 23 => 3 | n => n, fun n => n⟩
theorem ZI : SlLaysE0.n45 Try.prog ZK where
 mixed := mixed
 f45 := ⟨Try.f73.name, by decide, by exact Try.func73⟩
 t0 := Try.underlying0
 a0 := Try.isAgg0
 z0 := Try.sizeOf0
 v0 := Try.zeroValue0
 t3 := Try.underlying3
 a3 := Try.isAgg3
 z3 := Try.sizeOf3
 v3 := Try.zeroValue3
 t4 := Try.underlying4
 a4 := Try.isAgg4
 z4 := Try.sizeOf4
 v4 := Try.zeroValue4
 t22 := Try.underlying34
 a22 := Try.isAgg34
 z22 := Try.sizeOf34
 v22 := Try.zeroValue34
def ZL : Go.Shelf.Ren := ⟨fun n => match n with | 125 => 112 | 128 => 168 | 129 => 169 | 189 => 79 | 215 => 186 | 216 => 165 | 257 => 111 | 294 => 159 | 295 => 160 | 296 => 161 | 297 => 162 | 298 => 163 | 299 => 164 | 300 => 166 | 301 => 167 | 328 => 181 | 329 => 182 | 330 => 183 | 331 => 184 | 332 => 185 | 343 => 189 | n => n, fun n => match n with | 0 => 0 | 3 => 3 | 4 => 4 | 5 => 5 | 9 => 9 | 28 => 34 | 46 => 164 | 51 => 209 | 53 => 211 | 131 => 105 | 182 => 202 | 183 => 203 | 218 => 222 | 222 => 226 | 228 => 229 | 229 => 69 | n => n, fun n => n⟩
theorem XA : Go.Proofs.Lays.n189 Try.prog ZL where
 mixed := mixed
 f125 := by exact Try.func112
 f128 := by exact Try.func168
 f129 := by exact Try.func169
 f189 := by exact Try.func79
 f215 := by exact Try.func186
 f216 := by exact Try.func165
 f257 := by exact Try.func111
 f294 := by exact Try.func159
 f295 := by exact Try.func160
 f296 := by exact Try.func161
 f297 := by exact Try.func162
 f298 := by exact Try.func163
 f299 := by exact Try.func164
 f300 := by exact Try.func166
 f301 := by exact Try.func167
 f328 := by exact Try.func181
 f329 := by exact Try.func182
 f330 := by exact Try.func183
 f331 := by exact Try.func184
 f332 := by exact Try.func185
 f343 := by exact Try.func189
 t0 := Try.underlying0
 a0 := Try.isAgg0
 z0 := Try.sizeOf0
 v0 := Try.zeroValue0
 t3 := Try.underlying3
 a3 := Try.isAgg3
 z3 := Try.sizeOf3
 v3 := Try.zeroValue3
 t4 := Try.underlying4
 a4 := Try.isAgg4
 z4 := Try.sizeOf4
 v4 := Try.zeroValue4
 t5 := Try.underlying5
 a5 := Try.isAgg5
 z5 := Try.sizeOf5
 v5 := Try.zeroValue5
 t9 := Try.underlying9
 a9 := Try.isAgg9
 z9 := Try.sizeOf9
 v9 := Try.zeroValue9
 t28 := Try.underlying34
 a28 := Try.isAgg34
 z28 := Try.sizeOf34
 v28 := Try.zeroValue34
 t46 := Try.underlying164
 a46 := Try.isAgg164
 z46 := Try.sizeOf164
 v46 := Try.zeroValue164
 t51 := Try.underlying209
 a51 := Try.isAgg209
 z51 := Try.sizeOf209
 v51 := Try.zeroValue209
 t53 := Try.underlying211
 a53 := Try.isAgg211
 z53 := Try.sizeOf211
 v53 := Try.zeroValue211
 t131 := Try.underlying105
 a131 := Try.isAgg105
 z131 := Try.sizeOf105
 v131 := Try.zeroValue105
 t182 := Try.underlying202
 a182 := Try.isAgg202
 z182 := Try.sizeOf202
 v182 := Try.zeroValue202
 t183 := Try.underlying203
 a183 := Try.isAgg203
 z183 := Try.sizeOf203
 v183 := Try.zeroValue203
 t218 := Try.underlying222
 a218 := Try.isAgg222
 z218 := Try.sizeOf222
 v218 := Try.zeroValue222
 t222 := Try.underlying226
 a222 := Try.isAgg226
 z222 := Try.sizeOf226
 v222 := Try.zeroValue226
 t228 := Try.underlying229
 a228 := Try.isAgg229
 z228 := Try.sizeOf229
 v228 := Try.zeroValue229
 t229 := Try.underlying69
 a229 := Try.isAgg69
 z229 := Try.sizeOf69
 v229 := Try.zeroValue69
end Go.E
/- Plain functions, and walks in step with them. Written by a program (gen.py). No condition. -/
set_option maxRecDepth 100000
namespace Go.E
open Go Go.RowKit Go.Proofs
noncomputable def GK (a : Int) (b : Int) (c : Int) (d : Int) : Option Br :=
 some (⟨(⟨a, b⟩ : AC), (⟨c, d⟩ : AC)⟩ : Br)
theorem JJ (a : Int) (b : Int) (c : Int) (d : Int) (r : Br) (h : GK a b c d = some r) : Bk Try.prog 87 [.int .i64 a, .int .i64 b, .int .i64 c, .int .i64 d] (· = .agg (Bv r)) := by
 refine fn AA Try.func87 Z Z 16 Z [.cell 8 132] Z [(0, .p (.int .i64 a)), (1, .p (.int .i64 b)), (2, .p (.int .i64 c)), (3, .p (.int .i64 d))] Z Z fun A hA => ?_
 unfold GK at h
 refine rs AA <| rl Z <| rs AA <| rl Z <| AI ?_
 cases h
 exact er Z Le.rfl
noncomputable def Hz : Option AH :=
 (GK 0 0 1 0).bind fun a => (GK 1 1 2 0).bind fun b => (GK 2 1 3 0).bind fun c => (GK 3 1 5 0).bind fun d => (GK 2 2 4 0).bind fun e => some (⟨[(⟨(⟨#[87]⟩ : ByteArray), 4, 0⟩ : Bs), (⟨(⟨#[65]⟩ : ByteArray), 1, 20⟩ : Bs), (⟨(⟨#[80]⟩ : ByteArray), 2, 10⟩ : Bs), (⟨(⟨#[66]⟩ : ByteArray), 1, 20⟩ : Bs), (⟨(⟨#[67]⟩ : ByteArray), 1, 30⟩ : Bs), (⟨(⟨#[69]⟩ : ByteArray), 4, 0⟩ : Bs)], [a, b, c, d, e], [(⟨(⟨#[119]⟩ : ByteArray), (⟨0, 0⟩ : AC), false⟩ : A4), (⟨(⟨#[97]⟩ : ByteArray), (⟨1, 1⟩ : AC), false⟩ : A4), (⟨(⟨#[101]⟩ : ByteArray), (⟨5, 0⟩ : AC), false⟩ : A4), (⟨(⟨#[98]⟩ : ByteArray), (⟨3, 0⟩ : AC), false⟩ : A4), (⟨(⟨#[99]⟩ : ByteArray), (⟨4, 0⟩ : AC), false⟩ : A4)], [], 10, 5, 15, 2, false⟩ : AH)
theorem UN (r : AH) (h : Hz = some r) : Bk Try.prog 41 [] (· = .agg (AY r)) := by
 refine fn AA Try.func41 Z Z 31 Z [.cell 0 27] Z [] Z Z fun A hA => ?_
 unfold Hz at h
 refine rs AA <| rl Z <| rs AA <| rl Z <| rs AA <| rl Z <| rs AA <| bq h fun l a f => sx Z (Ah (JJ _ _ _ _ _ a) (.inl Z) Z Z Z <| bq f fun m b g => sx Z (Ah (JJ _ _ _ _ _ b) (.inl Z) Z Z Z <| bq g fun n c i => sx Z (Ah (JJ _ _ _ _ _ c) (.inl Z) Z Z Z <| bq i fun o d j => sx Z (Ah (JJ _ _ _ _ _ d) (.inl Z) Z Z Z <| bq j fun q e k => sx Z (Ah (JJ _ _ _ _ _ e) (.inl Z) Z Z Z <| rl Z <| rs AA <| rl Z <| rs AA <| rl Z <| AI ?_)))))
 cases k
 exact er (MY Z (.agg (.cons (.own (enc := BV) ([(⟨(⟨#[87]⟩ : ByteArray), 4, 0⟩ : Bs), (⟨(⟨#[65]⟩ : ByteArray), 1, 20⟩ : Bs), (⟨(⟨#[80]⟩ : ByteArray), 2, 10⟩ : Bs), (⟨(⟨#[66]⟩ : ByteArray), 1, 20⟩ : Bs), (⟨(⟨#[67]⟩ : ByteArray), 1, 30⟩ : Bs), (⟨(⟨#[69]⟩ : ByteArray), 4, 0⟩ : Bs)] : List Bs) Z Z) (.cons (.own (enc := Bv) ([l, m, n, o, q] : List Br) Z Z) (.cons (.own (enc := BJ) ([(⟨(⟨#[119]⟩ : ByteArray), (⟨0, 0⟩ : AC), false⟩ : A4), (⟨(⟨#[97]⟩ : ByteArray), (⟨1, 1⟩ : AC), false⟩ : A4), (⟨(⟨#[101]⟩ : ByteArray), (⟨5, 0⟩ : AC), false⟩ : A4), (⟨(⟨#[98]⟩ : ByteArray), (⟨3, 0⟩ : AC), false⟩ : A4), (⟨(⟨#[99]⟩ : ByteArray), (⟨4, 0⟩ : AC), false⟩ : A4)] : List A4) Z Z) (.cons (.p _) (.cons (.p _) (.cons (.p _) (.cons (.p _) (.cons (.p _) (.cons (.p _) .nil))))))))))) (Le.agg' (.cons Le.rfl (.cons Le.rfl (.cons Le.rfl (.cons (Le.nil _) (.cons Le.rfl (.cons Le.rfl (.cons Le.rfl (.cons Le.rfl (.cons Le.rfl .nil))))))))))
noncomputable def G1 (b : AH) (a : Int) : Option (Int ⊕ Bool) :=
 bif decide (a < (b.signals.length : Int)) then (Aj b.signals a).bind fun c => bif decide (100 < (c.name.size : Int)) then some (.inr false) else some (.inl (Ab (a + 1))) else some (.inr true)
noncomputable def G2 (b : AH) (a : Int) : Option (Int ⊕ Bool) :=
 bif decide (a < (b.elems.length : Int)) then (Aj b.elems a).bind fun c => bif decide (100 < (c.name.size : Int)) then some (.inr false) else some (.inl (Ab (a + 1))) else (AQ (G1 b) 0).map .inr
noncomputable def Ix (b : AH) (a : Int) : Option (Int ⊕ Bool) :=
 bif decide (a < (b.lines.length : Int)) then (((Aj b.lines a).bind fun d => bif decide (60 < (d.elems.length : Int)) then some true else (Aj b.lines a).bind fun e => some (decide (100 < (e.name.size : Int))) : Option (Bool))).bind fun (c : Bool) => bif c then some (.inr false) else some (.inl (Ab (a + 1))) else (AQ (G2 b) 0).map .inr
noncomputable def IZ (a : AH) : Option Bool :=
 ((bif decide (60 < (a.elems.length : Int)) then some true else bif decide (120 < (a.joins.length : Int)) then some true else bif decide (60 < (a.signals.length : Int)) then some true else some (decide (20 < (a.lines.length : Int))) : Option (Bool))).bind fun (b : Bool) => bif b then some false else AQ (Ix a) 0
theorem WL (b : AH) (r : Bool) (h : IZ b = some r) : Bk Try.prog 43 [.agg (AY b)] (· = .bool r) := by
 refine fn AA Try.func43 Z Z 83 Z [.tmp 2] Z [(0, .p (.agg (AY b)))] Z Z fun A hA => ?_
 unfold IZ at h
 refine rs AA <| rl Z <| AD <| jb (fun d : Bool => ⟨83, [(1, .lpb 0 0), (27, lb d)], [(0, bx (AY b))], 1⟩) h (fun d u => ?_) (fun d am => ?_)
 .refine rg AA <| rn 2 Z <| sx Z (Aw Z Z <| rn 2 Z <| gs 10 u Z Z Z (fun v => ?_) (fun ac => ?_))
  .exact rl Z <| Ag v (wf hA [(0, 0)] Z Z Z)
  refine rn 2 Z <| sx Z (Aw Z Z <| rn 3 Z <| gs 16 ac Z Z Z (fun ai => ?_) (fun aj => ?_))
  .exact rl Z <| Ag ai (wf hA [(0, 0)] Z Z Z)
  refine rn 2 Z <| sx Z (Aw Z Z <| rn 3 Z <| gs 22 aj Z Z Z (fun ak => ?_) (fun al => ?_))
  .exact rl Z <| Ag ak (wf hA [(0, 0)] Z Z Z)
  exact rn 2 Z <| sx Z (Aw Z Z <| rl Z <| Ag al (wf hA [(0, 0)] Z Z Z))
 refine cd Z am (fun an => ?_) (fun ao => ?_)
 .refine rs AA <| rl Z <| AI <| AO ?_
  cases an
  exact er Z Le.rfl
 refine AG <| AE <| AD <| rs AA <| rl Z <| AK ?_
 apply lp (a := r) (fun c : Int => ⟨83, [(1, .lpb 0 0), (3, li c)], [(0, bx (AY b))], 1⟩) ao
 . exact wf hA [(0, 0)] Z Z Z
 intro c a9 f
 unfold Ix at f
 refine AD <| rs AA <| rn 3 Z <| sx Z (Aw Z Z <| rl Z <| cd Z f (fun t => ?_) (fun ag => ?_))
 .refine AG <| AE <| AD <| AK <| jb (fun e : Bool => ⟨83, [(1, .lpb 0 0), (3, li c), (52, lb e)], [(0, bx (AY b))], 1⟩) t (fun e w => ?_) (fun e ab => ?_)
  .refine rg AA <| rn 3 Z <| bq w fun bc n x => sx Z (A3 n Z Z Z <| rn 2 Z <| sx Z (Aw Z Z <| rn 2 Z <| gs 43 x Z Z Z (fun y => ?_) (fun z => ?_)))
   .exact rl Z <| Ag y (wf hA [(0, 0)] Z Z Z)
   exact rn 3 Z <| bq z fun be o aa => sx Z (A3 o Z Z Z <| rl Z <| Ag aa (wf hA [(0, 0)] Z Z Z))
  refine cd Z ab (fun ad => ?_) (fun af => ?_)
  .refine rs AA <| rl Z <| AI <| Ak <| AO <| B8 ad fun a5 ae => Ak <| AO ?_
   cases ae
   exact er Z Le.rfl
  exact AG <| Av <| AE <| rg AA <| rl Z <| BR af (wf hA [(0, 0)] Z Z Z)
 refine Al <| Ap <| D0 ag fun l ah => BA <| AE <| AD <| rs AA <| rl Z <| AK ?_
 apply lp (a := l) (fun j : Int => ⟨83, [(1, .lpb 0 0), (4, li j)], [(0, bx (AY b))], 1⟩) ah
 . exact wf hA [(0, 0)] Z Z Z
 intro j ba g
 unfold G2 at g
 refine AD <| rs AA <| rn 3 Z <| sx Z (Aw Z Z <| rl Z <| cd Z g (fun ap => ?_) (fun aw => ?_))
 .refine AG <| AE <| AD <| AK <| rs AA <| rn 3 Z <| bq ap fun bf q aq => sx Z (A3 q Z Z Z <| rl Z <| cd Z aq (fun ar => ?_) (fun av => ?_))
  .refine rs AA <| rl Z <| AI <| Ak <| AO <| B8 ar fun a6 au => Ak <| AO ?_
   cases au
   exact er Z Le.rfl
  exact AG <| Av <| AE <| rg AA <| rl Z <| BR av (wf hA [(0, 0)] Z Z Z)
 refine Al <| Ap <| D0 aw fun m ax => BA <| AE <| AD <| rs AA <| rl Z <| AK ?_
 apply lp (a := m) (fun k : Int => ⟨83, [(1, .lpb 0 0), (5, li k)], [(0, bx (AY b))], 1⟩) ax
 . exact wf hA [(0, 0)] Z Z Z
 intro k bb i
 unfold G1 at i
 refine AD <| rs AA <| rn 3 Z <| sx Z (Aw Z Z <| rl Z <| cd Z i (fun ay => ?_) (fun a3 => ?_))
 .refine AG <| AE <| AD <| AK <| rs AA <| rn 3 Z <| bq ay fun bg s az => sx Z (A3 s Z Z Z <| rl Z <| cd Z az (fun a0 => ?_) (fun a2 => ?_))
  .refine rs AA <| rl Z <| AI <| Ak <| AO <| B8 a0 fun a7 a1 => Ak <| AO ?_
   cases a1
   exact er Z Le.rfl
  exact AG <| Av <| AE <| rg AA <| rl Z <| BR a2 (wf hA [(0, 0)] Z Z Z)
 refine Al <| Ap <| CU a3 fun a8 a4 => BA <| AE <| rs AA <| rl Z <| AI ?_
 cases a4
 exact er Z Le.rfl
noncomputable def ED (b : AH) (d : (Int × (List ByteArray))) (c : (Int × (List ByteArray))) (a : Int × (List ByteArray)) : Option ((Int × (List ByteArray)) ⊕ ((List ByteArray) × (List ByteArray) × (List ByteArray))) :=
 bif decide (a.1 < (b.lines.length : Int)) then (Aj b.lines a.1).bind fun e => (BP a.2 [e.name]).bind fun f => some (.inl (Ab (a.1 + 1), f)) else some (.inr (d.2, c.2, a.2))
noncomputable def EE (b : AH) (c : (Int × (List ByteArray))) (a : Int × (List ByteArray)) : Option ((Int × (List ByteArray)) ⊕ ((List ByteArray) × (List ByteArray) × (List ByteArray))) :=
 bif decide (a.1 < (b.signals.length : Int)) then (Aj b.signals a.1).bind fun d => (BP a.2 [d.name]).bind fun e => some (.inl (Ab (a.1 + 1), e)) else (AQ (ED b c a) (0, ([] : List ByteArray))).map .inr
noncomputable def Fd (b : AH) (a : Int × (List ByteArray)) : Option ((Int × (List ByteArray)) ⊕ ((List ByteArray) × (List ByteArray) × (List ByteArray))) :=
 bif decide (a.1 < (b.elems.length : Int)) then (Aj b.elems a.1).bind fun c => (BP a.2 [c.name]).bind fun d => some (.inl (Ab (a.1 + 1), d)) else (AQ (EE b a) (0, ([] : List ByteArray))).map .inr
noncomputable def H0 (a : AH) : Option ((List ByteArray) × (List ByteArray) × (List ByteArray)) :=
 AQ (Fd a) (0, ([] : List ByteArray))
theorem UO (e : AH) (r : ((List ByteArray) × (List ByteArray) × (List ByteArray))) (h : H0 e = some r) : Bk Try.prog 91 [.agg (AY e)] (· = .tup [.slice 1 (r.1.map Eo), .slice 1 (r.2.1.map Eo), .slice 1 (r.2.2.map Eo)]) := by
 refine fn AA Try.func91 Z Z 62 Z [.tmp 2, .tmp 3, .tmp 4] Z [(0, .p (.agg (AY e)))] Z Z fun A hA => ?_
 unfold H0 at h
 refine rs AA <| rl Z <| rs AA <| rl Z <| AD <| rs AA <| rl Z <| AK ?_
 apply lp (a := r) (fun b : (Int × (List ByteArray)) => ⟨62, [(1, .lpb 0 0), (5, .lsl 1 1 0 b.2.length), (6, .p (.nils)), (7, .p (.nils)), (8, li b.1)], [(0, bx (AY e)), (1, .row 9 1 (b.2.map Eo))], 2⟩) h
 . exact A6.trans (CO 5 9 1 Z) (wf hA [(0, 0), (1, 1)] Z Z Z)
 intro b aq i
 unfold Fd at i
 refine AD <| rs AA <| rn 3 Z <| sx Z (Aw Z Z <| rl Z <| cd Z i (fun aj => ?_) (fun x => ?_))
 .exact AG <| AE <| AD <| AK <| rg AA <| rn 4 Z <| bq aj fun ak n v => sx Z (A3 n Z Z Z <| rn 3 Z <| bq v fun ar o w => sx Z (A7 (enc := Eo) (l := b.2) (m := [ak.name]) o (fun _ => ⟨Z, Z⟩) Z Z Z Z Z Z <| rl Z <| Av <| AE <| rg AA <| rl Z <| BR w (wf hA [(0, 0), (1, 3)] Z Z Z)))
 refine Al <| Ap <| D0 x fun j y => BA <| AE <| AD <| rs AA <| rl Z <| AK ?_
 apply lp (a := j) (fun c : (Int × (List ByteArray)) => ⟨62, [(1, .lpb 0 0), (5, .lsl 1 1 0 b.2.length), (6, .lsl 2 1 0 c.2.length), (7, .p (.nils)), (9, li c.1)], [(0, bx (AY e)), (1, .row 9 1 (b.2.map Eo)), (2, .row 9 1 (c.2.map Eo))], 3⟩) y
 . exact A6.trans (CO 6 9 1 Z) (wf hA (gi 3 []) Z Z Z)
 intro c ao f
 unfold EE at f
 refine AD <| rs AA <| rn 3 Z <| sx Z (Aw Z Z <| rl Z <| cd Z f (fun z => ?_) (fun ac => ?_))
 .exact AG <| AE <| AD <| AK <| rg AA <| rn 4 Z <| bq z fun al q aa => sx Z (A3 q Z Z Z <| rn 3 Z <| bq aa fun au s ab => sx Z (A7 (enc := Eo) (l := c.2) (m := [al.name]) s (fun _ => ⟨Z, Z⟩) Z Z Z Z Z Z <| rl Z <| Av <| AE <| rg AA <| rl Z <| BR ab (wf hA [(0, 0), (1, 1), (2, 4)] Z Z Z)))
 refine Al <| Ap <| D0 ac fun k ad => BA <| AE <| AD <| rs AA <| rl Z <| AK ?_
 apply lp (a := k) (fun d : (Int × (List ByteArray)) => ⟨62, [(1, .lpb 0 0), (5, .lsl 1 1 0 b.2.length), (6, .lsl 2 1 0 c.2.length), (7, .lsl 3 1 0 d.2.length), (10, li d.1)], [(0, bx (AY e)), (1, .row 9 1 (b.2.map Eo)), (2, .row 9 1 (c.2.map Eo)), (3, .row 9 1 (d.2.map Eo))], 4⟩) ad
 . exact A6.trans (CO 7 9 1 Z) (wf hA (gi 4 []) Z Z Z)
 intro d ap g
 unfold ED at g
 refine AD <| rs AA <| rn 3 Z <| sx Z (Aw Z Z <| rl Z <| cd Z g (fun ae => ?_) (fun ah => ?_))
 .exact AG <| AE <| AD <| AK <| rg AA <| rn 4 Z <| bq ae fun am t af => sx Z (A3 t Z Z Z <| rn 3 Z <| bq af fun av u ag => sx Z (A7 (enc := Eo) (l := d.2) (m := [am.name]) u (fun _ => ⟨Z, Z⟩) Z Z Z Z Z Z <| rl Z <| Av <| AE <| rg AA <| rl Z <| BR ag (wf hA (gi 3 [(3, 5)]) Z Z Z)))
 refine Al <| Ap <| CU ah fun an ai => BA <| AE <| rs AA <| rl Z <| AI ?_
 cases ai
 exact er (W2 Z (.cons (.one (.own (enc := Eo) b.2 Z Z)) (.cons (.one (.own (enc := Eo) c.2 Z Z)) (.cons (.one (.own (enc := Eo) d.2 Z Z)) .nil)))) Le.rfl
noncomputable def C1 (a : Int) (c : Int) (d : Int) : Option Bool :=
 ((bif decide (c <= a) then some (decide (a <= d)) else some false : Option (Bool))).bind fun (b : Bool) => some b
theorem Fo (b : Int) (c : Int) (d : Int) (r : Bool) (h : C1 b c d = some r) : Bk Try.prog 131 [.int .i64 b, .int .i64 c, .int .i64 d] (· = .bool r) := by
 refine fn AA Try.func131 Z Z 15 Z [.tmp 6] Z [(0, .p (.int .i64 b)), (1, .p (.int .i64 c)), (2, .p (.int .i64 d))] Z Z fun A hA => ?_
 unfold C1 at h
 refine rs AA <| rl Z <| jb (fun a : Bool => ⟨15, [(6, lb a)], [], 0⟩) h (fun a e => ?_) (fun a i => ?_)
 .refine rg AA <| rn 4 Z <| gs 10 e Z Z Z (fun f => ?_) (fun g => ?_)
  .exact rl Z <| Ag f (wf hA [] Z Z Z)
  exact rl Z <| Ag g (wf hA [] Z Z Z)
 refine AI ?_
 have hr := Option.some.inj i; subst hr
 exact er Z Le.rfl
noncomputable def GL (c : ByteArray) (b : Int) : Option (Int ⊕ Bool) :=
 bif decide (b < (c.size : Int)) then (L2 c b).bind fun a => ((bif decide (97 <= (a.toNat : Int)) then bif decide ((a.toNat : Int) <= 122) then some true else bif decide (65 <= (a.toNat : Int)) then some (decide ((a.toNat : Int) <= 90)) else some false else bif decide (65 <= (a.toNat : Int)) then some (decide ((a.toNat : Int) <= 90)) else some false : Option (Bool))).bind fun (d : Bool) => ((bif (!d) then bif (b == 0) then some true else bif decide ((a.toNat : Int) < 48) then some true else some (decide (57 < (a.toNat : Int))) else some false : Option (Bool))).bind fun (e : Bool) => bif e then some (.inr false) else some (.inl (Ab (b + 1))) else (((bif decide (1 <= (c.size : Int)) then some (decide ((c.size : Int) <= 8)) else some false : Option (Bool))).bind fun (f : Bool) => some f).map .inr
noncomputable def GM (a : ByteArray) : Option Bool :=
 AQ (GL a) 0
theorem NC (b : ByteArray) (r : Bool) (h : GM b = some r) : Bk Try.prog 132 [.str b] (· = .bool r) := by
 refine fn AA Try.func132 Z Z 51 Z [.tmp 2] Z [(0, .p (.str b))] Z Z fun A hA => ?_
 unfold GM at h
 refine rs AA <| rl Z <| AD <| rs AA <| rl Z <| AK ?_
 apply lp (a := r) (fun c : Int => ⟨51, [(0, .p (.str b)), (3, li c)], [], 0⟩) h
 . exact wf hA [] Z Z Z
 intro c ar g
 unfold GL at g
 refine AD <| rs AA <| rl Z <| cd Z g (fun j => ?_) (fun ai => ?_)
 .refine AG <| AE <| AD <| AK <| rs AA <| rn 2 Z <| bq j fun ao i k => sx Z (YE i Z Z Z <| rl Z <| jb (fun d : Bool => ⟨51, [(0, .p (.str b)), (3, li c), (4, .p (.int .u8 (ao.toNat : Int))), (5, lb d)], [], 0⟩) k (fun d l => ?_) (fun d w => ?_))
  .refine rg AA <| rn 3 Z <| gs 17 l Z Z Z (fun m => ?_) (fun t => ?_)
   .refine rn 4 Z <| gs 21 m Z Z Z (fun n => ?_) (fun o => ?_)
    .exact rl Z <| Ag n (wf hA [] Z Z Z)
    refine rn 3 Z <| gs 24 o Z Z Z (fun q => ?_) (fun s => ?_)
    .exact rl Z <| Ag q (wf hA [] Z Z Z)
    exact rl Z <| Ag s (wf hA [] Z Z Z)
   refine rn 7 Z <| gs 24 t Z Z Z (fun u => ?_) (fun v => ?_)
   .exact rl Z <| Ag u (wf hA [] Z Z Z)
   exact rl Z <| Ag v (wf hA [] Z Z Z)
  refine jb (fun e : Bool => ⟨51, [(0, .p (.str b)), (3, li c), (42, lb e)], [], 0⟩) w (fun e x => ?_) (fun e ae => ?_)
  .refine rg AA <| rn 3 Z <| gs 31 x Z Z Z (fun y => ?_) (fun ad => ?_)
   .refine rn 3 Z <| gs 34 y Z Z Z (fun z => ?_) (fun aa => ?_)
    .exact rl Z <| Ag z (wf hA [] Z Z Z)
    refine rn 4 Z <| gs 38 aa Z Z Z (fun ab => ?_) (fun ac => ?_)
    .exact rl Z <| Ag ab (wf hA [] Z Z Z)
    exact rl Z <| Ag ac (wf hA [] Z Z Z)
   exact rl Z <| Ag ad (wf hA [] Z Z Z)
  refine cd Z ae (fun af => ?_) (fun ah => ?_)
  .refine rs AA <| rl Z <| AI <| Ak <| AO <| B8 af fun ap ag => Ak <| AO ?_
   cases ag
   exact er Z Le.rfl
  exact AG <| Av <| AE <| rg AA <| rl Z <| BR ah (wf hA [] Z Z Z)
 refine Al <| Ap <| D0 ai fun aq aj => BA <| AE <| jb (fun f : Bool => ⟨51, [(2, lb f)], [], 0⟩) aj (fun f ak => ?_) (fun f an => ?_)
 .refine rg AA <| rn 4 Z <| gs 46 ak Z Z Z (fun al => ?_) (fun am => ?_)
  .exact rl Z <| Ag al (wf hA [] Z Z Z)
  exact rl Z <| Ag am (wf hA [] Z Z Z)
 refine AI ?_
 have hr := Option.some.inj an; subst hr
 exact er Z Le.rfl
noncomputable def GN (a : Int) : Option Int :=
 bif (a == 1) then some 2 else bif (a == 2) then some 3 else bif (a == 3) then some 4 else bif (a == 4) then some 1 else some 0
theorem ND (a : Int) (r : Int) (h : GN a = some r) : Bk Try.prog 133 [.int .i64 a] (· = .int .i64 r) := by
 refine fn AA Try.func133 Z Z 12 Z [.tmp 2] Z [(0, .p (.int .i64 a))] Z Z fun A hA => ?_
 unfold GN at h
 refine rs AA <| rl Z <| AD <| rs AA <| rl Z <| AK <| rs AA <| rl Z <| cd Z h (fun j => ?_) (fun b => ?_)
 .refine rs AA <| rl Z <| AI <| Ak <| AO ?_
  cases j
  exact er Z Le.rfl
 refine rs AA <| rl Z <| cd Z b (fun c => ?_) (fun d => ?_)
 .refine rs AA <| rl Z <| AI <| Ak <| AO ?_
  cases c
  exact er Z Le.rfl
 refine rs AA <| rl Z <| cd Z d (fun e => ?_) (fun f => ?_)
 .refine rs AA <| rl Z <| AI <| Ak <| AO ?_
  cases e
  exact er Z Le.rfl
 refine rs AA <| rl Z <| cd Z f (fun g => ?_) (fun i => ?_)
 .refine rs AA <| rl Z <| AI <| Ak <| AO ?_
  cases g
  exact er Z Le.rfl
 refine AG <| Av <| AE <| rs AA <| rl Z <| AI ?_
 cases i
 exact er Z Le.rfl
noncomputable def GO (b : AH) (a : Int) : Option (Int ⊕ Bool) :=
 bif decide (a < (b.lines.length : Int)) then (Aj b.lines a).bind fun c => (GM c.name).bind fun d => bif (!d) then some (.inr false) else some (.inl (Ab (a + 1))) else some (.inr true)
noncomputable def GP (b : AH) (a : Int) : Option (Int ⊕ Bool) :=
 bif decide (a < (b.signals.length : Int)) then (Aj b.signals a).bind fun c => (GM c.name).bind fun d => bif (!d) then some (.inr false) else some (.inl (Ab (a + 1))) else (AQ (GO b) 0).map .inr
noncomputable def GQ (c : AH) (b : Int) : Option (Int ⊕ Bool) :=
 bif decide (b < (c.elems.length : Int)) then (Aj c.elems b).bind fun a => (((GM a.name).bind fun e => bif (!e) then some true else (GN a.kind).bind fun f => bif (f == 0) then some true else bif (a.kind == 4) then bif (a.length != 0) then some true else bif (a.kind != 4) then (C1 a.length 1 4000).bind fun g => some (!g) else some false else bif (a.kind != 4) then (C1 a.length 1 4000).bind fun h => some (!h) else some false : Option (Bool))).bind fun (d : Bool) => bif d then some (.inr false) else some (.inl (Ab (b + 1))) else (AQ (GP c) 0).map .inr
noncomputable def JK (a : AH) : Option Bool :=
 (((C1 a.top 1 60).bind fun c => bif (!c) then some true else (C1 a.brake 1 10).bind fun d => bif (!d) then some true else (C1 a.margin 1 4000).bind fun e => bif (!e) then some true else (C1 a.throw 1 20).bind fun f => bif (!f) then some true else some ((a.elems.length : Int) == 0) : Option (Bool))).bind fun (b : Bool) => bif b then some false else AQ (GQ a) 0
theorem VB (b : AH) (r : Bool) (h : JK b = some r) : Bk Try.prog 92 [.agg (AY b)] (· = .bool r) := by
 refine fn AA Try.func92 Z Z 108 Z [.tmp 2] Z [(0, .p (.agg (AY b)))] Z Z fun A hA => ?_
 unfold JK at h
 refine rs AA <| rl Z <| AD <| jb (fun d : Bool => ⟨108, [(1, .lpb 0 0), (34, lb d)], [(0, bx (AY b))], 1⟩) h (fun d aj => ?_) (fun d bo => ?_)
 .refine rg AA <| rn 2 Z <| bq aj fun cc q ak => sx Z (Ah (Fo _ _ _ _ q) (.inl Z) Z Z Z <| rn 2 Z <| gs 11 ak Z Z Z (fun al => ?_) (fun am => ?_))
  .exact rl Z <| Ag al (wf hA [(0, 0)] Z Z Z)
  refine rn 2 Z <| bq am fun ce s ao => sx Z (Ah (Fo _ _ _ _ s) (.inl Z) Z Z Z <| rn 3 Z <| gs 17 ao Z Z Z (fun ap => ?_) (fun aq => ?_))
  .exact rl Z <| Ag ap (wf hA [(0, 0)] Z Z Z)
  refine rn 2 Z <| bq aq fun cf t ar => sx Z (Ah (Fo _ _ _ _ t) (.inl Z) Z Z Z <| rn 3 Z <| gs 23 ar Z Z Z (fun av => ?_) (fun aw => ?_))
  .exact rl Z <| Ag av (wf hA [(0, 0)] Z Z Z)
  refine rn 2 Z <| bq aw fun cj x bc => sx Z (Ah (Fo _ _ _ _ x) (.inl Z) Z Z Z <| rn 3 Z <| gs 29 bc Z Z Z (fun bl => ?_) (fun bn => ?_))
  .exact rl Z <| Ag bl (wf hA [(0, 0)] Z Z Z)
  exact rn 2 Z <| sx Z (Aw Z Z <| rl Z <| Ag bn (wf hA [(0, 0)] Z Z Z))
 refine cd Z bo (fun bp => ?_) (fun br => ?_)
 .refine rs AA <| rl Z <| AI <| AO ?_
  cases bp
  exact er Z Le.rfl
 refine AG <| AE <| AD <| rs AA <| rl Z <| AK ?_
 apply lp (a := r) (fun c : Int => ⟨108, [(1, .lpb 0 0), (3, li c)], [(0, bx (AY b))], 1⟩) br
 . exact wf hA [(0, 0)] Z Z Z
 intro c b7 f
 unfold GQ at f
 refine AD <| rs AA <| rn 3 Z <| sx Z (Aw Z Z <| rl Z <| cd Z f (fun an => ?_) (fun bk => ?_))
 .refine AG <| AE <| AD <| AK <| rs AA <| rn 3 Z <| bq an fun cg u au => sx Z (A3 u Z Z Z <| rl Z <| jb (fun e : Bool => ⟨108, [(1, .lpb 0 0), (3, li c), (77, lb e)], [(0, bx (AY b))], 1⟩) au (fun e ax => ?_) (fun e bg => ?_))
  .refine rg AA <| rn 2 Z <| bq ax fun ch v ay => sx Z (Ah (NC _ _ v) (.inl Z) Z Z Z <| rn 2 Z <| gs 51 ay Z Z Z (fun az => ?_) (fun a0 => ?_))
   .exact rl Z <| Ag az (wf hA [(0, 0)] Z Z Z)
   refine rn 2 Z <| bq a0 fun ci w a1 => sx Z (Ah (ND _ _ w) (.inl Z) Z Z Z <| rn 3 Z <| gs 57 a1 Z Z Z (fun a2 => ?_) (fun a3 => ?_))
   .exact rl Z <| Ag a2 (wf hA [(0, 0)] Z Z Z)
   refine rn 4 Z <| gs 61 a3 Z Z Z (fun a4 => ?_) (fun ba => ?_)
   .refine rn 6 Z <| gs 67 a4 Z Z Z (fun a5 => ?_) (fun a6 => ?_)
    .exact rl Z <| Ag a5 (wf hA [(0, 0)] Z Z Z)
    refine rn 4 Z <| gs 71 a6 Z Z Z (fun a7 => ?_) (fun a9 => ?_)
    .exact rn 2 Z <| bq a7 fun ck y a8 => sx Z (Ah (Fo _ _ _ _ y) (.inl Z) Z Z Z <| rl Z <| Ag a8 (wf hA [(0, 0)] Z Z Z))
    exact rl Z <| Ag a9 (wf hA [(0, 0)] Z Z Z)
   refine rn 10 Z <| gs 71 ba Z Z Z (fun bb => ?_) (fun bf => ?_)
   .exact rn 2 Z <| bq bb fun cl z be => sx Z (Ah (Fo _ _ _ _ z) (.inl Z) Z Z Z <| rl Z <| Ag be (wf hA [(0, 0)] Z Z Z))
   exact rl Z <| Ag bf (wf hA [(0, 0)] Z Z Z)
  refine cd Z bg (fun bh => ?_) (fun bj => ?_)
  .refine rs AA <| rl Z <| AI <| Ak <| AO <| B8 bh fun b5 bi => Ak <| AO ?_
   cases bi
   exact er Z Le.rfl
  exact AG <| Av <| AE <| rg AA <| rl Z <| BR bj (wf hA [(0, 0)] Z Z Z)
 refine Al <| Ap <| D0 bk fun l bm => BA <| AE <| AD <| rs AA <| rl Z <| AK ?_
 apply lp (a := l) (fun j : Int => ⟨108, [(1, .lpb 0 0), (5, li j)], [(0, bx (AY b))], 1⟩) bm
 . exact wf hA [(0, 0)] Z Z Z
 intro j b8 g
 unfold GP at g
 refine AD <| rs AA <| rn 3 Z <| sx Z (Aw Z Z <| rl Z <| cd Z g (fun bs => ?_) (fun b0 => ?_))
 .refine AG <| AE <| AD <| AK <| rs AA <| rn 3 Z <| bq bs fun cm aa bt => sx Z (A3 aa Z Z Z <| rn 2 Z <| bq bt fun cn ab bu => sx Z (Ah (NC _ _ ab) (.inl Z) Z Z Z <| rl Z <| cd Z bu (fun bv => ?_) (fun bz => ?_)))
  .refine rs AA <| rl Z <| AI <| Ak <| AO <| B8 bv fun b6 bw => Ak <| AO ?_
   cases bw
   exact er Z Le.rfl
  exact AG <| Av <| AE <| rg AA <| rl Z <| BR bz (wf hA [(0, 0)] Z Z Z)
 refine Al <| Ap <| D0 b0 fun m b1 => BA <| AE <| AD <| rs AA <| rl Z <| AK ?_
 apply lp (a := m) (fun k : Int => ⟨108, [(1, .lpb 0 0), (6, li k)], [(0, bx (AY b))], 1⟩) b1
 . exact wf hA [(0, 0)] Z Z Z
 intro k b9 i
 unfold GO at i
 refine AD <| rs AA <| rn 3 Z <| sx Z (Aw Z Z <| rl Z <| cd Z i (fun b2 => ?_) (fun ah => ?_))
 .refine AG <| AE <| AD <| AK <| rs AA <| rn 3 Z <| bq b2 fun ca n ac => sx Z (A3 n Z Z Z <| rn 2 Z <| bq ac fun cb o ad => sx Z (Ah (NC _ _ o) (.inl Z) Z Z Z <| rl Z <| cd Z ad (fun ae => ?_) (fun ag => ?_)))
  .refine rs AA <| rl Z <| AI <| Ak <| AO <| B8 ae fun b3 af => Ak <| AO ?_
   cases af
   exact er Z Le.rfl
  exact AG <| Av <| AE <| rg AA <| rl Z <| BR ag (wf hA [(0, 0)] Z Z Z)
 refine Al <| Ap <| CU ah fun b4 ai => BA <| AE <| rs AA <| rl Z <| AI ?_
 cases ai
 exact er Z Le.rfl
noncomputable def Fe (c : (List ByteArray)) (a : Int) (b : Int) : Option (Int ⊕ (Int ⊕ Bool)) :=
 bif decide (b < a) then (Aj c a).bind fun d => (Aj c b).bind fun e => bif (d.toList == e.toList) then some (.inr (.inr true)) else some (.inl (Ab (b + 1))) else some (.inr (.inl (Ab (a + 1))))
noncomputable def HN (b : (List ByteArray)) (a : Int) : Option (Int ⊕ Bool) :=
 bif decide (a < (b.length : Int)) then AQ (Fe b a) 0 else some (.inr false)
noncomputable def FK (a : (List ByteArray)) : Option Bool :=
 AQ (HN a) 0
theorem L7 (b : (List ByteArray)) (r : Bool) (h : FK b = some r) : Bk Try.prog 93 [.slice 1 (b.map Eo)] (· = .bool r) := by
 refine fn AA Try.func93 Z Z 25 Z [.tmp 2] Z [(0, .p (.slice 1 (b.map Eo)))] Z Z fun A hA => ?_
 unfold FK at h
 refine rs AA <| rl Z <| AD <| rs AA <| rl Z <| AK ?_
 apply lp (a := r) (fun c : Int => ⟨25, [(0, ls 1 Eo b), (3, li c)], [], 0⟩) h
 . exact wf hA [] Z Z Z
 intro c g d
 unfold HN at d
 refine AD <| rs AA <| rn 2 Z <| sx Z (Aw Z Z <| rl Z <| cd Z d (fun k => ?_) (fun w => ?_))
 .refine AG <| AE <| AD <| AK <| rs AA <| rl Z <| AK ?_
  apply lp (a := g) (fun f : Int => ⟨25, [(0, ls 1 Eo b), (3, li c), (4, li f)], [], 0⟩) k
  . exact wf hA [] Z Z Z
  intro f ac e
  unfold Fe at e
  refine AD <| rs AA <| rl Z <| cd Z e (fun l => ?_) (fun u => ?_)
  .refine AG <| AE <| AD <| AK <| AD ?_
   refine C5 AA mixed [0, 1, 2, 3, 4, 5, 6, 7, 8] 9 (by kernel_rfl) Z Z Z ?_
   refine A8 2 Z <| bq l fun ad i m => Ae Z (Am Z (A3 i Z Z Z <| A8 3 Z <| bq m fun ae j n => Ae Z (Am Z (A3 j Z Z Z <| BB Z <| AE <| cd Z n (fun o => ?_) (fun t => ?_)))))
   .refine rs AA <| rl Z <| AI <| Ak <| AO <| B8 o fun y q => Ak <| Ak <| AO <| B8 q fun z s => Ak <| AO ?_
    cases s
    exact er Z Le.rfl
   exact AG <| Av <| AE <| rg AA <| rl Z <| BR t (wf hA [] Z Z Z)
  exact Al <| Ap <| CU u fun aa v => BA <| Av <| AE <| rg AA <| rl Z <| BR v (wf hA [] Z Z Z)
 refine Al <| Ap <| CU w fun ab x => BA <| AE <| rs AA <| rl Z <| AI ?_
 cases x
 exact er Z Le.rfl
end Go.E
/- Plain functions, and walks in step with them. Written by a program (gen.py). No condition. -/
set_option maxRecDepth 100000
namespace Go.E
open Go Go.RowKit Go.Proofs
noncomputable def Ha (b : AH) (a : AC) : Option Bool :=
 ((bif decide (0 <= a.elem) then bif decide (a.elem < (b.elems.length : Int)) then bif decide (0 <= a.fin) then (Aj b.elems a.elem).bind fun d => (GN d.kind).bind fun e => some (decide (a.fin < e)) else some false else some false else some false : Option (Bool))).bind fun (c : Bool) => some c
theorem OW (b : AH) (c : AC) (r : Bool) (h : Ha b c = some r) : Bk Try.prog 134 [.agg (AY b), .agg (As c)] (· = .bool r) := by
 refine fn AA Try.func134 Z Z 34 Z [.tmp 4] Z [(0, .p (.agg (AY b))), (1, .p (.agg (As c)))] Z Z fun A hA => ?_
 unfold Ha at h
 refine rs AA <| rl Z <| jb (fun a : Bool => ⟨34, [(4, lb a)], [], 0⟩) h (fun a f => ?_) (fun a q => ?_)
 .refine C5 AA mixed [0, 1, 2, 3, 4, 5, 6, 7, 8, 9, 10, 11, 12, 13, 14, 15, 16, 17, 18, 19, 20, 21, 22, 23, 24, 25, 26, 27, 28, 29] 30 (by kernel_rfl) Z Z Z ?_
  refine A8 4 Z <| PB 8 f Z Z Z (fun g => ?_) (fun o => ?_)
  .refine A8 4 Z <| Ae Z (PD Z Z <| A8 3 Z <| PB 16 g Z Z Z (fun i => ?_) (fun n => ?_))
   .refine A8 5 Z <| PB 21 i Z Z Z (fun j => ?_) (fun m => ?_)
    .exact A8 6 Z <| bq j fun s d k => Ae Z (Am Z (A3 d Z Z Z <| A8 2 Z <| bq k fun t e l => Ae Z (BC (ND _ _ e) (.inl Z) Z Z Z <| BB Z <| Ag l (wf hA [] Z Z Z))))
    exact BB Z <| Ag m (wf hA [] Z Z Z)
   exact BB Z <| Ag n (wf hA [] Z Z Z)
  exact BB Z <| Ag o (wf hA [] Z Z Z)
 refine AI ?_
 have hr := Option.some.inj q; subst hr
 exact er Z Le.rfl
noncomputable def H2 (d : AH) (e : AC) (c : Int) : Option (Int ⊕ (AC × Bool)) :=
 bif decide (c < (d.joins.length : Int)) then (Aj d.joins c).bind fun f => bif (f.a == e) then (Aj d.joins c).bind fun g => some (.inr (g.b, true)) else (Aj d.joins c).bind fun h => bif (h.b == e) then (Aj d.joins c).bind fun i => some (.inr (i.a, true)) else some (.inl (Ab (c + 1))) else some (.inr ((⟨0, 0⟩ : AC), false))
noncomputable def CS (a : AH) (b : AC) : Option (AC × Bool) :=
 AQ (H2 a b) 0
theorem DD (d : AH) (c : AC) (r : (AC × Bool)) (h : CS d c = some r) : Bk Try.prog 89 [.agg (AY d), .agg (As c)] (· = .tup [.agg (As r.1), .bool r.2]) := by
 refine fn AA Try.func89 Z Z 43 Z [.cell 4 96, .tmp 5] Z [(0, .p (.agg (AY d))), (1, .p (.agg (As c)))] Z Z fun A hA => ?_
 unfold CS at h
 refine rs AA <| rl Z <| AD <| rs AA <| rl Z <| AK ?_
 apply lp (a := r) (fun f : Int => ⟨43, [(2, .lpb 0 0), (3, .lpb 1 0), (4, .lpb 2 0), (6, li f)], [(0, bx (AY d)), (1, .box [li c.elem, li c.fin]), (2, .box [li 0, li 0])], 3⟩) h
 . exact wf hA (gi 3 []) Z Z Z
 intro f af e
 unfold H2 at e
 refine AD <| rs AA <| rn 3 Z <| sx Z (Aw Z Z <| rl Z <| cd Z e (fun l => ?_) (fun y => ?_))
 .refine AG <| AE <| AD <| AK <| AD <| AD ?_
  refine C5 AA mixed [0, 1, 2, 3, 4, 5, 6, 7] 8 (by kernel_rfl) Z Z Z ?_
  refine A8 3 Z <| bq l fun aa g m => Ae Z (Am Z (A3 g Z Z Z <| A8 3 Z <| Ae Z (LK (KG aa.a c) Z Z Z Z Z <| BB Z <| AE <| cd Z m (fun n => ?_) (fun s => ?_))))
  .refine rs AA <| rn 3 Z <| bq n fun ag i o => sx Z (A3 i Z Z Z <| rl Z <| AI <| AO <| Ak <| AO <| B8 o fun ac q => Ak <| AO ?_)
   cases q
   exact er Z Le.rfl
  refine AG <| AE <| AD ?_
  refine C5 AA mixed [0, 1, 2, 3, 4, 5, 6, 7] 8 (by kernel_rfl) Z Z Z ?_
  refine A8 3 Z <| bq s fun ab j t => Ae Z (Am Z (A3 j Z Z Z <| A8 3 Z <| Ae Z (LK (KG ab.b c) Z Z Z Z Z <| BB Z <| AE <| cd Z t (fun u => ?_) (fun x => ?_))))
  .refine rs AA <| rn 3 Z <| bq u fun ah k v => sx Z (A3 k Z Z Z <| rl Z <| AI <| Ak <| AO <| B8 v fun ad w => Ak <| AO ?_)
   cases w
   exact er Z Le.rfl
  exact AG <| Av <| AE <| rg AA <| rl Z <| BR x (wf hA (gi 3 []) Z Z Z)
 refine Al <| Ap <| CU y fun ae z => BA <| AE <| rs AA <| rl Z <| AI ?_
 cases z
 exact er Z Le.rfl
noncomputable def DE (b : AH) (a : Int) : Option Int :=
 ((bif decide (a < 0) then some true else some (decide ((b.elems.length : Int) <= a)) : Option (Bool))).bind fun (c : Bool) => bif c then some 0 else (Aj b.elems a).bind fun d => some d.kind
theorem E4 (a : AH) (b : Int) (r : Int) (h : DE a b = some r) : Bk Try.prog 135 [.agg (AY a), .int .i64 b] (· = .int .i64 r) := by
 refine fn AA Try.func135 Z Z 20 Z [.tmp 4] Z [(0, .p (.agg (AY a))), (1, .p (.int .i64 b))] Z Z fun A hA => ?_
 unfold DE at h
 refine rs AA <| rl Z <| AD <| jb (fun c : Bool => ⟨20, [(1, li b), (2, .lpb 0 0), (13, lb c)], [(0, bx (AY a))], 1⟩) h (fun c e => ?_) (fun c i => ?_)
 .refine rg AA <| rn 3 Z <| gs 7 e Z Z Z (fun f => ?_) (fun g => ?_)
  .exact rl Z <| Ag f (wf hA [(0, 0)] Z Z Z)
  exact rn 3 Z <| sx Z (Aw Z Z <| rl Z <| Ag g (wf hA [(0, 0)] Z Z Z))
 refine cd Z i (fun j => ?_) (fun k => ?_)
 .refine rs AA <| rl Z <| AI <| AO ?_
  cases j
  exact er Z Le.rfl
 refine AG <| AE <| rs AA <| rn 3 Z <| bq k fun m d l => sx Z (A3 d Z Z Z <| rl Z <| AI ?_)
 cases l
 exact er Z Le.rfl
noncomputable def Ep (c : (Int × (List AC))) (b : Int) (a : Int) : Option (Int ⊕ (Int ⊕ Bool)) :=
 bif decide (a < b) then (Aj c.2 a).bind fun d => (Aj c.2 b).bind fun e => bif (d == e) then some (.inr (.inr false)) else some (.inl (Ab (a + 1))) else some (.inr (.inl (Ab (b + 1))))
noncomputable def Er (b : AH) (a : Int) : Option (Int ⊕ Bool) :=
 bif decide (a < (b.elems.length : Int)) then Ja (((Aj b.elems a).bind fun e => bif (e.kind == 4) then (CS b (⟨a, 0⟩ : AC)).bind fun c => ((bif (!c.2) then some true else (DE b c.1.elem).bind fun f => some (f == 4) : Option (Bool))).bind fun (d : Bool) => bif d then some (.inr (.inr false)) else some (.inl ()) else some (.inl ()) : Option (Unit ⊕ (Int ⊕ Bool)))) fun (g : Unit) => some (.inl (Ab (a + 1))) else some (.inr true)
noncomputable def Es (c : AH) (a : (Int × (List AC))) (b : Int) : Option (Int ⊕ Bool) :=
 bif decide (b < (a.2.length : Int)) then (Aj a.2 b).bind fun d => (Ha c d).bind fun e => bif (!e) then some (.inr false) else AQ (Ep a b) 0 else (AQ (Er c) 0).map .inr
noncomputable def Gj (d : AH) (c : Int × (List AC)) : Option ((Int × (List AC)) ⊕ Bool) :=
 bif decide (c.1 < (d.joins.length : Int)) then (Aj d.joins c.1).bind fun e => (Aj d.joins c.1).bind fun f => (BP c.2 [e.a, f.b]).bind fun g => some (.inl (Ab (c.1 + 1), g)) else (AQ (Es d c) 0).map .inr
noncomputable def G4 (a : AH) : Option Bool :=
 AQ (Gj a) (0, ([] : List AC))
theorem S2 (d : AH) (r : Bool) (h : G4 d = some r) : Bk Try.prog 94 [.agg (AY d)] (· = .bool r) := by
 refine fn AA Try.func94 Z Z 89 Z [.tmp 2] Z [(0, .p (.agg (AY d)))] Z Z fun A hA => ?_
 unfold G4 at h
 refine rs AA <| rl Z <| rs AA <| rl Z <| AD <| rs AA <| rl Z <| AK ?_
 apply lp (a := r) (fun c : (Int × (List AC)) => ⟨89, [(1, .lpb 0 0), (3, .lsl 1 2 0 c.2.length), (4, li c.1)], [(0, bx (AY d)), (1, .row 96 2 (c.2.map As))], 2⟩) h
 . exact A6.trans (CO 3 96 2 Z) (wf hA [(0, 0), (1, 1)] Z Z Z)
 intro c b2 o
 unfold Gj at o
 refine AD <| rs AA <| rn 3 Z <| sx Z (Aw Z Z <| rl Z <| cd Z o (fun ag => ?_) (fun aw => ?_))
 .refine AG <| AE <| AD <| AK ?_
  refine C5 AA mixed [0, 1, 2, 3, 4, 5, 6, 7, 8, 9, 10, 11, 12, 13, 14, 15] 16 (by kernel_rfl) Z Z Z ?_
  exact A8 4 Z <| bq ag fun bo z am => Ae Z (Am Z (A3 z Z Z Z <| A8 5 Z <| bq am fun bp aa an => Ae Z (Am Z (A3 aa Z Z Z <| A8 3 Z <| bq an fun b7 ab ap => Ae Z (Bn (A7 (enc := As) (l := c.2) (m := [bo.a, bp.b]) ab (fun _ => ⟨Z, Z⟩) Z Z Z Z Z Z <| BB Z <| Av <| AE <| rg AA <| rl Z <| BR ap (wf hA [(0, 0), (1, 16)] Z Z Z)))))))
 refine Al <| Ap <| D0 aw fun v a3 => BA <| AE <| AD <| rs AA <| rl Z <| AK ?_
 apply lp (a := v) (fun f : Int => ⟨89, [(1, .lpb 0 0), (3, .lsl 1 2 0 c.2.length), (5, li f)], [(0, bx (AY d)), (1, .row 96 2 (c.2.map As))], 2⟩) a3
 . exact wf hA [(0, 0), (1, 1)] Z Z Z
 intro f w n
 unfold Es at n
 refine AD <| rs AA <| rl Z <| cd Z n (fun af => ?_) (fun a1 => ?_)
 .refine AG <| AE <| AD <| AK <| AD <| AD ?_
  refine C5 AA mixed [0, 1, 2, 3, 4, 5, 6] 7 (by kernel_rfl) Z Z Z ?_
  refine A8 3 Z <| bq af fun b5 i ah => Ae Z (Am Z (Cc i Z Z Z Z <| Ae Z (Bp Z (Bx i Z Z Z <| bq ah fun b6 y ai => Ae Z (BC (OW _ _ _ y) (.inl Z) Z Z Z <| BB Z <| AE <| cd Z ai (fun aj => ?_) (fun al => ?_))))))
  .refine rs AA <| rl Z <| AI <| AO <| Ak <| AO <| B8 aj fun bt ak => Ak <| AO ?_
   cases ak
   exact er Z Le.rfl
  refine AG <| AE <| rs AA <| rl Z <| AK ?_
  apply lp (a := w) (fun t : Int => ⟨89, [(1, .lpb 0 0), (3, .lsl 1 2 0 c.2.length), (5, li f), (6, li t)], [(0, bx (AY d)), (1, .row 96 2 (c.2.map As))], 2⟩) al
  . exact wf hA [(0, 0), (1, 1)] Z Z Z
  intro t b3 q
  unfold Ep at q
  refine AD <| rs AA <| rl Z <| cd Z q (fun ao => ?_) (fun az => ?_)
  .refine AG <| AE <| AD <| AK <| AD ?_
   refine C5 AA mixed [0, 1, 2, 3, 4, 5, 6, 7, 8] 9 (by kernel_rfl) Z Z Z ?_
   refine A8 2 Z <| bq ao fun br j aq => Ae Z (Am Z (Cc j Z Z Z Z <| Ae Z (Bp Z (Bx j Z Z Z <| A8 2 Z <| bq aq fun bs k ar => Ae Z (Am Z (Cc k Z Z Z Z <| Ae Z (Bp Z (Bx k Z Z Z <| Ae Z (LK (KG br bs) Z Z Z Z Z <| BB Z <| AE <| cd Z ar (fun au => ?_) (fun ay => ?_))))))))))
   .refine rs AA <| rl Z <| AI <| Ak <| AO <| B8 au fun bu av => Ak <| Ak <| AO <| B8 av fun bv ax => Ak <| AO ?_
    cases ax
    exact er Z Le.rfl
   exact AG <| Av <| AE <| rg AA <| rl Z <| BR ay (wf hA [(0, 0), (1, 1)] Z Z Z)
  exact Al <| Ap <| CU az fun bw a0 => BA <| Av <| AE <| rg AA <| rl Z <| BR a0 (wf hA [(0, 0), (1, 1)] Z Z Z)
 refine Al <| Ap <| D0 a1 fun u a2 => BA <| AE <| AD <| rs AA <| rl Z <| AK ?_
 apply lp (a := u) (fun e : Int => ⟨89, [(1, .lpb 0 0), (7, li e)], [(0, bx (AY d))], 1⟩) a2
 . exact wf hA [(0, 0)] Z Z Z
 intro e x s
 unfold Er at s
 refine AD <| rs AA <| rn 3 Z <| sx Z (Aw Z Z <| rl Z <| cd Z s (fun a4 => ?_) (fun bl => ?_))
 .refine AG <| AE ?_
  apply jn (a := x) (fun bn : Unit => ⟨89, [(1, .lpb 0 0), (7, li e)], [(0, bx (AY d))], 1⟩) a4
  .intro b4 a5
   refine AK <| rs AA <| rn 3 Z <| bq a5 fun b8 ac a6 => sx Z (A3 ac Z Z Z <| rl Z <| cd Z a6 (fun a7 => ?_) (fun bj => ?_))
   .refine rs AA <| rn 3 Z <| bq a7 fun b9 ad a8 => sx Z (Ah (DD _ _ _ ad) (.inl Z) Z Z Z <| rl Z <| jb (fun g : Bool => ⟨89, [(1, .lpb 0 0), (7, li e), (88, lb g)], [(0, bx (AY d))], 1⟩) a8 (fun g a9 => ?_) (fun g be => ?_))
    .refine rg AA <| rn 3 Z <| gs 82 a9 Z Z Z (fun ba => ?_) (fun bb => ?_)
     .exact rl Z <| Ag ba (wf hA [(0, 0)] Z Z Z)
     exact rn 3 Z <| bq bb fun ca ae bc => sx Z (Ah (E4 _ _ _ ae) (.inl Z) Z Z Z <| rl Z <| Ag bc (wf hA [(0, 0)] Z Z Z))
    refine cd Z be (fun bf => ?_) (fun bi => ?_)
    .refine rs AA <| rl Z <| AI <| Ak <| B8 bf fun bz bg => B8 bg fun b0 bh => Ak <| AO ?_
     cases bh
     exact er Z Le.rfl
    exact AG <| Av <| BR bi (wf hA [(0, 0)] Z Z Z)
   exact AG <| Av <| BR bj (wf hA [(0, 0)] Z Z Z)
  intro bn bk
  exact rg AA <| rl Z <| BR bk (wf hA [(0, 0)] Z Z Z)
 refine Al <| Ap <| CU bl fun b1 bm => BA <| AE <| rs AA <| rl Z <| AI ?_
 cases bm
 exact er Z Le.rfl
noncomputable def HO (b : AH) (c : AC) (a : Int) : Option (Int ⊕ Int) :=
 bif decide (a < (b.signals.length : Int)) then (Aj b.signals a).bind fun d => bif (d.at_ == c) then some (.inr a) else some (.inl (Ab (a + 1))) else some (.inr (-1))
noncomputable def EJ (a : AH) (b : AC) : Option Int :=
 AQ (HO a b) 0
theorem Jq (c : AH) (b : AC) (r : Int) (h : EJ c b = some r) : Bk Try.prog 130 [.agg (AY c), .agg (As b)] (· = .int .i64 r) := by
 refine fn AA Try.func130 Z Z 22 Z [.tmp 4] Z [(0, .p (.agg (AY c))), (1, .p (.agg (As b)))] Z Z fun A hA => ?_
 unfold EJ at h
 refine rs AA <| rl Z <| AD <| rs AA <| rl Z <| AK ?_
 apply lp (a := r) (fun e : Int => ⟨22, [(2, .lpb 0 0), (3, .lpb 1 0), (5, li e)], [(0, bx (AY c)), (1, .box [li b.elem, li b.fin])], 2⟩) h
 . exact wf hA [(0, 0), (1, 1)] Z Z Z
 intro e t d
 unfold HO at d
 refine AD <| rs AA <| rn 3 Z <| sx Z (Aw Z Z <| rl Z <| cd Z d (fun n => ?_) (fun l => ?_))
 .refine AG <| AE <| AD <| AK <| AD ?_
  refine C5 AA mixed [0, 1, 2, 3, 4, 5, 6, 7] 8 (by kernel_rfl) Z Z Z ?_
  refine A8 3 Z <| bq n fun o f g => Ae Z (Am Z (A3 f Z Z Z <| A8 3 Z <| Ae Z (LK (KG o.at_ b) Z Z Z Z Z <| BB Z <| AE <| cd Z g (fun i => ?_) (fun k => ?_))))
  .refine rs AA <| rl Z <| AI <| Ak <| AO <| B8 i fun q j => Ak <| AO ?_
   have hr := Option.some.inj j; subst hr
   exact er Z Le.rfl
  exact AG <| Av <| AE <| rg AA <| rl Z <| BR k (wf hA [(0, 0), (1, 1)] Z Z Z)
 refine Al <| Ap <| CU l fun s m => BA <| AE <| rs AA <| rl Z <| AI ?_
 cases m
 exact er Z Le.rfl
noncomputable def EK (b : AH) (a : Int) : Option (Int ⊕ Bool) :=
 bif decide (a < (b.elems.length : Int)) then (((Aj b.elems a).bind fun d => bif (d.kind == 4) then (EJ b (⟨a, 0⟩ : AC)).bind fun e => some (decide (e < 0)) else some false : Option (Bool))).bind fun (c : Bool) => bif c then some (.inr false) else some (.inl (Ab (a + 1))) else some (.inr true)
noncomputable def F0 (a : AH) (b : Int) : Option (Int ⊕ Bool) :=
 bif decide (b < (a.signals.length : Int)) then (Aj a.signals b).bind fun c => (DE a c.at_.elem).bind fun d => (((Ha a c.at_).bind fun h => bif (!h) then some true else bif (d != 1) then some (d != 4) else some false : Option (Bool))).bind fun (f : Bool) => bif f then some (.inr false) else (CS a c.at_).bind fun e => ((bif (!e.2) then some true else (DE a e.1.elem).bind fun i => bif (i == 4) then some true else (EJ a c.at_).bind fun j => some (j != b) : Option (Bool))).bind fun (g : Bool) => bif g then some (.inr false) else some (.inl (Ab (b + 1))) else (AQ (EK a) 0).map .inr
noncomputable def GS (a : AH) : Option Bool :=
 AQ (F0 a) 0
theorem SD (b : AH) (r : Bool) (h : GS b = some r) : Bk Try.prog 95 [.agg (AY b)] (· = .bool r) := by
 refine fn AA Try.func95 Z Z 81 Z [.tmp 2] Z [(0, .p (.agg (AY b)))] Z Z fun A hA => ?_
 unfold GS at h
 refine rs AA <| rl Z <| AD <| rs AA <| rl Z <| AK ?_
 apply lp (a := r) (fun c : Int => ⟨81, [(1, .lpb 0 0), (3, li c)], [(0, bx (AY b))], 1⟩) h
 . exact wf hA [(0, 0)] Z Z Z
 intro c bh j
 unfold F0 at j
 refine AD <| rs AA <| rn 3 Z <| sx Z (Aw Z Z <| rl Z <| cd Z j (fun ai => ?_) (fun a9 => ?_))
 .refine AG <| AE <| AD <| AK <| rs AA <| rn 3 Z <| bq ai fun k o aj => sx Z (A3 o Z Z Z <| rl Z <| rs AA <| rn 3 Z <| bq aj fun bk q ak => sx Z (Ah (E4 _ _ _ q) (.inl Z) Z Z Z <| rl Z <| AD <| jb (fun f : Bool => ⟨81, [(1, .lpb 0 0), (3, li c), (4, .lpb 1 0), (37, lb f)], [(0, bx (AY b)), (1, .box [li k.at_.elem, li k.at_.fin])], 2⟩) ak (fun f al => ?_) (fun f ar => ?_)))
  .refine rg AA <| rn 2 Z <| bq al fun bl s am => sx Z (Ah (OW _ _ _ s) (.inl Z) Z Z Z <| rn 2 Z <| gs 30 am Z Z Z (fun an => ?_) (fun ao => ?_))
   .exact rl Z <| Ag an (wf hA [(0, 0), (1, 1)] Z Z Z)
   refine rn 3 Z <| gs 33 ao Z Z Z (fun ap => ?_) (fun aq => ?_)
   .exact rl Z <| Ag ap (wf hA [(0, 0), (1, 1)] Z Z Z)
   exact rl Z <| Ag aq (wf hA [(0, 0), (1, 1)] Z Z Z)
  refine cd Z ar (fun au => ?_) (fun aw => ?_)
  .refine rs AA <| rl Z <| AI <| AO <| Ak <| AO <| B8 au fun be av => Ak <| AO ?_
   cases av
   exact er Z Le.rfl
  refine AG <| AE <| rs AA <| rn 2 Z <| bq aw fun bm t ax => sx Z (Ah (DD _ _ _ t) (.inl Z) Z Z Z <| rl Z <| jb (fun g : Bool => ⟨81, [(1, .lpb 0 0), (3, li c), (59, lb g)], [(0, bx (AY b))], 1⟩) ax (fun g ay => ?_) (fun g a5 => ?_))
  .refine rg AA <| rn 3 Z <| gs 46 ay Z Z Z (fun az => ?_) (fun a0 => ?_)
   .exact rl Z <| Ag az (wf hA [(0, 0)] Z Z Z)
   refine rn 3 Z <| bq a0 fun bn u a1 => sx Z (Ah (E4 _ _ _ u) (.inl Z) Z Z Z <| rn 3 Z <| gs 53 a1 Z Z Z (fun a2 => ?_) (fun a3 => ?_))
   .exact rl Z <| Ag a2 (wf hA [(0, 0)] Z Z Z)
   exact rn 2 Z <| bq a3 fun bo v a4 => sx Z (Ah (Jq _ _ _ v) (.inl Z) Z Z Z <| rl Z <| Ag a4 (wf hA [(0, 0)] Z Z Z))
  refine cd Z a5 (fun a6 => ?_) (fun a8 => ?_)
  .refine rs AA <| rl Z <| AI <| Ak <| AO <| B8 a6 fun bf a7 => Ak <| AO ?_
   cases a7
   exact er Z Le.rfl
  exact AG <| Av <| AE <| rg AA <| rl Z <| BR a8 (wf hA [(0, 0)] Z Z Z)
 refine Al <| Ap <| D0 a9 fun l ba => BA <| AE <| AD <| rs AA <| rl Z <| AK ?_
 apply lp (a := l) (fun d : Int => ⟨81, [(1, .lpb 0 0), (8, li d)], [(0, bx (AY b))], 1⟩) ba
 . exact wf hA [(0, 0)] Z Z Z
 intro d bg i
 unfold EK at i
 refine AD <| rs AA <| rn 3 Z <| sx Z (Aw Z Z <| rl Z <| cd Z i (fun w => ?_) (fun ag => ?_))
 .refine AG <| AE <| AD <| AK <| jb (fun e : Bool => ⟨81, [(1, .lpb 0 0), (8, li d), (80, lb e)], [(0, bx (AY b))], 1⟩) w (fun e x => ?_) (fun e ac => ?_)
  .refine rg AA <| rn 3 Z <| bq x fun bi m y => sx Z (A3 m Z Z Z <| rn 4 Z <| gs 74 y Z Z Z (fun z => ?_) (fun ab => ?_))
   .exact rn 3 Z <| bq z fun bj n aa => sx Z (Ah (Jq _ _ _ n) (.inl Z) Z Z Z <| rl Z <| Ag aa (wf hA [(0, 0)] Z Z Z))
   exact rl Z <| Ag ab (wf hA [(0, 0)] Z Z Z)
  refine cd Z ac (fun ad => ?_) (fun af => ?_)
  .refine rs AA <| rl Z <| AI <| Ak <| AO <| B8 ad fun bb ae => Ak <| AO ?_
   cases ae
   exact er Z Le.rfl
  exact AG <| Av <| AE <| rg AA <| rl Z <| BR af (wf hA [(0, 0)] Z Z Z)
 refine Al <| Ap <| CU ag fun bc ah => BA <| AE <| rs AA <| rl Z <| AI ?_
 cases ah
 exact er Z Le.rfl
noncomputable def EL (b : (List Int)) (c : Int) (a : Int) : Option (Int ⊕ Bool) :=
 bif decide (a < (b.length : Int)) then (Aj b a).bind fun d => bif (d == c) then some (.inr true) else some (.inl (Ab (a + 1))) else some (.inr false)
noncomputable def Dd (a : (List Int)) (b : Int) : Option Bool :=
 AQ (EL a b) 0
theorem Ib (b : (List Int)) (c : Int) (r : Bool) (h : Dd b c = some r) : Bk Try.prog 28 [.slice 1 (b.map AJ), .int .i64 c] (· = .bool r) := by
 refine fn AA Try.func28 Z Z 18 Z [.tmp 4] Z [(0, .p (.slice 1 (b.map AJ))), (1, .p (.int .i64 c))] Z Z fun A hA => ?_
 unfold Dd at h
 refine rs AA <| rl Z <| AD <| rs AA <| rl Z <| AK ?_
 apply lp (a := r) (fun e : Int => ⟨18, [(0, ls 1 AJ b), (1, li c), (5, li e)], [], 0⟩) h
 . exact wf hA [] Z Z Z
 intro e s d
 unfold EL at d
 refine AD <| rs AA <| rn 2 Z <| sx Z (Aw Z Z <| rl Z <| cd Z d (fun n => ?_) (fun l => ?_))
 .refine AG <| AE <| AD <| AK <| rs AA <| rn 2 Z <| bq n fun t f g => sx Z (A3 f Z Z Z <| rl Z <| cd Z g (fun i => ?_) (fun k => ?_))
  .refine rs AA <| rl Z <| AI <| Ak <| AO <| B8 i fun o j => Ak <| AO ?_
   cases j
   exact er Z Le.rfl
  exact AG <| Av <| AE <| rg AA <| rl Z <| BR k (wf hA [] Z Z Z)
 refine Al <| Ap <| CU l fun q m => BA <| AE <| rs AA <| rl Z <| AI ?_
 cases m
 exact er Z Le.rfl
noncomputable def Et (e : AH) (c : (List Int)) (a : Int × Int × (List Int)) : Option ((Int × Int × (List Int)) ⊕ ((List Int) × Bool)) :=
 bif decide (a.2.1 < (c.length : Int)) then (Aj c (Ab (a.2.1 - 1))).bind fun f => (CS e (⟨f, a.1⟩ : AC)).bind fun b => ((bif (!b.2) then some true else (Aj c a.2.1).bind fun g => some (b.1.elem != g) : Option (Bool))).bind fun (d : Bool) => bif d then some (.inr ([], false)) else (BP a.2.2 [b.1.fin]).bind fun h => some (.inl (Ab (1 - b.1.fin), Ab (a.2.1 + 1), h)) else some (.inr (a.2.2, true))
noncomputable def DO (c : AH) (b : (List Int)) (a : Int × Int) : Option ((Int × Int) ⊕ ((List Int) × Bool)) :=
 bif decide (0 <= a.2) then (((Aj b 0).bind fun g => (CS c (⟨g, a.2⟩ : AC)).bind fun d => ((bif d.2 then (Aj b 1).bind fun h => some (d.1.elem == h) else some false : Option (Bool))).bind fun (f : Bool) => bif f then some a.2 else some a.1 : Option (Int))).bind fun (e : Int) => some (.inl (e, Ab (a.2 - 1))) else (bif decide (a.1 < 0) then some ([], false) else AQ (Et c b) (a.1, 1, [Ab (1 - a.1)])).map .inr
noncomputable def Gk (c : AH) (a : (List Int)) (b : Int) : Option (Int ⊕ ((List Int) × Bool)) :=
 bif decide (b < (a.length : Int)) then (Aj a b).bind fun d => (DE c d).bind fun e => bif (e != 1) then some (.inr ([], false)) else some (.inl (Ab (b + 1))) else (bif ((a.length : Int) == 1) then some ([0], true) else AQ (DO c a) ((-1), 1)).map .inr
noncomputable def G5 (b : AH) (a : (List Int)) : Option ((List Int) × Bool) :=
 bif ((a.length : Int) == 0) then some ([], false) else AQ (Gk b a) 0
theorem S3 (c : AH) (d : (List Int)) (r : ((List Int) × Bool)) (h : G5 c d = some r) : Bk Try.prog 136 [.agg (AY c), .slice 1 (d.map AJ)] (· = .tup [.slice 1 (r.1.map AJ), .bool r.2]) := by
 refine fn AA Try.func136 Z Z 102 Z [.tmp 4, .tmp 5] Z [(0, .p (.agg (AY c))), (1, .p (.slice 1 (d.map AJ)))] Z Z fun A hA => ?_
 unfold G5 at h
 refine rs AA <| rl Z <| AD <| rs AA <| rn 1 Z <| sx Z (Aw Z Z <| rl Z <| cd Z h (fun an => ?_) (fun ao => ?_))
 .refine rs AA <| rl Z <| AI <| AO ?_
  cases an
  exact er Z (Le.tup' (.cons (Le.nil _) (.cons Le.rfl .nil)))
 refine AG <| AE <| AD <| rs AA <| rl Z <| AK ?_
 apply lp (a := r) (fun q : Int => ⟨102, [(1, ls 1 AJ d), (2, .lpb 0 0), (6, li q)], [(0, bx (AY c))], 1⟩) ao
 . exact wf hA [(0, 0)] Z Z Z
 intro q bp k
 unfold Gk at k
 refine AD <| rs AA <| rn 2 Z <| sx Z (Aw Z Z <| rl Z <| cd Z k (fun ad => ?_) (fun aj => ?_))
 .refine AG <| AE <| AD <| AK <| AD ?_
  refine C5 AA mixed [0, 1, 2, 3, 4, 5, 6] 7 (by kernel_rfl) Z Z Z ?_
  refine A8 3 Z <| bq ad fun bt u ae => Ae Z (Am Z (A3 u Z Z Z <| A8 1 Z <| bq ae fun bu v af => Ae Z (BC (E4 _ _ _ v) (.inl Z) Z Z Z <| BB Z <| AE <| cd Z af (fun ag => ?_) (fun ai => ?_))))
  .refine rs AA <| rl Z <| AI <| Ak <| AO <| B8 ag fun bm ah => Ak <| AO ?_
   cases ah
   exact er Z (Le.tup' (.cons (Le.nil _) (.cons Le.rfl .nil)))
  exact AG <| Av <| AE <| rg AA <| rl Z <| BR ai (wf hA [(0, 0)] Z Z Z)
 refine Al <| Ap <| D0 aj fun s ak => BA <| AE <| AD <| rs AA <| rn 1 Z <| sx Z (Aw Z Z <| rl Z <| cd Z ak (fun al => ?_) (fun am => ?_))
 .refine rs AA <| rl Z <| AI <| AO ?_
  cases al
  exact er (W2 Z (.cons (.one (.own (enc := AJ) ([0] : List Int) Z Z)) (.cons (.one (.p _)) .nil))) Le.rfl
 refine AG <| AE <| rs AA <| rl Z <| AD <| rs AA <| rl Z <| AK ?_
 apply lp (a := s) (fun e : (Int × Int) => ⟨102, [(1, ls 1 AJ d), (2, .lpb 0 0), (7, li e.1), (8, li e.2)], [(0, bx (AY c))], 1⟩) am
 . exact wf hA [(0, 0)] Z Z Z
 intro e br n
 unfold DO at n
 refine AD <| rs AA <| rl Z <| cd Z n (fun ap => ?_) (fun a3 => ?_)
 .refine AG <| AE <| jb (fun f : Int => ⟨102, [(1, ls 1 AJ d), (2, .lpb 0 0), (7, li f), (8, li e.2)], [(0, bx (AY c))], 1⟩) ap (fun f aq => ?_) (fun f a2 => ?_)
  .refine AK <| AD ?_
   refine C5 AA mixed [0, 1, 2, 3, 4, 5, 6, 7, 8, 9, 10, 11, 12] 13 (by kernel_rfl) Z Z Z ?_
   refine A8 2 Z <| bq aq fun bv w ar => Ae Z (Am Z (A3 w Z Z Z <| A8 3 Z <| bq ar fun bw x au => Ae Z (BC (DD _ _ _ x) (.inl Z) Z Z Z <| BB Z <| AE <| jb (fun g : Bool => ⟨102, [(1, ls 1 AJ d), (2, .lpb 0 0), (7, li e.1), (8, li e.2), (57, lb g)], [(0, bx (AY c))], 1⟩) au (fun g av => ?_) (fun g az => ?_))))
   .refine C5 AA mixed [0, 1, 2, 3, 4, 5, 6, 7, 8] 9 (by kernel_rfl) Z Z Z ?_
    refine A8 2 Z <| PB 50 av Z Z Z (fun aw => ?_) (fun ay => ?_)
    .exact A8 3 Z <| bq aw fun bz y ax => Ae Z (Am Z (A3 y Z Z Z <| BB Z <| Ag ax (wf hA [(0, 0)] Z Z Z)))
    exact BB Z <| Ag ay (wf hA [(0, 0)] Z Z Z)
   refine cd Z az (fun a0 => ?_) (fun a1 => ?_)
   .exact rg AA <| rl Z <| Av <| Ag a0 (wf hA [(0, 0)] Z Z Z)
   exact AG <| Av <| Ag a1 (wf hA [(0, 0)] Z Z Z)
  exact rg AA <| rl Z <| BR a2 (wf hA [(0, 0)] Z Z Z)
 refine Al <| Ap <| D0 a3 fun t a4 => BA <| AE <| AD <| rs AA <| rl Z <| cd Z a4 (fun a5 => ?_) (fun a6 => ?_)
 .refine rs AA <| rl Z <| AI <| AO ?_
  cases a5
  exact er Z (Le.tup' (.cons (Le.nil _) (.cons Le.rfl .nil)))
 refine AG <| AE <| rs AA <| rl Z <| AD <| rs AA <| rl Z <| AK ?_
 apply lp (a := t) (fun b : (Int × Int × (List Int)) => ⟨102, [(1, ls 1 AJ d), (2, .lpb 0 0), (7, li b.1), (11, .lsl 1 1 0 b.2.2.length), (12, li b.2.1)], [(0, bx (AY c)), (1, .row 3 1 (b.2.2.map AJ))], 2⟩) a6
 . exact wf hA [(0, 0), (1, 1)] Z Z Z
 intro b bs o
 unfold Et at o
 refine AD <| rs AA <| rn 2 Z <| sx Z (Aw Z Z <| rl Z <| cd Z o (fun a7 => ?_) (fun bk => ?_))
 .refine AG <| AE <| AD <| AK <| AD ?_
  refine C5 AA mixed [0, 1, 2, 3, 4, 5, 6, 7, 8, 9, 10, 11, 12, 13, 14] 15 (by kernel_rfl) Z Z Z ?_
  refine A8 4 Z <| bq a7 fun b0 z a8 => Ae Z (Am Z (A3 z Z Z Z <| A8 3 Z <| bq a8 fun j aa a9 => Ae Z (BC (DD _ _ _ aa) (.inl Z) Z Z Z <| BB Z <| AE <| AD <| jb (fun i : Bool => ⟨102, [(1, ls 1 AJ d), (2, .lpb 0 0), (11, .lsl 1 1 0 b.2.2.length), (12, li b.2.1), (13, .lpb 2 0), (92, lb i)], [(0, bx (AY c)), (1, .row 3 1 (b.2.2.map AJ)), (2, .box [li j.1.elem, li j.1.fin])], 3⟩) a9 (fun i ba => ?_) (fun i bf => ?_))))
  .refine C5 AA mixed [0, 1, 2, 3, 4, 5, 6, 7, 8, 9, 10] 11 (by kernel_rfl) Z Z Z ?_
   refine A8 3 Z <| PB 84 ba Z Z Z (fun bb => ?_) (fun bc => ?_)
   .exact BB Z <| Ag bb (wf hA [(0, 0), (1, 1), (2, 14)] Z Z Z)
   exact A8 4 Z <| bq bc fun b1 ab be => Ae Z (Am Z (A3 ab Z Z Z <| BB Z <| Ag be (wf hA [(0, 0), (1, 1), (2, 14)] Z Z Z)))
  refine cd Z bf (fun bg => ?_) (fun bi => ?_)
  .refine rs AA <| rl Z <| AI <| AO <| Ak <| AO <| B8 bg fun bn bh => Ak <| AO ?_
   cases bh
   exact er Z (Le.tup' (.cons (Le.nil _) (.cons Le.rfl .nil)))
  exact AG <| AE <| rs AA <| rn 4 Z <| bq bi fun b2 ac bj => sx Z (A7 (enc := AJ) (l := b.2.2) (m := [j.1.fin]) ac (fun _ => ⟨Z, Z⟩) Z Z Z Z Z Z <| rl Z <| rg AA <| rl Z <| Av <| AE <| rg AA <| rl Z <| BR bj (wf hA [(0, 0), (1, 4)] Z Z Z))
 refine Al <| Ap <| CU bk fun bo bl => BA <| AE <| rs AA <| rl Z <| AI ?_
 cases bl
 exact er (W2 Z (.cons (.one (.own (enc := AJ) b.2.2 Z Z)) (.cons (.one (.p _)) .nil))) Le.rfl
end Go.E
/- Plain functions, and walks in step with them. Written by a program (gen.py). No condition. -/
set_option maxRecDepth 100000
namespace Go.E
open Go Go.RowKit Go.Proofs
noncomputable def Ff (d : AH) (c : (Int × (List Int))) (b : B9) (a : Int × (List Int)) : Option ((Int × (List Int)) ⊕ ((Int × (List Int)) ⊕ Bool)) :=
 bif decide (a.1 < (b.elems.length : Int)) then (Aj b.elems a.1).bind fun e => (Dd a.2 e).bind fun f => bif f then some (.inr (.inr false)) else (Aj b.elems a.1).bind fun g => (BP a.2 [g]).bind fun h => some (.inl (Ab (a.1 + 1), h)) else ((G5 d b.elems).bind fun i => bif (!i.2) then some (.inr false) else some (.inl (Ab (c.1 + 1), a.2))).map .inr
noncomputable def HP (b : AH) (a : Int × (List Int)) : Option ((Int × (List Int)) ⊕ Bool) :=
 bif decide (a.1 < (b.lines.length : Int)) then (Aj b.lines a.1).bind fun c => AQ (Ff b a c) (0, a.2) else some (.inr true)
noncomputable def H3 (a : AH) : Option Bool :=
 AQ (HP a) (0, ([] : List Int))
theorem UP (d : AH) (r : Bool) (h : H3 d = some r) : Bk Try.prog 96 [.agg (AY d)] (· = .bool r) := by
 refine fn AA Try.func96 Z Z 49 Z [.tmp 2] Z [(0, .p (.agg (AY d)))] Z Z fun A hA => ?_
 unfold H3 at h
 refine rs AA <| rl Z <| rs AA <| rl Z <| AD <| rs AA <| rl Z <| AK ?_
 apply lp (a := r) (fun c : (Int × (List Int)) => ⟨49, [(1, .lpb 0 0), (3, .lsl 1 1 0 c.2.length), (4, li c.1)], [(0, bx (AY d)), (1, .row 3 1 (c.2.map AJ))], 2⟩) h
 . exact A6.trans (CO 3 3 1 Z) (wf hA [(0, 0), (1, 1)] Z Z Z)
 intro c g e
 unfold HP at e
 refine AD <| rs AA <| rn 3 Z <| sx Z (Aw Z Z <| rl Z <| cd Z e (fun s => ?_) (fun aj => ?_))
 .refine AG <| AE <| AD <| AK <| rs AA <| rn 3 Z <| bq s fun al i t => sx Z (A3 i Z Z Z <| rl Z <| AD <| rs AA <| rl Z <| AK ?_)
  apply lp (a := g) (fun b : (Int × (List Int)) => ⟨49, [(1, .lpb 0 0), (3, .lsl 1 1 0 b.2.length), (4, li c.1), (5, ls 1 AJ al.elems), (6, li b.1)], [(0, bx (AY d)), (1, .row 3 1 (b.2.map AJ))], 2⟩) t
  . exact wf hA [(0, 0), (1, 1)] Z Z Z
  intro b au f
  unfold Ff at f
  refine AD <| rs AA <| rn 2 Z <| sx Z (Aw Z Z <| rl Z <| cd Z f (fun u => ?_) (fun ad => ?_))
  .refine AG <| AE <| AD <| AK <| AD <| rs AA <| rn 3 Z <| bq u fun av j v => sx Z (A3 j Z Z Z <| rn 1 Z <| bq v fun aw k w => sx Z (Ah (Ib _ _ _ k) (.inl Z) Z Z (CJ.eq (.cons (.one (.own (enc := AJ) b.2 Z Z)) (.cons (.one (.p _)) .nil))) <| rl Z <| cd Z w (fun x => ?_) (fun aa => ?_)))
   .refine rs AA <| rl Z <| AI <| AO <| Ak <| AO <| B8 x fun an y => Ak <| AO <| Ak <| AO <| B8 y fun ao z => Ak <| AO ?_
    cases z
    exact er Z Le.rfl
   exact AG <| AE <| rg AA <| rn 3 Z <| bq aa fun am n ab => sx Z (A3 n Z Z Z <| rn 2 Z <| bq ab fun ax o ac => sx Z (A7 (enc := AJ) (l := b.2) (m := [am]) o (fun _ => ⟨Z, Z⟩) Z Z Z Z Z Z <| rl Z <| Av <| AE <| rg AA <| rl Z <| BR ac (wf hA [(0, 0), (1, 3)] Z Z Z)))
  refine Al <| Ap <| D0 ad fun ap ae => BA <| AE <| rs AA <| rn 2 Z <| bq ae fun ay q af => sx Z (Ah (S3 _ _ _ q) (.inr Z) Z Z Z <| rl Z <| rs AA <| rl Z <| cd Z af (fun ag => ?_) (fun ai => ?_))
  .refine rs AA <| rl Z <| AI <| Ak <| AO <| B8 ag fun aq ah => Ak <| AO ?_
   cases ah
   exact er Z Le.rfl
  exact AG <| Av <| AE <| rg AA <| rl Z <| BR ai (wf hA [(0, 0), (1, 1)] Z Z Z)
 refine Al <| Ap <| CU aj fun ar ak => BA <| AE <| rs AA <| rl Z <| AI ?_
 cases ak
 exact er Z Le.rfl
noncomputable def H4 (b : Int) (a : Int × Int) : Option ((Int × Int) ⊕ Int) :=
 bif decide (0 < a.1) then some (.inl (Ab (a.1 - b), Ab (a.2 + a.1))) else some (.inr a.2)
noncomputable def Hj (b : Int) (a : Int) : Option Int :=
 ((bif decide (b < 0) then some true else bif decide (60 < b) then some true else bif decide (a < 1) then some true else some (decide (10 < a)) : Option (Bool))).bind fun (c : Bool) => bif c then some 0 else AQ (H4 a) (Ab (b - a), 0)
theorem VD (c : Int) (b : Int) (r : Int) (h : Hj c b = some r) : Bk Try.prog 137 [.int .i64 c, .int .i64 b] (· = .int .i64 r) := by
 refine fn AA Try.func137 Z Z 32 Z [.tmp 4] Z [(0, .p (.int .i64 c)), (1, .p (.int .i64 b))] Z Z fun A hA => ?_
 unfold Hj at h
 refine rs AA <| rl Z <| AD <| jb (fun e : Bool => ⟨32, [(0, li c), (1, li b), (19, lb e)], [], 0⟩) h (fun e g => ?_) (fun e o => ?_)
 .refine rg AA <| rn 3 Z <| gs 8 g Z Z Z (fun i => ?_) (fun j => ?_)
  .exact rl Z <| Ag i (wf hA [] Z Z Z)
  refine rn 4 Z <| gs 12 j Z Z Z (fun k => ?_) (fun l => ?_)
  .exact rl Z <| Ag k (wf hA [] Z Z Z)
  refine rn 4 Z <| gs 16 l Z Z Z (fun m => ?_) (fun n => ?_)
  .exact rl Z <| Ag m (wf hA [] Z Z Z)
  exact rl Z <| Ag n (wf hA [] Z Z Z)
 refine cd Z o (fun q => ?_) (fun s => ?_)
 .refine rs AA <| rl Z <| AI <| AO ?_
  cases q
  exact er Z Le.rfl
 refine AG <| AE <| rs AA <| rl Z <| AD <| rs AA <| rl Z <| AK ?_
 apply lp (a := r) (fun d : (Int × Int) => ⟨32, [(0, li d.1), (1, li b), (5, li d.2)], [], 0⟩) s
 . exact wf hA [] Z Z Z
 intro d x f
 unfold H4 at f
 refine AD <| rs AA <| rl Z <| cd Z f (fun t => ?_) (fun u => ?_)
 .exact AG <| AE <| AD <| AK <| rg AA <| rl Z <| Av <| AE <| rg AA <| rl Z <| BR t (wf hA [] Z Z Z)
 refine Al <| Ap <| CU u fun w v => BA <| AE <| rs AA <| rl Z <| AI ?_
 cases v
 exact er Z Le.rfl
noncomputable def G6 (b : AH) (a : Int) : Option Int :=
 ((bif decide (a < 0) then some true else some (decide ((b.elems.length : Int) <= a)) : Option (Bool))).bind fun (c : Bool) => bif c then some 0 else (Aj b.elems a).bind fun d => some d.length
theorem S4 (a : AH) (b : Int) (r : Int) (h : G6 a b = some r) : Bk Try.prog 138 [.agg (AY a), .int .i64 b] (· = .int .i64 r) := by
 refine fn AA Try.func138 Z Z 20 Z [.tmp 4] Z [(0, .p (.agg (AY a))), (1, .p (.int .i64 b))] Z Z fun A hA => ?_
 unfold G6 at h
 refine rs AA <| rl Z <| AD <| jb (fun c : Bool => ⟨20, [(1, li b), (2, .lpb 0 0), (13, lb c)], [(0, bx (AY a))], 1⟩) h (fun c e => ?_) (fun c i => ?_)
 .refine rg AA <| rn 3 Z <| gs 7 e Z Z Z (fun f => ?_) (fun g => ?_)
  .exact rl Z <| Ag f (wf hA [(0, 0)] Z Z Z)
  exact rn 3 Z <| sx Z (Aw Z Z <| rl Z <| Ag g (wf hA [(0, 0)] Z Z Z))
 refine cd Z i (fun j => ?_) (fun k => ?_)
 .refine rs AA <| rl Z <| AI <| AO ?_
  cases j
  exact er Z Le.rfl
 refine AG <| AE <| rs AA <| rn 3 Z <| bq k fun m d l => sx Z (A3 d Z Z Z <| rl Z <| AI ?_)
 cases l
 exact er Z Le.rfl
noncomputable def GU (b : AH) (a : Int) : Option (Int ⊕ Bool) :=
 bif decide (a < (b.elems.length : Int)) then (((Aj b.elems a).bind fun d => bif (d.kind != 4) then (Aj b.elems a).bind fun e => some (decide (e.length < b.top)) else some false : Option (Bool))).bind fun (c : Bool) => bif c then some (.inr false) else some (.inl (Ab (a + 1))) else some (.inr true)
noncomputable def H5 (a : AH) (b : Int) : Option (Int ⊕ Bool) :=
 bif decide (b < (a.signals.length : Int)) then (Aj a.signals b).bind fun c => (((DE a c.at_.elem).bind fun e => bif (e == 1) then (G6 a c.at_.elem).bind fun f => some (decide (f < a.margin)) else some false : Option (Bool))).bind fun (d : Bool) => bif d then some (.inr false) else some (.inl (Ab (b + 1))) else (AQ (GU a) 0).map .inr
noncomputable def JL (a : AH) : Option Bool :=
 (Hj a.top a.brake).bind fun b => bif decide (a.margin < Ab (a.top + b)) then some false else AQ (H5 a) 0
theorem VE (b : AH) (r : Bool) (h : JL b = some r) : Bk Try.prog 97 [.agg (AY b)] (· = .bool r) := by
 refine fn AA Try.func97 Z Z 68 Z [.tmp 2] Z [(0, .p (.agg (AY b)))] Z Z fun A hA => ?_
 unfold JL at h
 refine rs AA <| rl Z <| AD <| AD ?_
 refine C5 AA mixed [0, 1, 2, 3, 4, 5, 6, 7, 8, 9, 10] 11 (by kernel_rfl) Z Z Z ?_
 refine A8 8 Z <| bq h fun a6 q s => Ae Z (BC (VD _ _ _ q) (.inl Z) Z Z Z <| BB Z <| AE <| cd Z s (fun t => ?_) (fun u => ?_))
 .refine rs AA <| rl Z <| AI <| AO ?_
  cases t
  exact er Z Le.rfl
 refine AG <| AE <| AD <| rs AA <| rl Z <| AK ?_
 apply lp (a := r) (fun c : Int => ⟨68, [(1, .lpb 0 0), (3, li c)], [(0, bx (AY b))], 1⟩) u
 . exact wf hA [(0, 0)] Z Z Z
 intro c az g
 unfold H5 at g
 refine AD <| rs AA <| rn 3 Z <| sx Z (Aw Z Z <| rl Z <| cd Z g (fun v => ?_) (fun ag => ?_))
 .refine AG <| AE <| AD <| AK <| rs AA <| rn 3 Z <| bq v fun a1 k w => sx Z (A3 k Z Z Z <| rl Z <| jb (fun e : Bool => ⟨68, [(1, .lpb 0 0), (3, li c), (42, lb e)], [(0, bx (AY b))], 1⟩) w (fun e x => ?_) (fun e ac => ?_))
  .refine C5 AA mixed [0, 1, 2, 3, 4, 5, 6, 7, 8, 9, 10, 11] 12 (by kernel_rfl) Z Z Z ?_
   refine A8 2 Z <| bq x fun a2 l y => Ae Z (BC (E4 _ _ _ l) (.inl Z) Z Z Z <| A8 2 Z <| PB 35 y Z Z Z (fun z => ?_) (fun ab => ?_))
   .exact A8 2 Z <| bq z fun a3 m aa => Ae Z (BC (S4 _ _ _ m) (.inl Z) Z Z Z <| BB Z <| Ag aa (wf hA [(0, 0)] Z Z Z))
   exact BB Z <| Ag ab (wf hA [(0, 0)] Z Z Z)
  refine cd Z ac (fun ad => ?_) (fun af => ?_)
  .refine rs AA <| rl Z <| AI <| Ak <| AO <| B8 ad fun aw ae => Ak <| AO ?_
   cases ae
   exact er Z Le.rfl
  exact AG <| Av <| AE <| rg AA <| rl Z <| BR af (wf hA [(0, 0)] Z Z Z)
 refine Al <| Ap <| D0 ag fun j ah => BA <| AE <| AD <| rs AA <| rl Z <| AK ?_
 apply lp (a := j) (fun d : Int => ⟨68, [(1, .lpb 0 0), (5, li d)], [(0, bx (AY b))], 1⟩) ah
 . exact wf hA [(0, 0)] Z Z Z
 intro d a0 i
 unfold GU at i
 refine AD <| rs AA <| rn 3 Z <| sx Z (Aw Z Z <| rl Z <| cd Z i (fun ai => ?_) (fun au => ?_))
 .refine AG <| AE <| AD <| AK <| jb (fun f : Bool => ⟨68, [(1, .lpb 0 0), (5, li d), (67, lb f)], [(0, bx (AY b))], 1⟩) ai (fun f aj => ?_) (fun f ao => ?_)
  .refine C5 AA mixed [0, 1, 2, 3, 4, 5, 6, 7, 8, 9, 10, 11, 12, 13, 14, 15, 16, 17] 18 (by kernel_rfl) Z Z Z ?_
   refine A8 3 Z <| bq aj fun a4 n ak => Ae Z (Am Z (A3 n Z Z Z <| A8 4 Z <| PB 57 ak Z Z Z (fun al => ?_) (fun an => ?_)))
   .exact A8 3 Z <| bq al fun a5 o am => Ae Z (Am Z (A3 o Z Z Z <| BB Z <| Ag am (wf hA [(0, 0)] Z Z Z)))
   exact BB Z <| Ag an (wf hA [(0, 0)] Z Z Z)
  refine cd Z ao (fun ap => ?_) (fun ar => ?_)
  .refine rs AA <| rl Z <| AI <| Ak <| AO <| B8 ap fun ax aq => Ak <| AO ?_
   cases aq
   exact er Z Le.rfl
  exact AG <| Av <| AE <| rg AA <| rl Z <| BR ar (wf hA [(0, 0)] Z Z Z)
 refine Al <| Ap <| CU au fun ay av => BA <| AE <| rs AA <| rl Z <| AI ?_
 cases av
 exact er Z Le.rfl
noncomputable def Dp (a : AH) : Option Int :=
 ((bif decide (40 < (a.elems.length : Int)) then some true else bif decide (24 < (a.signals.length : Int)) then some true else bif decide (4 < (a.lines.length : Int)) then some true else some (decide (80 < (a.joins.length : Int))) : Option (Bool))).bind fun (d : Bool) => bif d then some 3 else (H0 a).bind fun b => (JK a).bind fun l => bif (!l) then some 1 else (((FK b.1).bind fun e => bif e then some true else (FK b.2.1).bind fun f => bif f then some true else (FK b.2.2).bind fun g => some g : Option (Bool))).bind fun (c : Bool) => bif c then some 4 else (G4 a).bind fun h => bif (!h) then some 6 else (GS a).bind fun i => bif (!i) then some 7 else (H3 a).bind fun j => bif (!j) then some 8 else (JL a).bind fun k => bif (!k) then some 9 else some 0
theorem PR (a : AH) (r : Int) (h : Dp a = some r) : Bk Try.prog 44 [.agg (AY a)] (· = .int .i64 r) := by
 refine fn AA Try.func44 Z Z 65 Z [.tmp 2] Z [(0, .p (.agg (AY a)))] Z Z fun A hA => ?_
 unfold Dp at h
 refine rs AA <| rl Z <| AD <| jb (fun c : Bool => ⟨65, [(1, .lpb 0 0), (27, lb c)], [(0, bx (AY a))], 1⟩) h (fun c am => ?_) (fun c av => ?_)
 .refine rg AA <| rn 2 Z <| sx Z (Aw Z Z <| rn 2 Z <| gs 10 am Z Z Z (fun an => ?_) (fun ao => ?_))
  .exact rl Z <| Ag an (wf hA [(0, 0)] Z Z Z)
  refine rn 2 Z <| sx Z (Aw Z Z <| rn 3 Z <| gs 16 ao Z Z Z (fun ap => ?_) (fun aq => ?_))
  .exact rl Z <| Ag ap (wf hA [(0, 0)] Z Z Z)
  refine rn 2 Z <| sx Z (Aw Z Z <| rn 3 Z <| gs 22 aq Z Z Z (fun ar => ?_) (fun au => ?_))
  .exact rl Z <| Ag ar (wf hA [(0, 0)] Z Z Z)
  exact rn 2 Z <| sx Z (Aw Z Z <| rl Z <| Ag au (wf hA [(0, 0)] Z Z Z))
 refine cd Z av (fun aw => ?_) (fun ax => ?_)
 .refine rs AA <| rl Z <| AI <| AO ?_
  cases aw
  exact er Z Le.rfl
 refine AG <| AE <| rs AA <| rn 1 Z <| bq ax fun a9 l ay => sx Z (Ah (UO _ _ l) (.inr Z) Z Z Z <| rl Z <| AD <| AK <| rs AA <| rn 1 Z <| bq ay fun ba m az => sx Z (Ah (VB _ _ m) (.inl Z) Z Z Z <| rl Z <| cd Z az (fun a0 => ?_) (fun a1 => ?_)))
 .refine rs AA <| rl Z <| AI <| Ak <| AO ?_
  cases a0
  exact er Z Le.rfl
 refine jb (fun b : Bool => ⟨65, [(1, .lpb 0 0), (38, lb b)], [(0, bx (AY a))], 1⟩) a1 (fun b n => ?_) (fun b x => ?_)
 .refine rg AA <| rn 1 Z <| bq n fun a2 d o => sx Z (Ah (L7 _ _ d) (.inl Z) Z Z Z <| rn 1 Z <| gs 41 o Z Z Z (fun q => ?_) (fun s => ?_))
  .exact rl Z <| Ag q (wf hA [(0, 0)] Z Z Z)
  refine rn 1 Z <| bq s fun a3 e t => sx Z (Ah (L7 _ _ e) (.inl Z) Z Z Z <| rn 2 Z <| gs 45 t Z Z Z (fun u => ?_) (fun v => ?_))
  .exact rl Z <| Ag u (wf hA [(0, 0)] Z Z Z)
  exact rn 1 Z <| bq v fun a4 f w => sx Z (Ah (L7 _ _ f) (.inl Z) Z Z Z <| rl Z <| Ag w (wf hA [(0, 0)] Z Z Z))
 refine cd Z x (fun y => ?_) (fun z => ?_)
 .refine rs AA <| rl Z <| AI <| Ak <| AO ?_
  cases y
  exact er Z Le.rfl
 refine rs AA <| rn 1 Z <| bq z fun a5 g aa => sx Z (Ah (S2 _ _ g) (.inl Z) Z Z Z <| rl Z <| cd Z aa (fun ab => ?_) (fun ac => ?_))
 .refine rs AA <| rl Z <| AI <| Ak <| AO ?_
  cases ab
  exact er Z Le.rfl
 refine rs AA <| rn 1 Z <| bq ac fun a6 i ad => sx Z (Ah (SD _ _ i) (.inl Z) Z Z Z <| rl Z <| cd Z ad (fun ae => ?_) (fun af => ?_))
 .refine rs AA <| rl Z <| AI <| Ak <| AO ?_
  cases ae
  exact er Z Le.rfl
 refine rs AA <| rn 1 Z <| bq af fun a7 j ag => sx Z (Ah (UP _ _ j) (.inl Z) Z Z Z <| rl Z <| cd Z ag (fun ah => ?_) (fun ai => ?_))
 .refine rs AA <| rl Z <| AI <| Ak <| AO ?_
  cases ah
  exact er Z Le.rfl
 refine rs AA <| rn 1 Z <| bq ai fun a8 k aj => sx Z (Ah (VE _ _ k) (.inl Z) Z Z Z <| rl Z <| cd Z aj (fun ak => ?_) (fun al => ?_))
 .refine rs AA <| rl Z <| AI <| Ak <| AO ?_
  cases ak
  exact er Z Le.rfl
 refine AG <| Av <| AE <| rs AA <| rl Z <| AI ?_
 cases al
 exact er Z Le.rfl
noncomputable def GR (a : AH) : Option Bool :=
 (((IZ a).bind fun d => bif d then (Dp a).bind fun c => some (c == 0) else some false : Option (Bool))).bind fun (b : Bool) => some b
theorem VC (b : AH) (r : Bool) (h : GR b = some r) : Bk Try.prog 12 [.agg (AY b)] (· = .bool r) := by
 refine fn AA Try.func12 Z Z 10 Z [.tmp 2] Z [(0, .p (.agg (AY b)))] Z Z fun A hA => ?_
 unfold GR at h
 refine rs AA <| rl Z <| jb (fun a : Bool => ⟨10, [(2, lb a)], [], 0⟩) h (fun a k => ?_) (fun a j => ?_)
 .refine rg AA <| rn 1 Z <| bq k fun m d e => sx Z (Ah (WL _ _ d) (.inl Z) Z Z Z <| rn 1 Z <| gs 5 e Z Z Z (fun f => ?_) (fun i => ?_))
  .exact rn 1 Z <| bq f fun l c g => sx Z (Ah (PR _ _ c) (.inl Z) Z Z Z <| rl Z <| Ag g (wf hA [] Z Z Z))
  exact rl Z <| Ag i (wf hA [] Z Z Z)
 refine AI ?_
 have hr := Option.some.inj j; subst hr
 exact er Z Le.rfl
noncomputable def HQ (a : Int) : Option Bool :=
 ((bif decide (97 <= a) then bif decide (a <= 122) then some true else bif decide (65 <= a) then some (decide (a <= 90)) else some false else bif decide (65 <= a) then some (decide (a <= 90)) else some false : Option (Bool))).bind fun (b : Bool) => some b
noncomputable def Gl (b : ByteArray) (a : Int) : Option (Int ⊕ Bool) :=
 bif decide (a < (b.size : Int)) then (((L2 b a).bind fun d => (HQ (d.toNat : Int)).bind fun e => bif (!e) then (L2 b a).bind fun f => bif decide ((f.toNat : Int) < 48) then some true else (L2 b a).bind fun g => some (decide (57 < (g.toNat : Int))) else some false : Option (Bool))).bind fun (c : Bool) => bif c then some (.inr false) else some (.inl (Ab (a + 1))) else some (.inr true)
noncomputable def G7 (a : ByteArray) : Option Bool :=
 ((bif (a.toList == ByteArray.empty.toList) then some true else bif decide (8 < (a.size : Int)) then some true else (L2 a 0).bind fun c => (HQ (c.toNat : Int)).bind fun d => some (!d) : Option (Bool))).bind fun (b : Bool) => bif b then some false else AQ (Gl a) 1
noncomputable def Iy (a : Int) : Option Int :=
 bif (a == 1) then some 2 else bif (a == 2) then some 3 else bif (a == 3) then some 4 else bif (a == 4) then some 1 else some 0
noncomputable def Dl (b : AH) (a : Int) : Option (Int ⊕ Bool) :=
 bif decide (a < (b.lines.length : Int)) then (Aj b.lines a).bind fun c => (G7 c.name).bind fun d => bif (!d) then some (.inr false) else some (.inl (Ab (a + 1))) else some (.inr true)
noncomputable def Dm (b : AH) (a : Int) : Option (Int ⊕ Bool) :=
 bif decide (a < (b.signals.length : Int)) then (Aj b.signals a).bind fun c => (G7 c.name).bind fun d => bif (!d) then some (.inr false) else some (.inl (Ab (a + 1))) else (AQ (Dl b) 0).map .inr
noncomputable def Eh (c : AH) (b : Int) : Option (Int ⊕ Bool) :=
 bif decide (b < (c.elems.length : Int)) then Ja (((Aj c.elems b).bind fun a => (((G7 a.name).bind fun f => bif (!f) then some true else (Iy a.kind).bind fun g => some (g == 0) : Option (Bool))).bind fun (d : Bool) => bif d then some (.inr (.inr false)) else bif (a.kind == 4) then bif (a.length != 0) then some (.inr (.inr false)) else some (.inl ()) else ((bif decide (a.length < 1) then some true else some (decide (4000 < a.length)) : Option (Bool))).bind fun (e : Bool) => bif e then some (.inr (.inr false)) else some (.inl ()) : Option (Unit ⊕ (Int ⊕ Bool)))) fun (h : Unit) => some (.inl (Ab (b + 1))) else (AQ (Dm c) 0).map .inr
noncomputable def Ic (a : AH) : Option Bool :=
 ((bif decide (a.top < 1) then some true else bif decide (60 < a.top) then some true else bif decide (a.brake < 1) then some true else bif decide (10 < a.brake) then some true else bif decide (a.margin < 1) then some true else bif decide (4000 < a.margin) then some true else bif decide (a.throw < 1) then some true else bif decide (20 < a.throw) then some true else some ((a.elems.length : Int) == 0) : Option (Bool))).bind fun (b : Bool) => bif b then some false else AQ (Eh a) 0
noncomputable def Ie (a : Int) (b : AH) : Option ByteArray :=
 (Aj b.elems a).bind fun c => some c.name
noncomputable def If (a : Int) (b : AH) : Option ByteArray :=
 (Aj b.signals a).bind fun c => some c.name
noncomputable def Ig (a : Int) (b : AH) : Option ByteArray :=
 (Aj b.lines a).bind fun c => some c.name
noncomputable def Iz (b : AH) (a : AC) : Option Bool :=
 ((bif decide (0 <= a.elem) then bif decide (a.elem < (b.elems.length : Int)) then bif decide (0 <= a.fin) then (Aj b.elems a.elem).bind fun d => (Iy d.kind).bind fun e => some (decide (a.fin < e)) else some false else some false else some false : Option (Bool))).bind fun (c : Bool) => some c
noncomputable def D2 (c : AH) (b : (Int × (List (AC × AC)))) (a : Int) : Option (Int ⊕ ((List (AC × AC)) × Bool)) :=
 bif decide (a < (c.elems.length : Int)) then Ja (((Aj c.elems a).bind fun e => bif (e.kind != 4) then some (.inl ()) else ((bif (!(AV b.2 (⟨a, 0⟩ : AC)).isSome) then some true else (Aj c.elems (((AV b.2 (⟨a, 0⟩ : AC)).getD (⟨0, 0⟩ : AC)).elem)).bind fun f => some (f.kind == 4) : Option (Bool))).bind fun (d : Bool) => bif d then some (.inr (.inr ([], false))) else some (.inl ()) : Option (Unit ⊕ (Int ⊕ ((List (AC × AC)) × Bool))))) fun (g : Unit) => some (.inl (Ab (a + 1))) else some (.inr (b.2, true))
noncomputable def FL (e : AH) (d : Int × (List (AC × AC))) : Option ((Int × (List (AC × AC))) ⊕ ((List (AC × AC)) × Bool)) :=
 bif decide (d.1 < (e.joins.length : Int)) then (Aj e.joins d.1).bind fun c => ((bif (AV d.2 c.a).isSome then some true else bif (AV d.2 c.b).isSome then some true else bif (c.a == c.b) then some true else (Iz e c.a).bind fun g => bif (!g) then some true else (Iz e c.b).bind fun h => some (!h) : Option (Bool))).bind fun (f : Bool) => bif f then some (.inr ([], false)) else some (.inl (Ab (d.1 + 1), Au c.b c.a (Au c.a c.b d.2))) else (AQ (D2 e d) 0).map .inr
noncomputable def Je (a : AH) : Option ((List (AC × AC)) × Bool) :=
 AQ (FL a) (0, [])
noncomputable def Dn (b : AH) (c : (Int × (List (AC × Bool)))) (a : Int) : Option (Int ⊕ Bool) :=
 bif decide (a < (b.elems.length : Int)) then (Aj b.elems a).bind fun e => ((bif (e.kind == 4) then some (!((AV c.2 (⟨a, 0⟩ : AC)).getD false)) else some false : Option (Bool))).bind fun (d : Bool) => bif d then some (.inr false) else some (.inl (Ab (a + 1))) else some (.inr true)
noncomputable def Ei (b : AH) (d : (List (AC × AC))) (a : Int × (List (AC × Bool))) : Option ((Int × (List (AC × Bool))) ⊕ Bool) :=
 bif decide (a.1 < (b.signals.length : Int)) then (Aj b.signals a.1).bind fun c => (((Iz b c.at_).bind fun j => bif (!j) then some true else some ((AV a.2 c.at_).getD false) : Option (Bool))).bind fun (g : Bool) => bif g then some (.inr false) else (Aj b.elems c.at_.elem).bind fun e => ((bif (e.kind != 1) then some (e.kind != 4) else some false : Option (Bool))).bind fun (h : Bool) => bif h then some (.inr false) else ((bif (!(AV d c.at_).isSome) then some true else (Aj b.elems (((AV d c.at_).getD (⟨0, 0⟩ : AC)).elem)).bind fun i => some (i.kind == 4) : Option (Bool))).bind fun (f : Bool) => bif f then some (.inr false) else some (.inl (Ab (a.1 + 1), Au c.at_ true a.2)) else (AQ (Dn b a) 0).map .inr
noncomputable def Ih (a : AH) (b : (List (AC × AC))) : Option Bool :=
 AQ (Ei a b) (0, [])
noncomputable def Fg (b : (List Int)) (c : (List (AC × AC))) (a : Int × Int) : Option ((Int × Int) ⊕ Bool) :=
 bif decide (a.2 < (b.length : Int)) then (Aj b (Ab (a.2 - 1))).bind fun d => ((bif (!(AV c (⟨d, a.1⟩ : AC)).isSome) then some true else (Aj b a.2).bind fun f => some ((((AV c (⟨d, a.1⟩ : AC)).getD (⟨0, 0⟩ : AC)).elem) != f) : Option (Bool))).bind fun (e : Bool) => bif e then some (.inr false) else some (.inl (Ab (1 - (((AV c (⟨d, a.1⟩ : AC)).getD (⟨0, 0⟩ : AC)).fin)), Ab (a.2 + 1))) else some (.inr true)
noncomputable def EF (b : (List Int)) (c : (List (AC × AC))) (a : Int × Int) : Option ((Int × Int) ⊕ Bool) :=
 bif decide (0 <= a.2) then (((Aj b 0).bind fun d => ((bif (AV c (⟨d, a.2⟩ : AC)).isSome then (Aj b 1).bind fun g => some ((((AV c (⟨d, a.2⟩ : AC)).getD (⟨0, 0⟩ : AC)).elem) == g) else some false : Option (Bool))).bind fun (f : Bool) => bif f then some a.2 else some a.1 : Option (Int))).bind fun (e : Int) => some (.inl (e, Ab (a.2 - 1))) else (bif decide (a.1 < 0) then some false else AQ (Fg b c) (a.1, 1)).map .inr
noncomputable def L8 (a : (List Int)) (b : (List (AC × AC))) : Option Bool :=
 bif decide ((a.length : Int) < 2) then some true else AQ (EF a b) ((-1), 1)
noncomputable def F1 (d : AH) (g : (List (AC × AC))) (e : (Int × (List (Int × Bool)))) (c : B9) (a : Int × (List (Int × Bool))) : Option ((Int × (List (Int × Bool))) ⊕ ((Int × (List (Int × Bool))) ⊕ Bool)) :=
 bif decide (a.1 < (c.elems.length : Int)) then (Aj c.elems a.1).bind fun b => ((bif decide (b < 0) then some true else bif decide ((d.elems.length : Int) <= b) then some true else (Aj d.elems b).bind fun h => bif (h.kind != 1) then some true else some ((AV a.2 b).getD false) : Option (Bool))).bind fun (f : Bool) => bif f then some (.inr (.inr false)) else some (.inl (Ab (a.1 + 1), Au b true a.2)) else ((L8 c.elems g).bind fun i => bif (!i) then some (.inr false) else some (.inl (Ab (e.1 + 1), a.2))).map .inr
noncomputable def F2 (b : AH) (d : (List (AC × AC))) (a : Int × (List (Int × Bool))) : Option ((Int × (List (Int × Bool))) ⊕ Bool) :=
 bif decide (a.1 < (b.lines.length : Int)) then (Aj b.lines a.1).bind fun c => bif ((c.elems.length : Int) == 0) then some (.inr false) else AQ (F1 b d a c) (0, a.2) else some (.inr true)
noncomputable def KH (a : AH) (b : (List (AC × AC))) : Option Bool :=
 AQ (F2 a b) (0, [])
noncomputable def P8 (b : Int) (a : Int × Int) : Option ((Int × Int) ⊕ Int) :=
 bif decide (0 < a.1) then some (.inl (Ab (a.1 - b), Ab (a.2 + a.1))) else some (.inr a.2)
noncomputable def OA (b : Int) (a : Int) : Option Int :=
 ((bif decide (b < 0) then some true else bif decide (60 < b) then some true else bif decide (a < 1) then some true else some (decide (10 < a)) : Option (Bool))).bind fun (c : Bool) => bif c then some 0 else AQ (P8 a) (Ab (b - a), 0)
noncomputable def Eu (b : AH) (a : Int) : Option (Int ⊕ Bool) :=
 bif decide (a < (b.elems.length : Int)) then (Aj b.elems a).bind fun c => ((bif (c.kind != 4) then some (decide (c.length < b.top)) else some false : Option (Bool))).bind fun (d : Bool) => bif d then some (.inr false) else some (.inl (Ab (a + 1))) else some (.inr true)
noncomputable def Gm (a : AH) (b : Int) : Option (Int ⊕ Bool) :=
 bif decide (b < (a.signals.length : Int)) then (Aj a.signals b).bind fun e => (Aj a.elems e.at_.elem).bind fun c => ((bif (c.kind == 1) then some (decide (c.length < a.margin)) else some false : Option (Bool))).bind fun (d : Bool) => bif d then some (.inr false) else some (.inl (Ab (b + 1))) else (AQ (Eu a) 0).map .inr
noncomputable def K2 (a : AH) : Option Bool :=
 (OA a.top a.brake).bind fun b => bif decide (a.margin < Ab (a.top + b)) then some false else AQ (Gm a) 0
noncomputable def EM (b : AH) (a : Int × (List (ByteArray × Bool))) : Option ((Int × (List (ByteArray × Bool))) ⊕ Bool) :=
 bif decide (a.1 < (b.elems.length : Int)) then (Ie a.1 b).bind fun c => bif ((AV a.2 c).getD false) then some (.inr true) else (Ie a.1 b).bind fun d => some (.inl (Ab (a.1 + 1), Au d true a.2)) else some (.inr false)
noncomputable def EN (b : AH) (a : Int × (List (ByteArray × Bool))) : Option ((Int × (List (ByteArray × Bool))) ⊕ Bool) :=
 bif decide (a.1 < (b.signals.length : Int)) then (If a.1 b).bind fun c => bif ((AV a.2 c).getD false) then some (.inr true) else (If a.1 b).bind fun d => some (.inl (Ab (a.1 + 1), Au d true a.2)) else some (.inr false)
noncomputable def EO (b : AH) (a : Int × (List (ByteArray × Bool))) : Option ((Int × (List (ByteArray × Bool))) ⊕ Bool) :=
 bif decide (a.1 < (b.lines.length : Int)) then (Ig a.1 b).bind fun c => bif ((AV a.2 c).getD false) then some (.inr true) else (Ig a.1 b).bind fun d => some (.inl (Ab (a.1 + 1), Au d true a.2)) else some (.inr false)
noncomputable def KJ (a : AH) : Option Int :=
 ((bif decide (40 < (a.elems.length : Int)) then some true else bif decide (24 < (a.signals.length : Int)) then some true else bif decide (4 < (a.lines.length : Int)) then some true else some (decide (80 < (a.joins.length : Int))) : Option (Bool))).bind fun (c : Bool) => bif c then some 3 else (Ic a).bind fun h => bif (!h) then some 1 else ((((AQ (EM a) (0, []) : Option (Bool))).bind fun (e : Bool) => bif e then some true else ((AQ (EN a) (0, []) : Option (Bool))).bind fun (f : Bool) => bif f then some true else ((AQ (EO a) (0, []) : Option (Bool))).bind fun (g : Bool) => some g : Option (Bool))).bind fun (d : Bool) => bif d then some 4 else (Je a).bind fun b => bif (!b.2) then some 6 else (Ih a b.1).bind fun i => bif (!i) then some 7 else (KH a b.1).bind fun j => bif (!j) then some 8 else (K2 a).bind fun k => bif (!k) then some 9 else some 0
end Go.E
/- Plain functions, and walks in step with them. Written by a program (gen.py). No condition. -/
set_option maxRecDepth 100000
namespace Go.E
open Go Go.RowKit Go.Proofs
noncomputable def G8 (a : (List Bs)) : Option (List Bs) :=
 K0 a (some []) ((BP ([] : List Bs) a).bind fun b => some b)
noncomputable def G9 (a : (List Br)) : Option (List Br) :=
 K0 a (some []) ((BP ([] : List Br) a).bind fun b => some b)
noncomputable def GV (a : (List A4)) : Option (List A4) :=
 K0 a (some []) ((BP ([] : List A4) a).bind fun b => some b)
noncomputable def HA (a : (List B9)) : Option (List B9) :=
 K0 a (some []) ((BP ([] : List B9) a).bind fun b => some b)
noncomputable def CA (a : (List Int)) : Option (List Int) :=
 K0 a (some []) ((BP ([] : List Int) a).bind fun b => some b)
theorem NE (a : (List Int)) (r : (List Int)) (h : CA a = some r) : Bk Try.prog 71 [.slice 1 (a.map AJ)] (· = .slice 1 (r.map AJ)) := by
 refine fn AA Try.func71 Z Z 8 Z [.tmp 2] Z [(0, .p (.slice 1 (a.map AJ)))] Z Z fun A hA => ?_
 unfold CA at h
 refine rs AA <| rl Z <| AD <| rs AA <| rn 1 Z <| sx Z (PG h Z Z Z (fun d => ?_) (fun e => ?_))
 .refine rl Z <| QU Z <| rs AA <| rl Z <| AI <| AO ?_
  cases d
  exact er Z (Le.nil _)
 refine rl Z <| O9 Z <| AG <| AE <| rs AA <| rn 2 Z <| bq e fun f b c => sx Z (A7 (enc := AJ) (l := ([] : List Int)) (m := a) b (fun _ => ⟨Z, Z⟩) Z Z Z Z Z Z <| rl Z <| AI ?_)
 have hr := Option.some.inj c; subst hr
 exact er (MY Z (.one (.own (enc := AJ) f Z Z))) Le.rfl
theorem Mh (a : (List Int)) (r : (List Int)) (h : CA a = some r) : E9 Try.prog 71 [.slice 1 (a.map AJ)] 3 1 (r.map AJ) := by
 refine U5 (enc := AJ) (fun _ => ⟨Z, Z⟩) Try.func71 Z Z 8 Z 2 Z [(0, .p (.slice 1 (a.map AJ)))] Z Z fun A hA => ?_
 unfold CA at h
 refine rs AA <| rl Z <| AD <| rs AA <| rn 1 Z <| sx Z (PG h Z Z Z (fun d => ?_) (fun e => ?_))
 .refine rl Z <| QU Z <| rs AA <| rl Z <| AI <| AO ?_
  cases d
  exact YH Z
 refine rl Z <| O9 Z <| AG <| AE <| rs AA <| rn 2 Z <| bq e fun f b c => sx Z (A7 (enc := AJ) (l := ([] : List Int)) (m := a) b (fun _ => ⟨Z, Z⟩) Z Z Z Z Z Z <| rl Z <| AI ?_)
 have hr := Option.some.inj c; subst hr
 exact U6 Z Z Z
noncomputable def HR (b : AH) (h : (List Bs)) (i : (List Br)) (c : (List A4)) (g : (List B9)) (a : Int × (List B9)) : Option ((Int × (List B9)) ⊕ AH) :=
 bif decide (a.1 < (g.length : Int)) then (Aj a.2 a.1).bind fun d => (CA d.elems).bind fun e => (Aj a.2 a.1).bind fun f => some (.inl (Ab (a.1 + 1), KD a.2 a.1 (⟨f.name, e⟩ : B9))) else some (.inr (⟨h, i, c, a.2, b.top, b.brake, b.margin, b.throw, b.hard⟩ : AH))
noncomputable def Jr (a : AH) : Option AH :=
 (G8 a.elems).bind fun d => (G9 a.joins).bind fun e => (GV a.signals).bind fun c => (HA a.lines).bind fun b => AQ (HR a d e c b) (0, b)
noncomputable def H6 (e : (Int × (List (AC × AC)))) (c : (Int × (List (Int × Fq)) × (List (Int × Int)))) (d : B9) (a : Int × Int × (List (Int × Fq)) × (List (Int × Int))) : Option ((Int × Int × (List (Int × Fq)) × (List (Int × Int))) ⊕ ((Int × (List (Int × Fq)) × (List (Int × Int))) ⊕ ((Option CK) × Int))) :=
 bif decide (a.2.1 < (d.elems.length : Int)) then (Aj d.elems a.2.1).bind fun b => some (.inl (((AV e.2 (⟨b, Ab (1 - a.1)⟩ : AC)).getD (⟨0, 0⟩ : AC)).fin, Ab (a.2.1 + 1), Au b (⟨c.1, a.2.1⟩ : Fq) a.2.2.1, Au b a.1 a.2.2.2)) else some (.inr (.inl (Ab (c.1 + 1), a.2.2.1, a.2.2.2)))
noncomputable def GW (d : AH) (j : AH) (b : (Int × (List (AC × AC)))) (f : (Int × (List (AC × Int)))) (a : Int × (List (Int × Fq)) × (List (Int × Int))) : Option ((Int × (List (Int × Fq)) × (List (Int × Int))) ⊕ ((Option CK) × Int)) :=
 bif decide (a.1 < (d.lines.length : Int)) then (Aj d.lines a.1).bind fun c => ((bif decide (1 < (c.elems.length : Int)) then (Aj c.elems 0).bind fun e => ((bif (AV b.2 (⟨e, 0⟩ : AC)).isSome then (Aj c.elems 1).bind fun i => some ((((AV b.2 (⟨e, 0⟩ : AC)).getD (⟨0, 0⟩ : AC)).elem) == i) else some false : Option (Bool))).bind fun (h : Bool) => bif h then some 1 else some 0 else some 0 : Option (Int))).bind fun (g : Int) => AQ (H6 b a c) (g, 0, a.2.1, a.2.2) else some (.inr (some (⟨j, b.2, f.2, a.2.1, a.2.2⟩ : CK), 0))
noncomputable def H7 (b : AH) (d : AH) (c : (Int × (List (AC × AC)))) (a : Int × (List (AC × Int))) : Option ((Int × (List (AC × Int))) ⊕ ((Option CK) × Int)) :=
 bif decide (a.1 < (b.signals.length : Int)) then (Aj b.signals a.1).bind fun e => some (.inl (Ab (a.1 + 1), Au e.at_ a.1 a.2)) else (AQ (GW b d c a) (0, [], [])).map .inr
noncomputable def H8 (e : AH) (f : AH) (c : Int × (List (AC × AC))) : Option ((Int × (List (AC × AC))) ⊕ ((Option CK) × Int)) :=
 bif decide (c.1 < (e.joins.length : Int)) then (Aj e.joins c.1).bind fun d => some (.inl (Ab (c.1 + 1), Au d.b d.a (Au d.a d.b c.2))) else (AQ (H7 e f c) (0, [])).map .inr
noncomputable def Qd (a : AH) : Option ((Option CK) × Int) :=
 (KJ a).bind fun b => bif (b != 0) then some (none, b) else (Jr a).bind fun c => AQ (H8 a c) (0, [])
noncomputable def LQ (b : AH) (a : Int) : Option (AC × Bool) :=
 ((bif decide (a < 0) then some true else some (decide ((b.signals.length : Int) <= a)) : Option (Bool))).bind fun (c : Bool) => bif c then some ((⟨0, 0⟩ : AC), false) else (Aj b.signals a).bind fun d => some (d.at_, true)
theorem Xg (a : AH) (b : Int) (r : (AC × Bool)) (h : LQ a b = some r) : Bk Try.prog 88 [.agg (AY a), .int .i64 b] (· = .tup [.agg (As r.1), .bool r.2]) := by
 refine fn AA Try.func88 Z Z 22 Z [.cell 4 96, .tmp 5] Z [(0, .p (.agg (AY a))), (1, .p (.int .i64 b))] Z Z fun A hA => ?_
 unfold LQ at h
 refine rs AA <| rl Z <| AD <| jb (fun c : Bool => ⟨22, [(1, li b), (2, .lpb 0 0), (4, .lpb 1 0), (14, lb c)], [(0, bx (AY a)), (1, .box [li 0, li 0])], 2⟩) h (fun c e => ?_) (fun c i => ?_)
 .refine rg AA <| rn 3 Z <| gs 8 e Z Z Z (fun f => ?_) (fun g => ?_)
  .exact rl Z <| Ag f (wf hA [(0, 0), (1, 1)] Z Z Z)
  exact rn 3 Z <| sx Z (Aw Z Z <| rl Z <| Ag g (wf hA [(0, 0), (1, 1)] Z Z Z))
 refine cd Z i (fun j => ?_) (fun k => ?_)
 .refine rs AA <| rl Z <| AI <| AO ?_
  cases j
  exact er Z Le.rfl
 refine AG <| AE <| rs AA <| rn 3 Z <| bq k fun m d l => sx Z (A3 d Z Z Z <| rl Z <| AI ?_)
 cases l
 exact er Z Le.rfl
noncomputable def GX (a : AH) (b : Int) : Option Int :=
 (DE a b).bind fun c => some c
theorem NF (a : AH) (b : Int) (r : Int) (h : GX a b = some r) : Bk Try.prog 105 [.agg (AY a), .int .i64 b] (· = .int .i64 r) := by
 refine fn AA Try.func105 Z Z 8 Z [.tmp 4] Z [(0, .p (.agg (AY a))), (1, .p (.int .i64 b))] Z Z fun A hA => ?_
 unfold GX at h
 refine rs AA <| rl Z <| rs AA <| rn 2 Z <| bq h fun e c d => sx Z (Ah (E4 _ _ _ c) (.inl Z) Z Z Z <| rl Z <| AI ?_)
 have hr := Option.some.inj d; subst hr
 exact er Z Le.rfl
noncomputable def EP (a : AT) (b : Aq) (c : Int) (f : Int) (g : Int) : Option AT :=
 (BP ([] : List Aq) a.steps).bind fun i => (BP i [b]).bind fun j => (BP ([] : List AM) a.needs).bind fun d => ((bif (c != 0) then (BP d [(⟨b.elem, c⟩ : AM)]).bind fun h => some h else some d : Option ((List AM)))).bind fun (e : (List AM)) => some (⟨a.frm, g, f, j, e, [], [], [], false⟩ : AT)
theorem Js (a : AT) (b : Aq) (f : Int) (g : Int) (i : Int) (r : AT) (h : EP a b f g i = some r) : Bk Try.prog 128 [.agg (An a), .agg (BG b), .int .i64 f, .int .i64 g, .int .i64 i] (· = .agg (An r)) := by
 refine fn AA Try.func128 Z Z 42 Z [.cell 10 36] Z [(0, .p (.agg (An a))), (1, .p (.agg (BG b))), (2, .p (.int .i64 f)), (3, .p (.int .i64 g)), (4, .p (.int .i64 i))] Z Z fun A hA => ?_
 unfold EP at h
 refine rs AA <| rl Z <| rs AA <| rl Z <| AD <| bq h fun j c x => bq x fun k d y => ?_
 refine WM AA mixed (.picks [1, 2] (.alt 0 [] (.alt 3 [4, 5, 6, 7, 8] .done (.alt 4 [] (.alt 3 [5, 6, 7, 8] .done (.alt 5 [3, 6, 7, 8] .done .nil)) .nil)) (.alt 4 [0] (.alt 3 [5, 6, 7, 8] .done (.alt 5 [3, 6, 7, 8] .done .nil)) .nil))) 9 ⟨42, [(2, li f), (5, .lpb 0 0), (6, .lpb 1 0), (10, .lpb 2 0), (11, .lpb 3 0)], [(0, bx (An a)), (1, bx (BG b)), (2, .box [li 0, li 0, li 0, .p (.nils), .p (.nils), .p (.nils), .p (.nils), .p (.nils), lb false]), (3, .box [li a.frm, li i, li g, .lsl 4 3 0 k.length, .p (.nils), .p (.nils), .p (.nils), .p (.nils), lb false]), (4, .row 90 3 (k.map BG))], 5⟩ (by kernel_rfl) Z ?_ ?_
 .refine RM <| BB Z <| Bb ?_ ?_
  .refine BB Z <| Bb ?_ ?_
   .exact Ae Z (Bn (A7 (enc := BG) (l := ([] : List Aq)) (m := a.steps) c (fun _ => ⟨Z, Z⟩) Z Z Z Z Z Z <| A8 2 Z <| Ae Z (Bn (A7 (enc := BG) (l := j) (m := [b]) d (fun _ => ⟨Z, Z⟩) Z Z Z Z Z Z <| BB Z <| CP (wf hA (gi 4 [(4, 10)]) Z Z Z)))))
   refine Bb ?_ ?_
   .refine BB Z <| Bb ?_ ?_
    .exact Ae Z (Bn (A7 (enc := BG) (l := ([] : List Aq)) (m := a.steps) c (fun _ => ⟨Z, Z⟩) Z Z Z Z Z Z <| A8 1 Z <| Ae Z (Bn (A7 (enc := BG) (l := j) (m := [b]) d (fun _ => ⟨Z, Z⟩) Z Z Z Z Z Z <| BB Z <| CP (wf hA (gi 4 [(4, 10)]) Z Z Z)))))
    refine Bb ?_ ?_
    .exact A8 1 Z <| Ae Z (Bn (A7 (enc := BG) (l := ([] : List Aq)) (m := a.steps) c (fun _ => ⟨Z, Z⟩) Z Z Z Z Z Z <| Ae Z (Bn (A7 (enc := BG) (l := j) (m := [b]) d (fun _ => ⟨Z, Z⟩) Z Z Z Z Z Z <| BB Z <| CP (wf hA (gi 4 [(4, 10)]) Z Z Z)))))
    exact DH
   exact DH
  refine Bb ?_ ?_
  .refine BB Z <| Bb ?_ ?_
   .exact Ae Z (Bn (A7 (enc := BG) (l := ([] : List Aq)) (m := a.steps) c (fun _ => ⟨Z, Z⟩) Z Z Z Z Z Z <| A8 1 Z <| Ae Z (Bn (A7 (enc := BG) (l := j) (m := [b]) d (fun _ => ⟨Z, Z⟩) Z Z Z Z Z Z <| BB Z <| CP (wf hA (gi 4 [(4, 10)]) Z Z Z)))))
   refine Bb ?_ ?_
   .exact A8 1 Z <| Ae Z (Bn (A7 (enc := BG) (l := ([] : List Aq)) (m := a.steps) c (fun _ => ⟨Z, Z⟩) Z Z Z Z Z Z <| Ae Z (Bn (A7 (enc := BG) (l := j) (m := [b]) d (fun _ => ⟨Z, Z⟩) Z Z Z Z Z Z <| BB Z <| CP (wf hA (gi 4 [(4, 10)]) Z Z Z)))))
   exact DH
  exact DH
 refine AE <| rs AA <| rn 3 Z <| bq y fun z n q => sx Z (A7 (enc := AL) (l := ([] : List AM)) (m := a.needs) n (fun _ => ⟨Z, Z⟩) Z Z Z Z Z Z <| rl Z <| jb (fun e : (List AM) => ⟨42, [(10, .lpb 0 0), (11, .lpb 1 0)], [(0, .box [li 0, li 0, li 0, .p (.nils), .p (.nils), .p (.nils), .p (.nils), .p (.nils), lb false]), (1, .box [li a.frm, li i, li g, .lsl 2 3 0 k.length, .lsl 3 2 0 e.length, .p (.nils), .p (.nils), .p (.nils), lb false]), (2, .row 90 3 (k.map BG)), (3, .row 46 2 (e.map AL))], 4⟩) q (fun e s => ?_) (fun e w => ?_))
 .refine rs AA <| rl Z <| cd Z s (fun t => ?_) (fun v => ?_)
  .exact rg AA <| rn 7 Z <| bq t fun aa o u => sx Z (A7 (enc := AL) (l := z) (m := [(⟨b.elem, f⟩ : AM)]) o (fun _ => ⟨Z, Z⟩) Z Z Z Z Z Z <| rl Z <| Ag u (wf hA [(0, 2), (1, 3), (2, 4), (3, 8)] Z Z Z))
  exact AG <| Ag v (wf hA [(0, 2), (1, 3), (2, 4), (3, 6)] Z Z Z)
 refine rs AA <| rl Z <| AI ?_
 cases w
 exact er (MY Z (.agg (.cons (.p _) (.cons (.p _) (.cons (.p _) (.cons (.own (enc := BG) k Z Z) (.cons (.own (enc := AL) e Z Z) (.cons (.p _) (.cons (.p _) (.cons (.p _) (.cons (.p _) .nil))))))))))) (Le.agg' (.cons Le.rfl (.cons Le.rfl (.cons Le.rfl (.cons Le.rfl (.cons Le.rfl (.cons (Le.nil _) (.cons (Le.nil _) (.cons (Le.nil _) (.cons Le.rfl .nil))))))))))
noncomputable def Hk (c : AH) (d : Int) (a : Int) : Option (List Cx) :=
 (Ha c (⟨d, a⟩ : AC)).bind fun e => bif (!e) then some [] else (DE c d).bind fun b => bif (b == 1) then some [(⟨Ab (1 - a), 0⟩ : Cx)] else bif (b == 3) then some [(⟨W6 a 1, 0⟩ : Cx)] else bif (b == 2) then bif (a == 0) then some [(⟨1, 1⟩ : Cx), (⟨2, 2⟩ : Cx)] else some [(⟨0, a⟩ : Cx)] else some []
theorem Qe (b : AH) (c : Int) (a : Int) (r : (List Cx)) (h : Hk b c a = some r) : Bk Try.prog 129 [.agg (AY b), .int .i64 c, .int .i64 a] (· = .slice 2 (r.map L9)) := by
 refine fn AA Try.func129 Z Z 38 Z [.tmp 6] Z [(0, .p (.agg (AY b))), (1, .p (.int .i64 c)), (2, .p (.int .i64 a))] Z Z fun A hA => ?_
 unfold Hk at h
 refine rs AA <| rl Z <| AD <| rs AA <| rn 4 Z <| bq h fun v e f => sx Z (Ah (OW _ _ _ e) (.inl Z) Z Z Z <| rl Z <| cd Z f (fun g => ?_) (fun i => ?_))
 .refine rs AA <| rl Z <| AI <| AO ?_
  cases g
  exact er Z (Le.nil _)
 refine AG <| AE <| AD <| rs AA <| rn 2 Z <| bq i fun u d j => sx Z (Ah (E4 _ _ _ d) (.inl Z) Z Z Z <| rl Z <| AK <| rs AA <| rl Z <| cd Z j (fun k => ?_) (fun l => ?_))
 .refine rs AA <| rl Z <| AI <| Ak <| AO ?_
  cases k
  exact er (MY Z (.one (.own (enc := L9) ([(⟨Ab (1 - a), 0⟩ : Cx)] : List Cx) Z Z))) Le.rfl
 refine rs AA <| rl Z <| cd Z l (fun m => ?_) (fun n => ?_)
 .refine rs AA <| rl Z <| AI <| Ak <| AO ?_
  cases m
  exact er (MY Z (.one (.own (enc := L9) ([(⟨W6 a 1, 0⟩ : Cx)] : List Cx) Z Z))) Le.rfl
 refine rs AA <| rl Z <| cd Z n (fun o => ?_) (fun t => ?_)
 .refine AD <| rs AA <| rl Z <| cd Z o (fun q => ?_) (fun s => ?_)
  .refine rs AA <| rl Z <| AI <| AO <| Ak <| AO ?_
   cases q
   exact er (MY Z (.one (.own (enc := L9) ([(⟨1, 1⟩ : Cx), (⟨2, 2⟩ : Cx)] : List Cx) Z Z))) Le.rfl
  refine AG <| AE <| rs AA <| rl Z <| AI <| Ak <| AO ?_
  cases s
  exact er (MY Z (.one (.own (enc := L9) ([(⟨0, a⟩ : Cx)] : List Cx) Z Z))) Le.rfl
 refine AG <| Av <| AE <| rs AA <| rl Z <| AI ?_
 cases t
 exact er Z (Le.nil _)
noncomputable def Fh (d : AH) (e : AT) (b : AC) (rc : (AH × AT × AC × (List Int)) -> Option (List AT)) (u : (List Int)) (c : (List Cx)) (a : Int × (List AT)) : Option ((Int × (List AT)) ⊕ (List AT)) :=
 bif decide (a.1 < (c.length : Int)) then (((Aj c a.1).bind fun g => (Aj c a.1).bind fun f => (EJ d (⟨b.elem, g.out⟩ : AC)).bind fun h => bif decide (0 <= h) then (Aj c a.1).bind fun k => (EP e (⟨b.elem, b.fin, f.out⟩ : Aq) k.pos 1 h).bind fun l => (BP a.2 [l]).bind fun m => some m else (CS d (⟨b.elem, g.out⟩ : AC)).bind fun i => bif (!i.2) then (Aj c a.1).bind fun n => (EP e (⟨b.elem, b.fin, f.out⟩ : Aq) n.pos 3 (-1)).bind fun o => (BP a.2 [o]).bind fun p => some p else (Aj c a.1).bind fun q => (EP e (⟨b.elem, b.fin, f.out⟩ : Aq) q.pos 0 (-1)).bind fun r => (rc (d, r, i.1, u)).bind fun s => (BP a.2 s).bind fun t => some t : Option ((List AT)))).bind fun (j : (List AT)) => some (.inl (Ab (a.1 + 1), j)) else some (.inr a.2)
noncomputable def FM (rc : (AH × AT × AC × (List Int)) -> Option (List AT)) (b : AH) (c : AT) (a : AC) (d : (List Int)) : Option (List AT) :=
 (((Dd d a.elem).bind fun f => bif f then some true else some ((c.steps.length : Int) == 12) : Option (Bool))).bind fun (e : Bool) => bif e then some [] else (BP ([] : List Int) d).bind fun g => (BP g [a.elem]).bind fun h => (GX b a.elem).bind fun i => bif (i == 4) then (EP c (⟨a.elem, a.fin, (-1)⟩ : Aq) 0 2 (-1)).bind fun j => some [j] else (Hk b a.elem a.fin).bind fun k => AQ (Fh b c a rc h k) (0, ([] : List AT))
noncomputable def SE (b : AH) (c : AT) (d : AC) (e : (List Int)) : Option (List AT) :=
 NG (fun (rc : (AH × AT × AC × (List Int)) -> Option (List AT)) (a : (AH × AT × AC × (List Int))) => FM rc a.1 a.2.1 a.2.2.1 a.2.2.2) 1000 (b, c, d, e)
theorem UQ (rc : (AH × AT × AC × (List Int)) -> Option (List AT)) (hrec : ∀ (d : AH) (e : AT) (b : AC) (c : (List Int)) (r : (List AT)), rc (d, e, b, c) = some r -> Bk Try.prog 90 [.agg (AY d), .agg (An e), .agg (As b), .slice 1 (c.map AJ)] (· = .slice 9 (r.map An))) (d : AH) (e : AT) (b : AC) (c : (List Int)) (r : (List AT)) (h : FM rc d e b c = some r) : Bk Try.prog 90 [.agg (AY d), .agg (An e), .agg (As b), .slice 1 (c.map AJ)] (· = .slice 9 (r.map An)) := by
 refine fn AA Try.func90 Z Z 128 Z [.tmp 8] Z [(0, .p (.agg (AY d))), (1, .p (.agg (An e))), (2, .p (.agg (As b))), (3, .p (.slice 1 (c.map AJ)))] Z Z fun A hA => ?_
 unfold FM at h
 refine rs AA <| rl Z <| AD <| jb (fun o : Bool => ⟨128, [(3, ls 1 AJ c), (4, .lpb 0 0), (5, .lpb 1 0), (6, .lpb 2 0), (26, lb o)], [(0, bx (AY d)), (1, bx (An e)), (2, .box [li b.elem, li b.fin])], 3⟩) h (fun o ba => ?_) (fun o bf => ?_)
 .refine rg AA <| rn 3 Z <| bq ba fun b9 ah bb => sx Z (Ah (Ib _ _ _ ah) (.inl Z) Z Z Z <| rn 1 Z <| gs 21 bb Z Z Z (fun bc => ?_) (fun be => ?_))
  .exact rl Z <| Ag bc (wf hA (gi 3 []) Z Z Z)
  exact rn 2 Z <| sx Z (Aw Z Z <| rl Z <| Ag be (wf hA (gi 3 []) Z Z Z))
 refine cd Z bf (fun bg => ?_) (fun bh => ?_)
 .refine rs AA <| rl Z <| AI <| AO ?_
  cases bg
  exact er Z (Le.nil _)
 refine AG <| AE <| AD <| bq bh fun j g bi => bq bi fun k i bj => ?_
 refine WM AA mixed (.picks [1, 3] (.alt 0 [] (.alt 2 [4, 5, 6, 7] .done (.alt 4 [] (.alt 2 [5, 6, 7] .done (.alt 5 [2, 6, 7] .done .nil)) .nil)) (.alt 4 [0] (.alt 2 [5, 6, 7] .done (.alt 5 [2, 6, 7] .done .nil)) .nil))) 8 ⟨128, [(3, .lsl 0 1 0 k.length), (4, .lpb 1 0), (5, .lpb 2 0), (6, .lpb 3 0)], [(0, .row 3 1 (k.map AJ)), (1, bx (AY d)), (2, bx (An e)), (3, .box [li b.elem, li b.fin])], 4⟩ (by kernel_rfl) Z ?_ ?_
 .refine RM <| BB Z <| Bb ?_ ?_
  .refine BB Z <| Bb ?_ ?_
   .exact Ae Z (Bn (A7 (enc := AJ) (l := ([] : List Int)) (m := c) g (fun _ => ⟨Z, Z⟩) Z Z Z Z Z Z <| A8 2 Z <| Ae Z (Bn (A7 (enc := AJ) (l := j) (m := [b.elem]) i (fun _ => ⟨Z, Z⟩) Z Z Z Z Z Z <| BB Z <| CP (wf hA [(0, 9), (1, 0), (2, 1), (3, 2)] Z Z Z)))))
   refine Bb ?_ ?_
   .refine BB Z <| Bb ?_ ?_
    .exact Ae Z (Bn (A7 (enc := AJ) (l := ([] : List Int)) (m := c) g (fun _ => ⟨Z, Z⟩) Z Z Z Z Z Z <| A8 1 Z <| Ae Z (Bn (A7 (enc := AJ) (l := j) (m := [b.elem]) i (fun _ => ⟨Z, Z⟩) Z Z Z Z Z Z <| BB Z <| CP (wf hA [(0, 9), (1, 0), (2, 1), (3, 2)] Z Z Z)))))
    refine Bb ?_ ?_
    .exact A8 1 Z <| Ae Z (Bn (A7 (enc := AJ) (l := ([] : List Int)) (m := c) g (fun _ => ⟨Z, Z⟩) Z Z Z Z Z Z <| Ae Z (Bn (A7 (enc := AJ) (l := j) (m := [b.elem]) i (fun _ => ⟨Z, Z⟩) Z Z Z Z Z Z <| BB Z <| CP (wf hA [(0, 9), (1, 0), (2, 1), (3, 2)] Z Z Z)))))
    exact DH
   exact DH
  refine Bb ?_ ?_
  .refine BB Z <| Bb ?_ ?_
   .exact Ae Z (Bn (A7 (enc := AJ) (l := ([] : List Int)) (m := c) g (fun _ => ⟨Z, Z⟩) Z Z Z Z Z Z <| A8 1 Z <| Ae Z (Bn (A7 (enc := AJ) (l := j) (m := [b.elem]) i (fun _ => ⟨Z, Z⟩) Z Z Z Z Z Z <| BB Z <| CP (wf hA [(0, 9), (1, 0), (2, 1), (3, 2)] Z Z Z)))))
   refine Bb ?_ ?_
   .exact A8 1 Z <| Ae Z (Bn (A7 (enc := AJ) (l := ([] : List Int)) (m := c) g (fun _ => ⟨Z, Z⟩) Z Z Z Z Z Z <| Ae Z (Bn (A7 (enc := AJ) (l := j) (m := [b.elem]) i (fun _ => ⟨Z, Z⟩) Z Z Z Z Z Z <| BB Z <| CP (wf hA [(0, 9), (1, 0), (2, 1), (3, 2)] Z Z Z)))))
   exact DH
  exact DH
 refine AE <| AD <| rs AA <| rn 3 Z <| bq bj fun ca ai bk => sx Z (Ah (NF _ _ _ ai) (.inl Z) Z Z Z <| rl Z <| cd Z bk (fun bl => ?_) (fun bn => ?_))
 .refine rs AA <| rn 6 Z <| bq bl fun bt aj bm => sx Z (Ah (Js _ _ _ _ _ _ aj) (.inr Z) Z Z Z <| rl Z <| AI <| AO ?_)
  cases bm
  exact er (MY Z (.one (.own (enc := An) ([bt] : List AT) Z Z))) Le.rfl
 refine AG <| AE <| rs AA <| rl Z <| rs AA <| rn 5 Z <| bq bn fun s ak bo => sx Z (Ah (Qe _ _ _ _ ak) (.inr Z) Z Z Z <| rl Z <| AD <| rs AA <| rl Z <| AK ?_)
 apply lp (a := r) (fun f : (Int × (List AT)) => ⟨128, [(3, ls 1 AJ k), (4, .lpb 0 0), (5, .lpb 1 0), (6, .lpb 2 0), (9, .lsl 3 9 0 f.2.length), (10, ls 2 L9 s), (11, li f.1)], [(0, bx (AY d)), (1, bx (An e)), (2, .box [li b.elem, li b.fin]), (3, .row 36 9 (f.2.map An))], 4⟩) bo
 . exact A6.trans (Ii 0 (LR (enc := AJ) (l := k) Z) (.cons 3 .hit (.cons 4 (.same _) (.cons 5 (.same _) (.cons 6 (.same _) (.cons 9 (.same _) (.cons 10 (.same _) (.cons 11 (.same _) .nil))))))) (.cons 1 Z Z (.same _) (.cons 2 Z Z (.same _) (.cons 3 Z Z (.same _) .nil)))) (A6.trans (CO 9 36 9 Z) (wf hA [(0, 1), (1, 2), (2, 3), (3, 4)] Z Z Z))
 intro f bv q
 unfold Fh at q
 refine AD <| rs AA <| rn 2 Z <| sx Z (Aw Z Z <| rl Z <| cd Z q (fun al => ?_) (fun a8 => ?_))
 .refine AG <| AE <| jb (fun n : (List AT) => ⟨128, [(3, ls 1 AJ k), (4, .lpb 0 0), (5, .lpb 1 0), (6, .lpb 2 0), (9, .lsl 3 9 0 n.length), (10, ls 2 L9 s), (11, li f.1)], [(0, bx (AY d)), (1, bx (An e)), (2, .box [li b.elem, li b.fin]), (3, .row 36 9 (n.map An))], 4⟩) al (fun n am => ?_) (fun n a7 => ?_)
  .refine AK <| AD ?_
   refine C5 AA mixed [0, 1, 2, 3, 4, 5, 6, 7, 8, 9] 10 (by kernel_rfl) Z Z Z ?_
   refine A8 4 Z <| bq am fun bw t an => Ae Z (Am Z (A3 t Z Z Z <| BB Z <| AE <| AD ?_))
   refine C5 AA mixed [0, 1, 2, 3, 4, 5, 6, 7, 8, 9, 10, 11] 12 (by kernel_rfl) Z Z Z ?_
   refine A8 6 Z <| bq an fun bz u ao => Ae Z (Am Z (A3 u Z Z Z <| BB Z <| AE <| AD <| rs AA <| rn 2 Z <| bq ao fun b0 v ap => sx Z (Ah (Jq _ _ _ v) (.inl Z) Z Z Z <| rl Z <| rs AA <| rl Z <| cd Z ap (fun aq => ?_) (fun aw => ?_))))
   .refine AD ?_
    refine C5 AA mixed [0, 1, 2, 3, 4, 5, 6, 7, 8, 9, 10, 11, 12] 13 (by kernel_rfl) Z Z Z ?_
    exact A8 5 Z <| bq aq fun b1 w ar => Ae Z (Am Z (A3 w Z Z Z <| A8 3 Z <| bq ar fun bp x au => Ae Z (BC (Js _ _ _ _ _ _ x) (.inr Z) Z Z Z <| A8 1 Z <| bq au fun b2 y av => Ae Z (Bn (A7 (enc := An) (l := f.2) (m := [bp]) y (fun _ => ⟨Z, Z⟩) Z Z Z Z Z Z <| BB Z <| AE <| Al <| Ap <| BA <| Ag av (wf hA (gi 3 [(3, 37)]) Z Z Z))))))
   refine AG <| AE <| rs AA <| rn 2 Z <| bq aw fun b3 z ax => sx Z (Ah (DD _ _ _ z) (.inl Z) Z Z Z <| rl Z <| AD <| rs AA <| rl Z <| cd Z ax (fun ay => ?_) (fun a2 => ?_))
   .refine AD ?_
    refine C5 AA mixed [0, 1, 2, 3, 4, 5, 6, 7, 8, 9, 10, 11] 12 (by kernel_rfl) Z Z Z ?_
    exact A8 5 Z <| bq ay fun b4 aa az => Ae Z (Am Z (A3 aa Z Z Z <| A8 2 Z <| bq az fun br ab a0 => Ae Z (BC (Js _ _ _ _ _ _ ab) (.inr Z) Z Z Z <| A8 1 Z <| bq a0 fun b5 ac a1 => Ae Z (Bn (A7 (enc := An) (l := f.2) (m := [br]) ac (fun _ => ⟨Z, Z⟩) Z Z Z Z Z Z <| BB Z <| AE <| Al <| Ap <| BA <| Ag a1 (wf hA (gi 3 [(3, 37)]) Z Z Z))))))
   refine AG <| AE ?_
   refine C5 AA mixed [0, 1, 2, 3, 4, 5, 6, 7, 8, 9, 10, 11, 12, 13, 14] 15 (by kernel_rfl) Z Z Z ?_
   exact A8 6 Z <| bq a2 fun b6 ad a3 => Ae Z (Am Z (A3 ad Z Z Z <| A8 2 Z <| bq a3 fun b7 ae a4 => Ae Z (BC (Js _ _ _ _ _ _ ae) (.inr Z) Z Z Z <| A8 2 Z <| bq a4 fun bs af a5 => Ae Z (BC (hrec _ _ _ _ _ af) (.inr Z) Z Z Z <| bq a5 fun b8 ag a6 => Ae Z (Bn (A7 (enc := An) (l := f.2) (m := bs) ag (fun _ => ⟨Z, Z⟩) Z Z Z Z Z Z <| BB Z <| Av <| Ag a6 (wf hA (gi 3 [(3, 40)]) Z Z Z)))))))
  exact rg AA <| rl Z <| BR a7 (wf hA (gi 4 []) Z Z Z)
 refine Al <| Ap <| CU a8 fun bu a9 => BA <| AE <| rs AA <| rl Z <| AI ?_
 cases a9
 exact er (MY Z (.one (.own (enc := An) f.2 Z Z))) Le.rfl
theorem WN (b : AH) (c : AT) (d : AC) (e : (List Int)) (r : (List AT)) (h : SE b c d e = some r) : Bk Try.prog 90 [.agg (AY b), .agg (An c), .agg (As d), .slice 1 (e.map AJ)] (· = .slice 9 (r.map An)) :=
 recF_holds (F := fun (rc : (AH × AT × AC × (List Int)) -> Option (List AT)) (a : (AH × AT × AC × (List Int))) => FM rc a.1 a.2.1 a.2.2.1 a.2.2.2) (C := fun (a : (AH × AT × AC × (List Int))) (r : (List AT)) => Bk Try.prog 90 [.agg (AY a.1), .agg (An a.2.1), .agg (As a.2.2.1), .slice 1 (a.2.2.2.map AJ)] (· = .slice 9 (r.map An))) (fun rc hrec a r h => UQ rc (fun f g i j r h => hrec (f, g, i, j) r h) a.1 a.2.1 a.2.2.1 a.2.2.2 r h) 1000 (b, c, d, e) r h
noncomputable def KK (a : AH) (c : Int) : Option (List AT) :=
 (LQ a c).bind fun b => bif (!b.2) then some [] else (CS a b.1).bind fun d => bif (!d.2) then some [] else (SE a (⟨c, 0, 0, [], [], [], [], [], false⟩ : AT) d.1 ([b.1.elem] : (List Int))).bind fun e => some e
theorem WO (a : AH) (b : Int) (r : (List AT)) (h : KK a b = some r) : Bk Try.prog 42 [.agg (AY a), .int .i64 b] (· = .slice 9 (r.map An)) := by
 refine fn AA Try.func42 Z Z 33 Z [.tmp 4] Z [(0, .p (.agg (AY a))), (1, .p (.int .i64 b))] Z Z fun A hA => ?_
 unfold KK at h
 refine rs AA <| rl Z <| rs AA <| rn 2 Z <| bq h fun n e k => sx Z (Ah (Xg _ _ _ e) (.inl Z) Z Z Z <| rl Z <| AD <| rs AA <| rl Z <| cd Z k (fun l => ?_) (fun m => ?_))
 .refine rs AA <| rl Z <| AI <| AO ?_
  cases l
  exact er Z (Le.nil _)
 refine AG <| AE <| rs AA <| rn 2 Z <| bq m fun o c f => sx Z (Ah (DD _ _ _ c) (.inl Z) Z Z Z <| rl Z <| AD <| rs AA <| rl Z <| cd Z f (fun g => ?_) (fun i => ?_))
 .refine rs AA <| rl Z <| AI <| AO ?_
  cases g
  exact er Z (Le.nil _)
 refine AG <| AE <| rs AA <| rn 7 Z <| bq i fun q d j => sx Z (XZ (Bk.le (WN _ _ _ _ _ d) (.cons Le.rfl (.cons (Le.agg' (.cons Le.rfl (.cons Le.rfl (.cons Le.rfl (.cons (Le.nil _) (.cons (Le.nil _) (.cons (Le.nil _) (.cons (Le.nil _) (.cons (Le.nil _) (.cons Le.rfl .nil)))))))))) (.cons Le.rfl (.cons Le.rfl .nil))))) Z Z Z (CJ.eq (.cons (.one (.p _)) (.cons (.one (.p _)) (.cons (.one (.p _)) (.cons (.one (.own (enc := AJ) ([n.1.elem] : List Int) Z Z)) .nil))))) Z <| rl Z <| AI ?_)
 have hr := Option.some.inj j; subst hr
 exact er Z Le.rfl
noncomputable def HB (a : (List Aq)) : Option (List Aq) :=
 K0 a (some []) ((BP ([] : List Aq) a).bind fun b => some b)
noncomputable def BL (a : (List AM)) : Option (List AM) :=
 K0 a (some []) ((BP ([] : List AM) a).bind fun b => some b)
theorem HD (a : (List AM)) (r : (List AM)) (h : BL a = some r) : Bk Try.prog 50 [.slice 2 (a.map AL)] (· = .slice 2 (r.map AL)) := by
 refine fn AA Try.func50 Z Z 8 Z [.tmp 2] Z [(0, .p (.slice 2 (a.map AL)))] Z Z fun A hA => ?_
 unfold BL at h
 refine rs AA <| rl Z <| AD <| rs AA <| rn 1 Z <| sx Z (PG h Z Z Z (fun d => ?_) (fun e => ?_))
 .refine rl Z <| QU Z <| rs AA <| rl Z <| AI <| AO ?_
  cases d
  exact er Z (Le.nil _)
 refine rl Z <| O9 Z <| AG <| AE <| rs AA <| rn 2 Z <| bq e fun f b c => sx Z (A7 (enc := AL) (l := ([] : List AM)) (m := a) b (fun _ => ⟨Z, Z⟩) Z Z Z Z Z Z <| rl Z <| AI ?_)
 have hr := Option.some.inj c; subst hr
 exact er (MY Z (.one (.own (enc := AL) f Z Z))) Le.rfl
theorem KU (a : (List AM)) (r : (List AM)) (h : BL a = some r) : E9 Try.prog 50 [.slice 2 (a.map AL)] 46 2 (r.map AL) := by
 refine U5 (enc := AL) (fun _ => ⟨Z, Z⟩) Try.func50 Z Z 8 Z 2 Z [(0, .p (.slice 2 (a.map AL)))] Z Z fun A hA => ?_
 unfold BL at h
 refine rs AA <| rl Z <| AD <| rs AA <| rn 1 Z <| sx Z (PG h Z Z Z (fun d => ?_) (fun e => ?_))
 .refine rl Z <| QU Z <| rs AA <| rl Z <| AI <| AO ?_
  cases d
  exact YH Z
 refine rl Z <| O9 Z <| AG <| AE <| rs AA <| rn 2 Z <| bq e fun f b c => sx Z (A7 (enc := AL) (l := ([] : List AM)) (m := a) b (fun _ => ⟨Z, Z⟩) Z Z Z Z Z Z <| rl Z <| AI ?_)
 have hr := Option.some.inj c; subst hr
 exact U6 Z Z Z
noncomputable def Ij (a : CK) : Option AH :=
 (Jr a.p).bind fun b => some b
noncomputable def Ik (b : CK) (a : Int) : Option Bs :=
 ((bif decide (a < 0) then some true else some (decide ((b.p.elems.length : Int) <= a)) : Option (Bool))).bind fun (c : Bool) => bif c then some (⟨ByteArray.empty, 0, 0⟩ : Bs) else (Aj b.p.elems a).bind fun d => some d
noncomputable def Dw (a : CK) (b : Int) : Option Int :=
 (Ik a b).bind fun c => some c.kind
noncomputable def Cj (a : CK) (b : AC) : Option (AC × Bool) :=
 some (((AV a.next b).getD (⟨0, 0⟩ : AC)), (AV a.next b).isSome)
end Go.E
/- Plain functions, and walks in step with them. Written by a program (gen.py). No condition. -/
set_option maxRecDepth 100000
namespace Go.E
open Go Go.RowKit Go.Proofs
noncomputable def F3 (g : CK) (e : (Int × (List AC))) (c : Aq) (b : (List Int)) (a : Int × (List AC)) : Option ((Int × (List AC)) ⊕ ((Int × (List AC)) ⊕ (List AC))) :=
 bif decide (a.1 < (b.length : Int)) then (((Aj b a.1).bind fun d => (Cj g (⟨c.elem, d⟩ : AC)).bind fun h => bif h.2 then (BP a.2 [(⟨c.elem, d⟩ : AC)]).bind fun i => some i else some a.2 : Option ((List AC)))).bind fun (f : (List AC)) => some (.inl (Ab (a.1 + 1), f)) else some (.inr (.inl (Ab (e.1 + 1), a.2)))
noncomputable def H9 (c : CK) (d : AT) (b : Int × (List AC)) : Option ((Int × (List AC)) ⊕ (List AC)) :=
 bif decide (b.1 < (d.steps.length : Int)) then (Aj d.steps b.1).bind fun a => (((Dw c a.elem).bind fun e => bif (e == 2) then some [Ab (3 - (if a.out > a.in_ then a.out else a.in_))] else bif (e == 3) then bif decide (1 < a.in_) then some [0, 1] else some [2, 3] else some ([] : List Int) : Option ((List Int)))).bind fun (f : (List Int)) => AQ (F3 c b a f) (0, b.2) else some (.inr b.2)
noncomputable def KL (a : CK) (b : AT) : Option (List AC) :=
 AQ (H9 a b) (0, ([] : List AC))
noncomputable def NH (a : Aq) (b : Int) : Option Bool :=
 some (a.elem == b)
noncomputable def HS (b : AT) (c : Int) (a : Int) : Option (Int ⊕ Int) :=
 bif decide (a < (b.steps.length : Int)) then (Aj b.steps a).bind fun d => (NH d c).bind fun e => bif e then some (.inr a) else some (.inl (Ab (a + 1))) else some (.inr (-1))
noncomputable def MA (c : AT) (d : Int) : Option Bool :=
 ((((AQ (HS c d) 0 : Option (Int))).bind fun (b : Int) => some (decide (0 <= b)) : Option (Bool))).bind fun (a : Bool) => some a
noncomputable def IA (a : CK) (b : AC) : Option Int :=
 bif (AV a.reads b).isSome then some ((AV a.reads b).getD 0) else some (-1)
noncomputable def Cy (b : (List Int)) (c : Int) (a : Int) : Option (Int ⊕ Int) :=
 bif decide (a < (b.length : Int)) then (Aj b a).bind fun d => bif (c == d) then some (.inr a) else some (.inl (Ab (a + 1))) else some (.inr (-1))
noncomputable def DZ (a : (List Int)) (b : Int) : Option Int :=
 AQ (Cy a b) 0
theorem JM (b : (List Int)) (c : Int) (r : Int) (h : DZ b c = some r) : Bk Try.prog 72 [.slice 1 (b.map AJ), .int .i64 c] (· = .int .i64 r) := by
 refine fn AA Try.func72 Z Z 19 Z [.tmp 4] Z [(0, .p (.slice 1 (b.map AJ))), (1, .p (.int .i64 c))] Z Z fun A hA => ?_
 unfold DZ at h
 refine rs AA <| rl Z <| AD <| rs AA <| rn 1 Z <| sx Z (Aw Z Z <| rl Z <| AK ?_)
 apply lp (a := r) (fun e : Int => ⟨19, [(0, ls 1 AJ b), (1, li c), (7, li (b.length : Int)), (8, li e)], [], 0⟩) h
 . exact wf hA [] Z Z Z
 intro e s d
 unfold Cy at d
 refine rs AA <| rl Z <| AD <| cd Z d (fun n => ?_) (fun l => ?_)
 .refine AG <| AE <| AD <| AK <| rs AA <| rl Z <| rs AA <| rn 3 Z <| bq n fun t f g => sx Z (A3 f Z Z Z <| rl Z <| cd Z g (fun i => ?_) (fun k => ?_))
  .refine rs AA <| rl Z <| AI <| Ak <| AO <| B8 i fun o j => Ak <| AO ?_
   have hr := Option.some.inj j; subst hr
   exact er Z Le.rfl
  exact AG <| Av <| AE <| rg AA <| rl Z <| BR k (wf hA [] Z Z Z)
 refine Al <| Ap <| CU l fun q m => BA <| AE <| rs AA <| rl Z <| AI ?_
 cases m
 exact er Z Le.rfl
noncomputable def BY (a : (List Int)) (b : Int) : Option Bool :=
 (DZ a b).bind fun c => some (decide (0 <= c))
theorem Hl (a : (List Int)) (b : Int) (r : Bool) (h : BY a b = some r) : Bk Try.prog 57 [.slice 1 (a.map AJ), .int .i64 b] (· = .bool r) := by
 refine fn AA Try.func57 Z Z 9 Z [.tmp 4] Z [(0, .p (.slice 1 (a.map AJ))), (1, .p (.int .i64 b))] Z Z fun A hA => ?_
 unfold BY at h
 refine rs AA <| rl Z <| rs AA <| rn 2 Z <| bq h fun e c d => sx Z (Ah (JM _ _ _ c) (.inl Z) Z Z Z <| rl Z <| AI ?_)
 cases d
 exact er Z Le.rfl
noncomputable def C0 (b : (List AM)) (c : AM) (a : Int) : Option (Int ⊕ Int) :=
 bif decide (a < (b.length : Int)) then (Aj b a).bind fun d => bif (c == d) then some (.inr a) else some (.inl (Ab (a + 1))) else some (.inr (-1))
noncomputable def HE (a : (List AM)) (b : AM) : Option Int :=
 AQ (C0 a b) 0
noncomputable def CW (a : (List AM)) (b : AM) : Option Bool :=
 (HE a b).bind fun c => some (decide (0 <= c))
noncomputable def Il (c : CK) (d : Int) (a : Int) : Option (List Cx) :=
 ((bif decide (a < 0) then some true else (Dw c d).bind fun f => (Iy f).bind fun g => some (decide (g <= a)) : Option (Bool))).bind fun (e : Bool) => bif e then some [] else (Dw c d).bind fun b => bif (b == 1) then some [(⟨Ab (1 - a), 0⟩ : Cx)] else bif (b == 3) then (Aj ([1, 0, 3, 2] : List Int) a).bind fun h => some [(⟨h, 0⟩ : Cx)] else bif (b == 2) then bif (a == 0) then some [(⟨1, 1⟩ : Cx), (⟨2, 2⟩ : Cx)] else (Aj ([0, 1, 2] : List Int) a).bind fun i => some [(⟨0, i⟩ : Cx)] else some []
noncomputable def FN (e : Int) (c : (List Cx)) (a : Int) : Option (Int ⊕ (Int × Bool)) :=
 bif decide (a < (c.length : Int)) then (Aj c a).bind fun b => ((bif (b.pos == 0) then some true else some (b.pos == e) : Option (Bool))).bind fun (d : Bool) => bif d then some (.inr (b.out, true)) else some (.inl (Ab (a + 1))) else some (.inr (0, false))
noncomputable def Gt (a : CK) (b : Int) (c : Int) (d : Int) : Option (Int × Bool) :=
 (Il a b c).bind fun e => AQ (FN d e) 0
noncomputable def LS (b : CK) (c : Int) (d : Int) (e : Int) : Option (Int × Bool) :=
 (Gt b c d e).bind fun a => some (a.1, a.2)
noncomputable def B5 (d : CK) (e : AT) (r : (List Aq)) (l : (List AM)) (am : AH) (a : Bool × (List (AC × Bool)) × (List AM) × (List Int) × (List Int) × (List AC)) : Option ((Bool × (List (AC × Bool)) × (List AM) × (List Int) × (List Int) × (List AC)) ⊕ AT) :=
 bif decide (0 < (a.2.2.2.2.2.length : Int)) then (Aj a.2.2.2.2.2 (Ab ((a.2.2.2.2.2.length : Int) - 1))).bind fun b => (YO a.2.2.2.2.2 0 (Ab ((a.2.2.2.2.2.length : Int) - 1))).bind fun c => (((MA (⟨e.frm, e.to, e.fin, r, l, a.2.2.1, a.2.2.2.1, a.2.2.2.2.1, a.1⟩ : AT) b.elem).bind fun an => bif an then some true else some ((AV a.2.1 b).getD false) : Option (Bool))).bind fun (y : Bool) => bif y then some (.inl (a.1, a.2.1, a.2.2.1, a.2.2.2.1, a.2.2.2.2.1, c)) else (IA d b).bind fun m => ((bif decide (0 <= m) then some (!am.hard) else some false : Option (Bool))).bind fun (z : Bool) => bif z then (((BY a.2.2.2.2.1 m).bind fun ao => bif (!ao) then (BP a.2.2.2.2.1 [m]).bind fun ap => some ap else some a.2.2.2.2.1 : Option ((List Int)))).bind fun (aa : (List Int)) => some (.inl (a.1, Au b true a.2.1, a.2.2.1, a.2.2.2.1, aa, c)) else (Dw d b.elem).bind fun s => bif (s == 4) then some (.inl (true, Au b true a.2.1, a.2.2.1, a.2.2.2.1, a.2.2.2.2.1, c)) else bif (s == 2) then bif (b.fin == 0) then (((((BY a.2.2.2.1 b.elem).bind fun aq => bif aq then some (true, a.1, a.2.2.2.1) else bif decide (12 <= (a.2.2.2.1.length : Int)) then some (false, true, a.2.2.2.1) else (BP a.2.2.2.1 [b.elem]).bind fun ar => some (true, a.1, ar) : Option (Bool × Bool × (List Int)))).bind fun (h : Bool × Bool × (List Int)) => bif h.1 then (((Cj d (⟨b.elem, 2⟩ : AC)).bind fun t => bif t.2 then (BP c [t.1]).bind fun au => some au else some c : Option ((List AC)))).bind fun (n : (List AC)) => (((Cj d (⟨b.elem, 1⟩ : AC)).bind fun u => bif u.2 then (BP n [u.1]).bind fun av => some av else some n : Option ((List AC)))).bind fun (ab : (List AC)) => some (h.2.1, h.2.2, ab) else some (h.2.1, h.2.2, c) : Option (Bool × (List Int) × (List AC)))).bind fun (k : Bool × (List Int) × (List AC)) => some (.inl (k.1, Au b true a.2.1, a.2.2.1, k.2.1, a.2.2.2.2.1, k.2.2)) else (((CW l (⟨b.elem, b.fin⟩ : AM)).bind fun ac => bif ac then some true else (CW a.2.2.1 (⟨b.elem, b.fin⟩ : AM)).bind fun ad => some ad : Option (Bool))).bind fun (v : Bool) => bif v then (((((BY a.2.2.2.1 b.elem).bind fun ae => bif ae then some (true, a.1, a.2.2.2.1) else bif decide (12 <= (a.2.2.2.1.length : Int)) then some (false, true, a.2.2.2.1) else (BP a.2.2.2.1 [b.elem]).bind fun af => some (true, a.1, af) : Option (Bool × Bool × (List Int)))).bind fun (f : Bool × Bool × (List Int)) => bif f.1 then (((Cj d (⟨b.elem, 0⟩ : AC)).bind fun o => bif o.2 then (BP c [o.1]).bind fun ag => some ag else some c : Option ((List AC)))).bind fun (w : (List AC)) => some (f.2.1, f.2.2, w) else some (f.2.1, f.2.2, c) : Option (Bool × (List Int) × (List AC)))).bind fun (i : Bool × (List Int) × (List AC)) => some (.inl (i.1, Au b true a.2.1, a.2.2.1, i.2.1, a.2.2.2.2.1, i.2.2)) else (CW a.2.2.1 (⟨b.elem, Ab (3 - b.fin)⟩ : AM)).bind fun ah => bif (!ah) then (BP a.2.2.1 [(⟨b.elem, Ab (3 - b.fin)⟩ : AM)]).bind fun ai => some (.inl (a.1, Au b true a.2.1, ai, a.2.2.2.1, a.2.2.2.2.1, c)) else some (.inl (a.1, Au b true a.2.1, a.2.2.1, a.2.2.2.1, a.2.2.2.2.1, c)) else (LS d b.elem b.fin 0).bind fun p => ((bif p.2 then (((BY a.2.2.2.1 b.elem).bind fun aj => bif aj then some (true, a.1, a.2.2.2.1) else bif decide (12 <= (a.2.2.2.1.length : Int)) then some (false, true, a.2.2.2.1) else (BP a.2.2.2.1 [b.elem]).bind fun ak => some (true, a.1, ak) : Option (Bool × Bool × (List Int)))).bind fun (j : Bool × Bool × (List Int)) => some (j.1, j.2.1, j.2.2) else some (false, a.1, a.2.2.2.1) : Option (Bool × Bool × (List Int)))).bind fun (g : Bool × Bool × (List Int)) => bif g.1 then (((Cj d (⟨b.elem, p.1⟩ : AC)).bind fun q => bif q.2 then (BP c [q.1]).bind fun al => some al else some c : Option ((List AC)))).bind fun (x : (List AC)) => some (.inl (g.2.1, Au b true a.2.1, a.2.2.1, g.2.2, a.2.2.2.2.1, x)) else some (.inl (g.2.1, Au b true a.2.1, a.2.2.1, g.2.2, a.2.2.2.2.1, c)) else some (.inr (⟨e.frm, e.to, e.fin, r, l, a.2.2.1, a.2.2.2.1, a.2.2.2.2.1, a.1⟩ : AT))
noncomputable def Fi (b : CK) (c : AT) (i : (List Aq)) (j : (List AM)) (d : AH) (e : (List AC)) (a : Int × (List AC)) : Option ((Int × (List AC)) ⊕ AT) :=
 bif decide (0 <= a.1) then (Aj e a.1).bind fun f => (Cj b f).bind fun g => (BP a.2 [g.1]).bind fun h => some (.inl (Ab (a.1 - 1), h)) else (AQ (B5 b c i j d) (false, [], ([] : List AM), ([] : List Int), ([] : List Int), a.2)).map .inr
noncomputable def Gn (b : CK) (a : AT) : Option AT :=
 (HB a.steps).bind fun d => (BL a.needs).bind fun e => (Ij b).bind fun f => (KL b (⟨a.frm, a.to, a.fin, d, e, [], [], [], false⟩ : AT)).bind fun c => AQ (Fi b a d e f c) (Ab ((c.length : Int) - 1), ([] : List AC))
noncomputable def Hb (b : (List Int)) (c : (List Int)) (a : Int) : Option (Int ⊕ Bool) :=
 bif decide (a < (b.length : Int)) then (Aj b a).bind fun d => (Aj c a).bind fun e => bif (d != e) then some (.inr false) else some (.inl (Ab (a + 1))) else some (.inr true)
noncomputable def DC (a : (List Int)) (b : (List Int)) : Option Bool :=
 bif ((a.length : Int) != (b.length : Int)) then some false else AQ (Hb a b) 0
theorem Jd (b : (List Int)) (c : (List Int)) (r : Bool) (h : DC b c = some r) : Bk Try.prog 33 [.slice 1 (b.map AJ), .slice 1 (c.map AJ)] (· = .bool r) := by
 refine fn AA Try.func33 Z Z 26 Z [.tmp 4] Z [(0, .p (.slice 1 (b.map AJ))), (1, .p (.slice 1 (c.map AJ)))] Z Z fun A hA => ?_
 unfold DC at h
 refine rs AA <| rl Z <| AD <| rs AA <| rn 1 Z <| sx Z (Aw Z Z <| rn 1 Z <| sx Z (Aw Z Z <| rl Z <| cd Z h (fun s => ?_) (fun t => ?_)))
 .refine rs AA <| rl Z <| AI <| AO ?_
  cases s
  exact er Z Le.rfl
 refine AG <| AE <| AD <| rs AA <| rl Z <| AK ?_
 apply lp (a := r) (fun e : Int => ⟨26, [(0, ls 1 AJ b), (1, ls 1 AJ c), (5, li e)], [], 0⟩) t
 . exact wf hA [] Z Z Z
 intro e w d
 unfold Hb at d
 refine AD <| rs AA <| rn 2 Z <| sx Z (Aw Z Z <| rl Z <| cd Z d (fun i => ?_) (fun o => ?_))
 .refine AG <| AE <| AD <| AK <| AD ?_
  refine C5 AA mixed [0, 1, 2, 3, 4, 5, 6, 7, 8] 9 (by kernel_rfl) Z Z Z ?_
  refine A8 2 Z <| bq i fun x f j => Ae Z (Am Z (A3 f Z Z Z <| A8 3 Z <| bq j fun y g k => Ae Z (Am Z (A3 g Z Z Z <| BB Z <| AE <| cd Z k (fun l => ?_) (fun n => ?_)))))
  .refine rs AA <| rl Z <| AI <| Ak <| AO <| B8 l fun u m => Ak <| AO ?_
   cases m
   exact er Z Le.rfl
  exact AG <| Av <| AE <| rg AA <| rl Z <| BR n (wf hA [] Z Z Z)
 refine Al <| Ap <| CU o fun v q => BA <| AE <| rs AA <| rl Z <| AI ?_
 cases q
 exact er Z Le.rfl
noncomputable def Ev (b : AH) (a : Int × (List AT)) : Option ((Int × (List AT)) ⊕ ((List AT) × Int)) :=
 bif decide (a.1 < (b.signals.length : Int)) then (KK b a.1).bind fun d => (BP a.2 d).bind fun c => bif decide (64 < (c.length : Int)) then some (.inr (([] : List AT), 3)) else some (.inl (Ab (a.1 + 1), c)) else some (.inr (a.2, 0))
noncomputable def JN (a : AH) : Option ((List AT) × Int) :=
 AQ (Ev a) (0, ([] : List AT))
theorem VF (c : AH) (r : ((List AT) × Int)) (h : JN c = some r) : Gu Try.prog 46 [] 0 [.p (.agg (AY c))] (.tup [.lsl 0 9 0 r.1.length, li r.2]) [(0, .row 36 9 (r.1.map An))] 1 := by
 refine SF AA Try.func46 22 [.tmp 2, .tmp 3] [(0, .p (.agg (AY c)))] Z Z Z Z Z Z (fun A hA => ?_)
 unfold JN at h
 refine rs AA <| rl Z <| rs AA <| rl Z <| AD <| rs AA <| rl Z <| AK ?_
 apply lp (a := r) (fun b : (Int × (List AT)) => ⟨22, [(1, .lpb 0 0), (4, .lsl 1 9 0 b.2.length), (5, li b.1)], [(0, bx (AY c)), (1, .row 36 9 (b.2.map An))], 2⟩) h
 . exact A6.trans (CO 4 36 9 Z) (wj hA [(0, 0), (1, 1)] Z Z Z Z)
 intro b w d
 unfold Ev at d
 refine AD <| rs AA <| rn 3 Z <| sx Z (Aw Z Z <| rl Z <| cd Z d (fun g => ?_) (fun q => ?_))
 .refine AG <| AE <| AD <| AK <| rs AA <| rn 3 Z <| bq g fun t e i => sx Z (Ah (WO _ _ _ e) (.inr Z) Z Z Z <| bq i fun x f j => sx Z (A7 (enc := An) (l := b.2) (m := t) f (fun _ => ⟨Z, Z⟩) Z Z Z Z Z Z <| rl Z <| rs AA <| rl Z <| cd Z j (fun k => ?_) (fun o => ?_)))
  .refine rs AA <| rl Z <| AI <| Ak <| AO <| B8 k fun u n => Ak <| AO ?_
   cases n
   exact EB (nt := 22) (sl := [(2, .lsl 0 9 0 ([] : List AT).length), (3, li 3)]) (A6.trans (CO 2 36 9 Z) (wj hA [(0, 3)] Z Z Z Z)) Z
  exact AG <| Av <| AE <| rg AA <| rl Z <| BR o (wj hA [(0, 0), (1, 2)] Z Z Z Z)
 refine Al <| Ap <| CU q fun v s => BA <| AE <| rs AA <| rl Z <| AI ?_
 cases s
 exact EB (nt := 22) (sl := [(2, .lsl 0 9 0 b.2.length), (3, li 0)]) (wj hA [(0, 1)] Z Z Z Z) Z
noncomputable def Ew (e : AH) (c : (Int × (List AC))) (b : (List AC)) (a : Int × (List AC)) : Option ((Int × (List AC)) ⊕ ((Int × (List AC)) ⊕ (List AC))) :=
 bif decide (a.1 < (b.length : Int)) then (((Aj b a.1).bind fun f => (CS e f).bind fun g => bif g.2 then (Aj b a.1).bind fun h => (BP a.2 [h]).bind fun i => some i else some a.2 : Option ((List AC)))).bind fun (d : (List AC)) => some (.inl (Ab (a.1 + 1), d)) else some (.inr (.inl (Ab (c.1 + 1), a.2)))
noncomputable def Gp (d : AH) (e : AT) (b : Int × (List AC)) : Option ((Int × (List AC)) ⊕ (List AC)) :=
 bif decide (b.1 < (e.steps.length : Int)) then (Aj e.steps b.1).bind fun a => (((GX d a.elem).bind fun f => bif (f == 2) then (BP ([] : List AC) [(⟨a.elem, Ab (3 - (if a.out > a.in_ then a.out else a.in_))⟩ : AC)]).bind fun h => some h else bif (f == 3) then ((bif decide (2 <= a.in_) then some 0 else some 2 : Option (Int))).bind fun (c : Int) => (BP ([] : List AC) [(⟨a.elem, c⟩ : AC), (⟨a.elem, Ab (c + 1)⟩ : AC)]).bind fun i => some i else some ([] : List AC) : Option ((List AC)))).bind fun (g : (List AC)) => AQ (Ew d b g) (0, b.2) else some (.inr b.2)
noncomputable def HF (a : AH) (b : AT) : Option (List AC) :=
 AQ (Gp a b) (0, ([] : List AC))
theorem S5 (d : AH) (f : AT) (r : (List AC)) (h : HF d f = some r) : Bk Try.prog 62 [.agg (AY d), .agg (An f)] (· = .slice 2 (r.map As)) := by
 refine fn AA Try.func62 Z Z 84 Z [.tmp 4] Z [(0, .p (.agg (AY d))), (1, .p (.agg (An f)))] Z Z fun A hA => ?_
 unfold HF at h
 refine rs AA <| rl Z <| rs AA <| rl Z <| AD <| rs AA <| rl Z <| AK ?_
 apply lp (a := r) (fun b : (Int × (List AC)) => ⟨84, [(2, .lpb 0 0), (3, .lpb 1 0), (5, .lsl 2 2 0 b.2.length), (6, li b.1)], [(0, bx (AY d)), (1, bx (An f)), (2, .row 96 2 (b.2.map As))], 3⟩) h
 . exact A6.trans (CO 5 96 2 Z) (wf hA (gi 3 []) Z Z Z)
 intro b t q
 unfold Gp at q
 refine AD <| rs AA <| rn 3 Z <| sx Z (Aw Z Z <| rl Z <| cd Z q (fun aa => ?_) (fun a2 => ?_))
 .refine AG <| AE <| AD <| AK <| rs AA <| rn 3 Z <| bq aa fun g u ab => sx Z (A3 u Z Z Z <| rl Z <| rs AA <| rl Z <| jb (fun c : (List AC) => ⟨84, [(2, .lpb 0 0), (3, .lpb 1 0), (5, .lsl 2 2 0 b.2.length), (6, li b.1), (8, .lsl 3 2 0 c.length)], [(0, bx (AY d)), (1, bx (An f)), (2, .row 96 2 (b.2.map As)), (3, .row 96 2 (c.map As))], 4⟩) ab (fun c ac => ?_) (fun c ao => ?_))
  .refine rs AA <| rn 3 Z <| bq ac fun a8 v ad => sx Z (Ah (NF _ _ _ v) (.inl Z) Z Z Z <| rl Z <| AK <| rs AA <| rl Z <| cd Z ad (fun ae => ?_) (fun ag => ?_))
   .exact rg AA <| rn 11 Z <| bq ae fun a9 w af => sx Z (U4 (e := 96) (sz := 2) (enc := As) (m := [(⟨g.elem, Ab (3 - (if g.out > g.in_ then g.out else g.in_))⟩ : AC)]) w (fun _ => ⟨Z, Z⟩) Z Z Z <| rl Z <| Av <| Ag af (wf hA (gi 3 [(3, 5)]) Z Z Z))
   refine rs AA <| rl Z <| cd Z ag (fun ah => ?_) (fun an => ?_)
   .refine rs AA <| rl Z <| jb (fun j : Int => ⟨84, [(2, .lpb 0 0), (3, .lpb 1 0), (5, .lsl 2 2 0 b.2.length), (6, li b.1), (7, .lpb 3 0), (8, .p (.nils)), (9, li j)], [(0, bx (AY d)), (1, bx (An f)), (2, .row 96 2 (b.2.map As)), (3, bx (BG g))], 4⟩) ah (fun j ai => ?_) (fun j al => ?_)
    .refine rs AA <| rl Z <| cd Z ai (fun aj => ?_) (fun ak => ?_)
     .exact rg AA <| rl Z <| Ag aj (wf hA (gi 4 []) Z Z Z)
     exact AG <| Ag ak (wf hA (gi 4 []) Z Z Z)
    exact rg AA <| rn 11 Z <| bq al fun ba x am => sx Z (U4 (e := 96) (sz := 2) (enc := As) (m := [(⟨g.elem, j⟩ : AC), (⟨g.elem, Ab (j + 1)⟩ : AC)]) x (fun _ => ⟨Z, Z⟩) Z Z Z <| rl Z <| Av <| Ag am (wf hA (gi 3 [(3, 5)]) Z Z Z))
   exact AG <| Av <| Ag an (A6.trans (CO 8 96 2 Z) (wf hA (gi 3 [(3, 4)]) Z Z Z))
  refine rs AA <| rl Z <| AK ?_
  apply lp (a := t) (fun i : (Int × (List AC)) => ⟨84, [(2, .lpb 0 0), (3, .lpb 1 0), (5, .lsl 2 2 0 i.2.length), (6, li b.1), (8, .lsl 3 2 0 c.length), (10, li i.1)], [(0, bx (AY d)), (1, bx (An f)), (2, .row 96 2 (i.2.map As)), (3, .row 96 2 (c.map As))], 4⟩) ao
  . exact wf hA (gi 4 []) Z Z Z
  intro i a7 s
  unfold Ew at s
  refine AD <| rs AA <| rl Z <| cd Z s (fun ap => ?_) (fun a0 => ?_)
  .refine AG <| AE <| jb (fun k : (List AC) => ⟨84, [(2, .lpb 0 0), (3, .lpb 1 0), (5, .lsl 2 2 0 k.length), (6, li b.1), (8, .lsl 3 2 0 c.length), (10, li i.1)], [(0, bx (AY d)), (1, bx (An f)), (2, .row 96 2 (k.map As)), (3, .row 96 2 (c.map As))], 4⟩) ap (fun k aq => ?_) (fun k az => ?_)
   .refine AK <| AD ?_
    refine C5 AA mixed [0, 1, 2, 3, 4, 5, 6, 7, 8, 9, 10, 11] 12 (by kernel_rfl) Z Z Z ?_
    refine A8 3 Z <| bq aq fun bb n ar => Ae Z (Am Z (Cc n Z Z Z Z <| Ae Z (Bp Z (Bx n Z Z Z <| bq ar fun bc y au => Ae Z (BC (DD _ _ _ y) (.inl Z) Z Z Z <| BB Z <| AE <| rs AA <| rl Z <| cd Z au (fun av => ?_) (fun ay => ?_))))))
    .exact rg AA <| rn 3 Z <| bq av fun a4 o aw => sx Z (Cc o Z Z Z Z <| sx Z (Bx o Z Z Z <| rn 1 Z <| bq aw fun be z ax => sx Z (A7 (enc := As) (l := i.2) (m := [a4]) z (fun _ => ⟨Z, Z⟩) Z Z Z Z Z Z <| rl Z <| Av <| Ag ax (wf hA [(0, 0), (1, 1), (2, 17), (3, 3)] Z Z Z))))
    exact AG <| Av <| Ag ay (wf hA (gi 4 []) Z Z Z)
   exact rg AA <| rl Z <| BR az (wf hA (gi 4 []) Z Z Z)
  exact Al <| Ap <| CU a0 fun a5 a1 => BA <| Av <| AE <| rg AA <| rl Z <| BR a1 (wf hA (gi 3 []) Z Z Z)
 refine Al <| Ap <| CU a2 fun a6 a3 => BA <| AE <| rs AA <| rl Z <| AI ?_
 cases a3
 exact er (MY Z (.one (.own (enc := As) b.2 Z Z))) Le.rfl
noncomputable def LU (b : AT) (a : Int × (List Int)) : Option ((Int × (List Int)) ⊕ (List Int)) :=
 bif decide (a.1 < (b.steps.length : Int)) then (Aj b.steps a.1).bind fun c => (BP a.2 [c.elem]).bind fun d => some (.inl (Ab (a.1 + 1), d)) else some (.inr a.2)
noncomputable def I2 (a : AT) : Option (List Int) :=
 AQ (LU a) (0, ([] : List Int))
theorem SG (c : AT) (r : (List Int)) (h : I2 c = some r) : E9 Try.prog 22 [.agg (An c)] 3 1 (r.map AJ) := by
 refine U5 (enc := AJ) (fun _ => ⟨Z, Z⟩) Try.func22 Z Z 22 Z 2 Z [(0, .p (.agg (An c)))] Z Z fun A hA => ?_
 unfold I2 at h
 refine rs AA <| rl Z <| rs AA <| rl Z <| AD <| rs AA <| rl Z <| AK ?_
 apply lp (a := r) (fun b : (Int × (List Int)) => ⟨22, [(1, .lpb 0 0), (3, .lsl 1 1 0 b.2.length), (4, li b.1)], [(0, bx (An c)), (1, .row 3 1 (b.2.map AJ))], 2⟩) h
 . exact A6.trans (CO 3 3 1 Z) (wf hA [(0, 0), (1, 1)] Z Z Z)
 intro b s d
 unfold LU at d
 refine AD <| rs AA <| rn 3 Z <| sx Z (Aw Z Z <| rl Z <| cd Z d (fun n => ?_) (fun j => ?_))
 .exact AG <| AE <| AD <| AK <| rg AA <| rn 4 Z <| bq n fun o e g => sx Z (A3 e Z Z Z <| rn 3 Z <| bq g fun t f i => sx Z (A7 (enc := AJ) (l := b.2) (m := [o.elem]) f (fun _ => ⟨Z, Z⟩) Z Z Z Z Z Z <| rl Z <| Av <| AE <| rg AA <| rl Z <| BR i (wf hA [(0, 0), (1, 3)] Z Z Z)))
 refine Al <| Ap <| CU j fun q k => BA <| AE <| rs AA <| rl Z <| AI ?_
 cases k
 exact U6 Z Z Z
noncomputable def JO (a : AT) (b : Int) : Option Bool :=
 (I2 a).bind fun c => (Dd c b).bind fun d => some d
theorem VG (a : AT) (b : Int) (r : Bool) (h : JO a b = some r) : Bk Try.prog 153 [.agg (An a), .int .i64 b] (· = .bool r) := by
 refine fn AA Try.func153 Z Z 9 Z [.tmp 4] Z [(0, .p (.agg (An a))), (1, .p (.int .i64 b))] Z Z fun A hA => ?_
 unfold JO at h
 refine rs AA <| rl Z <| rs AA <| rn 1 Z <| bq h fun g c e => sx Z (TX (SG _ _ c) Z Z Z Z <| rn 1 Z <| bq e fun i d f => sx Z (Ah (Ib _ _ _ d) (.inl Z) Z Z (CJ.eq (.cons (.one (.own (enc := AJ) g Z Z)) (.cons (.one (.p _)) .nil))) <| rl Z <| AI ?_))
 have hr := Option.some.inj f; subst hr
 exact er Z Le.rfl
noncomputable def DP (b : (List AC)) (c : AC) (a : Int) : Option (Int ⊕ Bool) :=
 bif decide (a < (b.length : Int)) then (Aj b a).bind fun d => bif (d == c) then some (.inr true) else some (.inl (Ab (a + 1))) else some (.inr false)
noncomputable def Fj (a : (List AC)) (b : AC) : Option Bool :=
 AQ (DP a b) 0
theorem Q1 (c : (List AC)) (b : AC) (r : Bool) (h : Fj c b = some r) : Bk Try.prog 154 [.slice 2 (c.map As), .agg (As b)] (· = .bool r) := by
 refine fn AA Try.func154 Z Z 18 Z [.tmp 4] Z [(0, .p (.slice 2 (c.map As))), (1, .p (.agg (As b)))] Z Z fun A hA => ?_
 unfold Fj at h
 refine rs AA <| rl Z <| AD <| rs AA <| rl Z <| AK ?_
 apply lp (a := r) (fun e : Int => ⟨18, [(0, ls 2 As c), (3, .lpb 0 0), (5, li e)], [(0, .box [li b.elem, li b.fin])], 1⟩) h
 . exact wf hA [(0, 0)] Z Z Z
 intro e t d
 unfold DP at d
 refine AD <| rs AA <| rn 2 Z <| sx Z (Aw Z Z <| rl Z <| cd Z d (fun n => ?_) (fun l => ?_))
 .refine AG <| AE <| AD <| AK <| AD ?_
  refine C5 AA mixed [0, 1, 2, 3, 4, 5] 6 (by kernel_rfl) Z Z Z ?_
  refine A8 2 Z <| bq n fun o f g => Ae Z (Am Z (A3 f Z Z Z <| A8 2 Z <| Ae Z (LK (KG o b) Z Z Z Z Z <| BB Z <| AE <| cd Z g (fun i => ?_) (fun k => ?_))))
  .refine rs AA <| rl Z <| AI <| Ak <| AO <| B8 i fun q j => Ak <| AO ?_
   cases j
   exact er Z Le.rfl
  exact AG <| Av <| AE <| rg AA <| rl Z <| BR k (wf hA [(0, 0)] Z Z Z)
 refine Al <| Ap <| CU l fun s m => BA <| AE <| rs AA <| rl Z <| AI ?_
 cases m
 exact er Z Le.rfl
end Go.E
