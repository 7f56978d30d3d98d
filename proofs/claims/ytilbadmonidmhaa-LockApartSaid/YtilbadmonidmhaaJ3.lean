/- slices.Delete as a call out of a data state: the row goes on under a new name. For an own slice, i up to j up to its length. -/
import Derived.Test.YtilbadmonidmhaaDel
import Derived.Shelf.Sort.Plain
import Derived.Shelf.Slices.In.SortNone
import Derived.Shelf.Slices.CompactI
import Derived.Lib.RowBridge
import Derived.ScopeJumps
import Derived.Test.YtilbadmonidmhaaJ2
set_option linter.unusedVariables false
set_option linter.unusedSimpArgs false
namespace Go.E
open Go Go.RowKit Go.Shelf Go.Proofs
theorem FN (b : Nat) : ∀ (vs : List Value) (o : Nat) (w : World) (c : Array Value) (e : TypeId), w.heap[b]? = some (.cells c e (0, 0)) -> o + vs.length <= c.size ->
  ∃ c', (w.setCells b o vs).heap[b]? = some (.cells c' e (0, 0)) /\ c'.size = c.size /\ ∀ t, c'[t]? = if o <= t /\ t < o + vs.length then vs[t - o]? else c[t]?
 | [], o, w, c, e, h, _ => ⟨c, h, rfl, fun t => by rw [if_neg (by simp)]⟩
 | v :: r, o, w, c, e, h, hl => by
  simp only [List.length_cons] at hl
  have hb : (w.setCell ⟨b, o, none⟩ v).heap[b]? = some (.cells (c.setIfInBounds o v) e (0, 0)) := by
   simp [World.setCell, Array.getElem?_modify, h]
  obtain ⟨c', h1, h2, h3⟩ := FN b r (o + 1) _ _ e hb (by simp; omega)
  refine ⟨c', h1, by rw [h2]; simp, fun t => ?_⟩
  rw [h3 t]
  simp only [List.length_cons]
  by_cases h4 : t = o
  .subst h4
   rw [if_neg (by omega), if_pos (by omega), Array.getElem?_setIfInBounds, if_pos rfl, if_pos (by omega)]
   simp
  by_cases h5 : o + 1 <= t /\ t < o + 1 + r.length
  .rw [if_pos h5, if_pos (by omega)]
   rw [show t - o = t - (o + 1) + 1 by omega, List.getElem?_cons_succ]
  rw [if_neg h5, if_neg (by omega), Array.getElem?_setIfInBounds, if_neg (fun e => h4 e.symm)]
theorem HT (b : Nat) : ∀ (vs : List Value) (o : Nat) (w : World), (w.setCells b o vs).heap.size = w.heap.size
 | [], _, _ => rfl
 | v :: r, o, w => by rw [World.setCells, HT b r]; simp [World.setCell]
theorem JD (b : Nat) : ∀ (vs : List Value) (o : Nat) (w : World), (w.setCells b o vs).os = w.os
 | [], _, _ => rfl
 | v :: r, o, w => by rw [World.setCells, JD b r]; rfl
theorem HU (b : Nat) : ∀ (vs : List Value) (o : Nat) (w : World), (w.setCells b o vs).tape = w.tape
 | [], _, _ => rfl
 | v :: r, o, w => by rw [World.setCells, HU b r]; rfl
theorem F7 (b : Nat) : ∀ (vs : List Value) (o : Nat) (w : World), (w.setCells b o vs).output = w.output
 | [], _, _ => rfl
 | v :: r, o, w => by rw [World.setCells, F7 b r]; rfl
theorem Gl (b : Nat) : ∀ (vs : List Value) (o : Nat) (w : World) (q : Nat), q ≠ b -> (w.setCells b o vs).heap[q]? = w.heap[q]?
 | [], _, _, _, _ => rfl
 | v :: r, o, w, q, h => by
  rw [World.setCells, Gl b r _ _ q h]
  simp only [World.setCell, Array.getElem?_modify]
  rw [if_neg (fun e => h e.symm)]
variable {P : Program} {ρ : Ren} {AB : Ay} {A : BB}
theorem Ws {e : Nat} {te : TI} (hok : GG P e te) (hsz : 0 < te.size) : ∃ z i, (∀ w, (zeroValue e).run P w = .ok z w) /\ P.info? e = some i /\ i.size = te.size /\
  ∀ n, (Builtin.zeroCells z.cells n).toList.length = n * te.size /\ ∀ u ∈ (Builtin.zeroCells z.cells n).toList, u.oneCell' = true := by
 obtain ⟨i, z, hi, hs, hb, hz, hzs, hm, _⟩ := hok.info
 obtain ⟨h1, h2⟩ := L5 hm
 refine ⟨z, i, fun w => by simp [zeroValue, typeInfo, hi, hz], hi, hs, fun n => ⟨by simp [Builtin.zeroCells, hzs], fun u hu => ?_⟩⟩
 simp only [Builtin.zeroCells, Array.toList_map, List.mem_map] at hu
 obtain ⟨t, _, rfl⟩ := hu
 have hlt : t % z.cells.size < z.cells.size := Nat.mod_lt _ (by omega)
 rw [getElem!_pos z.cells _ hlt]
 have hd : ∃ d, te.zero[t % z.cells.size]? = some d := ⟨te.zero[t % z.cells.size]'(by rw [<- h1]; simpa using hlt), List.getElem?_eq_getElem _⟩
 obtain ⟨d, hd⟩ := hd
 have hc := h2 (t % z.cells.size) _ d (by rw [Array.getElem?_toList]; exact Array.getElem?_eq_getElem hlt) hd
 obtain ⟨k1, k2⟩ := ER hc (fun _ => True) default
 exact (k1.oneCell k2).1
theorem Wt (hE : A4 P AB) (L : SlLaysE0.n45 P ρ) {e : Nat} {te : TI} (he : ρ.t 23 = e) (h3 : AB.tt e = some te) (hsz : 0 < te.size) {h : AM} {ctr id off len i j : Nat} {elems : List (List DV)}
  (hl : AF id h = some (.row e te.size elems)) (hfit : off + len <= elems.length) (hone : ∀ y ∈ (elems.drop off).take len, y.all DV.cell = true) (hij : i <= j) (hj : j <= len) {F : Nat -> Prop} {μ : Nat -> Option BV} {w : World} {v0 : Value}
  (hh : HRel A μ h F w) (hc : F ctr) (h0 : AW (Aa A μ h) μ w v0 (.lsl id te.size off len)) :
  Calls P (ρ.f 45) #[v0, .int .i64 i, .int .i64 j] w fun en w' => ∃ u μ', en = .returned u /\ HRel A μ' ((ctr, A2.row e te.size (((elems.drop off).take len).take i ++ ((elems.drop off).take len).drop j)) :: Du id h) (fun q => F q /\ q ≠ ctr) w' /\ AW (Aa A μ' ((ctr, A2.row e te.size (((elems.drop off).take len).take i ++ ((elems.drop off).take len).drop j)) :: Du id h)) μ' w' u (.lsl ctr te.size 0 (len - (j - i))) /\ ∀ v x, AW (Aa A μ h) μ w v x -> AW (Aa A μ' ((ctr, A2.row e te.size (((elems.drop off).take len).take i ++ ((elems.drop off).take len).drop j)) :: Du id h)) μ' w' v x := by
 have hok := hE.tt e te h3
 have hno := hh.fresh ctr hc
 have hsub : ∀ (o : A2) q x, AF q ((ctr, o) :: Du id h) = some x -> (q = ctr /\ x = o) \/ AF q h = some x := fun o q x hx => by
  simp only [AF] at hx
  split at hx
  .cases hx; exact .inl ⟨‹_›, rfl⟩
  exact .inr (Fb hx).2
 obtain ⟨sz, hs0⟩ : ∃ sz, te.size = sz := ⟨_, rfl⟩
 rw [hs0] at hl h0 hsz ⊢
 cases h0 with
 | lsln _ loc hm hn =>
  have : j = 0 := by omega
  subst this
  have : i = 0 := by omega
  subst this
  have hnil : ((elems.drop 0).take 0).take 0 ++ ((elems.drop 0).take 0).drop 0 = ([] : List (List DV)) := by simp
  rw [hnil]
  refine (run_delete0 L loc.sz (fun w => by rw [he, <- hs0]; exact hok.run_sizeOf w) none 0 0 0 w (by omega) (by omega) (by omega)).mono ?_
  rintro en w' ⟨rfl, rfl⟩
  let lc : BV := ⟨true, 0, 0, loc.sz, 0⟩
  have hadd := hh.add hno lc (.row e loc.sz []) _ (fun h => by cases h) (fun h => by cases h) (hsub _) (BR.refl _ _) (fun q x l hx hne hm hn => rfl) rfl rfl rfl ⟨rfl, by simp, .inl ⟨rfl, rfl⟩⟩
  exact ⟨_, _, rfl, hadd, .lsln ctr lc (by simp [Bs]) rfl, fun v x hv => hv.mono (BR.refl _ _) (hh.sub_add lc _ _ (fun h => by cases h) (hsub _)) (I7 hno lc)⟩
 | lsl _ _ _ cap ad loc hm hn hcap hlc had hbk hsp =>
  obtain ⟨loc', hm', hz, hel, hrow⟩ := hh.obj id _ hl
  rw [hm] at hm'; cases hm'
  rcases hrow with ⟨hn', _⟩ | ⟨_, c, hblk, hcs, hle, hcm, hrel⟩
  .rw [hn] at hn'; cases hn'
  have hlt := (hh.base id _ loc hl hm hn).1
  have hlen : ((elems.drop off).take len).length = len := by simp; omega
  have elt : ∀ q, q < len -> ((elems.drop off).take len)[q]? = elems[off + q]? := fun q hq => by rw [List.getElem?_take, if_pos hq, List.getElem?_drop]
  have hlen' : (((elems.drop off).take len).take i ++ ((elems.drop off).take len).drop j).length = len - (j - i) := by
   rw [List.length_append, List.length_take, List.length_drop, hlen]; omega
  have fin : ∀ (w' : World) (c' : Array Value), w'.heap[loc.b]? = some (.cells c' e (0, 0)) -> c'.size = c.size -> w'.heap.size = w.heap.size -> (∀ b, b ≠ loc.b -> w'.heap[b]? = w.heap[b]?) -> w'.os = w.os -> w'.tape = w.tape -> w'.output = w.output ->
    (∀ q m, q < i -> m < loc.sz -> c'[loc.o + (off + q) * loc.sz + m]? = c[loc.o + (off + q) * loc.sz + m]?) ->
    (∀ q m, q < len - j -> m < loc.sz -> c'[loc.o + (off + (i + q)) * loc.sz + m]? = c[loc.o + (off + (j + q)) * loc.sz + m]?) ->
    ∃ u μ', Ending.returned (.slice (some ad) (len - (j - i)) cap) = .returned u /\ HRel A μ' ((ctr, A2.row e loc.sz (((elems.drop off).take len).take i ++ ((elems.drop off).take len).drop j)) :: Du id h) (fun q => F q /\ q ≠ ctr) w' /\ AW (Aa A μ' ((ctr, A2.row e loc.sz (((elems.drop off).take len).take i ++ ((elems.drop off).take len).drop j)) :: Du id h)) μ' w' u (.lsl ctr loc.sz 0 (len - (j - i))) /\ ∀ v x, AW (Aa A μ h) μ w v x -> AW (Aa A μ' ((ctr, A2.row e loc.sz (((elems.drop off).take len).take i ++ ((elems.drop off).take len).drop j)) :: Du id h)) μ' w' v x := by
   intro w' c' hw' hc' hwsz hoth hos htape hout hold hmov
   let lc : BV := ⟨false, loc.b, loc.o + off * loc.sz, loc.sz, cap⟩
   have hdead : AF id ((ctr, A2.row e loc.sz (((elems.drop off).take len).take i ++ ((elems.drop off).take len).drop j)) :: Du id h) = none := by
    simp only [AF]
    rw [if_neg (fun e => by subst e; rw [hm] at hno; cases hno)]
    exact Fc
   have hfresh : L4 μ h ((ctr, A2.row e loc.sz (((elems.drop off).take len).take i ++ ((elems.drop off).take len).drop j)) :: Du id h) w lc := fun _ => .inr ⟨id, _, loc, hl, hdead, hm, hn, rfl⟩
   have hkept : BR (By μ h) w w' := ⟨by omega, fun b _ hmine => hoth b fun e => hmine ⟨id, _, loc, hl, hm, hn, e.symm⟩⟩
   have hs := hh.sub_add lc _ _ hfresh (hsub _)
   have hadd := hh.add hno lc _ _ (w' := w') (fun _ => by rw [hwsz]; exact hlt) hfresh (hsub _) hkept (fun q x l hx hne hmq hnq => by
    simp only [AF] at hx
    rw [if_neg hne] at hx
    obtain ⟨h7, h8⟩ := Fb hx
    exact hoth _ fun e => h7 (hh.inj _ _ _ _ _ _ h8 hl hmq hm hnq hn e)) hos htape hout ⟨rfl, fun y hy => by
     rcases List.mem_append.1 hy with hy | hy
     .exact hel y (List.mem_of_mem_drop (List.mem_of_mem_take (List.mem_of_mem_take hy)))
     exact hel y (List.mem_of_mem_drop (List.mem_of_mem_take (List.mem_of_mem_drop hy))), .inr ⟨rfl, c', hw', by rw [hc', hcs, <- hcap, Nat.add_mul]; simp only [lc]; omega, by rw [hlen']; simp only [lc]; omega, by simp only [lc]; omega, fun q m y d v hy hd hv => by
     simp only [lc] at hv
     have hyl : y.length = loc.sz := by
      rcases List.mem_append.1 (List.mem_of_getElem? hy) with hy | hy
      .exact hel y (List.mem_of_mem_drop (List.mem_of_mem_take (List.mem_of_mem_take hy)))
      exact hel y (List.mem_of_mem_drop (List.mem_of_mem_take (List.mem_of_mem_drop hy)))
     have hm' : m < loc.sz := by have := (List.getElem?_eq_some_iff.1 hd).1; omega
     have hq := (List.getElem?_eq_some_iff.1 hy).1
     rw [hlen'] at hq
     rw [List.getElem?_append] at hy
     have hl1 : (((elems.drop off).take len).take i).length = i := by rw [List.length_take, hlen]; omega
     rw [hl1] at hy
     have e1 : loc.o + off * loc.sz + q * loc.sz + m = loc.o + (off + q) * loc.sz + m := by rw [Nat.add_mul]; omega
     rw [e1] at hv
     by_cases hqi : q < i
     .rw [if_pos hqi, List.getElem?_take, if_pos hqi, elt q (by omega)] at hy
      rw [hold q m hqi hm'] at hv
      exact (hrel (off + q) m y d v hy hd hv).mono hkept.own hs
     rw [if_neg hqi, List.getElem?_drop, elt _ (by omega)] at hy
     have := hmov (q - i) m (by omega) hm'
     rw [show i + (q - i) = q by omega] at this
     rw [this] at hv
     exact (hrel (off + (j + (q - i))) m y d v hy hd hv).mono hkept.own hs⟩⟩
   refine ⟨_, _, rfl, hadd, ?_, fun v x hv => hv.mono hkept.own hs (I7 hno lc)⟩
   refine .lsl ctr 0 _ cap ad lc (by simp [Bs]) rfl (by simp [lc]) (by omega) (fun h0 => ?_) hbk hsp
   rw [had h0]; simp [lc]
  by_cases hne : i = j
  .subst hne
   have hm0 : maxLen <= 9223372036854775807 := by decide
   have hm2 : cap <= 9223372036854775807 := by omega
   refine (run_delete0 L loc.sz (fun w => by rw [he, <- hs0]; exact hok.run_sizeOf w) (some ad) len cap i w hlc hm2 hj).mono ?_
   rintro e' w' ⟨rfl, rfl⟩
   have := fin w' c hblk rfl rfl (fun _ _ => rfl) rfl rfl rfl (fun _ _ _ _ => rfl) (fun _ _ _ _ => rfl)
   simp only [Nat.sub_self, Nat.sub_zero] at this ⊢
   exact this
  have hlt' : i < j := by omega
  have had' := had (by omega)
  subst had'
  obtain ⟨z, i0, hz1, hz2, hz3, hz4⟩ := Ws hok (by omega)
  rw [hs0] at hz3 hz4
  obtain ⟨hz5, hz6⟩ := hz4 (len - (i + (len - j)))
  have hm0 : maxLen <= 9223372036854775807 := by decide
  have hm2 : cap <= 9223372036854775807 := by omega
  have hin : ∀ t, t < len * loc.sz -> loc.o + off * loc.sz + t < c.size := fun t ht => by
   have : (off + len) * loc.sz <= loc.cap * loc.sz := Nat.mul_le_mul_right _ (by omega)
   rw [Nat.add_mul] at this; omega
  obtain ⟨cs, hcsd⟩ : ∃ cs, cs = (List.range (len * loc.sz)).map fun t => c.getD (loc.o + off * loc.sz + t) undef := ⟨_, rfl⟩
  have hcsl : cs.length = len * loc.sz := by rw [hcsd]; simp
  have hcsg : ∀ t u, cs[t]? = some u -> t < len * loc.sz /\ c[loc.o + off * loc.sz + t]? = some u := fun t u hu => by
   have ht := (List.getElem?_eq_some_iff.1 hu).1
   rw [hcsl] at ht
   refine ⟨ht, ?_⟩
   rw [hcsd] at hu
   simp only [List.getElem?_map, List.getElem?_range ht, Option.map_some, Option.some.injEq] at hu
   rw [<- hu, Array.getElem?_eq_getElem (hin t ht)]
   simp [Array.getD, hin t ht]
  have hrun := run_delete (P := P) L loc.sz (fun w => by rw [he, <- hs0]; exact hok.run_sizeOf w) z (fun w => by rw [he]; exact hz1 w) i0 (by rw [he]; exact hz2) hz3 _ loc.b (loc.o + off * loc.sz) len cap i j w cs hcsl
   (fun t u hu => Cg hblk (hcsg t u hu).2) (fun t _ => by simp [World.frozen?, hblk]) (fun u hu => by
    obtain ⟨t, ht⟩ := List.mem_iff_getElem?.1 hu
    obtain ⟨g1, g2⟩ := hcsg t u ht
    have q1 : t / loc.sz < len := Nat.div_lt_of_lt_mul (by rw [Nat.mul_comm]; exact g1)
    have q2 : t % loc.sz < loc.sz := Nat.mod_lt _ hsz
    have q3 := Nat.div_add_mod t loc.sz
    obtain ⟨y, hy⟩ : ∃ y, elems[off + t / loc.sz]? = some y := ⟨_, List.getElem?_eq_getElem (by omega)⟩
    have hyl := hel y (List.mem_of_getElem? hy)
    obtain ⟨d, hd⟩ : ∃ d, y[t % loc.sz]? = some d := ⟨_, List.getElem?_eq_getElem (by omega)⟩
    have hyc := hone y (List.mem_of_getElem? (i := t / loc.sz) (by rw [elt _ q1]; exact hy))
    refine ((hrel _ _ y d u hy hd ?_).oneCell (List.all_eq_true.1 hyc _ (List.mem_of_getElem? hd))).1
    rw [<- g2]; congr 1; rw [Nat.add_mul]; rw [Nat.mul_comm loc.sz] at q3; omega) rfl hz5 hz6 hlc hm2 hlt' hj
  refine hrun.mono ?_
  rintro e' w' ⟨rfl, hw'⟩
  have b1 : (i + (len - j)) * loc.sz + (len - (i + (len - j))) * loc.sz = len * loc.sz := by rw [<- Nat.add_mul]; congr 1; omega
  have b2 : i * loc.sz + (len - j) * loc.sz = (i + (len - j)) * loc.sz := (Nat.add_mul _ _ _).symm
  have b3 : (off + len) * loc.sz <= loc.cap * loc.sz := Nat.mul_le_mul_right _ (by omega)
  rw [Nat.add_mul] at b3
  have b4 : j * loc.sz + (len - j) * loc.sz = len * loc.sz := by rw [<- Nat.add_mul]; congr 1; omega
  have hdl : (cs.drop (j * loc.sz)).length = (len - j) * loc.sz := by rw [List.length_drop, hcsl]; omega
  obtain ⟨c1, k1, k2, k3⟩ := FN loc.b (cs.drop (j * loc.sz)) (loc.o + off * loc.sz + i * loc.sz) w.drew c e hblk (by rw [hdl]; omega)
  obtain ⟨c2, m1, m2, m3⟩ := FN loc.b (Builtin.zeroCells z.cells (len - (i + (len - j)))).toList (loc.o + off * loc.sz + (i + (len - j)) * loc.sz) _ c1 e k1 (by rw [hz5, k2]; omega)
  refine fin w' c2 (by rw [hw']; exact m1) (by rw [m2, k2]) ?_ ?_ ?_ ?_ ?_ ?_ ?_
  .rw [hw', HT, HT]; rfl
  .intro b hb; rw [hw', Gl _ _ _ _ _ hb, Gl _ _ _ _ _ hb]; rfl
  .rw [hw', JD, JD]; rfl
  .rw [hw', HU, HU]; rfl
  .rw [hw', F7, F7]; rfl
  .intro q m hq hmm
   have b5 : (q + 1) * loc.sz <= i * loc.sz := Nat.mul_le_mul_right _ hq
   rw [Nat.add_mul] at b5
   have b6 := Nat.add_mul off q loc.sz
   rw [m3, if_neg (by omega), k3, if_neg (by omega)]
  intro q m hq hmm
  have b5 : (q + 1) * loc.sz <= (len - j) * loc.sz := Nat.mul_le_mul_right _ hq
  rw [Nat.add_mul] at b5
  have b6 : loc.o + (off + (i + q)) * loc.sz + m = loc.o + off * loc.sz + i * loc.sz + (q * loc.sz + m) := by rw [Nat.add_mul, Nat.add_mul]; omega
  rw [m3, if_neg (by rw [b6]; omega), k3, if_pos (by rw [b6, hdl]; omega), b6, Nat.add_sub_cancel_left, List.getElem?_drop]
  have b7 : loc.o + (off + (j + q)) * loc.sz + m = loc.o + off * loc.sz + (j * loc.sz + (q * loc.sz + m)) := by rw [Nat.add_mul, Nat.add_mul]; omega
  have b8 : j * loc.sz + (q * loc.sz + m) < len * loc.sz := by omega
  obtain ⟨u, hu⟩ : ∃ u, cs[j * loc.sz + (q * loc.sz + m)]? = some u := ⟨_, List.getElem?_eq_getElem (by omega)⟩
  rw [hu, b7, (hcsg _ _ hu).2]
theorem YB (hE : A4 P AB) (L : SlLaysE0.n45 P ρ) {e : Nat} {te : TI} (he : ρ.t 23 = e) (h3 : AB.tt e = some te) (hsz : 0 < te.size) {h : AM} {ctr id i j : Nat} {elems : List (List DV)} (hl : AF id h = some (.row e te.size elems)) (hone : ∀ y ∈ elems, y.all DV.cell = true) (hij : i <= j) (hj : j <= elems.length) :
  NB P h ctr (ρ.f 45) [.lsl id te.size 0 elems.length, .p (.int .i64 i), .p (.int .i64 j)] (.lsl ctr te.size 0 (elems.length - (j - i))) ((ctr, .row e te.size (elems.take i ++ elems.drop j)) :: Du id h) := by
 refine ⟨?_, fun A F μ w vs hh hc _ hsz' hr => ?_⟩
 .obtain ⟨nm, hn, hf⟩ := L.f45
  exact JN hf rfl hn
 have hvs : ∃ a b c, vs = #[a, b, c] := by
  obtain ⟨l⟩ := vs
  match l, hsz' with
  | [a, b, c], _ => exact ⟨a, b, c, rfl⟩
 obtain ⟨v0, v1, v2, rfl⟩ := hvs
 have e1 := (hr 1 v1 _ rfl rfl).int_inv
 have e2 := (hr 2 v2 _ rfl rfl).int_inv
 have h0 := hr 0 v0 _ rfl rfl
 subst e1 e2
 have e0 : (elems.drop 0).take elems.length = elems := by simp
 have := Wt (off := 0) (len := elems.length) hE L he h3 hsz hl (by omega) (by rw [e0]; exact hone) hij hj hh hc h0
 rw [e0] at this
 exact this
def Sa {α : Type} (l : List α) (i j : Int) : Option (List α) := if 0 <= i /\ i <= j /\ j <= l.length then some (l.take i.toNat ++ l.drop j.toNat) else none
section
variable {α : Type} {enc : α -> List DV} {l r : List α} {i j : Int} {nt : Nat} {sl : List (Nat × LV)} {h h' : AM} {c d : Nat} {f : St -> Prop} {hf : H9 f}
theorem Yp (hE : A4 P AB) {k : Nat} (L : SlLaysE0.n45 P ρ) (hk : ρ.f 45 = k) {t e sz : Nat} (he : ρ.t 23 = e) {fo a1 a2 a3 : Operand} {args : Array Operand} {ts : Array TypeId} {id n : Nat}
  (hr : Sa l i j = some r) (hen : Rl enc sz) (hl : BN id h = some (.row e sz (l.map enc))) (hn : n = l.length) (hd : Ot id h some = some h') (ht : Ou AB t e sz = true)
  (hfn : (Cq fo, A9 nt sl fo) = (true, .fn k [])) (ha : args.toList = [a1, a2, a3]) (h1 : A9 nt sl a1 = .lsl id sz 0 n) (h2 : A9 nt sl a2 = .p (.int .i64 i)) (h3 : A9 nt sl a3 = .p (.int .i64 j)) (hcm : LU AB.calm (.lsl id sz 0 n) = true)
  (kk : f ⟨nt, (d, .lsl c sz 0 r.length) :: sl, (c, .row e sz (r.map enc)) :: h', c + 1⟩) : Hw P A AB ⟨nt, sl, h, c⟩ (some d) (.call ⟨.value fo, args, ts⟩) ⟨f, hf⟩ := by
 obtain ⟨ti, te, g1, g2, g3, g4, g5, g6⟩ := Li ht
 obtain ⟨hdl, hfn⟩ := Prod.mk.inj hfn
 rw [BD (h := h) (c := c)] at hfn h1 h2 h3
 rw [Lh, Option.some.injEq] at hd
 rw [BO] at hl
 subst g4 hn hd hk
 have haa : args = #[a1, a2, a3] := by rw [<- Array.toList_inj, ha]
 subst haa
 unfold Sa at hr
 split at hr
 .rename_i hb
  obtain ⟨b1, b2, b3⟩ := hb
  simp only [Option.some.injEq] at hr
  subst hr
  obtain ⟨i, rfl⟩ := Int.eq_ofNat_of_zero_le b1
  obtain ⟨j, rfl⟩ := Int.eq_ofNat_of_zero_le (Int.le_trans b1 b2)
  show (if Cq fo = true then _ else _)
  rw [if_pos hdl]
  have hlen : (l.map enc).length = l.length := List.length_map ..
  refine ⟨.lsl c te.size 0 ((l.map enc).length - (j - i)), (c, .row e te.size ((l.map enc).take i ++ (l.map enc).drop j)) :: Du id h, ⟨fo, _, [], rfl, hfn, ?_, fun q hq hn => ?_, fun b hb0 id' cells _ hi hbi hx => ?_⟩, ?_⟩
  .have := YB (P := P) (ctr := c) hE L he g3 g5 hl (fun y hy => by
    obtain ⟨x, _, rfl⟩ := List.mem_map.1 hy
    exact (hen x).2) (show i <= j by omega) (by rw [hlen]; omega)
   show NB P h c _ ([St.eval _ a1, St.eval _ a2, St.eval _ a3] ++ []) _ _
   rw [h1, h2, h3, List.append_nil, <- hlen]
   exact this
  .simp only [AF, hq, if_false, KF, hn]; split <;> rfl
  .have hne : id' ≠ id := fun e2 => by
    have hb0' : AB.calm = some b := hb0
    rw [hb0'] at hcm
    simp only [LU] at hcm
    rw [e2, hcm] at hbi; cases hbi
   simp only [AF, hi, if_false]
   rw [DH hne]; exact hx
  have e1 : ((l.take i ++ l.drop j).map enc) = (l.map enc).take i ++ (l.map enc).drop j := by simp [List.map_take, List.map_drop]
  have e2 : (l.take i ++ l.drop j).length = (l.map enc).length - (j - i) := by simp; omega
  simp only [Int.toNat_natCast] at kk
  rw [e1, e2] at kk
  exact kk
 cases hr
end
end Go.E
/- slices.Sort and slices.Compact of an own row of whole numbers, as calls out of a data state. For rows of fewer than 2^62 numbers. -/
namespace Go.E
open Go Go.RowKit Go.Shelf Go.Proofs Go.Sort
def Ig (n : Int) : List DV := [.int .i64 n]
def PD (x : Int) : List Int -> List Int
 | [] => [x]
 | y :: l => if x <= y then x :: y :: l else y :: PD x l
def Gv : List Int -> List Int
 | [] => []
 | x :: l => PD x (Gv l)
theorem N0 (x : Int) : ∀ l, (PD x l).Perm (x :: l)
 | [] => .refl _
 | y :: l => by
  unfold PD
  split
  .exact .refl _
  exact ((N0 x l).cons y).trans (.swap x y l)
theorem EO : ∀ l, (Gv l).Perm l
 | [] => .refl _
 | x :: l => (N0 x (Gv l)).trans ((EO l).cons x)
theorem RS (x : Int) : ∀ l, l.Pairwise (· <= ·) -> (PD x l).Pairwise (· <= ·)
 | [], _ => by simp [PD]
 | y :: l, h => by
  unfold PD
  rw [List.pairwise_cons] at h
  split
  .rename_i hxy
   refine List.pairwise_cons.2 ⟨fun z hz => ?_, List.pairwise_cons.2 h⟩
   rcases List.mem_cons.1 hz with rfl | hz
   .exact hxy
   exact Int.le_trans hxy (h.1 z hz)
  rename_i hxy
  refine List.pairwise_cons.2 ⟨fun z hz => ?_, RS x l h.2⟩
  rcases List.mem_cons.1 ((N0 x l).mem_iff.1 hz) with rfl | hz
  .omega
  exact h.1 z hz
theorem J3 : ∀ l, (Gv l).Pairwise (· <= ·)
 | [] => by simp [Gv]
 | x :: l => RS x _ (J3 l)
theorem XX (l : List Int) : l.mergeSort (fun x y => decide (x <= y)) = Gv l := by
 refine List.Perm.eq_of_pairwise (le := fun a b : Int => a <= b) (fun a b _ _ h1 h2 => Int.le_antisymm h1 h2) ?_ (J3 l) ((List.mergeSort_perm _ _).trans (EO l).symm)
 have := List.pairwise_mergeSort (le := fun x y : Int => decide (x <= y)) (by simp; intro a b c; omega) (by simp; omega) l
 simpa using this
def IW (l : List Int) : Option (List Int) := if l.length < 4611686018427387904 then some (Gv l) else none
theorem Q5 {l r : List Int} (h : IW l = some r) : l.length = r.length := by
 unfold IW at h
 split at h
 .cases h; exact (EO l).length_eq.symm
 cases h
section
variable {P : Program} {ρ : Ren} {AB : Ay} {A : BB}
theorem row_holds {O : Nat -> Prop} {w : World} {b o : Nat} {c : Array Value} {e : TypeId} {zs : List Int} {n : Nat} (hb : w.heap[b]? = some (.cells c e (0, 0))) (hc : c.size = o + n) (hn : zs.length <= n)
  (hrel : ∀ (i j : Nat) (x : List DV) (d : DV) (v : Value), (zs.map Ig)[i]? = some x -> x[j]? = some d -> c[o + i * 1 + j]? = some v -> Au O w v d) : Holds (Value.int .i64) w b o zs.toArray := by
 intro j hj
 have hj' : j < zs.length := by simpa using hj
 have hlt : o + j < c.size := by omega
 have hz : (zs.map Ig)[j]? = some (Ig zs[j]) := by simp [hj']
 have := hrel j 0 _ (.int .i64 zs[j]) c[o + j] hz rfl (by simp [hlt])
 have key : ∀ u, Au O w u (.int .i64 zs[j]) -> u = .int .i64 zs[j] := fun u h => by cases h; rfl
 refine ⟨?_, by simp [World.frozen?, hb]⟩
 rw [Cg hb (Array.getElem?_eq_getElem hlt), key _ this]
 simp [hj']
theorem VQ (hE : A4 P AB) (L : Lays.n189 P ρ) {e : Nat} {te : TI} (h3 : AB.tt e = some te) (h1 : te.size = 1) {h : AM} {ctr id : Nat} {zs ys : List Int}
  (hl : AF id h = some (.row e 1 (zs.map Ig))) (hs : IW zs = some ys) {K : LV -> AM -> Nat -> Prop} (hK : K (.p (.tup [])) (Bg id (.row e 1 (ys.map Ig)) h) ctr) :
  C2 P A h ctr (ρ.f 189) [.lsl id 1 0 zs.length] K := by
 unfold IW at hs
 rw [<- XX] at hs
 split at hs
 .rename_i hlen
  cases hs
  refine ⟨JN L.f189 rfl rfl, fun μ w vs hh hsz hr => ?_⟩
  have hvs : ∃ a, vs = #[a] := by
   obtain ⟨l⟩ := vs
   match l, hsz with
   | [a], _ => exact ⟨a, rfl⟩
  obtain ⟨v0, rfl⟩ := hvs
  have h0 := hr 0 v0 _ rfl rfl
  have htup : ∀ w', AW (Aa A μ (Bg id (.row e 1 ((zs.mergeSort fun x y => decide (x <= y)).map Ig)) h)) μ w' (.tuple #[]) (.p (.tup [])) := fun w' => .p _ _ (.tup #[] [] rfl (by simp))
  obtain ⟨loc, hm, hz, hel, hrow⟩ := hh.obj id _ hl
  have empty : zs = [] -> ∀ p cap, v0 = .slice p 0 cap -> Calls P (ρ.f 189) #[v0] w fun en w' => ∃ u l h' c' μ', en = .returned u /\ K l h' c' /\ HRel A μ' h' (Fr c') w' /\ AW (Aa A μ' h') μ' w' u l /\ ∀ v x, AW (Aa A μ h) μ w v x -> AW (Aa A μ' h') μ' w' v x := by
   rintro rfl p cap rfl
   refine (Any.slices_Sort_int_none L p cap w).mono ?_
   rintro en w' ⟨rfl, rfl⟩
   have hu : ∀ q, AF q (Bg id (.row e 1 ((([] : List Int).mergeSort fun x y => decide (x <= y)).map Ig)) h) = AF q h := fun q => by
    by_cases hq : q = id
    .subst hq; rw [HS hl, hl]; simp
    rw [DJ hq]
   have hmine : By μ (Bg id (.row e 1 ((([] : List Int).mergeSort fun x y => decide (x <= y)).map Ig)) h) = By μ h := by
    funext b; simp only [By, hu]
   have hown : Aa A μ (Bg id (.row e 1 ((([] : List Int).mergeSort fun x y => decide (x <= y)).map Ig)) h) = Aa A μ h := by funext b; simp only [Aa, hmine]
   refine ⟨_, _, _, _, μ, rfl, hK, ?_, htup _, fun v x hv => by rw [hown]; exact hv⟩
   refine ⟨fun q o hq => ?_, fun q q' o o' l l' hq hq' => ?_, hh.fresh, fun q o l hq => ?_, hh.size, hh.block, hh.os, hh.tape, hh.output, hh.ext⟩
   .rw [hu] at hq; rw [hown]; exact hh.obj q o hq
   .rw [hu] at hq hq'; exact hh.inj q q' o o' l l' hq hq'
   rw [hu] at hq; exact hh.base q o l hq
  rcases hrow with ⟨hn, hz0⟩ | ⟨hn, c, hblk, hcs, hle, hcm, hrel⟩
  .have hzs : zs = [] := by simpa using hz0
   subst hzs
   generalize hgen : (LV.lsl id 1 0 ([] : List Int).length) = lv at h0
   cases h0 with
   | lsln => exact empty rfl _ _ rfl
   | lsl _ _ _ cap ad loc' hm' hn' hcap hlc had hbk hsp =>
    simp only [LV.lsl.injEq, List.length_nil] at hgen
    obtain ⟨-, -, -, e4⟩ := hgen
    subst e4
    exact empty rfl _ _ rfl
   | _ => cases hgen
  by_cases hne : zs = []
  .subst hne
   generalize hgen : (LV.lsl id 1 0 ([] : List Int).length) = lv at h0
   cases h0 with
   | lsln => exact empty rfl _ _ rfl
   | lsl _ _ _ cap ad loc' hm' hn' hcap hlc had hbk hsp =>
    simp only [LV.lsl.injEq, List.length_nil] at hgen
    obtain ⟨-, -, -, e4⟩ := hgen
    subst e4
    exact empty rfl _ _ rfl
   | _ => cases hgen
  have hpos : 0 < zs.length := List.length_pos_iff.2 hne
  generalize hgen : (LV.lsl id 1 0 zs.length) = lv at h0
  cases h0 with
  | lsl id' off len cap ad loc' hm' hn' hcap hlc had hbk hsp =>
   simp only [LV.lsl.injEq] at hgen
   obtain ⟨e1, e2, e3, e4⟩ := hgen
   subst e1 e3 e4
   rw [hm] at hm'; cases hm'
   have had' := had (by omega)
   simp only [Nat.zero_mul, Nat.add_zero] at had'
   subst had'
   have hlt := (hh.base id _ loc hl hm hn).1
   simp only [List.length_map] at hle
   have hH := row_holds (zs := zs) (o := loc.o) (n := loc.cap) hblk (by rw [hcs]; omega) hle (by rw [<- hz] at hrel ⊢; exact hrel)
   refine (Any.slices_Sort_int L loc.b loc.o cap zs w hH hlt hlen).mono ?_
   rintro en w' ⟨rfl, q, os, rfl⟩
   have hsl : (zs.mergeSort fun x y => decide (x <= y)).length = zs.length := List.length_mergeSort _
   rw [Lib.putRow_eq_setCells (Value.int .i64) w loc.b loc.o zs.toArray (zs.mergeSort fun x y => decide (x <= y)) q hH (by simp [hsl])]
   obtain ⟨c1, k1, k2, k3⟩ := FN loc.b ((zs.mergeSort fun x y => decide (x <= y)).map (Value.int .i64)) loc.o (w.drewN q) c e hblk (by simp [hsl]; omega)
   have hw := hh.write (w' := (w.drewN q).setCells loc.b loc.o ((zs.mergeSort fun x y => decide (x <= y)).map (Value.int .i64))) (o := .row e 1 ((zs.mergeSort fun x y => decide (x <= y)).map Ig)) hl hm hn
    (by rw [HT]; rfl) (fun b hb => by rw [Gl _ _ _ _ _ hb]; rfl) (by rw [JD]; rfl) (by rw [HU]; rfl) (by rw [F7]; rfl)
    ⟨hz, fun y hy => by obtain ⟨n, _, rfl⟩ := List.mem_map.1 hy; rfl, .inr ⟨hn, c1, k1, by rw [k2]; exact hcs, by simpa [hsl] using hle, hcm, fun i j x d v hx hd hv => by
     simp only [List.getElem?_map, Option.map_eq_some_iff] at hx
     obtain ⟨n, hn', rfl⟩ := hx
     have hj : j = 0 := by
      have := (List.getElem?_eq_some_iff.1 hd).1
      simp [Ig] at this; omega
     subst hj
     simp only [Ig, List.getElem?_cons_zero, Option.some.injEq] at hd
     subst hd
     have hi := (List.getElem?_eq_some_iff.1 hn').1
     rw [k3, if_pos (by simp; omega)] at hv
     rw [show loc.o + i * 1 + 0 - loc.o = i by omega, List.getElem?_map, hn'] at hv
     cases hv
     exact .int _ _⟩⟩
   obtain ⟨w1, w2, w3⟩ := hw
   have hk := w1.keep (w' := grow ((w.drewN q).setCells loc.b loc.o ((zs.mergeSort fun x y => decide (x <= y)).map (Value.int .i64))) os) (h' := Bg id (.row e 1 ((zs.mergeSort fun x y => decide (x <= y)).map Ig)) h) (μ' := μ) (F' := Fr ctr) (fun _ _ h => h) w1.fresh (fun _ _ h => h)
    (fun b hb => by show (_ ++ os)[b]? = _; rw [Array.getElem?_append_left hb]) (by show _ <= (_ ++ os).size; simp) rfl rfl rfl
   refine ⟨_, _, _, _, μ, rfl, hK, hk.1, htup _, fun v x hv => ?_⟩
   have hv1 := hv.mono w2.own (fun b _ => w3 b) (fun _ _ h => h)
   refine hv1.mono (BR.mk ?_ ?_) (fun b _ hb => hb) (fun _ _ h => h)
   .show _ <= (_ ++ os).size; simp
   intro b hb _; show (_ ++ os)[b]? = _; rw [Array.getElem?_append_left hb]
  | lsln =>
   simp only [LV.lsl.injEq] at hgen
   obtain ⟨-, -, -, e4⟩ := hgen
   omega
  | _ => cases hgen
 cases hs
end
section
variable {P : Program} {ρ : Ren} {AB : Ay} {A : BB} {l r : List Int} {nt : Nat} {sl : List (Nat × LV)} {h h' : AM} {c d : Nat} {f : St -> Prop} {hf : H9 f}
theorem Vy (hE : A4 P AB) {k : Nat} (L : Lays.n189 P ρ) (hk : ρ.f 189 = k) {t e : Nat} {fo : Operand} {args : Array Operand} {ts : Array TypeId} {id n : Nat} {enc : Int -> List DV} (henc : enc = Ig)
  (hr : IW l = some r) (hl : BN id h = some (.row e 1 (l.map enc))) (hn : n = l.length) (hd : Bg id (.row e 1 (r.map enc)) h = h') (ht : Ou AB t e 1 = true)
  (hfn : A9 nt sl fo = .fn k []) (ha : DU nt sl args.toList some = some [.lsl id 1 0 n])
  (kk : f ⟨nt, (d, .p (.tup [])) :: sl, h', c⟩) : BC P A AB ⟨nt, sl, h, c⟩ (some d) (.call ⟨.value fo, args, ts⟩) ⟨f, hf⟩ := by
 obtain ⟨ti, te, h1, h2, h3, h4, h5, h6⟩ := Li ht
 rw [BD (h := h) (c := c)] at hfn
 rw [BO] at hl
 subst henc hn hd hk
 show Lc _ _
 rw [hfn]
 show IB P A h c _ (args.toList.map _ ++ []) _
 rw [En ha, List.append_nil]
 exact VQ hE L h3 h4 hl hr kk
end
end Go.E
/- A scope in which the run jumps back to one label, and on to another. No condition. -/
namespace Go.E
open Go Go.RowKit
section
variable {P : Program} {A : BB} {st : St} {σ Ans : Type}
end
def Yw {α : Type} (l : List α) (lo hi : Int) : Option (List α) := match l with
 | [] => none
 | x :: r => Yh (x :: r) lo hi
section
variable {P : Program} {A : BB} {AB : Ay} {α : Type} {enc : α -> List DV} {l r : List α} {nt : Nat} {sl : List (Nat × LV)} {h : AM} {c d : Nat} {f : St -> Prop} {hf : H9 f} {x : Operand} {t sz : Nat}
end
end Go.E
/- Aa rows cut short; nil cells of own boxes; functions that call themselves. No condition. -/
namespace Go.E
open Go Go.RowKit
section
variable {A : BB} {μ : Nat -> Option BV} {h : List (Nat × A2)} {F : Nat -> Prop} {w : World}
theorem HRel.swap (hh : HRel A μ h F w) {id : Nat} {o o' : A2} (hx : AF id h = some o) (hor : ∀ loc, μ id = some loc -> DG (Aa A μ h) μ w loc o -> DG (Aa A μ h) μ w loc o') :
  HRel A μ (Bg id o' h) F w /\ ∀ b, Aa A μ (Bg id o' h) b -> Aa A μ h b := by
 have hlook : ∀ j y, AF j (Bg id o' h) = some y -> (j = id /\ y = o') \/ (j ≠ id /\ AF j h = some y) := by
  intro j y hy
  by_cases e : j = id
  .subst e; rw [HS hx] at hy; cases hy; exact .inl ⟨rfl, rfl⟩
  rw [DJ e] at hy; exact .inr ⟨e, hy⟩
 have hmine : ∀ b, By μ (Bg id o' h) b -> By μ h b := by
  rintro b ⟨j, y, lc, h1, h2, h3, h4⟩
  rcases hlook j y h1 with ⟨rfl, rfl⟩ | ⟨_, h1⟩
  .exact ⟨j, o, lc, hx, h2, h3, h4⟩
  exact ⟨j, y, lc, h1, h2, h3, h4⟩
 have hown : ∀ b, Aa A μ (Bg id o' h) b -> Aa A μ h b := fun b hb => hb.imp (fun h => h) (hmine b)
 have f : ∀ j y, AF j (Bg id o' h) = some y -> ∃ y, AF j h = some y := by
  intro j y hy
  rcases hlook j y hy with ⟨rfl, rfl⟩ | ⟨_, hy⟩
  .exact ⟨_, hx⟩
  exact ⟨_, hy⟩
 refine ⟨⟨?_, ?_, hh.fresh, ?_, hh.size, hh.block, hh.os, hh.tape, hh.output, hh.ext⟩, hown⟩
 .intro j y hy
  rcases hlook j y hy with ⟨rfl, rfl⟩ | ⟨e, hy⟩
  .obtain ⟨lc, h1, h2⟩ := hh.obj j o hx
   exact ⟨lc, h1, (hor lc h1 h2).mono (BR.refl _ _) (fun b _ hb => hown b hb) (fun _ _ h => h) fun _ => rfl⟩
  obtain ⟨lc, h1, h2⟩ := hh.obj j y hy
  exact ⟨lc, h1, h2.mono (BR.refl _ _) (fun b _ hb => hown b hb) (fun _ _ h => h) fun _ => rfl⟩
 .intro j j' y y' lc lc' h1 h2 m1 m2 n1 n2 he
  obtain ⟨z, hz⟩ := f j y h1
  obtain ⟨z', hz'⟩ := f j' y' h2
  exact hh.inj _ _ _ _ _ _ hz hz' m1 m2 n1 n2 he
 intro j y lc h1 m1 n1
 obtain ⟨z, hz⟩ := f j y h1
 exact hh.base _ _ _ hz m1 n1
end
section
variable {A : BB} {nt : Nat} {sl : List (Nat × LV)} {h h' : AM} {c : Nat}
theorem Q6 {id : Nat} {o o' : A2} (hx : AF id h = some o) (hor : ∀ O μ w loc, DG O μ w loc o -> DG O μ w loc o') : A3 A ⟨nt, sl, h, c⟩ ⟨nt, sl, Bg id o' h, c⟩ := fun a w ⟨⟨μ, hh, hr⟩, hnt, hdef⟩ => by
 obtain ⟨g1, g2⟩ := hh.swap hx (o' := o') fun loc _ => hor _ _ _ loc
 exact ⟨⟨μ, g1, fun t ht => (hr t ht).mono (BR.refl _ _) (fun b _ hb => g2 b hb) fun _ _ h => h⟩, hnt, hdef⟩
theorem F1 (id j e sz : Nat) {cells cells' : List LV} (hl : BN id h = some (.box cells)) (hj : cells[j]? = some (.p .nils)) (hc : cells.set j (.lsl c sz 0 0) = cells')
  (hu : Hj id (.box cells') h some = some h') : A3 A ⟨nt, sl, h, c⟩ ⟨nt, sl, (c, .row e sz []) :: h', c + 1⟩ := fun a w ⟨⟨μ, hh, hr⟩, hnt, hdef⟩ => by
 rw [BO] at hl
 rw [EA, Option.some.injEq] at hu
 subst hu hc
 have hno := hh.fresh c (Nat.le_refl _)
 let loc : BV := ⟨true, 0, 0, sz, 0⟩
 have hsub : ∀ id x, AF id ((c, A2.row e sz []) :: h) = some x -> (id = c /\ x = .row e sz []) \/ AF id h = some x := by
  intro id x hx
  simp only [AF] at hx
  split at hx
  .cases hx; exact .inl ⟨‹_›, rfl⟩
  exact .inr hx
 have hadd := hh.add hno loc (.row e sz []) ((c, .row e sz []) :: h) (fun hn => by cases hn) (fun hn => by cases hn) hsub (BR.refl _ _) (fun _ _ _ _ _ _ _ => rfl) rfl rfl rfl ⟨rfl, by simp, .inl ⟨rfl, rfl⟩⟩
 have hown := hh.sub_add loc (.row e sz []) ((c, .row e sz []) :: h) (fun hn => by cases hn) hsub
 have hadd' := hadd.less (F' := Fr (c + 1)) fun id hid => by simp only [Fr] at hid ⊢; omega
 have hne : id ≠ c := hh.live_ne hno hl
 have hl' : AF id ((c, A2.row e sz []) :: h) = some (.box cells) := by simp only [AF, if_neg hne]; exact hl
 obtain ⟨g1, g2⟩ := hadd'.swap hl' (o' := .box (cells.set j (.lsl c sz 0 0))) fun lc _ ⟨k1, cs, t, k2, k3, k4⟩ => by
  refine ⟨k1, cs, t, k2, by rw [List.length_set]; exact k3, fun i v l hv hl => ?_⟩
  rw [List.getElem?_set] at hl
  split at hl
  .split at hl
   .cases hl
    subst_vars
    have := k4 _ v _ hv hj
    rw [this.nils_inv]
    exact .lsln c loc (by simp [Bs]) rfl
   cases hl
  exact k4 i v l hv hl
 have hup : Bg id (.box (cells.set j (.lsl c sz 0 0))) ((c, A2.row e sz []) :: h) = (c, .row e sz []) :: Bg id (.box (cells.set j (.lsl c sz 0 0))) h := by
  simp only [Bg, if_neg hne]
 rw [hup] at g1 g2
 exact ⟨⟨_, g1, fun u hu => (hr u hu).mono (BR.refl _ _) (fun b hb hb' => hown b hb (g2 b hb')) (I7 hno loc)⟩, hnt, hdef⟩
end
section
variable {P : Program} {A : BB} {AB : Ay} {α : Type} {enc : α -> List DV} {l r : List α} {nt : Nat} {sl : List (Nat × LV)} {h : AM} {c d : Nat} {f : St -> Prop} {hf : H9 f} {x : Operand} {t sz : Nat}
end
section
variable (id : Nat) (src d : LV)
mutual
inductive Ny : LV -> LV -> Prop
 | same (v : LV) : Ny v v
 | hit : Ny src d
 | nil (z : Nat) : Ny (.p .nils) (.p (.slice z []))
 | agg {a b : List LV} : OL a b -> Ny (.agg a) (.agg b)
inductive OL : List LV -> List LV -> Prop
 | nil : OL [] []
 | cons {x y : LV} {a b : List LV} : Ny x y -> OL a b -> OL (x :: a) (y :: b)
end
inductive PA (sl : List (Nat × LV)) : List (Nat × LV) -> Prop
 | nil : PA sl []
 | cons (t : Nat) {v : LV} {r : List (Nat × LV)} : Ny src d (Be sl t) v -> PA sl r -> PA sl ((t, v) :: r)
inductive VP : A2 -> A2 -> Prop
 | same (o : A2) : VP o o
 | box {a b : List LV} : OL src d a b -> VP (.box a) (.box b)
inductive PB (h : AM) : AM -> Prop
 | nil : PB h []
 | cons (i : Nat) {o o' : A2} {r : AM} (hne : Nat.beq i id = false) (hl : BN i h = some o) : VP src d o o' -> PB h r -> PB h ((i, o') :: r)
end
section
variable {A : BB} {nt : Nat} {sl sl' : List (Nat × LV)} {h h' : AM} {c : Nat} {id : Nat} {src d : LV}
mutual
theorem TJ {O O' : Nat -> Prop} {μ μ' : Nat -> Option BV} {w : World} (hμ : ∀ id l, μ id = some l -> μ' id = some l) (hO : ∀ b, b < w.heap.size -> O' b -> O b) (hd : ∀ v, AW O μ w v src -> AW O' μ' w v d) : ∀ {x y : LV}, Ny src d x y -> ∀ v, AW O μ w v x -> AW O' μ' w v y
 | _, _, .same _, v, h => h.mono (BR.refl _ _) hO hμ
 | _, _, .hit, v, h => hd v h
 | _, _, .nil z, v, h => by
  rw [h.nils_inv]
  exact .p _ _ (.snil z)
 | _, _, .agg (a := ls) (b := b) q, v, h => by
  cases h with
  | agg vs _ hsz hr =>
   obtain ⟨g1, g2⟩ := Nz hμ hO hd q
   exact .agg vs _ (by omega) fun i v l hv hl => by
    have hi := (List.getElem?_eq_some_iff.1 hl).1
    obtain ⟨x, hx⟩ : ∃ x, ls[i]? = some x := ⟨ls[i]'(by omega), List.getElem?_eq_getElem _⟩
    exact g2 i x l hx hl v (hr i v x hv hx)
theorem Nz {O O' : Nat -> Prop} {μ μ' : Nat -> Option BV} {w : World} (hμ : ∀ id l, μ id = some l -> μ' id = some l) (hO : ∀ b, b < w.heap.size -> O' b -> O b) (hd : ∀ v, AW O μ w v src -> AW O' μ' w v d) : ∀ {a b : List LV}, OL src d a b -> a.length = b.length /\ ∀ (i : Nat) (x y : LV), a[i]? = some x -> b[i]? = some y -> ∀ v, AW O μ w v x -> AW O' μ' w v y
 | _, _, .nil => ⟨rfl, fun i x y h => by simp at h⟩
 | _, _, .cons q r => by
  obtain ⟨g1, g2⟩ := Nz hμ hO hd r
  refine ⟨by simp [g1], fun i x y hx hy => ?_⟩
  cases i with
  | zero => simp at hx hy; subst hx hy; exact TJ hμ hO hd q
  | succ i => exact g2 i x y (by simpa using hx) (by simpa using hy)
end
theorem RP : ∀ {sl' : List (Nat × LV)}, PA src d sl sl' -> ∀ t l, AF t sl' = some l -> Ny src d (Be sl t) l
 | _, .nil, t, l, h => by simp [AF] at h
 | _, .cons u q r, t, l, h => by
  simp only [AF] at h
  split at h
  .cases h; subst_vars; exact q
  exact RP r t l h
theorem RQ : ∀ {h' : AM}, PB id src d h h' -> ∀ i o', AF i h' = some o' -> i ≠ id /\ ∃ o, AF i h = some o /\ VP src d o o'
 | _, .nil, i, o, h => by simp [AF] at h
 | _, .cons u hne hl q r, i, o, h => by
  simp only [AF] at h
  split at h
  .cases h; subst_vars
   rw [BO] at hl
   exact ⟨fun e => by subst e; simp at hne, _, hl, q⟩
  exact RQ r i o h
theorem RR (id : Nat) {d0 : DV} (hd : ∀ μ w (O' : Nat -> Prop), HRel A μ h (Fr c) w -> (∀ b, O' b -> Aa A μ (B3 [id] h) b) -> ∀ v, AW (Aa A μ h) μ w v src -> Au O' w v d0) (hs : PA src (.p d0) sl sl') (hh : PB id src (.p d0) h h') : A3 A ⟨nt, sl, h, c⟩ ⟨nt, sl', h', c⟩ := fun a w ⟨⟨μ, hR, hr⟩, hnt, hdef⟩ => by
 have hlk := fun i o' => RQ hh i o'
 have hmine : ∀ b, By μ h' b -> By μ (B3 [id] h) b := by
  rintro b ⟨j, y, lc, h1, h2, h3, h4⟩
  obtain ⟨g1, o, g2, -⟩ := hlk j y h1
  refine ⟨j, o, lc, ?_, h2, h3, h4⟩
  show AF j (Du id h) = some o
  rw [DH g1]; exact g2
 have hown1 : ∀ b, Aa A μ h' b -> Aa A μ (B3 [id] h) b := fun b hb => hb.imp (fun h => h) (hmine b)
 have hown : ∀ b, Aa A μ h' b -> Aa A μ h b := fun b hb => Hh b (hown1 b hb)
 have hp : ∀ v, AW (Aa A μ h) μ w v src -> AW (Aa A μ h') μ w v (.p d0) := fun v hv => .p _ _ (hd μ w _ hR hown1 v hv)
 refine ⟨⟨μ, ⟨?_, ?_, hR.fresh, ?_, hR.size, hR.block, hR.os, hR.tape, hR.output, hR.ext⟩, fun t ht => ?_⟩, hnt, hdef⟩
 .intro j o' hj
  obtain ⟨g1, o, g2, q⟩ := hlk j o' hj
  obtain ⟨lc, h1, h2⟩ := hR.obj j o g2
  refine ⟨lc, h1, ?_⟩
  cases q with
  | same _ => exact h2.mono (BR.refl _ _) (fun b _ hb => hown b hb) (fun _ _ h => h) fun _ => rfl
  | box q =>
   obtain ⟨k1, cs, ty, k2, k3, k4⟩ := h2
   obtain ⟨q1, q2⟩ := Nz (O' := Aa A μ h') (w := w) (fun _ _ h => h) (fun b _ hb => hown b hb) hp q
   refine ⟨k1, cs, ty, k2, by omega, fun i v l hv hl => ?_⟩
   have hi := (List.getElem?_eq_some_iff.1 hl).1
   rename_i a b
   have hx : a[i]? = some (a[i]'(by omega)) := List.getElem?_eq_getElem _
   exact q2 i _ l hx hl v (k4 i v _ hv hx)
 .intro j j' y y' lc lc' h1 h2 m1 m2 n1 n2 he
  obtain ⟨-, z, hz, -⟩ := hlk j y h1
  obtain ⟨-, z', hz', -⟩ := hlk j' y' h2
  exact hR.inj _ _ _ _ _ _ hz hz' m1 m2 n1 n2 he
 .intro j y lc h1 m1 n1
  obtain ⟨-, z, hz, -⟩ := hlk j y h1
  exact hR.base _ _ _ hz m1 n1
 show AW _ _ _ _ (match AF t sl' with | some v => v | none => .any)
 cases hl : AF t sl' with
 | none => exact .any _
 | some l => exact TJ (fun _ _ h => h) (fun b _ hb => hown b hb) hp (RP hs t l hl) _ (hr t ht)
theorem Ho (id : Nat) {d0 : DV} (hd : FB h src = some d0 /\ Ij src = [id]) (hs : PA src (.p d0) sl sl') (hh : PB id src (.p d0) h h') : A3 A ⟨nt, sl, h, c⟩ ⟨nt, sl', h', c⟩ :=
 RR id (fun μ w O' hR hown v hv => (Kj hR (l := [id]) hv hd.1 (by rw [hd.2]; simp)).mono (BR.refl _ _) fun b _ hb => hown b hb) hs hh
theorem XW {O : Nat -> Prop} {μ : Nat -> Option BV} {w : World} {v : Value} {id sz off n : Nat} (h : AW O μ w v (.lsl id sz off n)) : ∃ loc, μ id = some loc := by
 cases h with
 | lsln _ loc hm hn => exact ⟨loc, hm⟩
 | lsl _ _ _ cap a loc hm => exact ⟨loc, hm⟩
theorem E9 (hs : PA (.lsl c 0 0 0) (.p .nils) sl sl') (hh : PB c (.lsl c 0 0 0) (.p .nils) h h') : A3 A ⟨nt, sl, h, c⟩ ⟨nt, sl', h', c⟩ :=
 RR c (fun μ w O' hR hown v hv => by
  have hno := hR.fresh c (Nat.le_refl _)
  obtain ⟨loc, hm⟩ := XW hv
  rw [hno] at hm; cases hm) hs hh
theorem KS {α : Type} {enc : α -> List DV} {l : List α} {e : Nat} {sz : Nat} (hl : BN id h = some (.row e sz (l.map enc))) : FB h (.lsl id sz 0 l.length) = some (.slice sz (l.map enc)) /\ Ij (.lsl id sz 0 l.length) = [id] := by
 refine ⟨?_, rfl⟩
 rw [BO] at hl
 simp only [FB, hl, Nat.zero_add, List.length_map, Nat.le_refl, and_self, if_true, List.drop_zero]
 rw [List.take_of_length_le (by simp)]
end
section
variable {P : Program} {A : BB} {AB : Ay}
theorem C2.ownF {h : AM} {ctr k : Nat} {args : List LV} {ds : List DV} {e sz : Nat} {elems : List (List DV)} {K : LV -> AM -> Nat -> Prop} (hds : Bm h args = some ds) (hf : FD P k ds e sz elems)
  (hfl : ∀ x ∈ elems, ∀ d ∈ x, d.flat = true) (hK : K (.lsl ctr sz 0 elems.length) ((ctr, .row e sz elems) :: h) (ctr + 1)) : C2 P A h ctr k args K := by
 refine ⟨hf.enters, fun μ w vs hh hsz hr => ?_⟩
 obtain ⟨g1, g2⟩ := ES hh (l := args.flatMap (DZ h)) hds (fun id hid => hid)
 generalize args.flatMap (DZ h) = dl at g2
 have hO : ∀ b, Aa A μ (B3 dl h) b -> b < w.heap.size := by
  intro b hb
  rcases Hh b hb with hb | ⟨id, x, lc, h1, h2, h3, rfl⟩
  .exact Nat.lt_of_lt_of_le (A.hO b hb).1 hh.size
  exact (hh.base id x lc h1 h2 h3).1
 refine (hf.run (Aa A μ (B3 dl h)) w vs hO (by omega) fun i v d hv hd => ?_).mono fun en w' ⟨v, he, hn, hb⟩ => ?_
 .have hi := (List.getElem?_eq_some_iff.1 hd).1
  have hx : args[i]? = some (args[i]'(by omega)) := List.getElem?_eq_getElem _
  exact g2 i v _ d hx hd (hr i v _ hv hx)
 have hno : μ ctr = none := hh.fresh ctr (Nat.le_refl _)
 obtain ⟨hlen, hn⟩ := hn
 have hkm : BR (By μ h) w w' := ⟨hb.size, fun b hb' _ => hb.block b hb'⟩
 have hsub : ∀ id x, AF id ((ctr, A2.row e sz elems) :: h) = some x -> (id = ctr /\ x = .row e sz elems) \/ AF id h = some x := by
  intro id x hx
  simp only [AF] at hx
  split at hx
  .cases hx; exact .inl ⟨‹_›, rfl⟩
  exact .inr hx
 have hold : ∀ id x lc, AF id ((ctr, A2.row e sz elems) :: h) = some x -> id ≠ ctr -> μ id = some lc -> lc.nil = false -> w'.heap[lc.b]? = w.heap[lc.b]? := by
  intro id x lc hx hne hm hnl
  rcases hsub id x hx with ⟨rfl, _⟩ | hx
  .exact absurd rfl hne
  exact hb.block _ (hh.base id x lc hx hm hnl).1
 have fin : ∀ (loc : BV), (loc.nil = false -> loc.b < w'.heap.size /\ w.heap.size <= loc.b) ->
   (∀ O' : Nat -> Prop, DG O' (Bs μ ctr loc) w' loc (.row e sz elems)) ->
   (∀ O', AW O' (Bs μ ctr loc) w' v (.lsl ctr sz 0 elems.length)) ->
   ∃ u l h' c' μ', en = .returned u /\ K l h' c' /\ HRel A μ' h' (Fr c') w' /\ AW (Aa A μ' h') μ' w' u l /\ ∀ v x, AW (Aa A μ h) μ w v x -> AW (Aa A μ' h') μ' w' v x := by
  intro loc hloc ho hu
  have hfr : L4 μ h ((ctr, A2.row e sz elems) :: h) w loc := fun hn => .inl (hloc hn).2
  have hown := hh.sub_add loc (.row e sz elems) ((ctr, .row e sz elems) :: h) hfr hsub
  have hadd := hh.add (w' := w') hno loc (.row e sz elems) ((ctr, .row e sz elems) :: h) (fun hn => (hloc hn).1) hfr hsub hkm hold hb.os hb.tape hb.output (ho _)
  exact ⟨v, _, _, _, _, he, hK, hadd.less (fun id hid => by simp only [Fr] at hid ⊢; omega), hu _, fun v x hv => hv.mono hkm.own hown (I7 hno loc)⟩
 rcases hn with ⟨rfl, rfl⟩ | ⟨a, b, o, cap, c, rfl, h1, h2, h3, h4, h5, h6, h7, h8, h9, h10⟩
 .exact fin ⟨true, 0, 0, sz, 0⟩ (fun hn => by cases hn) (fun O' => ⟨rfl, hlen, .inl ⟨rfl, rfl⟩⟩) (fun O' => .lsln ctr ⟨true, 0, 0, sz, 0⟩ (by simp [Bs]) rfl)
 refine fin ⟨false, b, o, sz, cap⟩ (fun _ => ⟨h2, h1⟩) (fun O' => ⟨rfl, hlen, .inr ⟨rfl, c, h6, h7, h8, h9, fun i j x d u hx hd hu => ?_⟩⟩) (fun O' => ?_)
 .exact (h10 i j x d u hx hd hu).flat (hfl x (List.mem_of_getElem? hx) d (List.mem_of_getElem? hd)) _ _
 exact .lsl ctr 0 elems.length cap a ⟨false, b, o, sz, cap⟩ (by simp [Bs]) rfl (by simp) h8 (fun hc => by rw [h3 hc]; simp) h4 h5
end
section
variable {P : Program} {A : BB} {AB : Ay} {α : Type} {enc : α -> List DV} {nt : Nat} {sl : List (Nat × LV)} {h : AM} {c d : Nat} {f : St -> Prop} {hf : H9 f}
theorem So {fo : Operand} {args : Array Operand} {ts : Array TypeId} {k e sz : Nat} {caps ls : List LV} {ds : List DV} {r : List α} (hF : FD P k ds e sz (r.map enc)) (hfl : ∀ x : α, (enc x).all (·.flat) = true)
  (hfn : A9 nt sl fo = .fn k caps) (hl : DU nt sl args.toList some = some ls) (hds : Bm h (ls ++ caps) = some ds)
  (kk : f ⟨nt, (d, .lsl c sz 0 r.length) :: sl, (c, .row e sz (r.map enc)) :: h, c + 1⟩) : BC P A AB ⟨nt, sl, h, c⟩ (some d) (.call ⟨.value fo, args, ts⟩) ⟨f, hf⟩ := by
 rw [BD (h := h) (c := c)] at hfn
 show Lc _ _
 rw [hfn]
 show IB P A h c k (args.toList.map _ ++ caps) _
 rw [En hl]
 refine C2.ownF hds hF (fun x hx d hd => ?_) ?_
 .obtain ⟨a, _, rfl⟩ := List.mem_map.1 hx
  exact List.all_eq_true.1 (hfl a) d hd
 rw [List.length_map]
 exact kk
end
noncomputable def Ng {α β : Type} (F : (α -> Option β) -> α -> Option β) (n : Nat) : α -> Option β := Nat.rec (fun _ => none) (fun _ ih => F ih) n
theorem recF_holds {α β : Type} {F : (α -> Option β) -> α -> Option β} {C : α -> β -> Prop} (h : ∀ rec : α -> Option β, (∀ a r, rec a = some r -> C a r) -> ∀ a r, F rec a = some r -> C a r) : ∀ n a r, Ng F n a = some r -> C a r
 | 0, a, r, e => by cases e
 | n + 1, a, r, e => h (Ng F n) (recF_holds h n) a r e
end Go.E
/- Drawn regions of which the orders do not all come to one by waiting: a tree of orders. No condition. -/
namespace Go.E
open Go Go.RowKit
inductive Hg where
 | done
 | nil
 | picks (l : List Nat) (t : Hg)
 | alt (i : Nat) (l : List Nat) (t r : Hg)
def Kh (listed : Array Bool) : List Nat -> Array Bool
 | [] => listed
 | i :: l => Kh (listed.setIfInBounds i true) l
def H7 (q w : Bool) (md : Region.Mode) (ops : Array Oper) : List Nat -> Array Bool -> Bool
 | [], _ => true
 | i :: rest, listed => (match ops[i]? with
  | none => false
  | some oi => (Region.ready md ops listed == [i]) || ((Region.ready md ops listed).contains i && N4 q w md ops listed i oi (MC md ops listed i))) &&
  H7 q w md ops rest (listed.setIfInBounds i true)
def Hg.heads : Hg -> List Nat
 | .alt i _ _ r => i :: r.heads
 | _ => []
def Js (q w : Bool) (md : Region.Mode) (ops : Array Oper) : Hg -> Bool -> Array Bool -> Nat -> Bool
 | .done, b, listed, n => !b && (Region.ready md ops listed).isEmpty && n == 0
 | .nil, b, _, _ => b
 | .picks l t, b, listed, n => !b && H7 q w md ops l listed && decide (l.length <= n) && Js q w md ops t false (Kh listed l) (n - l.length)
 | .alt i l t r, b, listed, n => (b || decide (0 < n) && !(Region.ready md ops listed).isEmpty && (Region.ready md ops listed).all fun j => (i :: r.heads).contains j) &&
   (decide (i < ops.size) && H7 q w md ops l (listed.setIfInBounds i true) && decide (l.length <= (bif b then n else n - 1)) &&
    Js q w md ops t false (Kh (listed.setIfInBounds i true) l) ((bif b then n else n - 1) - l.length) && Js q w md ops r true listed (bif b then n else n - 1))
section
variable (P : Program) (A : BB) (AB : Ay) (base n : Nat) (K : St -> Prop) (ops : List Oper)
def L2 : Hg -> St -> Prop
 | .done, st => K st
 | .nil, _ => True
 | .picks l t, st => C4 P A AB base n ⟨L2 t, ⟨⟩⟩ (Ef ops l) st
 | .alt i l t r, st => C4 P A AB base n ⟨L2 t, ⟨⟩⟩ (Ef ops (i :: l)) st /\ L2 r st
end
section
variable {P : Program} {A : BB} {AB : Ay} {md : Region.Mode} {base : Nat} {K : St -> Prop}
theorem U0 {ops : List Oper} {n : Nat} {l : List Nat} {t : Hg} {st : St} (k : C4 P A AB base n ⟨L2 P A AB base n K ops t, ⟨⟩⟩ (Ef ops l) st) : L2 P A AB base n K ops (.picks l t) st := k
theorem D6 {ops : List Oper} {n : Nat} {i : Nat} {l : List Nat} {t r : Hg} {st : St} (k : C4 P A AB base n ⟨L2 P A AB base n K ops t, ⟨⟩⟩ (Ef ops (i :: l)) st) (k' : L2 P A AB base n K ops r st) : L2 P A AB base n K ops (.alt i l t r) st := ⟨k, k'⟩
theorem Hb {ops : List Oper} {n c c' nt : Nat} {sl : List (Nat × LV)} {h : AM} {S : St} (k : A3 A ⟨nt, sl, h, c + n⟩ S) : L2 P A AB c n (fun st => A3 A { st with ctr := c + n } S) ops .done ⟨nt, sl, h, c'⟩ := k
theorem J2 {ops : List Oper} {n : Nat} {st : St} : L2 P A AB base n K ops .nil st := trivial
theorem PE {q w : Bool} {ops : Array Oper} : ∀ {l : List Nat} {listed : Array Bool}, H7 q w md ops l listed = true -> ∀ i ∈ l, i < ops.size
 | [], _, _, i, hi => by simp at hi
 | j :: l, listed, h, i, hi => by
  simp only [H7, Bool.and_eq_true] at h
  rcases List.mem_cons.1 hi with rfl | hi
  .cases ho : ops[i]? with
   | none => rw [ho] at h; simp at h
   | some o => exact (Array.getElem?_eq_some_iff.1 ho).1
  exact PE h.2 i hi
theorem Mr (q : Bool) (hq : q = true -> ∃ b, AB.calm = some b) {ops : Array Oper} {T Q : St -> Prop} (fuel : Nat) : ∀ (l : List Nat) (listed : Array Bool) (st : St), H7 q AB.own md ops l listed = true -> (∀ k, listed.getD k true = false -> AF (base + k) st.heap = none) ->
  (∀ st', (∀ k, (Kh listed l).getD k true = false -> AF (base + k) st'.heap = none) -> T st' -> Hi P AB md ops base Q fuel (Kh listed l) st') ->
  F6 P AB ops base T l st -> Hi P AB md ops base Q (l.length + fuel) listed st
 | [], listed, st, _, hfresh, hT, h => by
  rw [List.length_nil, Nat.zero_add]
  exact hT st hfresh h
 | i :: rest, listed, st, hok, hfresh, hT, h => by
  obtain ⟨o, l, e, ho, hd, hrest⟩ := MD h
  simp only [H7, ho, Bool.and_eq_true, Bool.or_eq_true] at hok
  have hrec : Hi P AB md ops base Q (rest.length + fuel) (listed.setIfInBounds i true) (apS st (base + i) o l e) := by
   refine Mr q hq fuel rest _ _ hok.2 (fun k hk => ?_) hT hrest
   have hik : i ≠ k := by
    rintro rfl
    rcases Nat.lt_or_ge i listed.size with h' | h'
    .simp [h'] at hk
    simp [Array.getElem?_eq_none h'] at hk
   rw [Bh]
   exact Kk hd (by simp only [St.at]; omega) (hfresh k (by rw [getD_set_ne true hik] at hk; exact hk))
  rw [show (i :: rest).length + fuel = rest.length + fuel + 1 by simp; omega]
  rcases hok.1 with h1 | h1
  .have hr : Region.ready md ops listed = [i] := by simpa using h1
   refine ⟨fun h0 => (by rw [hr] at h0; cases h0), fun j hj => ?_⟩
   rw [hr] at hj
   simp at hj
   subst hj
   exact ⟨o, l, e, ho, hd, hrec⟩
  obtain ⟨h1, h2⟩ := h1
  simp only [N4, Bool.and_eq_true, List.all_eq_true, List.mem_range] at h2
  obtain ⟨h2, h3⟩ := h2
  generalize hBe : MC md ops listed i = B at h2 h3
  refine PO q hq ho (fun j => B.contains j) (fun j hj => ?_) (rest.length + fuel) listed st (fun j hj => ?_) (fun j oj hoj hji hun hBj => ?_) hfresh (by simpa using h1) hd hrec
  .have := h2 j (by simpa using hj)
   obtain ⟨⟨a1, a2⟩, a3⟩ := this
   refine ⟨by simpa using a1, fun oj hoj => ?_⟩
   rw [hoj] at a3
   obtain ⟨x, hx, hx2⟩ := Array.any_eq_true'.1 a3
   simp only [Bool.and_eq_true, Bool.or_eq_true, beq_iff_eq] at hx2
   exact ⟨x, hx, hx2.1, hx2.2⟩
  .have := (h2 j (by simpa using hj)).1.2
   simpa using this
  have := h3 j (Array.getElem?_eq_some_iff.1 hoj).1
  simp only [Bool.or_eq_true, beq_iff_eq, hji, false_or, hun, Bool.false_eq_true] at this
  rw [hBj] at this
  simp only [Bool.false_eq_true, false_or, hoj, Bool.and_eq_true] at this
  refine ⟨this.1, this.2.1, fun ho => ?_⟩
  have := this.2.2
  rw [ho] at this; simpa using this
theorem Jj (q : Bool) (hq : q = true -> ∃ b, AB.calm = some b) {ops : List Oper} : ∀ (T : Hg) (listed : Array Bool) (st : St) (n : Nat), (∀ k, listed.getD k true = false -> AF (base + k) st.heap = none) -> L2 P A AB base ops.length K ops T st ->
  (Js q AB.own md ops.toArray T false listed n = true -> Hi P AB md ops.toArray base K n listed st) /\
  (Js q AB.own md ops.toArray T true listed n = true -> ∀ i ∈ T.heads, ∃ o l e, ops.toArray[i]? = some o /\ Cs P AB ops.toArray (st.at (base + i)) o l e /\ Hi P AB md ops.toArray base K n (listed.setIfInBounds i true) (apS st (base + i) o l e))
 | .done, listed, st, n, hfresh, h => by
  refine ⟨fun hok => ?_, fun hok => by simp [Js] at hok⟩
  simp only [Js, Bool.not_false, Bool.true_and, Bool.and_eq_true, beq_iff_eq, List.isEmpty_iff] at hok
  obtain ⟨h1, rfl⟩ := hok
  exact ⟨h1, st, Fe.refl st, h⟩
 | .nil, listed, st, n, hfresh, h => ⟨fun hok => by simp [Js] at hok, fun _ i hi => by simp [Hg.heads] at hi⟩
 | .picks l t, listed, st, n, hfresh, h => by
  refine ⟨fun hok => ?_, fun hok => by simp [Js] at hok⟩
  simp only [Js, Bool.not_false, Bool.true_and, Bool.and_eq_true, decide_eq_true_eq] at hok
  obtain ⟨⟨h1, h2⟩, h3⟩ := hok
  have hb : (l.all fun i => decide (i < ops.length)) = true := List.all_eq_true.2 fun i hi => by simpa using PE h1 i hi
  have := Mr q hq (md := md) (Q := K) (n - l.length) l listed st h1 hfresh (fun st' hf' hT => ?_) (GN l st hb h)
  .rwa [show l.length + (n - l.length) = n by omega] at this
  refine MB _ _ { st' with ctr := base + ops.length } _ ⟨rfl, fun _ => rfl, fun _ => rfl⟩ ?_
  exact (Jj q hq t (Kh listed l) { st' with ctr := base + ops.length } (n - l.length) hf' hT).1 h3
 | .alt i l t r, listed, st, n, hfresh, ⟨h, h'⟩ => by
  have key : ∀ m, (decide (i < ops.toArray.size) && H7 q AB.own md ops.toArray l (listed.setIfInBounds i true) && decide (l.length <= m) && Js q AB.own md ops.toArray t false (Kh (listed.setIfInBounds i true) l) (m - l.length) && Js q AB.own md ops.toArray r true listed m) = true ->
    ∀ j ∈ i :: r.heads, ∃ o l e, ops.toArray[j]? = some o /\ Cs P AB ops.toArray (st.at (base + j)) o l e /\ Hi P AB md ops.toArray base K m (listed.setIfInBounds j true) (apS st (base + j) o l e) := by
   intro m hok j hj
   simp only [Bool.and_eq_true, decide_eq_true_eq] at hok
   obtain ⟨⟨⟨⟨h0, h1⟩, h2⟩, h3⟩, h4⟩ := hok
   rcases List.mem_cons.1 hj with rfl | hj
   .have hb : ((j :: l).all fun i => decide (i < ops.length)) = true := List.all_eq_true.2 fun i hi => by
     rcases List.mem_cons.1 hi with rfl | hi
     .simpa using h0
     simpa using PE h1 i hi
    obtain ⟨o, lv, e, ho, hd, hrest⟩ := MD (GN (j :: l) st hb h)
    refine ⟨o, lv, e, ho, hd, ?_⟩
    have := Mr q hq (md := md) (Q := K) (m - l.length) l (listed.setIfInBounds j true) (apS st (base + j) o lv e) h1 (fun k hk => ?_) (fun st' hf' hT => ?_) hrest
    .rwa [show l.length + (m - l.length) = m by omega] at this
    .have hik : j ≠ k := by
      rintro rfl
      rcases Nat.lt_or_ge j listed.size with h' | h'
      .simp [h'] at hk
      simp [Array.getElem?_eq_none h'] at hk
     rw [Bh]
     exact Kk hd (by simp only [St.at]; omega) (hfresh k (by rw [getD_set_ne true hik] at hk; exact hk))
    refine MB _ _ { st' with ctr := base + ops.length } _ ⟨rfl, fun _ => rfl, fun _ => rfl⟩ ?_
    exact (Jj q hq t _ { st' with ctr := base + ops.length } (m - l.length) hf' hT).1 h3
   exact (Jj q hq r listed st m hfresh h').2 h4 j hj
  refine ⟨fun hok => ?_, fun hok => ?_⟩
  .rw [Js, Bool.false_or] at hok
   obtain ⟨h1, h2⟩ := Bool.and_eq_true_iff.1 hok
   simp only [Bool.and_eq_true, decide_eq_true_eq, Bool.not_eq_true', List.all_eq_true] at h1
   obtain ⟨⟨h3, h4⟩, h5⟩ := h1
   obtain ⟨m, rfl⟩ : ∃ m, n = m + 1 := ⟨n - 1, by omega⟩
   refine ⟨fun h0 => by rw [h0] at h4; simp at h4, fun j hj => ?_⟩
   exact key m (by simpa using h2) j (by simpa using h5 j hj)
  simp only [Js, Bool.true_or, Bool.true_and, cond_true] at hok
  exact key n hok
theorem Yv (hE : A4 P AB) (hm : P.follows .mixedOrders = true) {id : Nat} {ops : List Oper} {Q : Exit -> St -> Prop} {nt : Nat} {sl : List (Nat × LV)} {h : AM} {c : Nat} (T : Hg) (n : Nat) (S : St)
  (hok : Js false AB.own .any ops.toArray T false (Array.replicate ops.length false) ops.length = true) (hn : Nat.beq ops.length n = true)
  (k : L2 P A AB c n (fun st => A3 A { st with ctr := c + n } S) ops T ⟨nt, sl, h, c⟩) (kk : Q .normal S) : B0 P A (.region id ops.toArray true) Q ⟨nt, sl, h, c⟩ := fun a w hR => by
 have hn' := Nat.eq_of_beq_eq_true hn
 subst hn'
 refine wp_region_any hm ?_
 have hR' := (hR.drawn (w.drawn + 1)).toRF
 have hfr : ∀ k, AF (c + k) h = none := by
  intro k
  cases hx : AF (c + k) h with
  | none => rfl
  | some o =>
   obtain ⟨⟨μ, hh, _⟩, _, _⟩ := hR
   obtain ⟨loc, h1, _⟩ := hh.obj _ _ hx
   rw [hh.fresh _ (by simp [Fr])] at h1; cases h1
 have hD := (Jj false (fun h => by cases h) (md := .any) T (Array.replicate ops.length false) ⟨nt, sl, h, c⟩ ops.length (fun k _ => hfr k) k).1 hok
 rw [show ops.toArray.size = ops.length by simp]
 refine HR (A := A) (n := ops.length) hE (by simp) (fun st' a' w' listed hk hR'' => ?_) ops.length _ ⟨nt, sl, h, c⟩ a _ (by simp) hD ?_
 .refine ⟨S, ?_, kk⟩
  obtain ⟨⟨μ, x1, x2⟩, x3, x4⟩ := hR''
  exact hk a' w' ⟨⟨μ, x1.less fun id hid => .inl hid, x2⟩, x3, x4⟩
 obtain ⟨⟨μ, x1, x2⟩, x3, x4⟩ := hR'
 refine ⟨⟨μ, x1.less fun id hid => ?_, x2⟩, x3, x4⟩
 rcases hid with hid | ⟨k, _, _, rfl⟩
 .simp only [Fr]; omega
 simp [Fr]
theorem Zm (hE : A4 P AB) (hm : P.follows .mixedOrders = true) {id : Nat} {ops : List Oper} {Q : Exit -> St -> Prop} {nt : Nat} {sl : List (Nat × LV)} {h : AM} {c : Nat} (T : Hg) (n : Nat) (S : St)
  (hq : AB.calm.isSome = true) (hok : Js true AB.own .any ops.toArray T false (Array.replicate ops.length false) ops.length = true) (hn : Nat.beq ops.length n = true)
  (k : L2 P A AB c n (fun st => A3 A { st with ctr := c + n } S) ops T ⟨nt, sl, h, c⟩) (kk : Q .normal S) : B0 P A (.region id ops.toArray true) Q ⟨nt, sl, h, c⟩ := fun a w hR => by
 have hn' := Nat.eq_of_beq_eq_true hn
 subst hn'
 refine wp_region_any hm ?_
 have hR' := (hR.drawn (w.drawn + 1)).toRF
 have hfr : ∀ k, AF (c + k) h = none := by
  intro k
  cases hx : AF (c + k) h with
  | none => rfl
  | some o =>
   obtain ⟨⟨μ, hh, _⟩, _, _⟩ := hR
   obtain ⟨loc, h1, _⟩ := hh.obj _ _ hx
   rw [hh.fresh _ (by simp [Fr])] at h1; cases h1
 have hD := (Jj true (fun _ => Option.isSome_iff_exists.1 hq) (md := .any) T (Array.replicate ops.length false) ⟨nt, sl, h, c⟩ ops.length (fun k _ => hfr k) k).1 hok
 rw [show ops.toArray.size = ops.length by simp]
 refine HR (A := A) (n := ops.length) hE (by simp) (fun st' a' w' listed hk hR'' => ?_) ops.length _ ⟨nt, sl, h, c⟩ a _ (by simp) hD ?_
 .refine ⟨S, ?_, kk⟩
  obtain ⟨⟨μ, x1, x2⟩, x3, x4⟩ := hR''
  exact hk a' w' ⟨⟨μ, x1.less fun id hid => .inl hid, x2⟩, x3, x4⟩
 obtain ⟨⟨μ, x1, x2⟩, x3, x4⟩ := hR'
 refine ⟨⟨μ, x1.less fun id hid => ?_, x2⟩, x3, x4⟩
 rcases hid with hid | ⟨k, _, _, rfl⟩
 .simp only [Fr]; omega
 simp [Fr]
end
end Go.E
/- Aa objects handed to a function that turns them: its contract (C2 of the objects alone), and its use among other objects (UA, Da). No condition. -/
namespace Go.E
open Go Go.RowKit
def Ky (ρ : Nat -> Nat) : LV -> LV
 | .lsl id sz off len => .lsl (ρ id) sz off len
 | .lpb id off => .lpb (ρ id) off
 | .lpe id i off => .lpe (ρ id) i off
 | .lmap id => .lmap (ρ id)
 | x => x
def Y0 : LV -> Option Nat
 | .lsl id _ _ _ => some id
 | .lpb id _ => some id
 | .lpe id _ _ => some id
 | .lmap id => some id
 | _ => none
def Y1 : LV -> Bool
 | .p _ => true
 | .lsl _ _ _ _ => true
 | .lpb _ _ => true
 | .lpe _ _ _ => true
 | .lmap _ => true
 | .und => true
 | .any => true
 | _ => false
def Lv (ρ : Nat -> Nat) : A2 -> A2
 | .box cs => .box (cs.map (Ky ρ))
 | o => o
def Lw (gl : List (Nat × Nat)) (m : Nat) (l : LV) : Bool := Y1 l && (match Y0 l with
 | none => true
 | some i => Nat.ble m i || (AF i gl).isSome)
def Ss (gl : List (Nat × Nat)) (m : Nat) : A2 -> Bool
 | .box cs => cs.all (Lw gl m)
 | _ => true
def Y2 (ρ : Nat -> Nat) : LV -> LV
 | .agg l => .agg (l.map (Ky ρ))
 | l => Ky ρ l
def Y3 (gl : List (Nat × Nat)) (m : Nat) : LV -> Bool
 | .agg l => l.all (Lw gl m)
 | l => Lw gl m l
def Su (ρ : Nat -> Nat) : LV -> LV
 | .tup l => .tup (l.map (Y2 ρ))
 | l => Y2 ρ l
def V5 (gl : List (Nat × Nat)) (m : Nat) : LV -> Bool
 | .tup l => l.all (Y3 gl m)
 | l => Y3 gl m l
def FA (ρ : Nat -> Nat) : AM -> AM
 | [] => []
 | (i, o) :: h => (ρ i, Lv ρ o) :: FA ρ h
def B8 (gl : List (Nat × Nat)) (m c i : Nat) : Nat := match AF i gl with
 | some j => j
 | none => c + (i - m)
def Kb (ρ : Nat -> Nat) (h : AM) : AM -> Prop
 | [] => True
 | (i, o) :: r => AF (ρ i) h = some (Lv ρ o) /\ Kb ρ h r
def QY (gl : List (Nat × Nat)) (m m1 : Nat) (H H1 : AM) : Bool :=
 Nat.ble m m1 && H.all (fun p => Nat.ble (p.1 + 1) m && (AF p.1 gl).isSome && Ss gl m p.2) && gl.all (fun p => (AF p.1 H).isSome && gl.all fun q => p.1 == q.1 || p.2 != q.2) && H1.all (fun p => (Nat.ble m p.1 || (AF p.1 gl).isSome) && Ss gl m p.2)
theorem Dq {α : Type} {i : Nat} {o : α} : ∀ {l : List (Nat × α)}, AF i l = some o -> (i, o) ∈ l
 | [], h => by simp [AF] at h
 | (k, v) :: l, h => by
  unfold AF at h
  split at h
  .rename_i e; cases h; subst e; simp
  exact List.mem_cons_of_mem _ (Dq h)
theorem OY {ρ : Nat -> Nat} {h : AM} {i : Nat} {o : A2} : ∀ {H : AM}, Kb ρ h H -> AF i H = some o -> AF (ρ i) h = some (Lv ρ o)
 | [], _, hl => by simp [AF] at hl
 | (k, v) :: H, hk, hl => by
  unfold AF at hl
  split at hl
  .rename_i e; cases hl; subst e; exact hk.1
  exact OY hk.2 hl
theorem O0 {ρ : Nat -> Nat} {id : Nat} {o : A2} : ∀ {H : AM}, AF id (FA ρ H) = some o -> ∃ i o1, AF i H = some o1 /\ ρ i = id /\ o = Lv ρ o1
 | [], h => by simp [FA, AF] at h
 | (k, v) :: H, h => by
  unfold FA AF at h
  split at h
  .rename_i e; cases h; exact ⟨k, v, by simp [AF], e.symm, rfl⟩
  rename_i e
  obtain ⟨i, o1, h1, h2, h3⟩ := O0 h
  refine ⟨i, o1, ?_, h2, h3⟩
  unfold AF
  rw [if_neg (fun e2 => e (by rw [<- h2, e2]))]
  exact h1
theorem Sv {α : Type} {id : Nat} {o : α} : ∀ {a b : List (Nat × α)}, AF id (a ++ b) = some o -> AF id a = some o \/ AF id b = some o
 | [], b, h => .inr h
 | (k, v) :: a, b, h => by
  rw [List.cons_append] at h
  have e1 : ∀ l : List (Nat × α), AF id ((k, v) :: l) = if id = k then some v else AF id l := fun _ => rfl
  rw [e1] at h
  by_cases e : id = k
  .rw [if_pos e] at h; rw [e1, if_pos e]; exact .inl h
  rw [if_neg e] at h; rw [e1, if_neg e]; exact Sv h
section
variable {O : Nat -> Prop} {μ μ' : Nat -> Option BV} {w : World} {ρ : Nat -> Nat}
theorem UB {v : Value} {l : LV} (hf : Y1 l = true) (hμ : ∀ i loc, Y0 l = some i -> μ (ρ i) = some loc -> μ' i = some loc) (h : AW O μ w v (Ky ρ l)) : AW O μ' w v l := by
 cases l with
 | p d => cases h with | p _ _ h => exact .p _ _ h
 | lsl id sz off len =>
  cases h with
  | lsln _ loc hm hn => exact .lsln id loc (hμ _ _ rfl hm) hn
  | lsl _ _ _ cap a loc hm hn hcap hl ha hb hs => exact .lsl id off len cap a loc (hμ _ _ rfl hm) hn hcap hl ha hb hs
 | lpb id off => cases h with | lpb _ _ loc hm hn => exact .lpb id off loc (hμ _ _ rfl hm) hn
 | lpe id i off => cases h with | lpe _ _ _ loc hm hn => exact .lpe id i off loc (hμ _ _ rfl hm) hn
 | lmap id => cases h with | lmap _ loc hm hn => exact .lmap id loc (hμ _ _ rfl hm) hn
 | und => cases h; exact .und
 | any => exact .any v
 | agg l => cases hf
 | tup l => cases hf
 | fn f l => cases hf
theorem Sw {v : Value} {l : LV} (hf : Y1 l = true) (hμ : ∀ i loc, Y0 l = some i -> μ' i = some loc -> μ (ρ i) = some loc) (h : AW O μ' w v l) : AW O μ w v (Ky ρ l) := by
 cases l with
 | p d => cases h with | p _ _ h => exact .p _ _ h
 | lsl id sz off len =>
  cases h with
  | lsln _ loc hm hn => exact .lsln _ loc (hμ _ _ rfl hm) hn
  | lsl _ _ _ cap a loc hm hn hcap hl ha hb hs => exact .lsl _ off len cap a loc (hμ _ _ rfl hm) hn hcap hl ha hb hs
 | lpb id off => cases h with | lpb _ _ loc hm hn => exact .lpb _ off loc (hμ _ _ rfl hm) hn
 | lpe id i off => cases h with | lpe _ _ _ loc hm hn => exact .lpe _ i off loc (hμ _ _ rfl hm) hn
 | lmap id => cases h with | lmap _ loc hm hn => exact .lmap _ loc (hμ _ _ rfl hm) hn
 | und => cases h; exact .und
 | any => exact .any v
 | agg l => cases hf
 | tup l => cases hf
 | fn f l => cases hf
theorem YJ {gl : List (Nat × Nat)} {m : Nat} {loc : BV} {o : A2} (hf : Ss gl m o = true) (hμ : ∀ i lc, (m <= i \/ ∃ j, AF i gl = some j) -> μ (ρ i) = some lc -> μ' i = some lc) (h : DG O μ w loc (Lv ρ o)) : DG O μ' w loc o := by
 cases o with
 | row e sz el => exact h
 | map mp => exact h
 | iter cur left => exact h
 | box cs =>
  obtain ⟨hn, c, t, h1, h2, h3⟩ := h
  refine ⟨hn, c, t, h1, by simpa using h2, fun i v l hv hl => ?_⟩
  have hok := List.all_eq_true.1 hf l (List.mem_of_getElem? hl)
  simp only [Lw, Bool.and_eq_true] at hok
  refine UB hok.1 (fun j lc hj hm => hμ j lc ?_ hm) (h3 i v _ hv (by rw [List.getElem?_map, hl]; rfl))
  have h4 := hok.2
  rw [hj] at h4
  simp only [Bool.or_eq_true, Nat.ble_eq] at h4
  exact h4.imp (fun x => x) fun h5 => Option.isSome_iff_exists.1 h5
theorem W1 {gl : List (Nat × Nat)} {m : Nat} {loc : BV} {o : A2} (hf : Ss gl m o = true) (hμ : ∀ i lc, (m <= i \/ ∃ j, AF i gl = some j) -> μ' i = some lc -> μ (ρ i) = some lc) (h : DG O μ' w loc o) : DG O μ w loc (Lv ρ o) := by
 cases o with
 | row e sz el => exact h
 | map mp => exact h
 | iter cur left => exact h
 | box cs =>
  obtain ⟨hn, c, t, h1, h2, h3⟩ := h
  refine ⟨hn, c, t, h1, by simpa using h2, fun i v l hv hl => ?_⟩
  rw [List.getElem?_map] at hl
  cases hc : cs[i]? with
  | none => rw [hc] at hl; cases hl
  | some x =>
   rw [hc] at hl
   cases hl
   have hok := List.all_eq_true.1 hf x (List.mem_of_getElem? hc)
   simp only [Lw, Bool.and_eq_true] at hok
   refine Sw hok.1 (fun j lc hj hm => hμ j lc ?_ hm) (h3 i v x hv hc)
   have h4 := hok.2
   rw [hj] at h4
   simp only [Bool.or_eq_true, Nat.ble_eq] at h4
   exact h4.imp (fun x => x) fun h5 => Option.isSome_iff_exists.1 h5
end
section
variable {P : Program}
theorem UC {k : Nat} {H H1 : AM} {m m1 : Nat} {ls : List LV} {L : LV} (hM : ∀ A : BB, (∀ id, A.μ0 id ≠ none -> id < m) -> C2 P A H m k ls (fun l h c => l = L /\ h = H1 /\ c = m1))
  (gl : List (Nat × Nat)) {A : BB} {h : AM} {c : Nat} {F : Nat -> Prop} (hF : ∀ q, c <= q -> F q) (hB : QY gl m m1 H H1 = true) (hobj : Kb (B8 gl m c) h H) (hls : ls.all (Lw gl m) = true) (hL : V5 gl m L = true)
  {μ : Nat -> Option BV} {w : World} {vs : Array Value} (hh : HRel A μ h F w) (hsz : vs.size = ls.length) (hr : ∀ (i : Nat) (v : Value) (x : LV), vs[i]? = some v -> (ls.map (Ky (B8 gl m c)))[i]? = some x -> AW (Aa A μ h) μ w v x) :
  Calls P k vs w fun en w' => ∃ u μ', en = .returned u /\ HRel A μ' (FA (B8 gl m c) H1 ++ B3 (gl.map (·.2)) h) (fun q => F q /\ (q < c \/ c + (m1 - m) <= q)) w' /\ AW (Aa A μ' (FA (B8 gl m c) H1 ++ B3 (gl.map (·.2)) h)) μ' w' u (Su (B8 gl m c) L) /\ ∀ v x, AW (Aa A μ h) μ w v x -> AW (Aa A μ' (FA (B8 gl m c) H1 ++ B3 (gl.map (·.2)) h)) μ' w' v x := by
 simp only [QY, Bool.and_eq_true, List.all_eq_true, Nat.ble_eq, Bool.or_eq_true, beq_iff_eq, bne_iff_ne] at hB
 obtain ⟨⟨⟨hm, hH⟩, hgl⟩, hH1⟩ := hB
 have key : ∀ i o, AF i H = some o -> i < m /\ (∃ j, AF i gl = some j) /\ Ss gl m o = true := fun i o hl => by
  obtain ⟨⟨h1, h2⟩, h3⟩ := hH _ (Dq hl)
  exact ⟨h1, Option.isSome_iff_exists.1 h2, h3⟩
 have gkey : ∀ i j, AF i gl = some j -> ∃ o, AF i H = some o := fun i j hl => Option.isSome_iff_exists.1 (hgl _ (Dq hl)).1
 have ginj : ∀ i i' j, AF i gl = some j -> AF i' gl = some j -> i = i' := fun i i' j h1 h2 => by
  have := (hgl _ (Dq h1)).2 _ (Dq h2)
  rcases this with h | h
  .exact h
  exact absurd rfl h
 have rg : ∀ i j, AF i gl = some j -> B8 gl m c i = j := fun i j hl => by unfold B8; rw [hl]
 have rn : ∀ i, m <= i -> B8 gl m c i = c + (i - m) := fun i hi => by
  unfold B8
  cases hl : AF i gl with
  | none => rfl
  | some j =>
   obtain ⟨o, ho⟩ := gkey i j hl
   have := (key i o ho).1
   omega
 have hlt : ∀ id loc, μ id = some loc -> id < c := by
  intro id loc hm'
  by_cases hi : id < c
  .exact hi
  rw [hh.fresh id (hF id (by omega))] at hm'; cases hm'
 let μ' : Nat -> Option BV := fun i => match AF i gl with | some j => μ j | none => none
 have μg : ∀ i j, AF i gl = some j -> μ' i = μ j := fun i j hl => by simp only [μ', hl]
 have μlt : ∀ i loc, μ' i = some loc -> ∃ j, AF i gl = some j /\ μ j = some loc := by
  intro i loc hi
  cases hl : AF i gl with
  | none => simp only [μ', hl] at hi; cases hi
  | some j => exact ⟨j, rfl, by rw [<- μg i j hl]; exact hi⟩
 have hobj' : ∀ i o, AF i H = some o -> ∃ j, AF i gl = some j /\ AF j h = some (Lv (B8 gl m c) o) := fun i o hl => by
  obtain ⟨_, ⟨j, hj⟩, _⟩ := key i o hl
  have := OY hobj hl
  rw [rg i j hj] at this
  exact ⟨j, hj, this⟩
 have mine : ∀ b, By μ' H b -> By μ h b /\ ∃ i j o loc, AF i H = some o /\ AF i gl = some j /\ AF j h = some (Lv (B8 gl m c) o) /\ μ j = some loc /\ loc.nil = false /\ loc.b = b := by
  rintro b ⟨i, o, loc, h1, h2, h3, h4⟩
  obtain ⟨j, hj, hj2⟩ := hobj' i o h1
  rw [μg i j hj] at h2
  exact ⟨⟨j, _, loc, hj2, h2, h3, h4⟩, i, j, o, loc, h1, hj, hj2, h2, h3, h4⟩
 have ownlt : ∀ b, Aa A μ h b -> b < w.heap.size := by
  rintro b (hb | ⟨id, o, loc, h1, h2, h3, rfl⟩)
  .exact Nat.lt_of_lt_of_le (A.hO b hb).1 hh.size
  exact (hh.base id o loc h1 h2 h3).1
 let A' : BB := ⟨w, fun b => Aa A μ h b /\ ¬ By μ' H b, By μ' H, μ', fun b hb => ⟨ownlt b hb.1, hb.2⟩⟩
 have own1 : ∀ b, Aa A' μ' H b -> Aa A μ h b := by
  rintro b (hb | hb)
  .exact hb.1
  exact .inr (mine b hb).1
 have own2 : ∀ b, Aa A μ h b -> Aa A' μ' H b := fun b hb => by
  by_cases hc : By μ' H b
  .exact .inr hc
  exact .inl ⟨hb, hc⟩
 have hh' : HRel A' μ' H (Fr m) w := by
  refine ⟨?_, ?_, ?_, ?_, Nat.le_refl _, fun _ _ _ => rfl, rfl, rfl, rfl, fun _ _ hm' => hm'⟩
  .intro i o hl
   obtain ⟨j, hj, hj2⟩ := hobj' i o hl
   obtain ⟨loc, h1, h2⟩ := hh.obj j _ hj2
   refine ⟨loc, by rw [μg i j hj]; exact h1, ?_⟩
   have h3 : DG (Aa A' μ' H) μ w loc (Lv (B8 gl m c) o) := h2.mono (BR.refl _ _) (fun b _ hb => own1 b hb) (fun _ _ h => h) (fun _ => rfl)
   refine YJ (key i o hl).2.2 (fun i' lc hi' hm' => ?_) h3
   rcases hi' with hi' | ⟨j', hj'⟩
   .rw [rn i' hi'] at hm'
    have := hlt _ _ hm'
    omega
   rw [rg i' j' hj'] at hm'
   rw [μg i' j' hj']; exact hm'
  .intro i i' o o' loc loc' h1 h2 m1' m2' n1 n2 he
   obtain ⟨j, hj, hj2⟩ := hobj' i o h1
   obtain ⟨j', hj', hj2'⟩ := hobj' i' o' h2
   rw [μg i j hj] at m1'
   rw [μg i' j' hj'] at m2'
   have := hh.inj _ _ _ _ _ _ hj2 hj2' m1' m2' n1 n2 he
   subst this
   exact ginj _ _ _ hj hj'
  .intro i hi
   cases hm' : μ' i with
   | none => rfl
   | some loc =>
    obtain ⟨j, hj, _⟩ := μlt i loc hm'
    obtain ⟨o, ho⟩ := gkey i j hj
    have := (key i o ho).1
    simp only [Fr] at hi; omega
  intro i o loc h1 h2 h3
  have hmine : By μ' H loc.b := ⟨i, o, loc, h1, h2, h3, rfl⟩
  exact ⟨ownlt _ (.inr (mine _ hmine).1), fun hb => hb.2 hmine, .inr hmine⟩
 have hargs : ∀ (i : Nat) (v : Value) (l : LV), vs[i]? = some v -> ls[i]? = some l -> AW (Aa A' μ' H) μ' w v l := by
  intro i v l hv hl
  have hok := List.all_eq_true.1 hls l (List.mem_of_getElem? hl)
  simp only [Lw, Bool.and_eq_true] at hok
  have h1 := (hr i v _ hv (by rw [List.getElem?_map, hl]; rfl)).mono (O' := Aa A' μ' H) (BR.refl _ _) (fun b _ hb => own1 b hb) (fun _ _ h => h)
  refine UB hok.1 (fun i' lc hi' hm' => ?_) h1
  have h4 := hok.2
  rw [hi'] at h4
  simp only [Bool.or_eq_true, Nat.ble_eq] at h4
  rcases h4 with h4 | h4
  .rw [rn i' h4] at hm'
   have := hlt _ _ hm'
   omega
  obtain ⟨j', hj'⟩ := Option.isSome_iff_exists.1 h4
  rw [rg i' j' hj'] at hm'
  rw [μg i' j' hj']; exact hm'
 have hμ0 : ∀ id, A'.μ0 id ≠ none -> id < m := by
  intro id hid
  cases hm' : μ' id with
  | none => exact absurd hm' hid
  | some loc =>
   obtain ⟨j, hj, _⟩ := μlt id loc hm'
   obtain ⟨o, ho⟩ := gkey id j hj
   exact (key id o ho).1
 refine ((hM A' hμ0).2 μ' w vs hh' hsz hargs).mono ?_
 rintro e w' ⟨u, l, h1, c1, μ'', he, ⟨rfl, rfl, rfl⟩, hh2, hu, -⟩
 let μ3 : Nat -> Option BV := fun id => if id < c then μ id else μ'' (m + (id - c))
 have ext : ∀ i loc, μ' i = some loc -> μ'' i = some loc := fun i loc hi => hh2.ext i loc hi
 have μ3o : ∀ id loc, μ id = some loc -> μ3 id = some loc := fun id loc hm' => by simp only [μ3, if_pos (hlt id loc hm'), hm']
 have name : ∀ i lc, (m <= i \/ ∃ j, AF i gl = some j) -> μ'' i = some lc -> μ3 (B8 gl m c i) = some lc := by
  intro i lc hi hm'
  rcases hi with hi | ⟨j, hj⟩
  .rw [rn i hi]
   simp only [μ3]
   rw [if_neg (by omega), show m + (c + (i - m) - c) = i by omega]
   exact hm'
  obtain ⟨o, ho⟩ := gkey i j hj
  obtain ⟨j', hj', hj2⟩ := hobj' i o ho
  rw [hj] at hj'
  cases hj'
  obtain ⟨loc, g1, _⟩ := hh.obj j _ hj2
  have := ext i loc (by rw [μg i j hj]; exact g1)
  rw [hm'] at this
  cases this
  rw [rg i j hj]
  exact μ3o j _ g1
 have new : ∀ id o, AF id (FA (B8 gl m c) h1) = some o -> ∃ i o1, AF i h1 = some o1 /\ B8 gl m c i = id /\ o = Lv (B8 gl m c) o1 /\ (m <= i \/ ∃ j, AF i gl = some j) /\ Ss gl m o1 = true := by
  intro id o hl
  obtain ⟨i, o1, g1, g2, g3⟩ := O0 hl
  obtain ⟨g4, g5⟩ := hH1 _ (Dq g1)
  exact ⟨i, o1, g1, g2, g3, g4.imp (fun x => x) fun h5 => Option.isSome_iff_exists.1 h5, g5⟩
 have cases' : ∀ id o, AF id (FA (B8 gl m c) h1 ++ B3 (gl.map (·.2)) h) = some o -> (∃ i o1, AF i h1 = some o1 /\ B8 gl m c i = id /\ o = Lv (B8 gl m c) o1 /\ (m <= i \/ ∃ j, AF i gl = some j) /\ Ss gl m o1 = true) \/ (id ∉ gl.map (·.2) /\ AF id h = some o) := by
  intro id o hl
  rcases Sv hl with hl | hl
  .exact .inl (new id o hl)
  exact .inr (GH hl)
 have other : ∀ id o loc, id ∉ gl.map (·.2) -> AF id h = some o -> μ id = some loc -> loc.nil = false -> ¬ By μ' H loc.b := by
  intro id o loc hid hl hm' hn hmine
  obtain ⟨_, i, j, o', loc', g1, g2, g3, g4, g5, g6⟩ := mine _ hmine
  have := hh.inj _ _ _ _ _ _ g3 hl g4 hm' g5 hn g6
  subst this
  exact hid (List.mem_map.2 ⟨(i, j), Dq g2, rfl⟩)
 have hkept : BR (Aa A μ h) w w' := ⟨hh2.size, fun b hb hO => hh2.block b hb fun hm' => hO (.inr (mine b hm').1)⟩
 have nmine : ∀ b, By μ3 (FA (B8 gl m c) h1 ++ B3 (gl.map (·.2)) h) b -> By μ'' h1 b \/ (Aa A μ h b /\ ¬ By μ' H b) := by
  rintro b ⟨id, o, loc, g1, g2, g3, g4⟩
  rcases cases' id o g1 with ⟨i, o1, k1, k2, k3, k4, k5⟩ | ⟨k1, k2⟩
  .left
   obtain ⟨lc, q1, _⟩ := hh2.obj i o1 k1
   have := name i lc k4 q1
   rw [k2, g2] at this
   cases this
   exact ⟨i, o1, loc, k1, q1, g3, g4⟩
  right
  obtain ⟨lc, q1, _⟩ := hh.obj id o k2
  have := μ3o id lc q1
  rw [g2] at this
  cases this
  rw [<- g4]
  exact ⟨.inr ⟨id, o, loc, k2, q1, g3, rfl⟩, other id o loc k1 k2 q1 g3⟩
 have own3 : ∀ b, Aa A μ3 (FA (B8 gl m c) h1 ++ B3 (gl.map (·.2)) h) b -> Aa A' μ'' h1 b := by
  rintro b (hb | hb)
  .refine .inl ⟨.inl hb, fun hm' => ?_⟩
   obtain ⟨_, i, j, o', loc', g1, g2, g3, g4, g5, rfl⟩ := mine _ hm'
   exact (hh.base j _ loc' g3 g4 g5).2.1 hb
  rcases nmine b hb with hb | hb
  .exact .inr hb
  exact .inl hb
 have own4 : ∀ b, b < w.heap.size -> Aa A μ3 (FA (B8 gl m c) h1 ++ B3 (gl.map (·.2)) h) b -> Aa A μ h b := by
  rintro b hlt' (hb | hb)
  .exact .inl hb
  rcases nmine b hb with ⟨i, o1, loc, k1, k2, k3, rfl⟩ | hb
  .rcases (hh2.base i o1 loc k1 k2 k3).2.2 with hx | hx
   .exact absurd hx (by show ¬ w.heap.size <= _; omega)
   exact .inr (mine _ hx).1
  exact hb.1
 have hu2 : AW (Aa A μ3 (FA (B8 gl m c) h1 ++ B3 (gl.map (·.2)) h)) μ'' w' u l := hu.mono (BR.refl _ _) (fun b _ hb => own3 b hb) (fun _ _ h => h)
 have one : ∀ v x, Lw gl m x = true -> AW (Aa A μ3 (FA (B8 gl m c) h1 ++ B3 (gl.map (·.2)) h)) μ'' w' v x -> AW (Aa A μ3 (FA (B8 gl m c) h1 ++ B3 (gl.map (·.2)) h)) μ3 w' v (Ky (B8 gl m c) x) := by
  intro v x hx hv
  simp only [Lw, Bool.and_eq_true] at hx
  refine Sw hx.1 (fun i' lc' hi' hm' => name i' lc' ?_ hm') hv
  have h4 := hx.2
  rw [hi'] at h4
  simp only [Bool.or_eq_true, Nat.ble_eq] at h4
  exact h4.imp (fun x => x) fun h5 => Option.isSome_iff_exists.1 h5
 refine ⟨u, μ3, he, ⟨?_, ?_, ?_, ?_, Nat.le_trans hh.size hh2.size, ?_, hh2.os.trans hh.os, hh2.tape.trans hh.tape, hh2.output.trans hh.output, fun id loc hm' => μ3o id loc (hh.ext id loc hm')⟩, ?_, fun v x hv => hv.mono hkept own4 μ3o⟩
 .intro id o hl
  rcases cases' id o hl with ⟨i, o1, k1, k2, rfl, k4, k5⟩ | ⟨k1, k2⟩
  .obtain ⟨lc, q1, q2⟩ := hh2.obj i o1 k1
   refine ⟨lc, by rw [<- k2]; exact name i lc k4 q1, ?_⟩
   have q3 : DG (Aa A μ3 (FA (B8 gl m c) h1 ++ B3 (gl.map (·.2)) h)) μ'' w' lc o1 := q2.mono (BR.refl _ _) (fun b _ hb => own3 b hb) (fun _ _ h => h) (fun _ => rfl)
   exact W1 k5 (fun i' lc' hi' hm' => name i' lc' hi' hm') q3
  obtain ⟨lc, q1, q2⟩ := hh.obj id o k2
  refine ⟨lc, μ3o id lc q1, q2.mono hkept own4 μ3o fun hn => ?_⟩
  exact hh2.block _ (hh.base id o lc k2 q1 hn).1 (other id o lc k1 k2 q1 hn)
 .intro id id' o o' loc loc' g1 g2 m1' m2' n1 n2 hb
  rcases cases' id o g1 with ⟨i, o1, k1, k2, k3, k4, k5⟩ | ⟨k1, k2⟩
  .obtain ⟨lc, q1, _⟩ := hh2.obj i o1 k1
   have e1 := name i lc k4 q1
   rw [k2, m1'] at e1
   cases e1
   rcases cases' id' o' g2 with ⟨i', o1', k1', k2', k3', k4', k5'⟩ | ⟨k1', k2'⟩
   .obtain ⟨lc', q1', _⟩ := hh2.obj i' o1' k1'
    have e1' := name i' lc' k4' q1'
    rw [k2', m2'] at e1'
    cases e1'
    have := hh2.inj _ _ _ _ _ _ k1 k1' q1 q1' n1 n2 hb
    rw [<- k2, <- k2', this]
   exfalso
   obtain ⟨lc', q1', _⟩ := hh.obj id' o' k2'
   have e1' := μ3o id' lc' q1'
   rw [m2'] at e1'
   cases e1'
   have hno := other id' o' loc' k1' k2' q1' n2
   have hsz' := (hh.base id' o' loc' k2' q1' n2).1
   rcases (hh2.base i o1 loc k1 q1 n1).2.2 with hx | hx
   .have : w.heap.size <= loc.b := hx
    omega
   rw [hb] at hx; exact hno hx
  obtain ⟨lc, q1, _⟩ := hh.obj id o k2
  have e1 := μ3o id lc q1
  rw [m1'] at e1
  cases e1
  rcases cases' id' o' g2 with ⟨i', o1', k1', k2', k3', k4', k5'⟩ | ⟨k1', k2'⟩
  .exfalso
   obtain ⟨lc', q1', _⟩ := hh2.obj i' o1' k1'
   have e1' := name i' lc' k4' q1'
   rw [k2', m2'] at e1'
   cases e1'
   have hno := other id o loc k1 k2 q1 n1
   have hsz' := (hh.base id o loc k2 q1 n1).1
   rcases (hh2.base i' o1' loc' k1' q1' n2).2.2 with hx | hx
   .have : w.heap.size <= loc'.b := hx
    omega
   rw [<- hb] at hx; exact hno hx
  obtain ⟨lc', q1', _⟩ := hh.obj id' o' k2'
  have e1' := μ3o id' lc' q1'
  rw [m2'] at e1'
  cases e1'
  exact hh.inj _ _ _ _ _ _ k2 k2' q1 q1' n1 n2 hb
 .rintro id ⟨hid, hid2⟩
  simp only [μ3]
  by_cases hc : id < c
  .rw [if_pos hc]; exact hh.fresh id hid
  rw [if_neg hc]
  exact hh2.fresh _ (by simp only [Fr]; omega)
 .intro id o loc g1 g2 g3
  rcases cases' id o g1 with ⟨i, o1, k1, k2, k3, k4, k5⟩ | ⟨k1, k2⟩
  .obtain ⟨lc, q1, _⟩ := hh2.obj i o1 k1
   have e1 := name i lc k4 q1
   rw [k2, g2] at e1
   cases e1
   obtain ⟨b1, b2, b3⟩ := hh2.base i o1 loc k1 q1 g3
   refine ⟨b1, fun hO => b2 ⟨.inl hO, fun hm' => ?_⟩, ?_⟩
   .obtain ⟨_, i', j', o', loc', g1', g2', g3', g4', g5', g6'⟩ := mine _ hm'
    rw [<- g6'] at hO
    exact (hh.base j' _ loc' g3' g4' g5').2.1 hO
   rcases b3 with hx | hx
   .exact .inl (Nat.le_trans hh.size hx)
   obtain ⟨_, i', j', o', loc', g1', g2', g3', g4', g5', g6'⟩ := mine _ hx
   rw [<- g6']
   exact (hh.base j' _ loc' g3' g4' g5').2.2
  obtain ⟨lc, q1, _⟩ := hh.obj id o k2
  have e1 := μ3o id lc q1
  rw [g2] at e1
  cases e1
  obtain ⟨b1, b2, b3⟩ := hh.base id o loc k2 q1 g3
  exact ⟨Nat.lt_of_lt_of_le b1 hh2.size, b2, b3⟩
 .intro b hb hnf
  have hnm : ¬ By μ' H b := by
   intro hm'
   obtain ⟨_, i', j', o', loc', g1', g2', g3', g4', g5', g6'⟩ := mine _ hm'
   have := (hh.base j' _ loc' g3' g4' g5').2.2
   rw [g6'] at this
   rcases this with hx | hx
   .omega
   exact hnf hx
  rw [hh2.block b (Nat.lt_of_lt_of_le hb hh.size) hnm]
  exact hh.block b hb hnf
 have oneA : ∀ v x, Y3 gl m x = true -> AW (Aa A μ3 (FA (B8 gl m c) h1 ++ B3 (gl.map (·.2)) h)) μ'' w' v x -> AW (Aa A μ3 (FA (B8 gl m c) h1 ++ B3 (gl.map (·.2)) h)) μ3 w' v (Y2 (B8 gl m c) x) := by
  intro v x hx hv
  cases x with
  | agg xs =>
   cases hv with
   | agg vs' _ hsz' hxs =>
    refine .agg vs' _ (by simpa using hsz') fun i v x hv hx' => ?_
    rw [List.getElem?_map] at hx'
    cases hc : xs[i]? with
    | none => rw [hc] at hx'; cases hx'
    | some y =>
     rw [hc] at hx'
     cases hx'
     exact one v y (List.all_eq_true.1 hx y (List.mem_of_getElem? hc)) (hxs i v y hv hc)
  | p d => exact one v _ hx hv
  | lsl id sz off len => exact one v _ hx hv
  | lpb id off => exact one v _ hx hv
  | lpe id i off => exact one v _ hx hv
  | lmap id => exact one v _ hx hv
  | und => exact one v _ hx hv
  | any => exact one v _ hx hv
  | tup l => exact one v _ hx hv
  | fn f l => exact one v _ hx hv
 cases l with
 | tup xs =>
  cases hu2 with
  | tup vs' _ hsz' hxs =>
   refine .tup vs' _ (by simpa using hsz') fun i v x hv hx => ?_
   rw [List.getElem?_map] at hx
   cases hc : xs[i]? with
   | none => rw [hc] at hx; cases hx
   | some y =>
    rw [hc] at hx
    cases hx
    exact oneA v y (List.all_eq_true.1 hL y (List.mem_of_getElem? hc)) (hxs i v y hv hc)
 | p d => exact oneA u (.p d) hL hu2
 | lsl id sz off len => exact oneA u (.lsl id sz off len) hL hu2
 | lpb id off => exact oneA u (.lpb id off) hL hu2
 | lpe id i off => exact oneA u (.lpe id i off) hL hu2
 | lmap id => exact oneA u (.lmap id) hL hu2
 | und => exact oneA u .und hL hu2
 | any => exact oneA u .any hL hu2
 | agg l => exact oneA u (.agg l) hL hu2
 | fn f l => exact oneA u (.fn f l) hL hu2
theorem UA {k : Nat} {H H1 : AM} {m m1 : Nat} {ls : List LV} {L : LV} (hM : ∀ A : BB, (∀ id, A.μ0 id ≠ none -> id < m) -> C2 P A H m k ls (fun l h c => l = L /\ h = H1 /\ c = m1))
  (gl : List (Nat × Nat)) {A : BB} {h : AM} {c : Nat} {K : LV -> AM -> Nat -> Prop} (hB : QY gl m m1 H H1 = true) (hobj : Kb (B8 gl m c) h H) (hls : ls.all (Lw gl m) = true) (hL : V5 gl m L = true)
  (hK : K (Su (B8 gl m c) L) (FA (B8 gl m c) H1 ++ B3 (gl.map (·.2)) h) (c + (m1 - m))) : C2 P A h c k (ls.map (Ky (B8 gl m c))) K := by
 refine ⟨(hM ⟨default, fun _ => False, fun _ => False, fun _ => none, fun _ h => h.elim⟩ (fun _ h => absurd rfl h)).1, fun μ w vs hh hsz hr => ?_⟩
 refine (UC hM gl (fun q hq => by simp only [Fr]; omega) hB hobj hls hL hh (by simpa using hsz) hr).mono ?_
 rintro e w' ⟨u, μ', he, g, hu, hk⟩
 exact ⟨u, _, _, _, μ', he, hK, ⟨g.obj, g.inj, fun id hid => g.fresh id (by simp only [Fr] at hid ⊢; omega), g.base, g.size, g.block, g.os, g.tape, g.output, g.ext⟩, hu, hk⟩
theorem Y4 {k : Nat} {H H1 : AM} {m : Nat} {ls : List LV} {L : LV} (hM : ∀ A : BB, (∀ id, A.μ0 id ≠ none -> id < m) -> C2 P A H m k ls (fun l h c => l = L /\ h = H1 /\ c = m))
  (gl : List (Nat × Nat)) {h h' : AM} {ctr : Nat} {args : List LV} {l : LV} (hB : QY gl m m H H1 = true) (hobj : ∀ c, Kb (B8 gl m c) h H) (hls : ls.all (Lw gl m) = true) (hL : V5 gl m L = true)
  (ha : ∀ c, ls.map (Ky (B8 gl m c)) = args) (hl : ∀ c, Su (B8 gl m c) L = l) (hh' : ∀ c, FA (B8 gl m c) H1 ++ B3 (gl.map (·.2)) h = h') : NB P h ctr k args l h' := by
 refine ⟨(hM ⟨default, fun _ => False, fun _ => False, fun _ => none, fun _ h => h.elim⟩ (fun _ h => absurd rfl h)).1, fun A F μ w vs hh hc hF hsz hr => ?_⟩
 obtain ⟨c, hF⟩ := hF
 rw [<- ha c] at hsz hr
 have := UC hM gl hF hB (hobj c) hls hL hh (by simpa using hsz) hr
 rw [hh' c, hl c] at this
 refine this.mono ?_
 rintro e w' ⟨u, μ', he, g, hu, hk⟩
 exact ⟨u, μ', he, ⟨g.obj, g.inj, fun id hid => g.fresh id ⟨hid.1, by omega⟩, g.base, g.size, g.block, g.os, g.tape, g.output, g.ext⟩, hu, hk⟩
end
def G1 (P : Program) (k : Nat) (H : AM) (c : Nat) (args : List LV) (L : LV) (H1 : AM) (C : Nat) : Prop :=
 ∀ A : BB, (∀ id, A.μ0 id ≠ none -> id < c) -> C2 P A H c k args fun l h c' => l = L /\ h = H1 /\ c' = C
section
variable {P : Program} {AB : Ay}
theorem Sl (hE : A4 P AB) {k : Nat} {fn : Func} {cd : Code} (hfun : P.funcs[k]? = some fn) (nt' : Nat) (rs : List ResultVar) (sl' : List (Nat × LV)) (hb : fn.body = some cd) (hn : (fn.name == "runtime.NumGoroutine") = false) (hnt : Nat.beq fn.ntmps nt' = true) (hrs : fn.results.toList = rs)
  {H H1 : AM} {c C : Nat} {ls : List LV} {L : LV} (hlen : Nat.ble ls.length nt' = true) (hsl : Ks 0 ls = sl')
  (body : ∀ A : BB, (∀ id, A.μ0 id ≠ none -> id < c) -> B0 P A cd (IP AB.tt rs A L H1 C) ⟨nt', sl', H, c⟩) : G1 P k H c ls L H1 C := by
 intro A hA
 subst hsl
 refine SX hE hfun hb hn nt' (Nat.eq_of_beq_eq_true hnt) rs hrs (Nat.le_of_ble_eq_true hlen) fun A' hA' => ?_
 refine GL (T5 (body A' hA')) fun e s q => ?_
 have fin : (IE AB.tt rs s = some L /\ s.heap = H1 /\ s.ctr = C) -> ∃ l, IE AB.tt rs s = some l /\ l = L /\ s.heap = H1 /\ s.ctr = C := fun ⟨q1, q2, q3⟩ => ⟨_, q1, rfl, q2, q3⟩
 cases e <;> first | exact fin q | exact q.elim
section
variable {A : BB} {f : St -> Prop} {hf : H9 f} {nt : Nat} {sl : List (Nat × LV)} {h : AM} {c : Nat}
theorem Da {k : Nat} {H H1 : AM} {m m1 : Nat} {ls : List LV} {L L' : LV} (hM : G1 P k H m ls L H1 m1) (gl : List (Nat × Nat)) {h' : AM} {c' : Nat} {dst : Option Tmp} {fo : Operand} {args : Array Operand} {ts : Array TypeId}
  (hB : QY gl m m1 H H1 = true) (hobj : Kb (B8 gl m c) h H) (hls : ls.all (Lw gl m) = true) (hfn : A9 nt sl fo = .fn k []) (hl : DU nt sl args.toList some = some (ls.map (Ky (B8 gl m c))))
  (hh : FA (B8 gl m c) H1 ++ B3 (gl.map (·.2)) h = h') (hc : c + (m1 - m) = c') (hL : V5 gl m L = true) (hL' : Su (B8 gl m c) L = L') (kk : f (match dst with | some d => ⟨nt, (d, L') :: sl, h', c'⟩ | none => ⟨nt, sl, h', c'⟩)) :
  BC P A AB ⟨nt, sl, h, c⟩ dst (.call ⟨.value fo, args, ts⟩) ⟨f, hf⟩ := by
 rw [BD (h := h) (c := c)] at hfn
 show Lc _ _
 rw [hfn]
 show IB P A h c k (args.toList.map _ ++ []) _
 rw [En hl, List.append_nil]
 refine UA hM gl hB hobj hls hL ?_
 rw [hh, hc, hL']
 show f (St.go ⟨nt, sl, h, c⟩ dst L' h' c')
 rw [MO]
 cases dst <;> exact kk
theorem My {α : Type} {id : Nat} : ∀ {a b : List (Nat × α)}, AF id a = none -> AF id (a ++ b) = AF id b
 | [], _, _ => rfl
 | (k, v) :: a, b, h => by
  unfold AF at h
  split at h
  .cases h
  rename_i e
  show (if id = k then some v else AF id (a ++ b)) = _
  rw [if_neg e]
  exact My h
theorem RZ {l : List Nat} : ∀ {h : AM} {id : Nat}, id ∉ l -> AF id (B3 l h) = AF id h := by
 induction l with
 | nil => intro h id _; rfl
 | cons i l ih =>
  intro h id hi
  simp only [List.mem_cons, not_or] at hi
  show AF id (B3 l (Du i h)) = _
  rw [ih hi.2, DH hi.1]
def Z7 {β : Type} (gl : List (Nat × Nat)) (v : LV) (k : LV -> Option β) : Option β := match v with
 | .lsl id sz off len => (match AF id gl with | some j => k (.lsl j sz off len) | none => none)
 | .lpb id off => (match AF id gl with | some j => k (.lpb j off) | none => none)
 | .lpe id i off => (match AF id gl with | some j => k (.lpe j i off) | none => none)
 | .lmap id => (match AF id gl with | some j => k (.lmap j) | none => none)
 | x => k x
def W2 {β : Type} (gl : List (Nat × Nat)) : List LV -> (List LV -> Option β) -> Option β
 | [], k => k []
 | v :: r, k => Z7 gl v fun v' => W2 gl r fun r' => k (v' :: r')
def Z8 {β : Type} (gl : List (Nat × Nat)) (o : A2) (k : A2 -> Option β) : Option β := match o with
 | .box cs => W2 gl cs fun cs' => k (.box cs')
 | o => k o
def Xm {β : Type} (gl : List (Nat × Nat)) : AM -> (AM -> Option β) -> Option β
 | [], k => k []
 | (i, o) :: h, k => match AF i gl with
  | some j => Z8 gl o fun o' => Xm gl h fun r => k ((j, o') :: r)
  | none => none
def Rt {β : Type} : List (Nat × Nat) -> AM -> (AM -> Option β) -> Option β
 | [], h, k => k h
 | p :: l, h, k => Ot p.2 h fun h2 => Rt l h2 k
def Ru {β : Type} : AM -> AM -> (AM -> Option β) -> Option β
 | [], b, k => k b
 | x :: a, b, k => Ru a b fun r => k (x :: r)
theorem Y5 {β : Type} {gl : List (Nat × Nat)} {m c : Nat} {v : LV} {k : LV -> Option β} {z : β} (h : Z7 gl v k = some z) : k (Ky (B8 gl m c) v) = some z := by
 have key : ∀ (i : Nat) (f : Nat -> LV), (match AF i gl with | some j => k (f j) | none => none) = some z -> k (f (B8 gl m c i)) = some z := fun i f h => by
  unfold B8
  cases e : AF i gl with
  | none => rw [e] at h; cases h
  | some j => rw [e] at h; exact h
 cases v with
 | lsl id sz off len => exact key id (fun j => .lsl j sz off len) h
 | lpb id off => exact key id (fun j => .lpb j off) h
 | lpe id i off => exact key id (fun j => .lpe j i off) h
 | lmap id => exact key id (fun j => .lmap j) h
 | p d => exact h
 | und => exact h
 | any => exact h
 | agg l => exact h
 | tup l => exact h
 | fn f l => exact h
theorem UD {β : Type} {gl : List (Nat × Nat)} {m c : Nat} {z : β} : ∀ {l : List LV} {k : List LV -> Option β}, W2 gl l k = some z -> k (l.map (Ky (B8 gl m c))) = some z
 | [], _, h => h
 | v :: r, k, h => UD (l := r) (k := fun r' => k (Ky (B8 gl m c) v :: r')) (Y5 (m := m) (c := c) h)
theorem Y6 {β : Type} {gl : List (Nat × Nat)} {m c : Nat} {o : A2} {k : A2 -> Option β} {z : β} (h : Z8 gl o k = some z) : k (Lv (B8 gl m c) o) = some z := by
 cases o <;> first | exact h | exact UD (m := m) (c := c) h
theorem V6 {β : Type} {gl : List (Nat × Nat)} {m c : Nat} {z : β} : ∀ {l : AM} {k : AM -> Option β}, Xm gl l k = some z -> k (FA (B8 gl m c) l) = some z /\ ∀ p ∈ l, (AF p.1 gl).isSome = true
 | [], _, h => ⟨h, fun _ hp => by simp at hp⟩
 | (i, o) :: r, k, h => by
  unfold Xm at h
  split at h
  .rename_i j e
   have h1 := Y6 (m := m) (c := c) h
   obtain ⟨h2, h3⟩ := V6 (l := r) (k := fun r => k ((j, Lv (B8 gl m c) o) :: r)) h1
   refine ⟨?_, fun p hp => ?_⟩
   .have : B8 gl m c i = j := by unfold B8; rw [e]
    simp only [FA, this]; exact h2
   rcases List.mem_cons.1 hp with rfl | hp
   .simp only [e, Option.isSome_some]
   exact h3 p hp
  cases h
theorem Sx {β : Type} : ∀ {l : List (Nat × Nat)} {h : AM} {k : AM -> Option β}, Rt l h k = k (B3 (l.map (·.2)) h)
 | [], _, _ => rfl
 | p :: l, h, k => by
  simp only [Rt, Lh, Sx, List.map_cons, B3]
theorem Sy {β : Type} : ∀ {a b : AM} {k : AM -> Option β}, Ru a b k = k (a ++ b)
 | [], _, _ => rfl
 | x :: a, b, k => by simp only [Ru, Sy, List.cons_append]
def Y7 (gl : List (Nat × Nat)) (H1 h : AM) : Option AM := Xm gl H1 fun a => Rt gl h fun b => Ru a b some
theorem QZ {gl : List (Nat × Nat)} {H1 h h' : AM} (hu : Y7 gl H1 h = some h') (m c : Nat) : FA (B8 gl m c) H1 ++ B3 (gl.map (·.2)) h = h' /\ ∀ p ∈ H1, (AF p.1 gl).isSome = true := by
 obtain ⟨h1, h2⟩ := V6 (m := m) (c := c) hu
 rw [Sx, Sy] at h1
 exact ⟨Option.some.inj h1, h2⟩
theorem MV {k : Nat} {H H1 : AM} {m : Nat} {ls args' : List LV} {L L' : LV} (hM : G1 P k H m ls L H1 m) (gl : List (Nat × Nat)) {h' : AM} {dst : Option Tmp} {fo : Operand} {args : Array Operand} {ts : Array TypeId}
  (hB : QY gl m m H H1 = true) (hobj : ∀ c, Kb (B8 gl m c) h H) (hls : ls.all (Lw gl m) = true) (hfn : (Cq fo, A9 nt sl fo) = (true, .fn k [])) (hl : DU nt sl args.toList some = some args') (ha : ∀ c, ls.map (Ky (B8 gl m c)) = args')
  (hu : Y7 gl H1 h = some h') (hL : V5 gl m L = true) (hL' : Su (B8 gl m 0) L = L') (hLc : ∀ c, Su (B8 gl m c) L = Su (B8 gl m 0) L) (hk1 : (h'.all fun p => (AF p.1 h).isSome) = true)
  (hcm : (gl.all fun p => match AB.calm with | none => true | some b => b p.2) = true) (kk : f (match dst with | some d => ⟨nt, (d, L') :: sl, h', c + 1⟩ | none => ⟨nt, sl, h', c + 1⟩)) :
  Hw P A AB ⟨nt, sl, h, c⟩ dst (.call ⟨.value fo, args, ts⟩) ⟨f, hf⟩ := by
 obtain ⟨hdl, hfn⟩ := Prod.mk.inj hfn
 rw [BD (h := h) (c := c)] at hfn
 show (if Cq fo = true then _ else _)
 rw [if_pos hdl]
 refine ⟨L', h', ⟨fo, k, [], rfl, hfn, ?_, fun q hq hn => ?_, fun b hb id cells _ hi hbi hx => ?_⟩, ?_⟩
 .show NB P h c k (args.toList.map _ ++ []) L' h'
  rw [En hl, List.append_nil]
  exact Y4 hM gl hB hobj hls hL ha (fun c => (hLc c).trans hL') (fun c => (QZ hu m c).1)
 .cases hx : AF q h' with
  | none => rfl
  | some o =>
   have := List.all_eq_true.1 hk1 _ (Dq hx)
   simp only at this
   have hn' : AF q h = none := hn
   rw [hn'] at this; cases this
 .have hnot : id ∉ gl.map (·.2) := fun hm => by
   obtain ⟨p, hp, rfl⟩ := List.mem_map.1 hm
   have := List.all_eq_true.1 hcm p hp
   rw [hb] at this
   simp only at this
   rw [this] at hbi; cases hbi
  rw [<- (QZ hu m 0).1]
  have hno : AF id (FA (B8 gl m 0) H1) = none := by
   cases hx2 : AF id (FA (B8 gl m 0) H1) with
   | none => rfl
   | some o =>
    obtain ⟨i, o1, g1, g2, _⟩ := O0 hx2
    obtain ⟨j, hj⟩ := Option.isSome_iff_exists.1 ((QZ hu m 0).2 _ (Dq g1))
    refine absurd (List.mem_map.2 ⟨(i, j), Dq hj, ?_⟩) hnot
    rw [<- g2]; unfold B8; rw [hj]
  rw [My hno, RZ hnot]
  exact hx
 show f (St.go ⟨nt, sl, h, c⟩ dst L' h' (c + 1))
 rw [MO]
 cases dst <;> exact kk
end
end
end Go.E
/- Loops over maps, in whatever order (IV); iterators. No condition. -/
namespace Go.E
open Go Go.RowKit
section
variable {σ α Ans : Type}
def Dz (left : σ -> List α) (z : σ -> Option (σ ⊕ Ans)) (g : σ -> α -> List α -> Option (σ ⊕ Ans)) : Nat -> σ -> Ans -> Prop
 | 0, _, _ => False
 | n + 1, s, r => (left s = [] -> z s = some (.inr r) \/ ∃ s', z s = some (.inl s') /\ Dz left z g n s' r) /\
   ∀ (j : Nat) y, (left s)[j]? = some y -> g s y ((left s).eraseIdx j) = some (.inr r) \/ ∃ s', g s y ((left s).eraseIdx j) = some (.inl s') /\ Dz left z g n s' r
open Classical in
noncomputable def IV (left : σ -> List α) (z : σ -> Option (σ ⊕ Ans)) (g : σ -> α -> List α -> Option (σ ⊕ Ans)) (s : σ) : Option Ans :=
 if h : ∃ r, ∃ n, Dz left z g n s r then some (Classical.choose h) else none
theorem U2 {left : σ -> List α} {z : σ -> Option (σ ⊕ Ans)} {g : σ -> α -> List α -> Option (σ ⊕ Ans)} {s : σ} {r : Ans} (h : IV left z g s = some r) : ∃ n, Dz left z g n s r := by
 unfold IV at h
 split at h
 .rename_i hx
  cases h
  exact Classical.choose_spec hx
 cases h
theorem Dz.uniq {left : σ -> List α} {z : σ -> Option (σ ⊕ Ans)} {g : σ -> α -> List α -> Option (σ ⊕ Ans)} : ∀ {n m : Nat} {s : σ} {r r' : Ans}, Dz left z g n s r -> Dz left z g m s r' -> r = r'
 | 0, _, _, _, _, h, _ => h.elim
 | _ + 1, 0, _, _, _, _, h => h.elim
 | n + 1, m + 1, s, r, r', h1, h2 => by
  have fin : ∀ o : Option (σ ⊕ Ans), (o = some (.inr r) \/ ∃ s', o = some (.inl s') /\ Dz left z g n s' r) -> (o = some (.inr r') \/ ∃ s', o = some (.inl s') /\ Dz left z g m s' r') -> r = r' := by
   rintro o (e1 | ⟨s1, e1, a1⟩) (e2 | ⟨s2, e2, a2⟩)
   .rw [e1] at e2; cases e2; rfl
   .rw [e1] at e2; cases e2
   .rw [e1] at e2; cases e2
   rw [e1] at e2; cases e2; exact a1.uniq a2
  cases hl : left s with
  | nil => exact fin _ (h1.1 hl) (h2.1 hl)
  | cons y l =>
   have hy : (left s)[0]? = some y := by rw [hl]; rfl
   exact fin _ (h1.2 0 y hy) (h2.2 0 y hy)
theorem Wz {left : σ -> List α} {z : σ -> Option (σ ⊕ Ans)} {g : σ -> α -> List α -> Option (σ ⊕ Ans)} {s : σ} {r : Ans} {n : Nat} (h : Dz left z g n s r) : IV left z g s = some r := by
 have hx : ∃ r, ∃ n, Dz left z g n s r := ⟨r, n, h⟩
 unfold IV
 rw [dif_pos hx]
 obtain ⟨m, hm⟩ := Classical.choose_spec hx
 rw [hm.uniq h]
theorem Kx {left : σ -> List α} {z : σ -> Option (σ ⊕ Ans)} {g : σ -> α -> List α -> Option (σ ⊕ Ans)} (I : σ -> Prop) {r : Ans}
  (h0 : ∀ s, I s -> left s = [] -> z s = some (.inr r)) (h1 : ∀ s (j : Nat) y, I s -> (left s)[j]? = some y -> g s y ((left s).eraseIdx j) = some (.inr r) \/ ∃ s', g s y ((left s).eraseIdx j) = some (.inl s') /\ left s' = (left s).eraseIdx j /\ I s') {s : σ} (hs : I s) : IV left z g s = some r := by
 have key : ∀ (k : Nat) (s : σ), (left s).length = k -> I s -> Dz left z g (k + 1) s r := by
  intro k
  induction k with
  | zero =>
   intro s hk hs
   have hl : left s = [] := List.length_eq_zero_iff.1 hk
   exact ⟨fun _ => .inl (h0 s hs hl), fun j y hy => by rw [hl] at hy; simp at hy⟩
  | succ k ih =>
   intro s hk hs
   refine ⟨fun hl => by rw [hl] at hk; simp at hk, fun j y hy => ?_⟩
   rcases h1 s j y hs hy with h | ⟨s', e1, e2, e3⟩
   .exact .inl h
   have hj : j < (left s).length := (List.getElem?_eq_some_iff.1 hy).1
   exact .inr ⟨s', e1, ih s' (by rw [e2, List.length_eraseIdx, if_pos hj]; omega) e3⟩
 exact Wz (key _ s rfl hs)
end
section
variable {P : Program} {A : BB} {AB : Ay} {st : St} {σ α Ans : Type}
def NX (A : BB) (l : List α) (I0 : St) (I1 : α -> List α -> St) (e : Exit) (st : St) : Prop :=
 e = .normal /\ ((l = [] /\ A3 A st I0) \/ ∃ (j : Nat) (y : α), l[j]? = some y /\ A3 A st (I1 y (l.eraseIdx j)))
theorem Xi {l : List α} {I0 : St} {I1 : α -> List α -> St} (hl : l = []) (w : A3 A st I0) : NX A l I0 I1 .normal st := ⟨rfl, .inl ⟨hl, w⟩⟩
theorem Xj {l : List α} {I0 : St} {I1 : α -> List α -> St} {j : Nat} {y : α} (hl : l[j]? = some y) (w : A3 A st (I1 y (l.eraseIdx j))) : NX A l I0 I1 .normal st := ⟨rfl, .inr ⟨j, y, hl, w⟩⟩
theorem Xh {c1 c2 : Code} {Q : Ans -> Exit -> St -> Prop} {a : Ans} (I : σ -> St) (I0 : σ -> St) (I1 : σ -> α -> List α -> St) {left : σ -> List α} {z : σ -> Option (σ ⊕ Ans)} {g : σ -> α -> List α -> Option (σ ⊕ Ans)} {s0 : σ}
  (h : IV left z g s0 = some a) (hw : A3 A st (I s0)) (hn : ∀ s, B0 P A c1 (NX A (left s) (I0 s) (I1 s)) (I s))
  (h0 : ∀ s b, z s = some b -> B0 P A c2 (LP A I Q b) (I0 s)) (h1 : ∀ s y l b, g s y l = some b -> B0 P A c2 (LP A I Q b) (I1 s y l)) : B0 P A (.loop (.seq c1 c2)) (Q a) st := by
 obtain ⟨n, hn'⟩ := U2 h
 refine R9 (ι := Nat × σ) (fun i s => Dz left z g i.1 i.2 a /\ A3 A s (I i.2)) (fun i => i.1) (n, s0) ⟨hn', hw⟩ ?_
 rintro ⟨n, s⟩ st' ⟨hi, hws⟩
 refine EV hws ?_
 cases n with
 | zero => exact hi.elim
 | succ n =>
  have fin : ∀ (o : Option (σ ⊕ Ans)) (S : St), (∀ b, o = some b -> B0 P A c2 (LP A I Q b) S) -> (o = some (.inr a) \/ ∃ s', o = some (.inl s') /\ Dz left z g n s' a) ->
    B0 P A c2 (N2 (fun st' => ∃ i' : Nat × σ, (Dz left z g i'.1 i'.2 a /\ A3 A st' (I i'.2)) /\ i'.1 < n + 1) (Q a)) S := by
   rintro o S hS (e | ⟨s', e, hr⟩)
   .refine GL (hS _ e) fun e st'' q => ?_
    obtain ⟨he, hq⟩ := q
    cases e <;> first | exact absurd rfl he | exact hq
   refine GL (hS _ e) fun e st'' q => ?_
   obtain ⟨he, hw'⟩ := q
   subst he
   exact ⟨(n, s'), ⟨hr, hw'⟩, Nat.lt_succ_self n⟩
  refine AC (GL (hn s) fun e st'' q => ?_)
  obtain ⟨he, q⟩ := q
  subst he
  rcases q with ⟨hl, hw'⟩ | ⟨j, y, hy, hw'⟩
  .exact EV hw' (fin _ _ (h0 s) (hi.1 hl))
  exact EV hw' (fin _ _ (h1 s y _) (hi.2 j y hy))
end
section
variable {P : Program} {A : BB} {AB : Ay} {f : St -> Prop} {hf : H9 f} {nt : Nat} {sl : List (Nat × LV)} {h : AM} {c : Nat} {d : Tmp} {κ υ : Type} {ke : κ -> DV} {ve : υ -> DV}
def U3 (AB : Ay) (t : Nat) : Bool := match AB.tt t with
 | some ti => match ti.sh with | .mp _ _ => true | _ => false
 | none => false
theorem W0 {t : Nat} (h : U3 AB t = true) : ∃ ti a b, AB.tt t = some ti /\ ti.sh = .mp a b := by
 unfold U3 at h
 split at h
 .rename_i ti e
  split at h
  .rename_i a b e2; exact ⟨ti, a, b, e, e2⟩
  cases h
 cases h
theorem Rq {t : Nat} {x : Operand} {mp : List (κ × υ)} (ht : U3 AB t = true) (hx : A9 nt sl x = .p (.map (Ae ke ve mp))) (k : f ⟨nt, (d, .lpb c 0) :: sl, (c, .iter none (Ae ke ve mp)) :: h, c + 1⟩) :
  BC P A AB ⟨nt, sl, h, c⟩ (some d) (.range t x) ⟨f, hf⟩ := by
 obtain ⟨ti, a, b, h1, h2⟩ := W0 ht
 rw [BD (h := h) (c := c)] at hx
 refine AR.2 ⟨ti, h1, Dr.2 ⟨a, b, h2, ?_⟩⟩
 show Wc _ _
 rw [hx]
 exact k
theorem U4 (mp : List (κ × υ)) (j : Nat) : (Ae ke ve mp).eraseIdx j = Ae ke ve (mp.eraseIdx j) := by
 unfold Ae
 rw [List.eraseIdx_eq_take_drop_succ, List.eraseIdx_eq_take_drop_succ, List.map_append, List.map_take, List.map_drop]
theorem Yx {cur : Option (DV × DV)} {x : Operand} {id : Nat} {mp : List (κ × υ)} (b : Bool) (hx : A9 nt sl x = .lpb id 0) (hl : BN id h = some (.iter cur (Ae ke ve mp))) {H : Option (DV × DV) -> List (κ × υ) -> AM} (hu : ∀ q l, Hj id (.iter q (Ae ke ve l)) h some = some (H q l))
  (k0 : mp = [] -> f ⟨nt, (d, .tup [.p (.bool false)]) :: sl, h, c⟩)
  (k1 : ∀ (j : Nat) (y : κ × υ), mp[j]? = some y -> f ⟨nt, (d, .tup [.p (.bool true), .p (ke y.1), .p (ve y.2)]) :: sl, H (if b then some (ke y.1, ve y.2) else none) (mp.eraseIdx j), c⟩) :
  BC P A AB ⟨nt, sl, h, c⟩ (some d) (.next x false) ⟨f, hf⟩ := by
 rw [BD (h := h) (c := c)] at hx
 rw [BO] at hl
 show Ue h (St.eval ⟨nt, sl, h, c⟩ x) (fun _ => f (St.go ⟨nt, sl, h, c⟩ (some d) (.tup [.p (.bool false)]) h c)) (fun id left j p => ∃ cur', (cur' = none \/ cur' = some p) /\ f (St.go ⟨nt, sl, h, c⟩ (some d) (.tup [.p (.bool true), .p p.1, .p p.2]) (Bg id (.iter cur' (left.eraseIdx j)) h) c))
 rw [hx]
 unfold Ue
 simp only [hl]
 refine ⟨fun e => ?_, fun j p hp => ?_⟩
 .refine k0 ?_
  cases mp with
  | nil => rfl
  | cons _ _ => simp [Ae] at e
 unfold Ae at hp
 rw [List.getElem?_map] at hp
 cases hy : mp[j]? with
 | none => rw [hy] at hp; cases hp
 | some y =>
  rw [hy] at hp
  cases hp
  have hu' := hu (if b then some (ke y.1, ve y.2) else none) (mp.eraseIdx j)
  rw [EA] at hu'
  have hu2 := Option.some.inj hu'
  refine ⟨if b then some (ke y.1, ve y.2) else none, by cases b <;> simp, ?_⟩
  rw [U4, hu2]
  exact k1 j y hy
theorem Ps {x : Operand} {id : Nat} {mp : List (κ × υ)} (hx : A9 nt sl x = .lpb id 0) (hl : BN id h = some (.iter none (Ae ke ve mp))) {H : κ × υ -> List (κ × υ) -> AM} (hu : ∀ y l, Hj id (.iter (some (ke y.1, ve y.2)) (Ae ke ve l)) h some = some (H y l))
  (k0 : mp = [] -> f ⟨nt, (d, .tup [.p (.bool false)]) :: sl, h, c⟩)
  (k1 : ∀ (j : Nat) (y : κ × υ), mp[j]? = some y -> f ⟨nt, (d, .tup [.p (.bool true), .p (ke y.1), .p (ve y.2)]) :: sl, H y (mp.eraseIdx j), c⟩) :
  BC P A AB ⟨nt, sl, h, c⟩ (some d) (.next x false) ⟨f, hf⟩ :=
 Yx true hx hl (H := fun q l => (Hj id (.iter q (Ae ke ve l)) h some).getD []) (fun q l => by rw [EA]; rfl) k0 fun j y hy => by
  simp only [if_true, hu, Option.getD_some]; exact k1 j y hy
theorem Rr {p : DV × DV} {left : List (DV × DV)} {x : Operand} {id : Nat} (hx : A9 nt sl x = .lpb id 0) (hl : BN id h = some (.iter (some p) left)) {h' : AM} (hu : Hj id (.iter none left) h some = some h')
  (k : f ⟨nt, (d, .tup [.p p.1, .p p.2]) :: sl, h', c⟩) : BC P A AB ⟨nt, sl, h, c⟩ (some d) (.entry x) ⟨f, hf⟩ := by
 rw [BD (h := h) (c := c)] at hx
 rw [BO] at hl
 rw [EA] at hu
 have hu2 := Option.some.inj hu
 show Uf h (St.eval ⟨nt, sl, h, c⟩ x) (fun id p left => f (St.go ⟨nt, sl, h, c⟩ (some d) (.tup [.p p.1, .p p.2]) (Bg id (.iter none left) h) c))
 rw [hx]
 unfold Uf
 simp only [hl]
 rw [hu2]
 exact k
end
end Go.E
/- Drawn regions whose last operation waits for all others: it is run as in the text's order (a call that turns an object, a call that hands back an own row). Condition: the checks, by kernel. -/
namespace Go.E
open Go Go.RowKit
def FW (o : Oper) : Oper := { o with dst := none, op := .move (.tmp 0), guard := none }
def I4 : List Oper -> List Oper
 | [] => []
 | [o] => [FW o]
 | o :: o' :: r => o :: I4 (o' :: r)
theorem LL (o : Oper) : ∀ l : List Oper, I4 (l ++ [o]) = l ++ [FW o]
 | [] => rfl
 | [a] => rfl
 | a :: b :: l => by
  have := LL o (b :: l)
  simp only [List.cons_append] at this ⊢
  rw [I4, this]
def Pv (md : Region.Mode) (ops : Array Oper) : List Nat -> List Nat -> Bool
 | _, [] => true
 | done, i :: r => (match ops[i]? with
  | some o => o.after.all fun x => !Region.binds md x || done.contains x.on
  | none => false) && Pv md ops (i :: done) r
def Ni (md : Region.Mode) (ops : Array Oper) : List Nat -> List Nat -> Bool
 | _, [] => true
 | later, j :: r => (later.any fun k => match ops[k]? with
  | some o => o.after.any fun x => Region.binds md x && x.on == j
  | none => false) && Ni md ops (j :: later) r
def T9 (ops : Array Oper) (L : Nat) : Bool := ops.all fun o => match o.guard with
 | some (j, _) => !(j == L)
 | none => true
def V3 (md : Region.Mode) (ops : Array Oper) (listed : Array Bool) : Prop := ∀ i, listed.getD i false = true -> ∀ o, ops[i]? = some o -> ∀ x ∈ o.after, Region.binds md x = true -> listed.getD x.on false = true
section
variable {P : Program} {A : BB} {AB : Ay} {md : Region.Mode} {ops : Array Oper} {base : Nat} {K : St -> Prop}
theorem Pw {listed : Array Bool} (hr : Region.ready md ops listed = []) : ∀ (order done : List Nat), (∀ i ∈ done, listed.getD i false = true) -> (∀ i ∈ order, i < listed.size) -> Pv md ops done order = true -> ∀ i ∈ order, listed.getD i false = true
 | [], _, _, _, _, i, hi => by simp at hi
 | k :: r, done, hd, hs, ht, i, hi => by
  simp only [Pv, Bool.and_eq_true] at ht
  have hk : listed.getD k false = true := by
   cases hl : listed.getD k false with
   | true => rfl
   | false =>
    exfalso
    cases ho : ops[k]? with
    | none => rw [ho] at ht; simp at ht
    | some o =>
     rw [ho] at ht
     have hks := hs k (by simp)
     have : k ∈ Region.ready md ops listed := mem_ready.2 ⟨by
      simp only [Array.getD_eq_getD_getElem?, Array.getElem?_eq_getElem hks, Option.getD_some] at hl ⊢; exact hl, o, ho, fun x hx hb => by
      have h1 := Array.all_eq_true'.1 ht.1 x hx
      simp only [hb, Bool.not_true, Bool.false_or, List.contains_iff_mem] at h1
      exact hd _ h1⟩
     rw [hr] at this
     cases this
  rcases List.mem_cons.1 hi with rfl | hi
  .exact hk
  exact Pw hr r (k :: done) (fun j hj => by
  rcases List.mem_cons.1 hj with rfl | hj
  .exact hk
  exact hd j hj) (fun j hj => hs j (by simp [hj])) ht.2 i hi
theorem Nj {listed : Array Bool} (hc : V3 md ops listed) : ∀ (others later : List Nat), (∀ k ∈ later, ∀ o, ops[k]? = some o -> ∀ x ∈ o.after, Region.binds md x = true -> listed.getD x.on false = true) -> Ni md ops later others = true -> ∀ j ∈ others, listed.getD j false = true
 | [], _, _, _, j, hj => by simp at hj
 | k :: r, later, hl, h, j, hj => by
  simp only [Ni, Bool.and_eq_true, List.any_eq_true] at h
  obtain ⟨⟨m, hm, h1⟩, h2⟩ := h
  have hk : listed.getD k false = true := by
   cases ho : ops[m]? with
   | none => rw [ho] at h1; cases h1
   | some o =>
    rw [ho] at h1
    obtain ⟨x, hx, hx2⟩ := Array.any_eq_true'.1 h1
    simp only [Bool.and_eq_true, beq_iff_eq] at hx2
    rw [<- hx2.2]
    exact hl m hm o ho x hx hx2.1
  rcases List.mem_cons.1 hj with rfl | hj
  .exact hk
  exact Nj hc r (k :: later) (fun i hi => by
   rcases List.mem_cons.1 hi with rfl | hi
   .exact hc _ hk
   exact hl i hi) h2 j hj
theorem V4 {Q' : Exit -> Act -> World -> Prop} {listed : Array Bool} (hr : Region.ready md ops listed = []) {a : Act} {w : World} (h : Q' .normal a w) : ∀ fuel, wpAny P md ops Q' fuel listed a w
 | 0 => ⟨hr, h⟩
 | fuel + 1 => ⟨fun _ => h, fun i hi => by rw [hr] at hi; cases hi⟩
theorem Px (hE : A4 P AB) {ops' : Array Oper} {n L : Nat} {oL : Oper} (hn : n = ops.size) (hn' : n = ops'.size) (hL : ops[L]? = some oL) (hL' : ops'[L]? = some (FW oL)) (hg : oL.guard = none) (heq : ∀ i, i ≠ L -> ops'[i]? = ops[i]?) (hgs : T9 ops L = true)
  {others : List Nat} (hall : ∀ i, i < n -> i = L \/ i ∈ others) (hin : ∀ i ∈ others, i < n) (hLn : L < n) (ht : Pv md ops [] (others ++ [L]) = true) (hch : Ni md ops [L] others.reverse = true)
  {Q' : Exit -> Act -> World -> Prop} {F : St -> Prop} (hQ : ∀ st a w, F st -> R A st a w -> Q' .normal a w) (hK : ∀ st, K st -> ∃ st', A3 A { st with ctr := base + n } st' /\ BC P A AB st' oL.dst oL.op ⟨F, ⟨⟩⟩) :
  ∀ (fuel : Nat) (listed : Array Bool) (st : St) (a : Act) (w : World), listed.size = n -> V3 md ops listed -> listed.getD L true = false -> Hi P AB md ops' base K fuel listed st -> RF A (Fl base n listed) st a w -> wpAny P md ops Q' fuel listed a w := by
 have hrd : ∀ listed i, i ∈ Region.ready md ops' listed ↔ i ∈ Region.ready md ops listed := fun listed i => by
  rw [mem_ready, mem_ready]
  by_cases e : i = L
  .subst e
   rw [hL, hL']
   constructor
   .rintro ⟨h1, o, h2, h3⟩; cases h2; exact ⟨h1, oL, rfl, h3⟩
   rintro ⟨h1, o, h2, h3⟩; cases h2; exact ⟨h1, FW oL, rfl, h3⟩
  rw [heq i e]
 have hrd0 : ∀ listed, Region.ready md ops' listed = [] ↔ Region.ready md ops listed = [] := fun listed => by
  simp only [List.eq_nil_iff_forall_not_mem, hrd]
 have hne : ∀ listed : Array Bool, listed.size = n -> listed.getD L true = false -> Region.ready md ops listed ≠ [] := fun listed hs hl h0 => by
  have := Pw h0 (others ++ [L]) [] (fun i hi => by simp at hi) (fun i hi => by
   rcases List.mem_append.1 hi with hi | hi
   .have := hin i hi; omega
   simp at hi; omega) ht L (by simp)
  rw [Array.getD_eq_getD_getElem?, Array.getElem?_eq_getElem (by omega : L < listed.size)] at this hl
  simp only [Option.getD_some] at this hl
  rw [this] at hl; cases hl
 intro fuel
 induction fuel with
 | zero => intro listed st a w hs _ hl hD _; exact absurd ((hrd0 _).1 hD.1) (hne _ hs hl)
 | succ fuel ih =>
  intro listed st a w hs hc hl hD hR
  refine ⟨fun h0 => absurd h0 (hne _ hs hl), fun i hi => ?_⟩
  obtain ⟨o, l, e, ho, hd, hrec⟩ := hD.2 i ((hrd _ _).2 hi)
  obtain ⟨hun, o', ho', hdep⟩ := mem_ready.1 hi
  by_cases hiL : i = L
  .subst hiL
   rw [hL] at ho'; cases ho'
   rw [hL'] at ho; cases ho
   have hoth : ∀ j ∈ others, listed.getD j false = true := fun j hj => Nj hc others.reverse [i] (fun k hk o hok x hx hb => by
    simp at hk; subst hk
    rw [hL] at hok; cases hok
    exact hdep x hx hb) hch j (List.mem_reverse.2 hj)
   have hend : Region.ready md ops (listed.setIfInBounds i true) = [] := by
    rw [List.eq_nil_iff_forall_not_mem]
    intro j hj
    obtain ⟨g1, o2, g2, _⟩ := mem_ready.1 hj
    have hjn : j < n := by rw [hn]; exact (Array.getElem?_eq_some_iff.1 g2).1
    by_cases hji : i = j
    .subst hji
     simp [show i < listed.size by omega] at g1
    rw [getD_set_ne true hji] at g1
    rcases hall j hjn with rfl | h
    .exact hji rfl
    have := hoth j h
    rw [Array.getD_eq_getD_getElem?, Array.getElem?_eq_getElem (by omega : j < listed.size)] at this g1
    simp only [Option.getD_some] at this g1
    rw [this] at g1; cases g1
   obtain ⟨st', hev, hk⟩ : ∃ st', Fe (apS st (base + i) (FW oL) l e) st' /\ K st' := by
    cases fuel with
    | zero => exact hrec.2
    | succ f => exact hrec.1 ((hrd0 _).2 hend)
   have he : e = .keep := by
    unfold Cs FW at hd
    simp only [CE] at hd
    exact hd.1
   subst he
   have hap : apS st (base + i) (FW oL) l .keep = st := rfl
   rw [hap] at hev
   have hR2 := hR.eqv hev
   have hRR : R A { st' with ctr := base + n } a w := by
    obtain ⟨⟨μ, x1, x2⟩, x3, x4⟩ := hR2
    exact ⟨⟨μ, x1.less fun id hid => .inl hid, x2⟩, x3, x4⟩
   unfold wpOp
   rw [hL]
   have hw : Region.wanted oL (yielded ops a.tmps) = true := by unfold Region.wanted; rw [hg]
   simp only [hw, if_true]
   obtain ⟨st2, hwk, hop⟩ := hK st' hk
   exact .inl (Qn hE (QL hop) (hwk _ _ hRR) fun st'' a' w' hF hR' => V4 hend (hQ st'' a' w' hF hR') fuel)
  rw [heq i hiL] at ho
  have hlt : i < n := by rw [hn]; exact (Array.getElem?_eq_some_iff.1 ho).1
  have hd' : Cs P AB ops (st.at (base + i)) o l e := by
   unfold Cs at hd ⊢
   cases hgo : o.guard with
   | none => rw [hgo] at hd; exact hd
   | some g =>
    obtain ⟨j, want⟩ := g
    rw [hgo] at hd
    have hjL : j ≠ L := by
     have := Array.all_eq_true'.1 hgs o (Array.mem_of_getElem? ho)
     rw [hgo] at this
     simpa using this
    have hgl : DI (st.at (base + i)) ops' j = DI (st.at (base + i)) ops j := by unfold DI; rw [heq j hjL]
    simp only [hgl] at hd ⊢
    exact hd
  refine Og (st := st.at (base + i)) hE ho ⟨hR.ex, hR.nt, hR.defers⟩ (.inr ⟨i, hlt, hun, rfl⟩) ⟨base + n, fun q hq => .inl hq⟩ hd' fun a' w' hR' => ?_
  refine ih _ _ _ _ (by simpa using hs) (fun k hk o2 ho2 x hx hb => ?_) (by rw [getD_set_ne true hiL]; exact hl) hrec ?_
  .by_cases hki : i = k
   .subst hki
    rw [ho] at ho2; cases ho2
    rw [ho] at ho'; cases ho'
    exact getD_set_true (hdep x hx hb)
   rw [getD_set_ne false hki] at hk
   exact getD_set_true (hc k hk o2 ho2 x hx hb)
  have hR'' : RF A (fun id => Fl base n listed id /\ id ≠ base + i) (apS st (base + i) o l e) a' w' := by
   obtain ⟨⟨μ, x1, x2⟩, x3, x4⟩ := hR'
   refine ⟨⟨μ, ?_, fun t ht => ?_⟩, ?_, x4⟩
   .rw [Bh] at x1 ⊢; exact x1
   .have := x2 t (by rw [Ff] at ht ⊢; exact ht)
    rw [Bh, Co] at this
    rw [Bh, Co]; exact this
   rw [Ff] at x3 ⊢; exact x3
  obtain ⟨⟨μ, x1, x2⟩, x3, x4⟩ := hR''
  refine ⟨⟨μ, x1.less fun id hid => ?_, x2⟩, x3, x4⟩
  rcases hid with hid | ⟨k, hk1, hk2, rfl⟩
  .exact ⟨.inl hid, by omega⟩
  have hik : i ≠ k := by
   rintro rfl
   simp [show i < listed.size by omega] at hk2
  exact ⟨.inr ⟨k, hk1, by rw [getD_set_ne true hik] at hk2; exact hk2, rfl⟩, by omega⟩
def Hr : List Oper -> Option Oper
 | [] => none
 | [o] => some o
 | _ :: o :: r => Hr (o :: r)
theorem Ka {o : Oper} : ∀ {l : List Oper}, Hr l = some o -> ∃ pre, l = pre ++ [o]
 | [a], h => by simp [Hr] at h; subst h; exact ⟨[], rfl⟩
 | a :: b :: l, h => by
  obtain ⟨pre, e⟩ := Ka (l := b :: l) (by simpa [Hr] using h)
  exact ⟨a :: pre, by rw [e]; rfl⟩
def Py (ops : List Oper) (others : List Nat) : Bool :=
 match Hr ops with
 | none => false
 | some o => o.guard.isNone && (T9 ops.toArray (ops.length - 1) && ((List.range ops.length).all (fun i => Nat.beq i (ops.length - 1) || others.contains i) && ((others.all fun i => Nat.blt i ops.length) &&
   (Pv .any ops.toArray [] (others ++ [ops.length - 1]) && Ni .any ops.toArray [ops.length - 1] others.reverse))))
theorem AAG (q : Bool) (hE : A4 P AB) (hm : P.follows .mixedOrders = true) {id : Nat} {ops : List Oper} {Q : Exit -> St -> Prop} {nt : Nat} {sl : List (Nat × LV)} {h : AM} {c : Nat} (others : List Nat) (n : Nat) {oL : Oper}
  (hq : (!q || AB.calm.isSome) = true) (hlast : Hr ops = some oL) (hcl : Py ops others = true) (hok : GM q AB.own .any (I4 ops).toArray (others ++ [ops.length - 1]) (Array.replicate ops.length false) = true) (hl : Nat.beq (others.length + 1) ops.length = true) (hn : Nat.beq ops.length n = true)
  (k : C4 P A AB c n ⟨fun st => BC P A AB st oL.dst oL.op ⟨Q .normal, ⟨⟩⟩, ⟨⟩⟩ (Ef (I4 ops) (others ++ [n - 1])) ⟨nt, sl, h, c⟩) : B0 P A (.region id ops.toArray true) Q ⟨nt, sl, h, c⟩ := fun a w hR => by
 have hn' := Nat.eq_of_beq_eq_true hn
 subst hn'
 have hq' : q = true -> ∃ b, AB.calm = some b := fun e => by subst e; exact Option.isSome_iff_exists.1 (by simpa using hq)
 obtain ⟨pre, rfl⟩ := Ka hlast
 unfold Py at hcl
 rw [hlast] at hcl
 simp only [Bool.and_eq_true, Option.isNone_iff_eq_none] at hcl
 obtain ⟨g0, g1, g2, g3, g4, g5⟩ := hcl
 have hlen : (pre ++ [oL]).length - 1 = pre.length := by simp
 rw [hlen] at g1 g2 g4 g5 hok k
 rw [LL] at hok k
 have hsz : (pre ++ [FW oL]).length = (pre ++ [oL]).length := by simp
 have hb : ((others ++ [pre.length]).all fun i => decide (i < (pre ++ [FW oL]).length)) = true := by
  rw [List.all_eq_true] at g3 ⊢
  intro i hi
  rcases List.mem_append.1 hi with hi | hi
  .have := Nat.le_of_ble_eq_true (g3 i hi)
   simp only [List.length_append, List.length_cons, List.length_nil, decide_eq_true_eq] at this ⊢
   omega
  simp at hi; subst hi; simp
 rw [<- hsz] at k hok
 have hd := GN (others ++ [pre.length]) _ hb k
 refine wp_region_any hm ?_
 have hR' := (hR.drawn (w.drawn + 1)).toRF
 have hfr : ∀ k, AF (c + k) h = none := by
  intro k
  cases hx : AF (c + k) h with
  | none => rfl
  | some o =>
   obtain ⟨⟨μ, hh, _⟩, _, _⟩ := hR
   obtain ⟨loc, h1, _⟩ := hh.obj _ _ hx
   rw [hh.fresh _ (by simp [Fr])] at h1; cases h1
 have hD := HQ q hq' (others ++ [pre.length]) (Array.replicate (pre ++ [FW oL]).length false) ⟨nt, sl, h, c⟩ hok (fun k _ => hfr k) hd
 have hol : (others ++ [pre.length]).length = (pre ++ [oL]).length := by
  have := Nat.eq_of_beq_eq_true hl
  simpa using this
 rw [hol, hsz] at hD
 have hs2 : (pre ++ [oL]).toArray.size = (pre ++ [oL]).length := by simp
 rw [hs2]
 have hL0 : pre.length < (pre ++ [oL]).length := by simp
 refine Px (A := A) (n := (pre ++ [oL]).length) (L := pre.length) (oL := oL) (ops' := (pre ++ [FW oL]).toArray) (F := Q .normal) (base := c) hE (by simp) (by simp) (by simp) (by simp) g0 (fun i hi => ?_) g1 (others := others) (fun i hi => ?_) (fun i hi => ?_) hL0 g4 g5
  (fun st a w hF hRR => ⟨st, hRR, hF⟩) (fun st hK => ⟨_, A3.refl _, hK⟩) (pre ++ [oL]).length _ _ a _ (by simp) (fun i hi => ?_) ?_ hD ?_
 .simp only [List.getElem?_toArray]
  rcases Nat.lt_trichotomy i pre.length with h' | h' | h'
  .rw [List.getElem?_append_left h', List.getElem?_append_left h']
  .exact absurd h' hi
  rw [List.getElem?_eq_none (by simp; omega), List.getElem?_eq_none (by simp; omega)]
 .have := List.all_eq_true.1 g2 i (List.mem_range.2 hi)
  simp only [Bool.or_eq_true, List.contains_iff_mem] at this
  exact this.imp (fun h => Nat.eq_of_beq_eq_true h) fun h => h
 .exact Nat.le_of_ble_eq_true (List.all_eq_true.1 g3 i hi)
 .exfalso
  rw [Array.getD_eq_getD_getElem?] at hi
  rcases Nat.lt_or_ge i (pre ++ [oL]).length with h' | h'
  .rw [Array.getElem?_eq_getElem (by simpa using h')] at hi; simp at hi
  rw [Array.getElem?_eq_none (by simpa using h')] at hi; simp at hi
 .rw [Array.getD_eq_getD_getElem?, Array.getElem?_eq_getElem (by simp)]; simp
 obtain ⟨⟨μ, x1, x2⟩, x3, x4⟩ := hR'
 refine ⟨⟨μ, x1.less fun id hid => ?_, x2⟩, x3, x4⟩
 rcases hid with hid | ⟨k, _, _, rfl⟩
 .simp only [Fr]; omega
 simp [Fr]
theorem Zn (q : Bool) (hE : A4 P AB) (hm : P.follows .mixedOrders = true) {id : Nat} {ops : List Oper} {Q : Exit -> St -> Prop} {nt : Nat} {sl : List (Nat × LV)} {h : AM} {c : Nat} (others : List Nat) (n : Nat) {oL : Oper}
  (hq : (!q || AB.calm.isSome) = true) (hlast : Hr ops = some oL) (hcl : Py ops others = true) (hok : GM q AB.own .any (I4 ops).toArray (others ++ [ops.length - 1]) (Array.replicate ops.length false) = true) (hl : Nat.beq (others.length + 1) ops.length = true) (hn : Nat.beq ops.length n = true)
  (k : C4 P A AB c n ⟨fun st => ∃ st', A3 A st st' /\ BC P A AB st' oL.dst oL.op ⟨Q .normal, ⟨⟩⟩, ⟨⟩⟩ (Ef (I4 ops) (others ++ [n - 1])) ⟨nt, sl, h, c⟩) : B0 P A (.region id ops.toArray true) Q ⟨nt, sl, h, c⟩ := fun a w hR => by
 have hn' := Nat.eq_of_beq_eq_true hn
 subst hn'
 have hq' : q = true -> ∃ b, AB.calm = some b := fun e => by subst e; exact Option.isSome_iff_exists.1 (by simpa using hq)
 obtain ⟨pre, rfl⟩ := Ka hlast
 unfold Py at hcl
 rw [hlast] at hcl
 simp only [Bool.and_eq_true, Option.isNone_iff_eq_none] at hcl
 obtain ⟨g0, g1, g2, g3, g4, g5⟩ := hcl
 have hlen : (pre ++ [oL]).length - 1 = pre.length := by simp
 rw [hlen] at g1 g2 g4 g5 hok k
 rw [LL] at hok k
 have hsz : (pre ++ [FW oL]).length = (pre ++ [oL]).length := by simp
 have hb : ((others ++ [pre.length]).all fun i => decide (i < (pre ++ [FW oL]).length)) = true := by
  rw [List.all_eq_true] at g3 ⊢
  intro i hi
  rcases List.mem_append.1 hi with hi | hi
  .have := Nat.le_of_ble_eq_true (g3 i hi)
   simp only [List.length_append, List.length_cons, List.length_nil, decide_eq_true_eq] at this ⊢
   omega
  simp at hi; subst hi; simp
 rw [<- hsz] at k hok
 have hd := GN (others ++ [pre.length]) _ hb k
 refine wp_region_any hm ?_
 have hR' := (hR.drawn (w.drawn + 1)).toRF
 have hfr : ∀ k, AF (c + k) h = none := by
  intro k
  cases hx : AF (c + k) h with
  | none => rfl
  | some o =>
   obtain ⟨⟨μ, hh, _⟩, _, _⟩ := hR
   obtain ⟨loc, h1, _⟩ := hh.obj _ _ hx
   rw [hh.fresh _ (by simp [Fr])] at h1; cases h1
 have hD := HQ q hq' (others ++ [pre.length]) (Array.replicate (pre ++ [FW oL]).length false) ⟨nt, sl, h, c⟩ hok (fun k _ => hfr k) hd
 have hol : (others ++ [pre.length]).length = (pre ++ [oL]).length := by
  have := Nat.eq_of_beq_eq_true hl
  simpa using this
 rw [hol, hsz] at hD
 have hs2 : (pre ++ [oL]).toArray.size = (pre ++ [oL]).length := by simp
 rw [hs2]
 have hL0 : pre.length < (pre ++ [oL]).length := by simp
 refine Px (A := A) (n := (pre ++ [oL]).length) (L := pre.length) (oL := oL) (ops' := (pre ++ [FW oL]).toArray) (F := Q .normal) (base := c) hE (by simp) (by simp) (by simp) (by simp) g0 (fun i hi => ?_) g1 (others := others) (fun i hi => ?_) (fun i hi => ?_) hL0 g4 g5
  (fun st a w hF hRR => ⟨st, hRR, hF⟩) (fun st hK => hK) (pre ++ [oL]).length _ _ a _ (by simp) (fun i hi => ?_) ?_ hD ?_
 .simp only [List.getElem?_toArray]
  rcases Nat.lt_trichotomy i pre.length with h' | h' | h'
  .rw [List.getElem?_append_left h', List.getElem?_append_left h']
  .exact absurd h' hi
  rw [List.getElem?_eq_none (by simp; omega), List.getElem?_eq_none (by simp; omega)]
 .have := List.all_eq_true.1 g2 i (List.mem_range.2 hi)
  simp only [Bool.or_eq_true, List.contains_iff_mem] at this
  exact this.imp (fun h => Nat.eq_of_beq_eq_true h) fun h => h
 .exact Nat.le_of_ble_eq_true (List.all_eq_true.1 g3 i hi)
 .exfalso
  rw [Array.getD_eq_getD_getElem?] at hi
  rcases Nat.lt_or_ge i (pre ++ [oL]).length with h' | h'
  .rw [Array.getElem?_eq_getElem (by simpa using h')] at hi; simp at hi
  rw [Array.getElem?_eq_none (by simpa using h')] at hi; simp at hi
 .rw [Array.getD_eq_getD_getElem?, Array.getElem?_eq_getElem (by simp)]; simp
 obtain ⟨⟨μ, x1, x2⟩, x3, x4⟩ := hR'
 refine ⟨⟨μ, x1.less fun id hid => ?_, x2⟩, x3, x4⟩
 rcases hid with hid | ⟨k, _, _, rfl⟩
 .simp only [Fr]; omega
 simp [Fr]
end
theorem YI {α : Type} {n : Int} {z : α} {r : List α} (h : PX n z = some r) : ∀ x ∈ r, x = z := fun x hx => by
 unfold PX at h
 split at h
 .cases h; exact (List.mem_replicate.1 hx).2
 cases h
theorem Vq {α : Type} {A : BB} {nt : Nat} {sl : List (Nat × LV)} {h h' : AM} {c : Nat} {zs : List DV} {enc : α -> List DV} (id : Nat) {e sz : Nat} {n : Int} {z : α} {l : List α} (hr : PX n z = some l)
  (hl : BN id h = some (.row e sz (l.map fun _ => zs))) (hle : Jr zs (enc z)) (hu : Hj id (.row e sz (l.map enc)) h some = some h') : A3 A ⟨nt, sl, h, c⟩ ⟨nt, sl, h', c⟩ := by
 rw [BO] at hl
 rw [EA, Option.some.injEq] at hu
 subst hu
 refine Q6 hl fun O μ w loc ⟨h1, h2, h3⟩ => ?_
 have hm : l.map enc = l.map fun _ => enc z := List.map_congr_left fun x hx => by rw [YI hr x hx]
 rw [hm]
 refine ⟨h1, fun x hx => ?_, ?_⟩
 .obtain ⟨a, ha, rfl⟩ := List.mem_map.1 hx
  rw [<- hle.len]
  exact h2 _ (List.mem_map.2 ⟨a, ha, rfl⟩)
 rcases h3 with ⟨h3, h4⟩ | ⟨h3, cs, h4, h5, h6, h7, h8⟩
 .exact .inl ⟨h3, by simp only [List.map_eq_nil_iff] at h4 ⊢; exact h4⟩
 refine .inr ⟨h3, cs, h4, h5, by simpa using h6, h7, fun i j x d v hx hd hv => ?_⟩
 simp only [List.getElem?_map, Option.map_eq_some_iff] at hx
 obtain ⟨a, ha, rfl⟩ := hx
 have hj : j < zs.length := by rw [hle.len]; exact (List.getElem?_eq_some_iff.1 hd).1
 exact hle.get j _ d (List.getElem?_eq_getElem hj) hd O w v (h8 i j zs _ v (by simp only [List.getElem?_map, ha, Option.map_some]) (List.getElem?_eq_getElem hj) hv)
theorem Vr {α : Type} {A : BB} {nt : Nat} {sl : List (Nat × LV)} {h h' : AM} {c : Nat} {zs : List DV} {enc : α -> List DV} (id : Nat) {e sz : Nat} (n : Int) (z : α) {l : List α}
  (hl : BN id h = some (.row e sz ((l.map enc).set n.toNat zs))) (hle : Jr zs (enc z)) (hu : Hj id (.row e sz ((Bq l n z).map enc)) h some = some h') : A3 A ⟨nt, sl, h, c⟩ ⟨nt, sl, h', c⟩ := by
 rw [BO] at hl
 rw [EA, Option.some.injEq] at hu
 subst hu
 refine Q6 hl fun O μ w loc ⟨h1, h2, h3⟩ => ?_
 have hm : (Bq l n z).map enc = (l.map enc).set n.toNat (enc z) := by simp only [Bq, List.map_set]
 rw [hm]
 refine ⟨h1, fun x hx => ?_, ?_⟩
 .by_cases hb : n.toNat < (l.map enc).length
  .rcases List.mem_or_eq_of_mem_set hx with hx' | rfl
   .obtain ⟨j, hj, hj'⟩ := List.mem_iff_getElem.1 hx
    rw [List.getElem_set] at hj'
    split at hj'
    .rw [<- hj', <- hle.len]
     exact h2 _ (List.mem_iff_getElem.2 ⟨n.toNat, by simpa using hb, by simp⟩)
    exact h2 _ (List.mem_iff_getElem.2 ⟨j, by simpa using hj, by rw [List.getElem_set, if_neg ‹_›]; exact hj'⟩)
   rw [<- hle.len]
   exact h2 _ (List.mem_iff_getElem.2 ⟨n.toNat, by simpa using hb, by simp⟩)
  rw [List.set_eq_of_length_le (by omega)] at hx h2
  exact h2 x hx
 rcases h3 with ⟨h3, h4⟩ | ⟨h3, cs, h4, h5, h6, h7, h8⟩
 .refine .inl ⟨h3, ?_⟩
  simp only [List.set_eq_nil_iff] at h4 ⊢; exact h4
 refine .inr ⟨h3, cs, h4, h5, by simpa using h6, h7, fun i j x d v hx hd hv => ?_⟩
 rw [List.getElem?_set] at hx
 split at hx
 .split at hx
  .cases hx
   have hj : j < zs.length := by rw [hle.len]; exact (List.getElem?_eq_some_iff.1 hd).1
   exact hle.get j _ d (List.getElem?_eq_getElem hj) hd O w v (h8 i j zs _ v (by rw [List.getElem?_set, if_pos ‹_›, if_pos ‹_›]) (List.getElem?_eq_getElem hj) hv)
  cases hx
 exact h8 i j x d v (by rw [List.getElem?_set, if_neg ‹_›]; exact hx) hd hv
end Go.E
/- The program's data in plain Lean, and how they stand in cells. Written by a program (gen.py). No condition. -/
namespace Go.E
open Go Go.RowKit Go.Proofs
theorem bq {α β : Type} {o : Option α} {f : α -> Option β} {b : β} {G : Prop} (h : o.bind f = some b) (k : ∀ a, o = some a -> f a = some b -> G) : G := by
 obtain ⟨a, h1, h2⟩ := bd h
 exact k a h1 h2
abbrev bx (l : List DV) : A2 := .box (l.map .p)
theorem Z {α : Type} {a : α} : a = a := rfl
theorem Ab {σ : Type} {A : BB} {S : σ -> St} {st : St} {s t : σ} (h : some s = some t) (hw : A3 A st (S s)) : NP A S t .normal st := by
 cases h; exact npn hw
theorem BA {σ Ans : Type} {A : BB} {S : σ -> St} {Q : Ans -> Exit -> St -> Prop} {st : St} {s : σ} {b : σ ⊕ Ans} (h : some (.inl s) = some b) (hw : A3 A st (S s)) : LP A S Q b .normal st := by
 cases h; exact lpn hw
theorem CP {σ Ans : Type} {A : BB} {S : σ -> St} {Q : Ans -> Exit -> St -> Prop} {st : St} {x : Ans} {b : σ ⊕ Ans} {id : Nat} (h : some (.inr x) = some b) (k : ∀ a, some x = some a -> Q a (.exit id) st) : LP A S Q b (.exit id) st := by
 cases h; exact Z5 (k x rfl)
theorem BP {σ Ans : Type} {A : BB} {S : σ -> St} {Q : Ans -> Exit -> St -> Prop} {st : St} {x : Ans} {b : σ ⊕ Ans} (h : some (.inr x) = some b) (k : ∀ a, some x = some a -> Q a .ret st) : LP A S Q b .ret st := by
 cases h; exact Z6 (k x rfl)
theorem De {σ Ans : Type} {A : BB} {S : σ -> St} {Q : Ans -> Exit -> St -> Prop} {st : St} {o : Option Ans} {b : σ ⊕ Ans} {id : Nat} (h : o.map .inr = some b) (k : ∀ a, o = some a -> Q a (.exit id) st) : LP A S Q b (.exit id) st := by
 obtain ⟨a, h1, rfl⟩ := mp h; exact Z5 (k a h1)
theorem AAN {σ Ans : Type} {A : BB} {S : σ -> St} {Q : Ans -> Exit -> St -> Prop} {st : St} {o : Option Ans} {b : σ ⊕ Ans} (h : o.map .inr = some b) (k : ∀ a, o = some a -> Q a .ret st) : LP A S Q b .ret st := by
 obtain ⟨a, h1, rfl⟩ := mp h; exact Z6 (k a h1)

instance : BEq ByteArray := ⟨fun a b => a.toList == b.toList⟩
def AX (n : Int) : Int := IntKind.wrap .i64 n
def Xg (a b : Int) : Int := IntKind.wrap .i64 (BitVec.ofInt (IntKind.bits .i64) a ^^^ BitVec.ofInt (IntKind.bits .i64) b).toNat
def AL (n : Int) : List DV := [.int .i64 n]
def Hy (n : Int) : List DV := [.int .u8 n]
def DS (b : Bool) : List DV := [.bool b]
def Eo (s : ByteArray) : List DV := [.str s]
def Ai {α : Type} (sz : Nat) (enc : α -> List DV) (l : List α) : DV := .slice sz (l.map enc)
def Cl {α : Type} (sz : Nat) (enc : α -> List DV) (l : List α) : List DV := [.slice sz (l.map enc)]
structure AD where
 elem : Int
 fin : Int
 deriving DecidableEq
def Aw (x : AD) : List DV := [.int .i64 x.elem, .int .i64 x.fin]
theorem KU (x y : AD) : Ch (Aw x) (Aw y) = (x == y) := by
 rw [Bool.eq_iff_iff]
 rw [beq_iff_eq]
 simp only [Aw, Ch, Dh, Bool.and_eq_true, beq_iff_eq, Bool.and_true]
 constructor
 .intro h
  obtain ⟨a1, a2⟩ := x; obtain ⟨b1, b2⟩ := y; simp only at h; simp [h]
 rintro rfl; simp
structure Bk where
 a : AD
 b : AD
 deriving DecidableEq
def Bn (x : Bk) : List DV := [.int .i64 x.a.elem, .int .i64 x.a.fin, .int .i64 x.b.elem, .int .i64 x.b.fin]
structure Bl where
 name : ByteArray
 kind : Int
 length : Int
 deriving DecidableEq
def Bp (x : Bl) : List DV := [.str x.name, .int .i64 x.kind, .int .i64 x.length]
structure A6 where
 name : ByteArray
 at_ : AD
 auto : Bool
 deriving DecidableEq
def BF (x : A6) : List DV := [.str x.name, .int .i64 x.at_.elem, .int .i64 x.at_.fin, .bool x.auto]
structure B9 where
 name : ByteArray
 elems : (List Int)
 deriving DecidableEq
def Br (x : B9) : List DV := [.str x.name, .slice 1 (x.elems.map AL)]
structure AH where
 elems : (List Bl)
 joins : (List Bk)
 signals : (List A6)
 lines : (List B9)
 top : Int
 brake : Int
 margin : Int
 throw : Int
 hard : Bool
 deriving DecidableEq
def Ag (x : AH) : List DV := [.slice 3 (x.elems.map Bp), .slice 4 (x.joins.map Bn), .slice 4 (x.signals.map BF), .slice 2 (x.lines.map Br), .int .i64 x.top, .int .i64 x.brake, .int .i64 x.margin, .int .i64 x.throw, .bool x.hard]
structure Fz where
 a0 : Int
 a1 : Int
 deriving DecidableEq
structure CJ where
 p : AH
 next : (List (AD × AD))
 reads : (List (AD × Int))
 line : (List (Int × Fz))
 lead : (List (Int × Int))
 deriving DecidableEq
structure Ar where
 elem : Int
 in_ : Int
 out : Int
 deriving DecidableEq
def BE (x : Ar) : List DV := [.int .i64 x.elem, .int .i64 x.in_, .int .i64 x.out]
structure AN where
 elem : Int
 pos : Int
 deriving DecidableEq
def AS (x : AN) : List DV := [.int .i64 x.elem, .int .i64 x.pos]
theorem Wy (x y : AN) : Ch (AS x) (AS y) = (x == y) := by
 rw [Bool.eq_iff_iff]
 rw [beq_iff_eq]
 simp only [AS, Ch, Dh, Bool.and_eq_true, beq_iff_eq, Bool.and_true]
 constructor
 .intro h
  obtain ⟨a1, a2⟩ := x; obtain ⟨b1, b2⟩ := y; simp only at h; simp [h]
 rintro rfl; simp
structure AQ where
 frm : Int
 to : Int
 fin : Int
 steps : (List Ar)
 needs : (List AN)
 guards : (List AN)
 zone : (List Int)
 holds : (List Int)
 bare : Bool
 deriving DecidableEq
def As (x : AQ) : List DV := [.int .i64 x.frm, .int .i64 x.to, .int .i64 x.fin, .slice 3 (x.steps.map BE), .slice 2 (x.needs.map AS), .slice 2 (x.guards.map AS), .slice 1 (x.zone.map AL), .slice 1 (x.holds.map AL), .bool x.bare]
structure Cx where
 out : Int
 pos : Int
 deriving DecidableEq
def MX (x : Cx) : List DV := [.int .i64 x.out, .int .i64 x.pos]
structure AZ where
 p : AH
 r : AQ
 met : (List AD)
 deriving DecidableEq
structure MZ where
 plan : AH
 roads : (List AQ)
 deriving DecidableEq
structure AV where
 elems : Int
 steps : (List (Int × (List Int)))
 zone : (List (Int × (List Int)))
 needs : (List (Int × (List AN)))
 guards : (List (Int × (List AN)))
 deriving DecidableEq
def Ao (x : AV) : List DV := [.int .i64 x.elems, .map (Ae (.int .i64) (Ai 1 AL) x.steps), .map (Ae (.int .i64) (Ai 1 AL) x.zone), .map (Ae (.int .i64) (Ai 2 AS) x.needs), .map (Ae (.int .i64) (Ai 2 AS) x.guards)]
theorem CO : Jl AB 3 (.int .i64) := ⟨fun _ _ => rfl, fun _ => rfl⟩
def Zp : Go.Shelf.Ren := ⟨fun n => if n = 45 then 73 else n, fun n => match n with | 22 => 34 | 23 => 3 | n => n, fun n => n⟩
theorem Zo : SlLaysE0.n45 Try.prog Zp where
 mixed := mixed
 f45 := ⟨Try.f73.name, by decide, by exact Try.func73⟩
 t0 := Try.underlying0
 a0 := Try.isAgg0
 z0 := Try.sizeOf0
 v0 := Try.zeroValue0
 t3 := Try.underlying3
 a3 := Try.isAgg3
 z3 := Try.sizeOf3
 v3 := Try.zeroValue3
 t4 := Try.underlying4
 a4 := Try.isAgg4
 z4 := Try.sizeOf4
 v4 := Try.zeroValue4
 t22 := Try.underlying34
 a22 := Try.isAgg34
 z22 := Try.sizeOf34
 v22 := Try.zeroValue34
def Zq : Go.Shelf.Ren := ⟨fun n => match n with | 125 => 112 | 128 => 168 | 129 => 169 | 189 => 79 | 215 => 186 | 216 => 165 | 257 => 111 | 294 => 159 | 295 => 160 | 296 => 161 | 297 => 162 | 298 => 163 | 299 => 164 | 300 => 166 | 301 => 167 | 328 => 181 | 329 => 182 | 330 => 183 | 331 => 184 | 332 => 185 | 343 => 189 | n => n, fun n => match n with | 0 => 0 | 3 => 3 | 4 => 4 | 5 => 5 | 9 => 9 | 28 => 34 | 46 => 164 | 51 => 209 | 53 => 211 | 131 => 105 | 182 => 202 | 183 => 203 | 218 => 222 | 222 => 226 | 228 => 229 | 229 => 69 | n => n, fun n => n⟩
theorem Xk : Go.Proofs.Lays.n189 Try.prog Zq where
 mixed := mixed
 f125 := by exact Try.func112
 f128 := by exact Try.func168
 f129 := by exact Try.func169
 f189 := by exact Try.func79
 f215 := by exact Try.func186
 f216 := by exact Try.func165
 f257 := by exact Try.func111
 f294 := by exact Try.func159
 f295 := by exact Try.func160
 f296 := by exact Try.func161
 f297 := by exact Try.func162
 f298 := by exact Try.func163
 f299 := by exact Try.func164
 f300 := by exact Try.func166
 f301 := by exact Try.func167
 f328 := by exact Try.func181
 f329 := by exact Try.func182
 f330 := by exact Try.func183
 f331 := by exact Try.func184
 f332 := by exact Try.func185
 f343 := by exact Try.func189
 t0 := Try.underlying0
 a0 := Try.isAgg0
 z0 := Try.sizeOf0
 v0 := Try.zeroValue0
 t3 := Try.underlying3
 a3 := Try.isAgg3
 z3 := Try.sizeOf3
 v3 := Try.zeroValue3
 t4 := Try.underlying4
 a4 := Try.isAgg4
 z4 := Try.sizeOf4
 v4 := Try.zeroValue4
 t5 := Try.underlying5
 a5 := Try.isAgg5
 z5 := Try.sizeOf5
 v5 := Try.zeroValue5
 t9 := Try.underlying9
 a9 := Try.isAgg9
 z9 := Try.sizeOf9
 v9 := Try.zeroValue9
 t28 := Try.underlying34
 a28 := Try.isAgg34
 z28 := Try.sizeOf34
 v28 := Try.zeroValue34
 t46 := Try.underlying164
 a46 := Try.isAgg164
 z46 := Try.sizeOf164
 v46 := Try.zeroValue164
 t51 := Try.underlying209
 a51 := Try.isAgg209
 z51 := Try.sizeOf209
 v51 := Try.zeroValue209
 t53 := Try.underlying211
 a53 := Try.isAgg211
 z53 := Try.sizeOf211
 v53 := Try.zeroValue211
 t131 := Try.underlying105
 a131 := Try.isAgg105
 z131 := Try.sizeOf105
 v131 := Try.zeroValue105
 t182 := Try.underlying202
 a182 := Try.isAgg202
 z182 := Try.sizeOf202
 v182 := Try.zeroValue202
 t183 := Try.underlying203
 a183 := Try.isAgg203
 z183 := Try.sizeOf203
 v183 := Try.zeroValue203
 t218 := Try.underlying222
 a218 := Try.isAgg222
 z218 := Try.sizeOf222
 v218 := Try.zeroValue222
 t222 := Try.underlying226
 a222 := Try.isAgg226
 z222 := Try.sizeOf226
 v222 := Try.zeroValue226
 t228 := Try.underlying229
 a228 := Try.isAgg229
 z228 := Try.sizeOf229
 v228 := Try.zeroValue229
 t229 := Try.underlying69
 a229 := Try.isAgg69
 z229 := Try.sizeOf69
 v229 := Try.zeroValue69
end Go.E
/- Plain functions, and walks in step with them. Written by a program (gen.py). No condition. -/
set_option maxRecDepth 100000
namespace Go.E
open Go Go.RowKit Go.Proofs
noncomputable def GQ (a : Int) (b : Int) (c : Int) (d : Int) : Option Bk :=
 some (⟨(⟨a, b⟩ : AD), (⟨c, d⟩ : AD)⟩ : Bk)
theorem JW (a : Int) (b : Int) (c : Int) (d : Int) (r : Bk) (h : GQ a b c d = some r) : Bf Try.prog 87 [.int .i64 a, .int .i64 b, .int .i64 c, .int .i64 d] (· = .agg (Bn r)) := by
 refine fn AA Try.func87 Z Z 16 Z [.cell 8 132] Z [(0, .p (.int .i64 a)), (1, .p (.int .i64 b)), (2, .p (.int .i64 c)), (3, .p (.int .i64 d))] Z Z fun A hA => ?_
 unfold GQ at h
 refine rs AA <| rl Z <| rs AA <| rl Z <| AJ ?_
 cases h
 exact er Z Le.rfl
noncomputable def IG : Option AH :=
 (GQ 0 0 1 0).bind fun a => (GQ 1 1 2 0).bind fun b => (GQ 2 1 3 0).bind fun c => (GQ 3 1 5 0).bind fun d => (GQ 2 2 4 0).bind fun e => some (⟨[(⟨(⟨#[87]⟩ : ByteArray), 4, 0⟩ : Bl), (⟨(⟨#[65]⟩ : ByteArray), 1, 20⟩ : Bl), (⟨(⟨#[80]⟩ : ByteArray), 2, 10⟩ : Bl), (⟨(⟨#[66]⟩ : ByteArray), 1, 20⟩ : Bl), (⟨(⟨#[67]⟩ : ByteArray), 1, 30⟩ : Bl), (⟨(⟨#[69]⟩ : ByteArray), 4, 0⟩ : Bl)], [a, b, c, d, e], [(⟨(⟨#[119]⟩ : ByteArray), (⟨0, 0⟩ : AD), false⟩ : A6), (⟨(⟨#[97]⟩ : ByteArray), (⟨1, 1⟩ : AD), false⟩ : A6), (⟨(⟨#[101]⟩ : ByteArray), (⟨5, 0⟩ : AD), false⟩ : A6), (⟨(⟨#[98]⟩ : ByteArray), (⟨3, 0⟩ : AD), false⟩ : A6), (⟨(⟨#[99]⟩ : ByteArray), (⟨4, 0⟩ : AD), false⟩ : A6)], [], 10, 5, 15, 2, false⟩ : AH)
theorem Ux (r : AH) (h : IG = some r) : Bf Try.prog 41 [] (· = .agg (Ag r)) := by
 refine fn AA Try.func41 Z Z 31 Z [.cell 0 27] Z [] Z Z fun A hA => ?_
 unfold IG at h
 refine rs AA <| rl Z <| rs AA <| rl Z <| rs AA <| rl Z <| rs AA <| bq h fun l a f => sx Z (Ah (JW _ _ _ _ _ a) (.inl Z) Z Z Z <| bq f fun m b g => sx Z (Ah (JW _ _ _ _ _ b) (.inl Z) Z Z Z <| bq g fun n c i => sx Z (Ah (JW _ _ _ _ _ c) (.inl Z) Z Z Z <| bq i fun o d j => sx Z (Ah (JW _ _ _ _ _ d) (.inl Z) Z Z Z <| bq j fun q e k => sx Z (Ah (JW _ _ _ _ _ e) (.inl Z) Z Z Z <| rl Z <| rs AA <| rl Z <| rs AA <| rl Z <| AJ ?_)))))
 cases k
 exact er (Lk Z (.agg (.cons (.own (enc := Bp) ([(⟨(⟨#[87]⟩ : ByteArray), 4, 0⟩ : Bl), (⟨(⟨#[65]⟩ : ByteArray), 1, 20⟩ : Bl), (⟨(⟨#[80]⟩ : ByteArray), 2, 10⟩ : Bl), (⟨(⟨#[66]⟩ : ByteArray), 1, 20⟩ : Bl), (⟨(⟨#[67]⟩ : ByteArray), 1, 30⟩ : Bl), (⟨(⟨#[69]⟩ : ByteArray), 4, 0⟩ : Bl)] : List Bl) Z Z) (.cons (.own (enc := Bn) ([l, m, n, o, q] : List Bk) Z Z) (.cons (.own (enc := BF) ([(⟨(⟨#[119]⟩ : ByteArray), (⟨0, 0⟩ : AD), false⟩ : A6), (⟨(⟨#[97]⟩ : ByteArray), (⟨1, 1⟩ : AD), false⟩ : A6), (⟨(⟨#[101]⟩ : ByteArray), (⟨5, 0⟩ : AD), false⟩ : A6), (⟨(⟨#[98]⟩ : ByteArray), (⟨3, 0⟩ : AD), false⟩ : A6), (⟨(⟨#[99]⟩ : ByteArray), (⟨4, 0⟩ : AD), false⟩ : A6)] : List A6) Z Z) (.cons (.p _) (.cons (.p _) (.cons (.p _) (.cons (.p _) (.cons (.p _) (.cons (.p _) .nil))))))))))) (Le.agg' (.cons Le.rfl (.cons Le.rfl (.cons Le.rfl (.cons (Le.nil _) (.cons Le.rfl (.cons Le.rfl (.cons Le.rfl (.cons Le.rfl (.cons Le.rfl .nil))))))))))
noncomputable def G9 (b : AH) (a : Int) : Option (Int ⊕ Bool) :=
 bif decide (a < (b.signals.length : Int)) then (Ad b.signals a).bind fun c => bif decide (100 < (c.name.size : Int)) then some (.inr false) else some (.inl (AX (a + 1))) else some (.inr true)
noncomputable def HA (b : AH) (a : Int) : Option (Int ⊕ Bool) :=
 bif decide (a < (b.elems.length : Int)) then (Ad b.elems a).bind fun c => bif decide (100 < (c.name.size : Int)) then some (.inr false) else some (.inl (AX (a + 1))) else (AO (G9 b) 0).map .inr
noncomputable def JE (b : AH) (a : Int) : Option (Int ⊕ Bool) :=
 bif decide (a < (b.lines.length : Int)) then (((Ad b.lines a).bind fun d => bif decide (60 < (d.elems.length : Int)) then some true else (Ad b.lines a).bind fun e => some (decide (100 < (e.name.size : Int))) : Option (Bool))).bind fun (c : Bool) => bif c then some (.inr false) else some (.inl (AX (a + 1))) else (AO (HA b) 0).map .inr
noncomputable def Is (a : AH) : Option Bool :=
 ((bif decide (60 < (a.elems.length : Int)) then some true else bif decide (120 < (a.joins.length : Int)) then some true else bif decide (60 < (a.signals.length : Int)) then some true else some (decide (20 < (a.lines.length : Int))) : Option (Bool))).bind fun (b : Bool) => bif b then some false else AO (JE a) 0
theorem Wv (b : AH) (r : Bool) (h : Is b = some r) : Bf Try.prog 43 [.agg (Ag b)] (· = .bool r) := by
 refine fn AA Try.func43 Z Z 83 Z [.tmp 2] Z [(0, .p (.agg (Ag b)))] Z Z fun A hA => ?_
 unfold Is at h
 refine rs AA <| rl Z <| AC <| jb (fun d : Bool => ⟨83, [(1, .lpb 0 0), (27, lb d)], [(0, bx (Ag b))], 1⟩) h (fun d u => ?_) (fun d am => ?_)
 .refine rg AA <| rn 2 Z <| sx Z (Ax Z Z <| rn 2 Z <| gs 10 u Z Z Z (fun v => ?_) (fun ac => ?_))
  .exact rl Z <| Ab v (wf hA [(0, 0)] Z Z Z)
  refine rn 2 Z <| sx Z (Ax Z Z <| rn 3 Z <| gs 16 ac Z Z Z (fun ai => ?_) (fun aj => ?_))
  .exact rl Z <| Ab ai (wf hA [(0, 0)] Z Z Z)
  refine rn 2 Z <| sx Z (Ax Z Z <| rn 3 Z <| gs 22 aj Z Z Z (fun ak => ?_) (fun al => ?_))
  .exact rl Z <| Ab ak (wf hA [(0, 0)] Z Z Z)
  exact rn 2 Z <| sx Z (Ax Z Z <| rl Z <| Ab al (wf hA [(0, 0)] Z Z Z))
 refine cd Z am (fun an => ?_) (fun ao => ?_)
 .refine rs AA <| rl Z <| AJ <| AK ?_
  cases an
  exact er Z Le.rfl
 refine AG <| AE <| AC <| rs AA <| rl Z <| AI ?_
 apply lp (a := r) (fun c : Int => ⟨83, [(1, .lpb 0 0), (3, li c)], [(0, bx (Ag b))], 1⟩) ao
 . exact wf hA [(0, 0)] Z Z Z
 intro c a9 f
 unfold JE at f
 refine AC <| rs AA <| rn 3 Z <| sx Z (Ax Z Z <| rl Z <| cd Z f (fun t => ?_) (fun ag => ?_))
 .refine AG <| AE <| AC <| AI <| jb (fun e : Bool => ⟨83, [(1, .lpb 0 0), (3, li c), (52, lb e)], [(0, bx (Ag b))], 1⟩) t (fun e w => ?_) (fun e ab => ?_)
  .refine rg AA <| rn 3 Z <| bq w fun bc n x => sx Z (Am n Z Z Z <| rn 2 Z <| sx Z (Ax Z Z <| rn 2 Z <| gs 43 x Z Z Z (fun y => ?_) (fun z => ?_)))
   .exact rl Z <| Ab y (wf hA [(0, 0)] Z Z Z)
   exact rn 3 Z <| bq z fun be o aa => sx Z (Am o Z Z Z <| rl Z <| Ab aa (wf hA [(0, 0)] Z Z Z))
  refine cd Z ab (fun ad => ?_) (fun af => ?_)
  .refine rs AA <| rl Z <| AJ <| Ac <| AK <| BP ad fun a5 ae => Ac <| AK ?_
   cases ae
   exact er Z Le.rfl
  exact AG <| Aq <| AE <| rg AA <| rl Z <| BA af (wf hA [(0, 0)] Z Z Z)
 refine Aj <| Al <| De ag fun l ah => A5 <| AE <| AC <| rs AA <| rl Z <| AI ?_
 apply lp (a := l) (fun j : Int => ⟨83, [(1, .lpb 0 0), (4, li j)], [(0, bx (Ag b))], 1⟩) ah
 . exact wf hA [(0, 0)] Z Z Z
 intro j ba g
 unfold HA at g
 refine AC <| rs AA <| rn 3 Z <| sx Z (Ax Z Z <| rl Z <| cd Z g (fun ap => ?_) (fun aw => ?_))
 .refine AG <| AE <| AC <| AI <| rs AA <| rn 3 Z <| bq ap fun bf q aq => sx Z (Am q Z Z Z <| rl Z <| cd Z aq (fun ar => ?_) (fun av => ?_))
  .refine rs AA <| rl Z <| AJ <| Ac <| AK <| BP ar fun a6 au => Ac <| AK ?_
   cases au
   exact er Z Le.rfl
  exact AG <| Aq <| AE <| rg AA <| rl Z <| BA av (wf hA [(0, 0)] Z Z Z)
 refine Aj <| Al <| De aw fun m ax => A5 <| AE <| AC <| rs AA <| rl Z <| AI ?_
 apply lp (a := m) (fun k : Int => ⟨83, [(1, .lpb 0 0), (5, li k)], [(0, bx (Ag b))], 1⟩) ax
 . exact wf hA [(0, 0)] Z Z Z
 intro k bb i
 unfold G9 at i
 refine AC <| rs AA <| rn 3 Z <| sx Z (Ax Z Z <| rl Z <| cd Z i (fun ay => ?_) (fun a3 => ?_))
 .refine AG <| AE <| AC <| AI <| rs AA <| rn 3 Z <| bq ay fun bg s az => sx Z (Am s Z Z Z <| rl Z <| cd Z az (fun a0 => ?_) (fun a2 => ?_))
  .refine rs AA <| rl Z <| AJ <| Ac <| AK <| BP a0 fun a7 a1 => Ac <| AK ?_
   cases a1
   exact er Z Le.rfl
  exact AG <| Aq <| AE <| rg AA <| rl Z <| BA a2 (wf hA [(0, 0)] Z Z Z)
 refine Aj <| Al <| CP a3 fun a8 a4 => A5 <| AE <| rs AA <| rl Z <| AJ ?_
 cases a4
 exact er Z Le.rfl
noncomputable def EB (b : AH) (d : (Int × (List ByteArray))) (c : (Int × (List ByteArray))) (a : Int × (List ByteArray)) : Option ((Int × (List ByteArray)) ⊕ ((List ByteArray) × (List ByteArray) × (List ByteArray))) :=
 bif decide (a.1 < (b.lines.length : Int)) then (Ad b.lines a.1).bind fun e => (BJ a.2 [e.name]).bind fun f => some (.inl (AX (a.1 + 1), f)) else some (.inr (d.2, c.2, a.2))
noncomputable def EC (b : AH) (c : (Int × (List ByteArray))) (a : Int × (List ByteArray)) : Option ((Int × (List ByteArray)) ⊕ ((List ByteArray) × (List ByteArray) × (List ByteArray))) :=
 bif decide (a.1 < (b.signals.length : Int)) then (Ad b.signals a.1).bind fun d => (BJ a.2 [d.name]).bind fun e => some (.inl (AX (a.1 + 1), e)) else (AO (EB b c a) (0, ([] : List ByteArray))).map .inr
noncomputable def Fj (b : AH) (a : Int × (List ByteArray)) : Option ((Int × (List ByteArray)) ⊕ ((List ByteArray) × (List ByteArray) × (List ByteArray))) :=
 bif decide (a.1 < (b.elems.length : Int)) then (Ad b.elems a.1).bind fun c => (BJ a.2 [c.name]).bind fun d => some (.inl (AX (a.1 + 1), d)) else (AO (EC b a) (0, ([] : List ByteArray))).map .inr
noncomputable def IH (a : AH) : Option ((List ByteArray) × (List ByteArray) × (List ByteArray)) :=
 AO (Fj a) (0, ([] : List ByteArray))
theorem Uy (e : AH) (r : ((List ByteArray) × (List ByteArray) × (List ByteArray))) (h : IH e = some r) : Bf Try.prog 91 [.agg (Ag e)] (· = .tup [.slice 1 (r.1.map Eo), .slice 1 (r.2.1.map Eo), .slice 1 (r.2.2.map Eo)]) := by
 refine fn AA Try.func91 Z Z 62 Z [.tmp 2, .tmp 3, .tmp 4] Z [(0, .p (.agg (Ag e)))] Z Z fun A hA => ?_
 unfold IH at h
 refine rs AA <| rl Z <| rs AA <| rl Z <| AC <| rs AA <| rl Z <| AI ?_
 apply lp (a := r) (fun b : (Int × (List ByteArray)) => ⟨62, [(1, .lpb 0 0), (5, .lsl 1 1 0 b.2.length), (6, .p (.nils)), (7, .p (.nils)), (8, li b.1)], [(0, bx (Ag e)), (1, .row 9 1 (b.2.map Eo))], 2⟩) h
 . exact A3.trans (CM 5 9 1 Z) (wf hA [(0, 0), (1, 1)] Z Z Z)
 intro b aq i
 unfold Fj at i
 refine AC <| rs AA <| rn 3 Z <| sx Z (Ax Z Z <| rl Z <| cd Z i (fun aj => ?_) (fun x => ?_))
 .exact AG <| AE <| AC <| AI <| rg AA <| rn 4 Z <| bq aj fun ak n v => sx Z (Am n Z Z Z <| rn 3 Z <| bq v fun ar o w => sx Z (A7 (enc := Eo) (l := b.2) (m := [ak.name]) o (fun _ => ⟨Z, Z⟩) Z Z Z Z Z Z <| rl Z <| Aq <| AE <| rg AA <| rl Z <| BA w (wf hA [(0, 0), (1, 3)] Z Z Z)))
 refine Aj <| Al <| De x fun j y => A5 <| AE <| AC <| rs AA <| rl Z <| AI ?_
 apply lp (a := j) (fun c : (Int × (List ByteArray)) => ⟨62, [(1, .lpb 0 0), (5, .lsl 1 1 0 b.2.length), (6, .lsl 2 1 0 c.2.length), (7, .p (.nils)), (9, li c.1)], [(0, bx (Ag e)), (1, .row 9 1 (b.2.map Eo)), (2, .row 9 1 (c.2.map Eo))], 3⟩) y
 . exact A3.trans (CM 6 9 1 Z) (wf hA (gi 3 []) Z Z Z)
 intro c ao f
 unfold EC at f
 refine AC <| rs AA <| rn 3 Z <| sx Z (Ax Z Z <| rl Z <| cd Z f (fun z => ?_) (fun ac => ?_))
 .exact AG <| AE <| AC <| AI <| rg AA <| rn 4 Z <| bq z fun al q aa => sx Z (Am q Z Z Z <| rn 3 Z <| bq aa fun au s ab => sx Z (A7 (enc := Eo) (l := c.2) (m := [al.name]) s (fun _ => ⟨Z, Z⟩) Z Z Z Z Z Z <| rl Z <| Aq <| AE <| rg AA <| rl Z <| BA ab (wf hA [(0, 0), (1, 1), (2, 4)] Z Z Z)))
 refine Aj <| Al <| De ac fun k ad => A5 <| AE <| AC <| rs AA <| rl Z <| AI ?_
 apply lp (a := k) (fun d : (Int × (List ByteArray)) => ⟨62, [(1, .lpb 0 0), (5, .lsl 1 1 0 b.2.length), (6, .lsl 2 1 0 c.2.length), (7, .lsl 3 1 0 d.2.length), (10, li d.1)], [(0, bx (Ag e)), (1, .row 9 1 (b.2.map Eo)), (2, .row 9 1 (c.2.map Eo)), (3, .row 9 1 (d.2.map Eo))], 4⟩) ad
 . exact A3.trans (CM 7 9 1 Z) (wf hA (gi 4 []) Z Z Z)
 intro d ap g
 unfold EB at g
 refine AC <| rs AA <| rn 3 Z <| sx Z (Ax Z Z <| rl Z <| cd Z g (fun ae => ?_) (fun ah => ?_))
 .exact AG <| AE <| AC <| AI <| rg AA <| rn 4 Z <| bq ae fun am t af => sx Z (Am t Z Z Z <| rn 3 Z <| bq af fun av u ag => sx Z (A7 (enc := Eo) (l := d.2) (m := [am.name]) u (fun _ => ⟨Z, Z⟩) Z Z Z Z Z Z <| rl Z <| Aq <| AE <| rg AA <| rl Z <| BA ag (wf hA (gi 3 [(3, 5)]) Z Z Z)))
 refine Aj <| Al <| CP ah fun an ai => A5 <| AE <| rs AA <| rl Z <| AJ ?_
 cases ai
 exact er (Xd Z (.cons (.one (.own (enc := Eo) b.2 Z Z)) (.cons (.one (.own (enc := Eo) c.2 Z Z)) (.cons (.one (.own (enc := Eo) d.2 Z Z)) .nil)))) Le.rfl
noncomputable def C1 (a : Int) (c : Int) (d : Int) : Option Bool :=
 ((bif decide (c <= a) then some (decide (a <= d)) else some false : Option (Bool))).bind fun (b : Bool) => some b
theorem Fw (b : Int) (c : Int) (d : Int) (r : Bool) (h : C1 b c d = some r) : Bf Try.prog 131 [.int .i64 b, .int .i64 c, .int .i64 d] (· = .bool r) := by
 refine fn AA Try.func131 Z Z 15 Z [.tmp 6] Z [(0, .p (.int .i64 b)), (1, .p (.int .i64 c)), (2, .p (.int .i64 d))] Z Z fun A hA => ?_
 unfold C1 at h
 refine rs AA <| rl Z <| jb (fun a : Bool => ⟨15, [(6, lb a)], [], 0⟩) h (fun a e => ?_) (fun a i => ?_)
 .refine rg AA <| rn 4 Z <| gs 10 e Z Z Z (fun f => ?_) (fun g => ?_)
  .exact rl Z <| Ab f (wf hA [] Z Z Z)
  exact rl Z <| Ab g (wf hA [] Z Z Z)
 refine AJ ?_
 have hr := Option.some.inj i; subst hr
 exact er Z Le.rfl
noncomputable def GR (c : ByteArray) (b : Int) : Option (Int ⊕ Bool) :=
 bif decide (b < (c.size : Int)) then (MP c b).bind fun a => ((bif decide (97 <= (a.toNat : Int)) then bif decide ((a.toNat : Int) <= 122) then some true else bif decide (65 <= (a.toNat : Int)) then some (decide ((a.toNat : Int) <= 90)) else some false else bif decide (65 <= (a.toNat : Int)) then some (decide ((a.toNat : Int) <= 90)) else some false : Option (Bool))).bind fun (d : Bool) => ((bif (!d) then bif (b == 0) then some true else bif decide ((a.toNat : Int) < 48) then some true else some (decide (57 < (a.toNat : Int))) else some false : Option (Bool))).bind fun (e : Bool) => bif e then some (.inr false) else some (.inl (AX (b + 1))) else (((bif decide (1 <= (c.size : Int)) then some (decide ((c.size : Int) <= 8)) else some false : Option (Bool))).bind fun (f : Bool) => some f).map .inr
noncomputable def GS (a : ByteArray) : Option Bool :=
 AO (GR a) 0
theorem Na (b : ByteArray) (r : Bool) (h : GS b = some r) : Bf Try.prog 132 [.str b] (· = .bool r) := by
 refine fn AA Try.func132 Z Z 51 Z [.tmp 2] Z [(0, .p (.str b))] Z Z fun A hA => ?_
 unfold GS at h
 refine rs AA <| rl Z <| AC <| rs AA <| rl Z <| AI ?_
 apply lp (a := r) (fun c : Int => ⟨51, [(0, .p (.str b)), (3, li c)], [], 0⟩) h
 . exact wf hA [] Z Z Z
 intro c ar g
 unfold GR at g
 refine AC <| rs AA <| rl Z <| cd Z g (fun j => ?_) (fun ai => ?_)
 .refine AG <| AE <| AC <| AI <| rs AA <| rn 2 Z <| bq j fun ao i k => sx Z (Yj i Z Z Z <| rl Z <| jb (fun d : Bool => ⟨51, [(0, .p (.str b)), (3, li c), (4, .p (.int .u8 (ao.toNat : Int))), (5, lb d)], [], 0⟩) k (fun d l => ?_) (fun d w => ?_))
  .refine rg AA <| rn 3 Z <| gs 17 l Z Z Z (fun m => ?_) (fun t => ?_)
   .refine rn 4 Z <| gs 21 m Z Z Z (fun n => ?_) (fun o => ?_)
    .exact rl Z <| Ab n (wf hA [] Z Z Z)
    refine rn 3 Z <| gs 24 o Z Z Z (fun q => ?_) (fun s => ?_)
    .exact rl Z <| Ab q (wf hA [] Z Z Z)
    exact rl Z <| Ab s (wf hA [] Z Z Z)
   refine rn 7 Z <| gs 24 t Z Z Z (fun u => ?_) (fun v => ?_)
   .exact rl Z <| Ab u (wf hA [] Z Z Z)
   exact rl Z <| Ab v (wf hA [] Z Z Z)
  refine jb (fun e : Bool => ⟨51, [(0, .p (.str b)), (3, li c), (42, lb e)], [], 0⟩) w (fun e x => ?_) (fun e ae => ?_)
  .refine rg AA <| rn 3 Z <| gs 31 x Z Z Z (fun y => ?_) (fun ad => ?_)
   .refine rn 3 Z <| gs 34 y Z Z Z (fun z => ?_) (fun aa => ?_)
    .exact rl Z <| Ab z (wf hA [] Z Z Z)
    refine rn 4 Z <| gs 38 aa Z Z Z (fun ab => ?_) (fun ac => ?_)
    .exact rl Z <| Ab ab (wf hA [] Z Z Z)
    exact rl Z <| Ab ac (wf hA [] Z Z Z)
   exact rl Z <| Ab ad (wf hA [] Z Z Z)
  refine cd Z ae (fun af => ?_) (fun ah => ?_)
  .refine rs AA <| rl Z <| AJ <| Ac <| AK <| BP af fun ap ag => Ac <| AK ?_
   cases ag
   exact er Z Le.rfl
  exact AG <| Aq <| AE <| rg AA <| rl Z <| BA ah (wf hA [] Z Z Z)
 refine Aj <| Al <| De ai fun aq aj => A5 <| AE <| jb (fun f : Bool => ⟨51, [(2, lb f)], [], 0⟩) aj (fun f ak => ?_) (fun f an => ?_)
 .refine rg AA <| rn 4 Z <| gs 46 ak Z Z Z (fun al => ?_) (fun am => ?_)
  .exact rl Z <| Ab al (wf hA [] Z Z Z)
  exact rl Z <| Ab am (wf hA [] Z Z Z)
 refine AJ ?_
 have hr := Option.some.inj an; subst hr
 exact er Z Le.rfl
noncomputable def GU (a : Int) : Option Int :=
 bif (a == 1) then some 2 else bif (a == 2) then some 3 else bif (a == 3) then some 4 else bif (a == 4) then some 1 else some 0
theorem Nb (a : Int) (r : Int) (h : GU a = some r) : Bf Try.prog 133 [.int .i64 a] (· = .int .i64 r) := by
 refine fn AA Try.func133 Z Z 12 Z [.tmp 2] Z [(0, .p (.int .i64 a))] Z Z fun A hA => ?_
 unfold GU at h
 refine rs AA <| rl Z <| AC <| rs AA <| rl Z <| AI <| rs AA <| rl Z <| cd Z h (fun j => ?_) (fun b => ?_)
 .refine rs AA <| rl Z <| AJ <| Ac <| AK ?_
  cases j
  exact er Z Le.rfl
 refine rs AA <| rl Z <| cd Z b (fun c => ?_) (fun d => ?_)
 .refine rs AA <| rl Z <| AJ <| Ac <| AK ?_
  cases c
  exact er Z Le.rfl
 refine rs AA <| rl Z <| cd Z d (fun e => ?_) (fun f => ?_)
 .refine rs AA <| rl Z <| AJ <| Ac <| AK ?_
  cases e
  exact er Z Le.rfl
 refine rs AA <| rl Z <| cd Z f (fun g => ?_) (fun i => ?_)
 .refine rs AA <| rl Z <| AJ <| Ac <| AK ?_
  cases g
  exact er Z Le.rfl
 refine AG <| Aq <| AE <| rs AA <| rl Z <| AJ ?_
 cases i
 exact er Z Le.rfl
noncomputable def GV (b : AH) (a : Int) : Option (Int ⊕ Bool) :=
 bif decide (a < (b.lines.length : Int)) then (Ad b.lines a).bind fun c => (GS c.name).bind fun d => bif (!d) then some (.inr false) else some (.inl (AX (a + 1))) else some (.inr true)
noncomputable def GW (b : AH) (a : Int) : Option (Int ⊕ Bool) :=
 bif decide (a < (b.signals.length : Int)) then (Ad b.signals a).bind fun c => (GS c.name).bind fun d => bif (!d) then some (.inr false) else some (.inl (AX (a + 1))) else (AO (GV b) 0).map .inr
noncomputable def GX (c : AH) (b : Int) : Option (Int ⊕ Bool) :=
 bif decide (b < (c.elems.length : Int)) then (Ad c.elems b).bind fun a => (((GS a.name).bind fun e => bif (!e) then some true else (GU a.kind).bind fun f => bif (f == 0) then some true else bif (a.kind == 4) then bif (a.length != 0) then some true else bif (a.kind != 4) then (C1 a.length 1 4000).bind fun g => some (!g) else some false else bif (a.kind != 4) then (C1 a.length 1 4000).bind fun h => some (!h) else some false : Option (Bool))).bind fun (d : Bool) => bif d then some (.inr false) else some (.inl (AX (b + 1))) else (AO (GW c) 0).map .inr
noncomputable def JX (a : AH) : Option Bool :=
 (((C1 a.top 1 60).bind fun c => bif (!c) then some true else (C1 a.brake 1 10).bind fun d => bif (!d) then some true else (C1 a.margin 1 4000).bind fun e => bif (!e) then some true else (C1 a.throw 1 20).bind fun f => bif (!f) then some true else some ((a.elems.length : Int) == 0) : Option (Bool))).bind fun (b : Bool) => bif b then some false else AO (GX a) 0
theorem Vp (b : AH) (r : Bool) (h : JX b = some r) : Bf Try.prog 92 [.agg (Ag b)] (· = .bool r) := by
 refine fn AA Try.func92 Z Z 108 Z [.tmp 2] Z [(0, .p (.agg (Ag b)))] Z Z fun A hA => ?_
 unfold JX at h
 refine rs AA <| rl Z <| AC <| jb (fun d : Bool => ⟨108, [(1, .lpb 0 0), (34, lb d)], [(0, bx (Ag b))], 1⟩) h (fun d aj => ?_) (fun d bo => ?_)
 .refine rg AA <| rn 2 Z <| bq aj fun cc q ak => sx Z (Ah (Fw _ _ _ _ q) (.inl Z) Z Z Z <| rn 2 Z <| gs 11 ak Z Z Z (fun al => ?_) (fun am => ?_))
  .exact rl Z <| Ab al (wf hA [(0, 0)] Z Z Z)
  refine rn 2 Z <| bq am fun ce s ao => sx Z (Ah (Fw _ _ _ _ s) (.inl Z) Z Z Z <| rn 3 Z <| gs 17 ao Z Z Z (fun ap => ?_) (fun aq => ?_))
  .exact rl Z <| Ab ap (wf hA [(0, 0)] Z Z Z)
  refine rn 2 Z <| bq aq fun cf t ar => sx Z (Ah (Fw _ _ _ _ t) (.inl Z) Z Z Z <| rn 3 Z <| gs 23 ar Z Z Z (fun av => ?_) (fun aw => ?_))
  .exact rl Z <| Ab av (wf hA [(0, 0)] Z Z Z)
  refine rn 2 Z <| bq aw fun cj x bc => sx Z (Ah (Fw _ _ _ _ x) (.inl Z) Z Z Z <| rn 3 Z <| gs 29 bc Z Z Z (fun bl => ?_) (fun bn => ?_))
  .exact rl Z <| Ab bl (wf hA [(0, 0)] Z Z Z)
  exact rn 2 Z <| sx Z (Ax Z Z <| rl Z <| Ab bn (wf hA [(0, 0)] Z Z Z))
 refine cd Z bo (fun bp => ?_) (fun br => ?_)
 .refine rs AA <| rl Z <| AJ <| AK ?_
  cases bp
  exact er Z Le.rfl
 refine AG <| AE <| AC <| rs AA <| rl Z <| AI ?_
 apply lp (a := r) (fun c : Int => ⟨108, [(1, .lpb 0 0), (3, li c)], [(0, bx (Ag b))], 1⟩) br
 . exact wf hA [(0, 0)] Z Z Z
 intro c b7 f
 unfold GX at f
 refine AC <| rs AA <| rn 3 Z <| sx Z (Ax Z Z <| rl Z <| cd Z f (fun an => ?_) (fun bk => ?_))
 .refine AG <| AE <| AC <| AI <| rs AA <| rn 3 Z <| bq an fun cg u au => sx Z (Am u Z Z Z <| rl Z <| jb (fun e : Bool => ⟨108, [(1, .lpb 0 0), (3, li c), (77, lb e)], [(0, bx (Ag b))], 1⟩) au (fun e ax => ?_) (fun e bg => ?_))
  .refine rg AA <| rn 2 Z <| bq ax fun ch v ay => sx Z (Ah (Na _ _ v) (.inl Z) Z Z Z <| rn 2 Z <| gs 51 ay Z Z Z (fun az => ?_) (fun a0 => ?_))
   .exact rl Z <| Ab az (wf hA [(0, 0)] Z Z Z)
   refine rn 2 Z <| bq a0 fun ci w a1 => sx Z (Ah (Nb _ _ w) (.inl Z) Z Z Z <| rn 3 Z <| gs 57 a1 Z Z Z (fun a2 => ?_) (fun a3 => ?_))
   .exact rl Z <| Ab a2 (wf hA [(0, 0)] Z Z Z)
   refine rn 4 Z <| gs 61 a3 Z Z Z (fun a4 => ?_) (fun ba => ?_)
   .refine rn 6 Z <| gs 67 a4 Z Z Z (fun a5 => ?_) (fun a6 => ?_)
    .exact rl Z <| Ab a5 (wf hA [(0, 0)] Z Z Z)
    refine rn 4 Z <| gs 71 a6 Z Z Z (fun a7 => ?_) (fun a9 => ?_)
    .exact rn 2 Z <| bq a7 fun ck y a8 => sx Z (Ah (Fw _ _ _ _ y) (.inl Z) Z Z Z <| rl Z <| Ab a8 (wf hA [(0, 0)] Z Z Z))
    exact rl Z <| Ab a9 (wf hA [(0, 0)] Z Z Z)
   refine rn 10 Z <| gs 71 ba Z Z Z (fun bb => ?_) (fun bf => ?_)
   .exact rn 2 Z <| bq bb fun cl z be => sx Z (Ah (Fw _ _ _ _ z) (.inl Z) Z Z Z <| rl Z <| Ab be (wf hA [(0, 0)] Z Z Z))
   exact rl Z <| Ab bf (wf hA [(0, 0)] Z Z Z)
  refine cd Z bg (fun bh => ?_) (fun bj => ?_)
  .refine rs AA <| rl Z <| AJ <| Ac <| AK <| BP bh fun b5 bi => Ac <| AK ?_
   cases bi
   exact er Z Le.rfl
  exact AG <| Aq <| AE <| rg AA <| rl Z <| BA bj (wf hA [(0, 0)] Z Z Z)
 refine Aj <| Al <| De bk fun l bm => A5 <| AE <| AC <| rs AA <| rl Z <| AI ?_
 apply lp (a := l) (fun j : Int => ⟨108, [(1, .lpb 0 0), (5, li j)], [(0, bx (Ag b))], 1⟩) bm
 . exact wf hA [(0, 0)] Z Z Z
 intro j b8 g
 unfold GW at g
 refine AC <| rs AA <| rn 3 Z <| sx Z (Ax Z Z <| rl Z <| cd Z g (fun bs => ?_) (fun b0 => ?_))
 .refine AG <| AE <| AC <| AI <| rs AA <| rn 3 Z <| bq bs fun cm aa bt => sx Z (Am aa Z Z Z <| rn 2 Z <| bq bt fun cn ab bu => sx Z (Ah (Na _ _ ab) (.inl Z) Z Z Z <| rl Z <| cd Z bu (fun bv => ?_) (fun bz => ?_)))
  .refine rs AA <| rl Z <| AJ <| Ac <| AK <| BP bv fun b6 bw => Ac <| AK ?_
   cases bw
   exact er Z Le.rfl
  exact AG <| Aq <| AE <| rg AA <| rl Z <| BA bz (wf hA [(0, 0)] Z Z Z)
 refine Aj <| Al <| De b0 fun m b1 => A5 <| AE <| AC <| rs AA <| rl Z <| AI ?_
 apply lp (a := m) (fun k : Int => ⟨108, [(1, .lpb 0 0), (6, li k)], [(0, bx (Ag b))], 1⟩) b1
 . exact wf hA [(0, 0)] Z Z Z
 intro k b9 i
 unfold GV at i
 refine AC <| rs AA <| rn 3 Z <| sx Z (Ax Z Z <| rl Z <| cd Z i (fun b2 => ?_) (fun ah => ?_))
 .refine AG <| AE <| AC <| AI <| rs AA <| rn 3 Z <| bq b2 fun ca n ac => sx Z (Am n Z Z Z <| rn 2 Z <| bq ac fun cb o ad => sx Z (Ah (Na _ _ o) (.inl Z) Z Z Z <| rl Z <| cd Z ad (fun ae => ?_) (fun ag => ?_)))
  .refine rs AA <| rl Z <| AJ <| Ac <| AK <| BP ae fun b3 af => Ac <| AK ?_
   cases af
   exact er Z Le.rfl
  exact AG <| Aq <| AE <| rg AA <| rl Z <| BA ag (wf hA [(0, 0)] Z Z Z)
 refine Aj <| Al <| CP ah fun b4 ai => A5 <| AE <| rs AA <| rl Z <| AJ ?_
 cases ai
 exact er Z Le.rfl
noncomputable def Fk (c : (List ByteArray)) (a : Int) (b : Int) : Option (Int ⊕ (Int ⊕ Bool)) :=
 bif decide (b < a) then (Ad c a).bind fun d => (Ad c b).bind fun e => bif (d.toList == e.toList) then some (.inr (.inr true)) else some (.inl (AX (b + 1))) else some (.inr (.inl (AX (a + 1))))
noncomputable def HW (b : (List ByteArray)) (a : Int) : Option (Int ⊕ Bool) :=
 bif decide (a < (b.length : Int)) then AO (Fk b a) 0 else some (.inr false)
noncomputable def FO (a : (List ByteArray)) : Option Bool :=
 AO (HW a) 0
theorem MU (b : (List ByteArray)) (r : Bool) (h : FO b = some r) : Bf Try.prog 93 [.slice 1 (b.map Eo)] (· = .bool r) := by
 refine fn AA Try.func93 Z Z 25 Z [.tmp 2] Z [(0, .p (.slice 1 (b.map Eo)))] Z Z fun A hA => ?_
 unfold FO at h
 refine rs AA <| rl Z <| AC <| rs AA <| rl Z <| AI ?_
 apply lp (a := r) (fun c : Int => ⟨25, [(0, ls 1 Eo b), (3, li c)], [], 0⟩) h
 . exact wf hA [] Z Z Z
 intro c g d
 unfold HW at d
 refine AC <| rs AA <| rn 2 Z <| sx Z (Ax Z Z <| rl Z <| cd Z d (fun k => ?_) (fun w => ?_))
 .refine AG <| AE <| AC <| AI <| rs AA <| rl Z <| AI ?_
  apply lp (a := g) (fun f : Int => ⟨25, [(0, ls 1 Eo b), (3, li c), (4, li f)], [], 0⟩) k
  . exact wf hA [] Z Z Z
  intro f ac e
  unfold Fk at e
  refine AC <| rs AA <| rl Z <| cd Z e (fun l => ?_) (fun u => ?_)
  .refine AG <| AE <| AC <| AI <| AC ?_
   refine Ct AA mixed [0, 1, 2, 3, 4, 5, 6, 7, 8] 9 (by kernel_rfl) Z Z Z ?_
   refine A1 2 Z <| bq l fun ad i m => An Z (Ak Z (Am i Z Z Z <| A1 3 Z <| bq m fun ae j n => An Z (Ak Z (Am j Z Z Z <| Bb Z <| AE <| cd Z n (fun o => ?_) (fun t => ?_)))))
   .refine rs AA <| rl Z <| AJ <| Ac <| AK <| BP o fun y q => Ac <| Ac <| AK <| BP q fun z s => Ac <| AK ?_
    cases s
    exact er Z Le.rfl
   exact AG <| Aq <| AE <| rg AA <| rl Z <| BA t (wf hA [] Z Z Z)
  exact Aj <| Al <| CP u fun aa v => A5 <| Aq <| AE <| rg AA <| rl Z <| BA v (wf hA [] Z Z Z)
 refine Aj <| Al <| CP w fun ab x => A5 <| AE <| rs AA <| rl Z <| AJ ?_
 cases x
 exact er Z Le.rfl
end Go.E
/- Plain functions, and walks in step with them. Written by a program (gen.py). No condition. -/
set_option maxRecDepth 100000
namespace Go.E
open Go Go.RowKit Go.Proofs
noncomputable def Hq (b : AH) (a : AD) : Option Bool :=
 ((bif decide (0 <= a.elem) then bif decide (a.elem < (b.elems.length : Int)) then bif decide (0 <= a.fin) then (Ad b.elems a.elem).bind fun d => (GU d.kind).bind fun e => some (decide (a.fin < e)) else some false else some false else some false : Option (Bool))).bind fun (c : Bool) => some c
theorem Ow (b : AH) (c : AD) (r : Bool) (h : Hq b c = some r) : Bf Try.prog 134 [.agg (Ag b), .agg (Aw c)] (· = .bool r) := by
 refine fn AA Try.func134 Z Z 34 Z [.tmp 4] Z [(0, .p (.agg (Ag b))), (1, .p (.agg (Aw c)))] Z Z fun A hA => ?_
 unfold Hq at h
 refine rs AA <| rl Z <| jb (fun a : Bool => ⟨34, [(4, lb a)], [], 0⟩) h (fun a f => ?_) (fun a q => ?_)
 .refine Ct AA mixed [0, 1, 2, 3, 4, 5, 6, 7, 8, 9, 10, 11, 12, 13, 14, 15, 16, 17, 18, 19, 20, 21, 22, 23, 24, 25, 26, 27, 28, 29] 30 (by kernel_rfl) Z Z Z ?_
  refine A1 4 Z <| Mu 8 f Z Z Z (fun g => ?_) (fun o => ?_)
  .refine A1 4 Z <| An Z (KP Z Z <| A1 3 Z <| Mu 16 g Z Z Z (fun i => ?_) (fun n => ?_))
   .refine A1 5 Z <| Mu 21 i Z Z Z (fun j => ?_) (fun m => ?_)
    .exact A1 6 Z <| bq j fun s d k => An Z (Ak Z (Am d Z Z Z <| A1 2 Z <| bq k fun t e l => An Z (Bo (Nb _ _ e) (.inl Z) Z Z Z <| Bb Z <| Ab l (wf hA [] Z Z Z))))
    exact Bb Z <| Ab m (wf hA [] Z Z Z)
   exact Bb Z <| Ab n (wf hA [] Z Z Z)
  exact Bb Z <| Ab o (wf hA [] Z Z Z)
 refine AJ ?_
 have hr := Option.some.inj q; subst hr
 exact er Z Le.rfl
noncomputable def II (d : AH) (e : AD) (c : Int) : Option (Int ⊕ (AD × Bool)) :=
 bif decide (c < (d.joins.length : Int)) then (Ad d.joins c).bind fun f => bif (f.a == e) then (Ad d.joins c).bind fun g => some (.inr (g.b, true)) else (Ad d.joins c).bind fun h => bif (h.b == e) then (Ad d.joins c).bind fun i => some (.inr (i.a, true)) else some (.inl (AX (c + 1))) else some (.inr ((⟨0, 0⟩ : AD), false))
noncomputable def CU (a : AH) (b : AD) : Option (AD × Bool) :=
 AO (II a b) 0
theorem DA (d : AH) (c : AD) (r : (AD × Bool)) (h : CU d c = some r) : Bf Try.prog 89 [.agg (Ag d), .agg (Aw c)] (· = .tup [.agg (Aw r.1), .bool r.2]) := by
 refine fn AA Try.func89 Z Z 43 Z [.cell 4 96, .tmp 5] Z [(0, .p (.agg (Ag d))), (1, .p (.agg (Aw c)))] Z Z fun A hA => ?_
 unfold CU at h
 refine rs AA <| rl Z <| AC <| rs AA <| rl Z <| AI ?_
 apply lp (a := r) (fun f : Int => ⟨43, [(2, .lpb 0 0), (3, .lpb 1 0), (4, .lpb 2 0), (6, li f)], [(0, bx (Ag d)), (1, .box [li c.elem, li c.fin]), (2, .box [li 0, li 0])], 3⟩) h
 . exact wf hA (gi 3 []) Z Z Z
 intro f af e
 unfold II at e
 refine AC <| rs AA <| rn 3 Z <| sx Z (Ax Z Z <| rl Z <| cd Z e (fun l => ?_) (fun y => ?_))
 .refine AG <| AE <| AC <| AI <| AC <| AC ?_
  refine Ct AA mixed [0, 1, 2, 3, 4, 5, 6, 7] 8 (by kernel_rfl) Z Z Z ?_
  refine A1 3 Z <| bq l fun aa g m => An Z (Ak Z (Am g Z Z Z <| A1 3 Z <| An Z (Lj (KU aa.a c) Z Z Z Z Z <| Bb Z <| AE <| cd Z m (fun n => ?_) (fun s => ?_))))
  .refine rs AA <| rn 3 Z <| bq n fun ag i o => sx Z (Am i Z Z Z <| rl Z <| AJ <| AK <| Ac <| AK <| BP o fun ac q => Ac <| AK ?_)
   cases q
   exact er Z Le.rfl
  refine AG <| AE <| AC ?_
  refine Ct AA mixed [0, 1, 2, 3, 4, 5, 6, 7] 8 (by kernel_rfl) Z Z Z ?_
  refine A1 3 Z <| bq s fun ab j t => An Z (Ak Z (Am j Z Z Z <| A1 3 Z <| An Z (Lj (KU ab.b c) Z Z Z Z Z <| Bb Z <| AE <| cd Z t (fun u => ?_) (fun x => ?_))))
  .refine rs AA <| rn 3 Z <| bq u fun ah k v => sx Z (Am k Z Z Z <| rl Z <| AJ <| Ac <| AK <| BP v fun ad w => Ac <| AK ?_)
   cases w
   exact er Z Le.rfl
  exact AG <| Aq <| AE <| rg AA <| rl Z <| BA x (wf hA (gi 3 []) Z Z Z)
 refine Aj <| Al <| CP y fun ae z => A5 <| AE <| rs AA <| rl Z <| AJ ?_
 cases z
 exact er Z Le.rfl
noncomputable def DB (b : AH) (a : Int) : Option Int :=
 ((bif decide (a < 0) then some true else some (decide ((b.elems.length : Int) <= a)) : Option (Bool))).bind fun (c : Bool) => bif c then some 0 else (Ad b.elems a).bind fun d => some d.kind
theorem E8 (a : AH) (b : Int) (r : Int) (h : DB a b = some r) : Bf Try.prog 135 [.agg (Ag a), .int .i64 b] (· = .int .i64 r) := by
 refine fn AA Try.func135 Z Z 20 Z [.tmp 4] Z [(0, .p (.agg (Ag a))), (1, .p (.int .i64 b))] Z Z fun A hA => ?_
 unfold DB at h
 refine rs AA <| rl Z <| AC <| jb (fun c : Bool => ⟨20, [(1, li b), (2, .lpb 0 0), (13, lb c)], [(0, bx (Ag a))], 1⟩) h (fun c e => ?_) (fun c i => ?_)
 .refine rg AA <| rn 3 Z <| gs 7 e Z Z Z (fun f => ?_) (fun g => ?_)
  .exact rl Z <| Ab f (wf hA [(0, 0)] Z Z Z)
  exact rn 3 Z <| sx Z (Ax Z Z <| rl Z <| Ab g (wf hA [(0, 0)] Z Z Z))
 refine cd Z i (fun j => ?_) (fun k => ?_)
 .refine rs AA <| rl Z <| AJ <| AK ?_
  cases j
  exact er Z Le.rfl
 refine AG <| AE <| rs AA <| rn 3 Z <| bq k fun m d l => sx Z (Am d Z Z Z <| rl Z <| AJ ?_)
 cases l
 exact er Z Le.rfl
noncomputable def Ep (c : (Int × (List AD))) (b : Int) (a : Int) : Option (Int ⊕ (Int ⊕ Bool)) :=
 bif decide (a < b) then (Ad c.2 a).bind fun d => (Ad c.2 b).bind fun e => bif (d == e) then some (.inr (.inr false)) else some (.inl (AX (a + 1))) else some (.inr (.inl (AX (b + 1))))
noncomputable def Er (b : AH) (a : Int) : Option (Int ⊕ Bool) :=
 bif decide (a < (b.elems.length : Int)) then D8 (((Ad b.elems a).bind fun e => bif (e.kind == 4) then (CU b (⟨a, 0⟩ : AD)).bind fun c => ((bif (!c.2) then some true else (DB b c.1.elem).bind fun f => some (f == 4) : Option (Bool))).bind fun (d : Bool) => bif d then some (.inr (.inr false)) else some (.inl ()) else some (.inl ()) : Option (Unit ⊕ (Int ⊕ Bool)))) fun (g : Unit) => some (.inl (AX (a + 1))) else some (.inr true)
noncomputable def Es (c : AH) (a : (Int × (List AD))) (b : Int) : Option (Int ⊕ Bool) :=
 bif decide (b < (a.2.length : Int)) then (Ad a.2 b).bind fun d => (Hq c d).bind fun e => bif (!e) then some (.inr false) else AO (Ep a b) 0 else (AO (Er c) 0).map .inr
noncomputable def Gm (d : AH) (c : Int × (List AD)) : Option ((Int × (List AD)) ⊕ Bool) :=
 bif decide (c.1 < (d.joins.length : Int)) then (Ad d.joins c.1).bind fun e => (Ad d.joins c.1).bind fun f => (BJ c.2 [e.a, f.b]).bind fun g => some (.inl (AX (c.1 + 1), g)) else (AO (Es d c) 0).map .inr
noncomputable def HE (a : AH) : Option Bool :=
 AO (Gm a) (0, ([] : List AD))
theorem Td (d : AH) (r : Bool) (h : HE d = some r) : Bf Try.prog 94 [.agg (Ag d)] (· = .bool r) := by
 refine fn AA Try.func94 Z Z 89 Z [.tmp 2] Z [(0, .p (.agg (Ag d)))] Z Z fun A hA => ?_
 unfold HE at h
 refine rs AA <| rl Z <| rs AA <| rl Z <| AC <| rs AA <| rl Z <| AI ?_
 apply lp (a := r) (fun c : (Int × (List AD)) => ⟨89, [(1, .lpb 0 0), (3, .lsl 1 2 0 c.2.length), (4, li c.1)], [(0, bx (Ag d)), (1, .row 96 2 (c.2.map Aw))], 2⟩) h
 . exact A3.trans (CM 3 96 2 Z) (wf hA [(0, 0), (1, 1)] Z Z Z)
 intro c b2 o
 unfold Gm at o
 refine AC <| rs AA <| rn 3 Z <| sx Z (Ax Z Z <| rl Z <| cd Z o (fun ag => ?_) (fun aw => ?_))
 .refine AG <| AE <| AC <| AI ?_
  refine Ct AA mixed [0, 1, 2, 3, 4, 5, 6, 7, 8, 9, 10, 11, 12, 13, 14, 15] 16 (by kernel_rfl) Z Z Z ?_
  exact A1 4 Z <| bq ag fun bo z am => An Z (Ak Z (Am z Z Z Z <| A1 5 Z <| bq am fun bp aa an => An Z (Ak Z (Am aa Z Z Z <| A1 3 Z <| bq an fun b7 ab ap => An Z (Bi Z (A7 (enc := Aw) (l := c.2) (m := [bo.a, bp.b]) ab (fun _ => ⟨Z, Z⟩) Z Z Z Z Z Z <| Bb Z <| Aq <| AE <| rg AA <| rl Z <| BA ap (wf hA [(0, 0), (1, 16)] Z Z Z)))))))
 refine Aj <| Al <| De aw fun v a3 => A5 <| AE <| AC <| rs AA <| rl Z <| AI ?_
 apply lp (a := v) (fun f : Int => ⟨89, [(1, .lpb 0 0), (3, .lsl 1 2 0 c.2.length), (5, li f)], [(0, bx (Ag d)), (1, .row 96 2 (c.2.map Aw))], 2⟩) a3
 . exact wf hA [(0, 0), (1, 1)] Z Z Z
 intro f w n
 unfold Es at n
 refine AC <| rs AA <| rl Z <| cd Z n (fun af => ?_) (fun a1 => ?_)
 .refine AG <| AE <| AC <| AI <| AC <| AC ?_
  refine Ct AA mixed [0, 1, 2, 3, 4, 5, 6] 7 (by kernel_rfl) Z Z Z ?_
  refine A1 3 Z <| bq af fun b5 i ah => An Z (Ak Z (CQ i Z Z Z Z <| An Z (Fi Z (Dm i Z Z Z <| bq ah fun b6 y ai => An Z (Bo (Ow _ _ _ y) (.inl Z) Z Z Z <| Bb Z <| AE <| cd Z ai (fun aj => ?_) (fun al => ?_))))))
  .refine rs AA <| rl Z <| AJ <| AK <| Ac <| AK <| BP aj fun bt ak => Ac <| AK ?_
   cases ak
   exact er Z Le.rfl
  refine AG <| AE <| rs AA <| rl Z <| AI ?_
  apply lp (a := w) (fun t : Int => ⟨89, [(1, .lpb 0 0), (3, .lsl 1 2 0 c.2.length), (5, li f), (6, li t)], [(0, bx (Ag d)), (1, .row 96 2 (c.2.map Aw))], 2⟩) al
  . exact wf hA [(0, 0), (1, 1)] Z Z Z
  intro t b3 q
  unfold Ep at q
  refine AC <| rs AA <| rl Z <| cd Z q (fun ao => ?_) (fun az => ?_)
  .refine AG <| AE <| AC <| AI <| AC ?_
   refine Ct AA mixed [0, 1, 2, 3, 4, 5, 6, 7, 8] 9 (by kernel_rfl) Z Z Z ?_
   refine A1 2 Z <| bq ao fun br j aq => An Z (Ak Z (CQ j Z Z Z Z <| An Z (Fi Z (Dm j Z Z Z <| A1 2 Z <| bq aq fun bs k ar => An Z (Ak Z (CQ k Z Z Z Z <| An Z (Fi Z (Dm k Z Z Z <| An Z (Lj (KU br bs) Z Z Z Z Z <| Bb Z <| AE <| cd Z ar (fun au => ?_) (fun ay => ?_))))))))))
   .refine rs AA <| rl Z <| AJ <| Ac <| AK <| BP au fun bu av => Ac <| Ac <| AK <| BP av fun bv ax => Ac <| AK ?_
    cases ax
    exact er Z Le.rfl
   exact AG <| Aq <| AE <| rg AA <| rl Z <| BA ay (wf hA [(0, 0), (1, 1)] Z Z Z)
  exact Aj <| Al <| CP az fun bw a0 => A5 <| Aq <| AE <| rg AA <| rl Z <| BA a0 (wf hA [(0, 0), (1, 1)] Z Z Z)
 refine Aj <| Al <| De a1 fun u a2 => A5 <| AE <| AC <| rs AA <| rl Z <| AI ?_
 apply lp (a := u) (fun e : Int => ⟨89, [(1, .lpb 0 0), (7, li e)], [(0, bx (Ag d))], 1⟩) a2
 . exact wf hA [(0, 0)] Z Z Z
 intro e x s
 unfold Er at s
 refine AC <| rs AA <| rn 3 Z <| sx Z (Ax Z Z <| rl Z <| cd Z s (fun a4 => ?_) (fun bl => ?_))
 .refine AG <| AE ?_
  apply jn (a := x) (fun bn : Unit => ⟨89, [(1, .lpb 0 0), (7, li e)], [(0, bx (Ag d))], 1⟩) a4
  .intro b4 a5
   refine AI <| rs AA <| rn 3 Z <| bq a5 fun b8 ac a6 => sx Z (Am ac Z Z Z <| rl Z <| cd Z a6 (fun a7 => ?_) (fun bj => ?_))
   .refine rs AA <| rn 3 Z <| bq a7 fun b9 ad a8 => sx Z (Ah (DA _ _ _ ad) (.inl Z) Z Z Z <| rl Z <| jb (fun g : Bool => ⟨89, [(1, .lpb 0 0), (7, li e), (88, lb g)], [(0, bx (Ag d))], 1⟩) a8 (fun g a9 => ?_) (fun g be => ?_))
    .refine rg AA <| rn 3 Z <| gs 82 a9 Z Z Z (fun ba => ?_) (fun bb => ?_)
     .exact rl Z <| Ab ba (wf hA [(0, 0)] Z Z Z)
     exact rn 3 Z <| bq bb fun ca ae bc => sx Z (Ah (E8 _ _ _ ae) (.inl Z) Z Z Z <| rl Z <| Ab bc (wf hA [(0, 0)] Z Z Z))
    refine cd Z be (fun bf => ?_) (fun bi => ?_)
    .refine rs AA <| rl Z <| AJ <| Ac <| BP bf fun bz bg => BP bg fun b0 bh => Ac <| AK ?_
     cases bh
     exact er Z Le.rfl
    exact AG <| Aq <| BA bi (wf hA [(0, 0)] Z Z Z)
   exact AG <| Aq <| BA bj (wf hA [(0, 0)] Z Z Z)
  intro bn bk
  exact rg AA <| rl Z <| BA bk (wf hA [(0, 0)] Z Z Z)
 refine Aj <| Al <| CP bl fun b1 bm => A5 <| AE <| rs AA <| rl Z <| AJ ?_
 cases bm
 exact er Z Le.rfl
noncomputable def HX (b : AH) (c : AD) (a : Int) : Option (Int ⊕ Int) :=
 bif decide (a < (b.signals.length : Int)) then (Ad b.signals a).bind fun d => bif (d.at_ == c) then some (.inr a) else some (.inl (AX (a + 1))) else some (.inr (-1))
noncomputable def EG (a : AH) (b : AD) : Option Int :=
 AO (HX a b) 0
theorem Jz (c : AH) (b : AD) (r : Int) (h : EG c b = some r) : Bf Try.prog 130 [.agg (Ag c), .agg (Aw b)] (· = .int .i64 r) := by
 refine fn AA Try.func130 Z Z 22 Z [.tmp 4] Z [(0, .p (.agg (Ag c))), (1, .p (.agg (Aw b)))] Z Z fun A hA => ?_
 unfold EG at h
 refine rs AA <| rl Z <| AC <| rs AA <| rl Z <| AI ?_
 apply lp (a := r) (fun e : Int => ⟨22, [(2, .lpb 0 0), (3, .lpb 1 0), (5, li e)], [(0, bx (Ag c)), (1, .box [li b.elem, li b.fin])], 2⟩) h
 . exact wf hA [(0, 0), (1, 1)] Z Z Z
 intro e t d
 unfold HX at d
 refine AC <| rs AA <| rn 3 Z <| sx Z (Ax Z Z <| rl Z <| cd Z d (fun n => ?_) (fun l => ?_))
 .refine AG <| AE <| AC <| AI <| AC ?_
  refine Ct AA mixed [0, 1, 2, 3, 4, 5, 6, 7] 8 (by kernel_rfl) Z Z Z ?_
  refine A1 3 Z <| bq n fun o f g => An Z (Ak Z (Am f Z Z Z <| A1 3 Z <| An Z (Lj (KU o.at_ b) Z Z Z Z Z <| Bb Z <| AE <| cd Z g (fun i => ?_) (fun k => ?_))))
  .refine rs AA <| rl Z <| AJ <| Ac <| AK <| BP i fun q j => Ac <| AK ?_
   have hr := Option.some.inj j; subst hr
   exact er Z Le.rfl
  exact AG <| Aq <| AE <| rg AA <| rl Z <| BA k (wf hA [(0, 0), (1, 1)] Z Z Z)
 refine Aj <| Al <| CP l fun s m => A5 <| AE <| rs AA <| rl Z <| AJ ?_
 cases m
 exact er Z Le.rfl
noncomputable def EH (b : AH) (a : Int) : Option (Int ⊕ Bool) :=
 bif decide (a < (b.elems.length : Int)) then (((Ad b.elems a).bind fun d => bif (d.kind == 4) then (EG b (⟨a, 0⟩ : AD)).bind fun e => some (decide (e < 0)) else some false : Option (Bool))).bind fun (c : Bool) => bif c then some (.inr false) else some (.inl (AX (a + 1))) else some (.inr true)
noncomputable def F9 (a : AH) (b : Int) : Option (Int ⊕ Bool) :=
 bif decide (b < (a.signals.length : Int)) then (Ad a.signals b).bind fun c => (DB a c.at_.elem).bind fun d => (((Hq a c.at_).bind fun h => bif (!h) then some true else bif (d != 1) then some (d != 4) else some false : Option (Bool))).bind fun (f : Bool) => bif f then some (.inr false) else (CU a c.at_).bind fun e => ((bif (!e.2) then some true else (DB a e.1.elem).bind fun i => bif (i == 4) then some true else (EG a c.at_).bind fun j => some (j != b) : Option (Bool))).bind fun (g : Bool) => bif g then some (.inr false) else some (.inl (AX (b + 1))) else (AO (EH a) 0).map .inr
noncomputable def GY (a : AH) : Option Bool :=
 AO (F9 a) 0
theorem Sj (b : AH) (r : Bool) (h : GY b = some r) : Bf Try.prog 95 [.agg (Ag b)] (· = .bool r) := by
 refine fn AA Try.func95 Z Z 81 Z [.tmp 2] Z [(0, .p (.agg (Ag b)))] Z Z fun A hA => ?_
 unfold GY at h
 refine rs AA <| rl Z <| AC <| rs AA <| rl Z <| AI ?_
 apply lp (a := r) (fun c : Int => ⟨81, [(1, .lpb 0 0), (3, li c)], [(0, bx (Ag b))], 1⟩) h
 . exact wf hA [(0, 0)] Z Z Z
 intro c bh j
 unfold F9 at j
 refine AC <| rs AA <| rn 3 Z <| sx Z (Ax Z Z <| rl Z <| cd Z j (fun ai => ?_) (fun a9 => ?_))
 .refine AG <| AE <| AC <| AI <| rs AA <| rn 3 Z <| bq ai fun k o aj => sx Z (Am o Z Z Z <| rl Z <| rs AA <| rn 3 Z <| bq aj fun bk q ak => sx Z (Ah (E8 _ _ _ q) (.inl Z) Z Z Z <| rl Z <| AC <| jb (fun f : Bool => ⟨81, [(1, .lpb 0 0), (3, li c), (4, .lpb 1 0), (37, lb f)], [(0, bx (Ag b)), (1, .box [li k.at_.elem, li k.at_.fin])], 2⟩) ak (fun f al => ?_) (fun f ar => ?_)))
  .refine rg AA <| rn 2 Z <| bq al fun bl s am => sx Z (Ah (Ow _ _ _ s) (.inl Z) Z Z Z <| rn 2 Z <| gs 30 am Z Z Z (fun an => ?_) (fun ao => ?_))
   .exact rl Z <| Ab an (wf hA [(0, 0), (1, 1)] Z Z Z)
   refine rn 3 Z <| gs 33 ao Z Z Z (fun ap => ?_) (fun aq => ?_)
   .exact rl Z <| Ab ap (wf hA [(0, 0), (1, 1)] Z Z Z)
   exact rl Z <| Ab aq (wf hA [(0, 0), (1, 1)] Z Z Z)
  refine cd Z ar (fun au => ?_) (fun aw => ?_)
  .refine rs AA <| rl Z <| AJ <| AK <| Ac <| AK <| BP au fun be av => Ac <| AK ?_
   cases av
   exact er Z Le.rfl
  refine AG <| AE <| rs AA <| rn 2 Z <| bq aw fun bm t ax => sx Z (Ah (DA _ _ _ t) (.inl Z) Z Z Z <| rl Z <| jb (fun g : Bool => ⟨81, [(1, .lpb 0 0), (3, li c), (59, lb g)], [(0, bx (Ag b))], 1⟩) ax (fun g ay => ?_) (fun g a5 => ?_))
  .refine rg AA <| rn 3 Z <| gs 46 ay Z Z Z (fun az => ?_) (fun a0 => ?_)
   .exact rl Z <| Ab az (wf hA [(0, 0)] Z Z Z)
   refine rn 3 Z <| bq a0 fun bn u a1 => sx Z (Ah (E8 _ _ _ u) (.inl Z) Z Z Z <| rn 3 Z <| gs 53 a1 Z Z Z (fun a2 => ?_) (fun a3 => ?_))
   .exact rl Z <| Ab a2 (wf hA [(0, 0)] Z Z Z)
   exact rn 2 Z <| bq a3 fun bo v a4 => sx Z (Ah (Jz _ _ _ v) (.inl Z) Z Z Z <| rl Z <| Ab a4 (wf hA [(0, 0)] Z Z Z))
  refine cd Z a5 (fun a6 => ?_) (fun a8 => ?_)
  .refine rs AA <| rl Z <| AJ <| Ac <| AK <| BP a6 fun bf a7 => Ac <| AK ?_
   cases a7
   exact er Z Le.rfl
  exact AG <| Aq <| AE <| rg AA <| rl Z <| BA a8 (wf hA [(0, 0)] Z Z Z)
 refine Aj <| Al <| De a9 fun l ba => A5 <| AE <| AC <| rs AA <| rl Z <| AI ?_
 apply lp (a := l) (fun d : Int => ⟨81, [(1, .lpb 0 0), (8, li d)], [(0, bx (Ag b))], 1⟩) ba
 . exact wf hA [(0, 0)] Z Z Z
 intro d bg i
 unfold EH at i
 refine AC <| rs AA <| rn 3 Z <| sx Z (Ax Z Z <| rl Z <| cd Z i (fun w => ?_) (fun ag => ?_))
 .refine AG <| AE <| AC <| AI <| jb (fun e : Bool => ⟨81, [(1, .lpb 0 0), (8, li d), (80, lb e)], [(0, bx (Ag b))], 1⟩) w (fun e x => ?_) (fun e ac => ?_)
  .refine rg AA <| rn 3 Z <| bq x fun bi m y => sx Z (Am m Z Z Z <| rn 4 Z <| gs 74 y Z Z Z (fun z => ?_) (fun ab => ?_))
   .exact rn 3 Z <| bq z fun bj n aa => sx Z (Ah (Jz _ _ _ n) (.inl Z) Z Z Z <| rl Z <| Ab aa (wf hA [(0, 0)] Z Z Z))
   exact rl Z <| Ab ab (wf hA [(0, 0)] Z Z Z)
  refine cd Z ac (fun ad => ?_) (fun af => ?_)
  .refine rs AA <| rl Z <| AJ <| Ac <| AK <| BP ad fun bb ae => Ac <| AK ?_
   cases ae
   exact er Z Le.rfl
  exact AG <| Aq <| AE <| rg AA <| rl Z <| BA af (wf hA [(0, 0)] Z Z Z)
 refine Aj <| Al <| CP ag fun bc ah => A5 <| AE <| rs AA <| rl Z <| AJ ?_
 cases ah
 exact er Z Le.rfl
noncomputable def EI (b : (List Int)) (c : Int) (a : Int) : Option (Int ⊕ Bool) :=
 bif decide (a < (b.length : Int)) then (Ad b a).bind fun d => bif (d == c) then some (.inr true) else some (.inl (AX (a + 1))) else some (.inr false)
noncomputable def Cw (a : (List Int)) (b : Int) : Option Bool :=
 AO (EI a b) 0
theorem Fy (b : (List Int)) (c : Int) (r : Bool) (h : Cw b c = some r) : Bf Try.prog 28 [.slice 1 (b.map AL), .int .i64 c] (· = .bool r) := by
 refine fn AA Try.func28 Z Z 18 Z [.tmp 4] Z [(0, .p (.slice 1 (b.map AL))), (1, .p (.int .i64 c))] Z Z fun A hA => ?_
 unfold Cw at h
 refine rs AA <| rl Z <| AC <| rs AA <| rl Z <| AI ?_
 apply lp (a := r) (fun e : Int => ⟨18, [(0, ls 1 AL b), (1, li c), (5, li e)], [], 0⟩) h
 . exact wf hA [] Z Z Z
 intro e s d
 unfold EI at d
 refine AC <| rs AA <| rn 2 Z <| sx Z (Ax Z Z <| rl Z <| cd Z d (fun n => ?_) (fun l => ?_))
 .refine AG <| AE <| AC <| AI <| rs AA <| rn 2 Z <| bq n fun t f g => sx Z (Am f Z Z Z <| rl Z <| cd Z g (fun i => ?_) (fun k => ?_))
  .refine rs AA <| rl Z <| AJ <| Ac <| AK <| BP i fun o j => Ac <| AK ?_
   cases j
   exact er Z Le.rfl
  exact AG <| Aq <| AE <| rg AA <| rl Z <| BA k (wf hA [] Z Z Z)
 refine Aj <| Al <| CP l fun q m => A5 <| AE <| rs AA <| rl Z <| AJ ?_
 cases m
 exact er Z Le.rfl
noncomputable def Et (e : AH) (c : (List Int)) (a : Int × Int × (List Int)) : Option ((Int × Int × (List Int)) ⊕ ((List Int) × Bool)) :=
 bif decide (a.2.1 < (c.length : Int)) then (Ad c (AX (a.2.1 - 1))).bind fun f => (CU e (⟨f, a.1⟩ : AD)).bind fun b => ((bif (!b.2) then some true else (Ad c a.2.1).bind fun g => some (b.1.elem != g) : Option (Bool))).bind fun (d : Bool) => bif d then some (.inr ([], false)) else (BJ a.2.2 [b.1.fin]).bind fun h => some (.inl (AX (1 - b.1.fin), AX (a.2.1 + 1), h)) else some (.inr (a.2.2, true))
noncomputable def DK (c : AH) (b : (List Int)) (a : Int × Int) : Option ((Int × Int) ⊕ ((List Int) × Bool)) :=
 bif decide (0 <= a.2) then (((Ad b 0).bind fun g => (CU c (⟨g, a.2⟩ : AD)).bind fun d => ((bif d.2 then (Ad b 1).bind fun h => some (d.1.elem == h) else some false : Option (Bool))).bind fun (f : Bool) => bif f then some a.2 else some a.1 : Option (Int))).bind fun (e : Int) => some (.inl (e, AX (a.2 - 1))) else (bif decide (a.1 < 0) then some ([], false) else AO (Et c b) (a.1, 1, [AX (1 - a.1)])).map .inr
noncomputable def Gn (c : AH) (a : (List Int)) (b : Int) : Option (Int ⊕ ((List Int) × Bool)) :=
 bif decide (b < (a.length : Int)) then (Ad a b).bind fun d => (DB c d).bind fun e => bif (e != 1) then some (.inr ([], false)) else some (.inl (AX (b + 1))) else (bif ((a.length : Int) == 1) then some ([0], true) else AO (DK c a) ((-1), 1)).map .inr
noncomputable def HF (b : AH) (a : (List Int)) : Option ((List Int) × Bool) :=
 bif ((a.length : Int) == 0) then some ([], false) else AO (Gn b a) 0
theorem Te (c : AH) (d : (List Int)) (r : ((List Int) × Bool)) (h : HF c d = some r) : Bf Try.prog 136 [.agg (Ag c), .slice 1 (d.map AL)] (· = .tup [.slice 1 (r.1.map AL), .bool r.2]) := by
 refine fn AA Try.func136 Z Z 102 Z [.tmp 4, .tmp 5] Z [(0, .p (.agg (Ag c))), (1, .p (.slice 1 (d.map AL)))] Z Z fun A hA => ?_
 unfold HF at h
 refine rs AA <| rl Z <| AC <| rs AA <| rn 1 Z <| sx Z (Ax Z Z <| rl Z <| cd Z h (fun an => ?_) (fun ao => ?_))
 .refine rs AA <| rl Z <| AJ <| AK ?_
  cases an
  exact er Z (Le.tup' (.cons (Le.nil _) (.cons Le.rfl .nil)))
 refine AG <| AE <| AC <| rs AA <| rl Z <| AI ?_
 apply lp (a := r) (fun q : Int => ⟨102, [(1, ls 1 AL d), (2, .lpb 0 0), (6, li q)], [(0, bx (Ag c))], 1⟩) ao
 . exact wf hA [(0, 0)] Z Z Z
 intro q bp k
 unfold Gn at k
 refine AC <| rs AA <| rn 2 Z <| sx Z (Ax Z Z <| rl Z <| cd Z k (fun ad => ?_) (fun aj => ?_))
 .refine AG <| AE <| AC <| AI <| AC ?_
  refine Ct AA mixed [0, 1, 2, 3, 4, 5, 6] 7 (by kernel_rfl) Z Z Z ?_
  refine A1 3 Z <| bq ad fun bt u ae => An Z (Ak Z (Am u Z Z Z <| A1 1 Z <| bq ae fun bu v af => An Z (Bo (E8 _ _ _ v) (.inl Z) Z Z Z <| Bb Z <| AE <| cd Z af (fun ag => ?_) (fun ai => ?_))))
  .refine rs AA <| rl Z <| AJ <| Ac <| AK <| BP ag fun bm ah => Ac <| AK ?_
   cases ah
   exact er Z (Le.tup' (.cons (Le.nil _) (.cons Le.rfl .nil)))
  exact AG <| Aq <| AE <| rg AA <| rl Z <| BA ai (wf hA [(0, 0)] Z Z Z)
 refine Aj <| Al <| De aj fun s ak => A5 <| AE <| AC <| rs AA <| rn 1 Z <| sx Z (Ax Z Z <| rl Z <| cd Z ak (fun al => ?_) (fun am => ?_))
 .refine rs AA <| rl Z <| AJ <| AK ?_
  cases al
  exact er (Xd Z (.cons (.one (.own (enc := AL) ([0] : List Int) Z Z)) (.cons (.one (.p _)) .nil))) Le.rfl
 refine AG <| AE <| rs AA <| rl Z <| AC <| rs AA <| rl Z <| AI ?_
 apply lp (a := s) (fun e : (Int × Int) => ⟨102, [(1, ls 1 AL d), (2, .lpb 0 0), (7, li e.1), (8, li e.2)], [(0, bx (Ag c))], 1⟩) am
 . exact wf hA [(0, 0)] Z Z Z
 intro e br n
 unfold DK at n
 refine AC <| rs AA <| rl Z <| cd Z n (fun ap => ?_) (fun a3 => ?_)
 .refine AG <| AE <| jb (fun f : Int => ⟨102, [(1, ls 1 AL d), (2, .lpb 0 0), (7, li f), (8, li e.2)], [(0, bx (Ag c))], 1⟩) ap (fun f aq => ?_) (fun f a2 => ?_)
  .refine AI <| AC ?_
   refine Ct AA mixed [0, 1, 2, 3, 4, 5, 6, 7, 8, 9, 10, 11, 12] 13 (by kernel_rfl) Z Z Z ?_
   refine A1 2 Z <| bq aq fun bv w ar => An Z (Ak Z (Am w Z Z Z <| A1 3 Z <| bq ar fun bw x au => An Z (Bo (DA _ _ _ x) (.inl Z) Z Z Z <| Bb Z <| AE <| jb (fun g : Bool => ⟨102, [(1, ls 1 AL d), (2, .lpb 0 0), (7, li e.1), (8, li e.2), (57, lb g)], [(0, bx (Ag c))], 1⟩) au (fun g av => ?_) (fun g az => ?_))))
   .refine Ct AA mixed [0, 1, 2, 3, 4, 5, 6, 7, 8] 9 (by kernel_rfl) Z Z Z ?_
    refine A1 2 Z <| Mu 50 av Z Z Z (fun aw => ?_) (fun ay => ?_)
    .exact A1 3 Z <| bq aw fun bz y ax => An Z (Ak Z (Am y Z Z Z <| Bb Z <| Ab ax (wf hA [(0, 0)] Z Z Z)))
    exact Bb Z <| Ab ay (wf hA [(0, 0)] Z Z Z)
   refine cd Z az (fun a0 => ?_) (fun a1 => ?_)
   .exact rg AA <| rl Z <| Aq <| Ab a0 (wf hA [(0, 0)] Z Z Z)
   exact AG <| Aq <| Ab a1 (wf hA [(0, 0)] Z Z Z)
  exact rg AA <| rl Z <| BA a2 (wf hA [(0, 0)] Z Z Z)
 refine Aj <| Al <| De a3 fun t a4 => A5 <| AE <| AC <| rs AA <| rl Z <| cd Z a4 (fun a5 => ?_) (fun a6 => ?_)
 .refine rs AA <| rl Z <| AJ <| AK ?_
  cases a5
  exact er Z (Le.tup' (.cons (Le.nil _) (.cons Le.rfl .nil)))
 refine AG <| AE <| rs AA <| rl Z <| AC <| rs AA <| rl Z <| AI ?_
 apply lp (a := t) (fun b : (Int × Int × (List Int)) => ⟨102, [(1, ls 1 AL d), (2, .lpb 0 0), (7, li b.1), (11, .lsl 1 1 0 b.2.2.length), (12, li b.2.1)], [(0, bx (Ag c)), (1, .row 3 1 (b.2.2.map AL))], 2⟩) a6
 . exact wf hA [(0, 0), (1, 1)] Z Z Z
 intro b bs o
 unfold Et at o
 refine AC <| rs AA <| rn 2 Z <| sx Z (Ax Z Z <| rl Z <| cd Z o (fun a7 => ?_) (fun bk => ?_))
 .refine AG <| AE <| AC <| AI <| AC ?_
  refine Ct AA mixed [0, 1, 2, 3, 4, 5, 6, 7, 8, 9, 10, 11, 12, 13, 14] 15 (by kernel_rfl) Z Z Z ?_
  refine A1 4 Z <| bq a7 fun b0 z a8 => An Z (Ak Z (Am z Z Z Z <| A1 3 Z <| bq a8 fun j aa a9 => An Z (Bo (DA _ _ _ aa) (.inl Z) Z Z Z <| Bb Z <| AE <| AC <| jb (fun i : Bool => ⟨102, [(1, ls 1 AL d), (2, .lpb 0 0), (11, .lsl 1 1 0 b.2.2.length), (12, li b.2.1), (13, .lpb 2 0), (92, lb i)], [(0, bx (Ag c)), (1, .row 3 1 (b.2.2.map AL)), (2, .box [li j.1.elem, li j.1.fin])], 3⟩) a9 (fun i ba => ?_) (fun i bf => ?_))))
  .refine Ct AA mixed [0, 1, 2, 3, 4, 5, 6, 7, 8, 9, 10] 11 (by kernel_rfl) Z Z Z ?_
   refine A1 3 Z <| Mu 84 ba Z Z Z (fun bb => ?_) (fun bc => ?_)
   .exact Bb Z <| Ab bb (wf hA [(0, 0), (1, 1), (2, 14)] Z Z Z)
   exact A1 4 Z <| bq bc fun b1 ab be => An Z (Ak Z (Am ab Z Z Z <| Bb Z <| Ab be (wf hA [(0, 0), (1, 1), (2, 14)] Z Z Z)))
  refine cd Z bf (fun bg => ?_) (fun bi => ?_)
  .refine rs AA <| rl Z <| AJ <| AK <| Ac <| AK <| BP bg fun bn bh => Ac <| AK ?_
   cases bh
   exact er Z (Le.tup' (.cons (Le.nil _) (.cons Le.rfl .nil)))
  exact AG <| AE <| rs AA <| rn 4 Z <| bq bi fun b2 ac bj => sx Z (A7 (enc := AL) (l := b.2.2) (m := [j.1.fin]) ac (fun _ => ⟨Z, Z⟩) Z Z Z Z Z Z <| rl Z <| rg AA <| rl Z <| Aq <| AE <| rg AA <| rl Z <| BA bj (wf hA [(0, 0), (1, 4)] Z Z Z))
 refine Aj <| Al <| CP bk fun bo bl => A5 <| AE <| rs AA <| rl Z <| AJ ?_
 cases bl
 exact er (Xd Z (.cons (.one (.own (enc := AL) b.2.2 Z Z)) (.cons (.one (.p _)) .nil))) Le.rfl
end Go.E
/- Plain functions, and walks in step with them. Written by a program (gen.py). No condition. -/
set_option maxRecDepth 100000
namespace Go.E
open Go Go.RowKit Go.Proofs
noncomputable def Fo (d : AH) (c : (Int × (List Int))) (b : B9) (a : Int × (List Int)) : Option ((Int × (List Int)) ⊕ ((Int × (List Int)) ⊕ Bool)) :=
 bif decide (a.1 < (b.elems.length : Int)) then (Ad b.elems a.1).bind fun e => (Cw a.2 e).bind fun f => bif f then some (.inr (.inr false)) else (Ad b.elems a.1).bind fun g => (BJ a.2 [g]).bind fun h => some (.inl (AX (a.1 + 1), h)) else ((HF d b.elems).bind fun i => bif (!i.2) then some (.inr false) else some (.inl (AX (c.1 + 1), a.2))).map .inr
noncomputable def HY (b : AH) (a : Int × (List Int)) : Option ((Int × (List Int)) ⊕ Bool) :=
 bif decide (a.1 < (b.lines.length : Int)) then (Ad b.lines a.1).bind fun c => AO (Fo b a c) (0, a.2) else some (.inr true)
noncomputable def IJ (a : AH) : Option Bool :=
 AO (HY a) (0, ([] : List Int))
theorem Uz (d : AH) (r : Bool) (h : IJ d = some r) : Bf Try.prog 96 [.agg (Ag d)] (· = .bool r) := by
 refine fn AA Try.func96 Z Z 49 Z [.tmp 2] Z [(0, .p (.agg (Ag d)))] Z Z fun A hA => ?_
 unfold IJ at h
 refine rs AA <| rl Z <| rs AA <| rl Z <| AC <| rs AA <| rl Z <| AI ?_
 apply lp (a := r) (fun c : (Int × (List Int)) => ⟨49, [(1, .lpb 0 0), (3, .lsl 1 1 0 c.2.length), (4, li c.1)], [(0, bx (Ag d)), (1, .row 3 1 (c.2.map AL))], 2⟩) h
 . exact A3.trans (CM 3 3 1 Z) (wf hA [(0, 0), (1, 1)] Z Z Z)
 intro c g e
 unfold HY at e
 refine AC <| rs AA <| rn 3 Z <| sx Z (Ax Z Z <| rl Z <| cd Z e (fun s => ?_) (fun aj => ?_))
 .refine AG <| AE <| AC <| AI <| rs AA <| rn 3 Z <| bq s fun al i t => sx Z (Am i Z Z Z <| rl Z <| AC <| rs AA <| rl Z <| AI ?_)
  apply lp (a := g) (fun b : (Int × (List Int)) => ⟨49, [(1, .lpb 0 0), (3, .lsl 1 1 0 b.2.length), (4, li c.1), (5, ls 1 AL al.elems), (6, li b.1)], [(0, bx (Ag d)), (1, .row 3 1 (b.2.map AL))], 2⟩) t
  . exact wf hA [(0, 0), (1, 1)] Z Z Z
  intro b au f
  unfold Fo at f
  refine AC <| rs AA <| rn 2 Z <| sx Z (Ax Z Z <| rl Z <| cd Z f (fun u => ?_) (fun ad => ?_))
  .refine AG <| AE <| AC <| AI <| AC <| rs AA <| rn 3 Z <| bq u fun av j v => sx Z (Am j Z Z Z <| rn 1 Z <| bq v fun aw k w => sx Z (Ah (Fy _ _ _ k) (.inl Z) Z Z (Dw.eq (.cons (.one (.own (enc := AL) b.2 Z Z)) (.cons (.one (.p _)) .nil))) <| rl Z <| cd Z w (fun x => ?_) (fun aa => ?_)))
   .refine rs AA <| rl Z <| AJ <| AK <| Ac <| AK <| BP x fun an y => Ac <| AK <| Ac <| AK <| BP y fun ao z => Ac <| AK ?_
    cases z
    exact er Z Le.rfl
   exact AG <| AE <| rg AA <| rn 3 Z <| bq aa fun am n ab => sx Z (Am n Z Z Z <| rn 2 Z <| bq ab fun ax o ac => sx Z (A7 (enc := AL) (l := b.2) (m := [am]) o (fun _ => ⟨Z, Z⟩) Z Z Z Z Z Z <| rl Z <| Aq <| AE <| rg AA <| rl Z <| BA ac (wf hA [(0, 0), (1, 3)] Z Z Z)))
  refine Aj <| Al <| De ad fun ap ae => A5 <| AE <| rs AA <| rn 2 Z <| bq ae fun ay q af => sx Z (Ah (Te _ _ _ q) (.inr Z) Z Z Z <| rl Z <| rs AA <| rl Z <| cd Z af (fun ag => ?_) (fun ai => ?_))
  .refine rs AA <| rl Z <| AJ <| Ac <| AK <| BP ag fun aq ah => Ac <| AK ?_
   cases ah
   exact er Z Le.rfl
  exact AG <| Aq <| AE <| rg AA <| rl Z <| BA ai (wf hA [(0, 0), (1, 1)] Z Z Z)
 refine Aj <| Al <| CP aj fun ar ak => A5 <| AE <| rs AA <| rl Z <| AJ ?_
 cases ak
 exact er Z Le.rfl
noncomputable def IK (b : Int) (a : Int × Int) : Option ((Int × Int) ⊕ Int) :=
 bif decide (0 < a.1) then some (.inl (AX (a.1 - b), AX (a.2 + a.1))) else some (.inr a.2)
noncomputable def Hz (b : Int) (a : Int) : Option Int :=
 ((bif decide (b < 0) then some true else bif decide (60 < b) then some true else bif decide (a < 1) then some true else some (decide (10 < a)) : Option (Bool))).bind fun (c : Bool) => bif c then some 0 else AO (IK a) (AX (b - a), 0)
theorem Vs (c : Int) (b : Int) (r : Int) (h : Hz c b = some r) : Bf Try.prog 137 [.int .i64 c, .int .i64 b] (· = .int .i64 r) := by
 refine fn AA Try.func137 Z Z 32 Z [.tmp 4] Z [(0, .p (.int .i64 c)), (1, .p (.int .i64 b))] Z Z fun A hA => ?_
 unfold Hz at h
 refine rs AA <| rl Z <| AC <| jb (fun e : Bool => ⟨32, [(0, li c), (1, li b), (19, lb e)], [], 0⟩) h (fun e g => ?_) (fun e o => ?_)
 .refine rg AA <| rn 3 Z <| gs 8 g Z Z Z (fun i => ?_) (fun j => ?_)
  .exact rl Z <| Ab i (wf hA [] Z Z Z)
  refine rn 4 Z <| gs 12 j Z Z Z (fun k => ?_) (fun l => ?_)
  .exact rl Z <| Ab k (wf hA [] Z Z Z)
  refine rn 4 Z <| gs 16 l Z Z Z (fun m => ?_) (fun n => ?_)
  .exact rl Z <| Ab m (wf hA [] Z Z Z)
  exact rl Z <| Ab n (wf hA [] Z Z Z)
 refine cd Z o (fun q => ?_) (fun s => ?_)
 .refine rs AA <| rl Z <| AJ <| AK ?_
  cases q
  exact er Z Le.rfl
 refine AG <| AE <| rs AA <| rl Z <| AC <| rs AA <| rl Z <| AI ?_
 apply lp (a := r) (fun d : (Int × Int) => ⟨32, [(0, li d.1), (1, li b), (5, li d.2)], [], 0⟩) s
 . exact wf hA [] Z Z Z
 intro d x f
 unfold IK at f
 refine AC <| rs AA <| rl Z <| cd Z f (fun t => ?_) (fun u => ?_)
 .exact AG <| AE <| AC <| AI <| rg AA <| rl Z <| Aq <| AE <| rg AA <| rl Z <| BA t (wf hA [] Z Z Z)
 refine Aj <| Al <| CP u fun w v => A5 <| AE <| rs AA <| rl Z <| AJ ?_
 cases v
 exact er Z Le.rfl
noncomputable def HG (b : AH) (a : Int) : Option Int :=
 ((bif decide (a < 0) then some true else some (decide ((b.elems.length : Int) <= a)) : Option (Bool))).bind fun (c : Bool) => bif c then some 0 else (Ad b.elems a).bind fun d => some d.length
theorem Tf (a : AH) (b : Int) (r : Int) (h : HG a b = some r) : Bf Try.prog 138 [.agg (Ag a), .int .i64 b] (· = .int .i64 r) := by
 refine fn AA Try.func138 Z Z 20 Z [.tmp 4] Z [(0, .p (.agg (Ag a))), (1, .p (.int .i64 b))] Z Z fun A hA => ?_
 unfold HG at h
 refine rs AA <| rl Z <| AC <| jb (fun c : Bool => ⟨20, [(1, li b), (2, .lpb 0 0), (13, lb c)], [(0, bx (Ag a))], 1⟩) h (fun c e => ?_) (fun c i => ?_)
 .refine rg AA <| rn 3 Z <| gs 7 e Z Z Z (fun f => ?_) (fun g => ?_)
  .exact rl Z <| Ab f (wf hA [(0, 0)] Z Z Z)
  exact rn 3 Z <| sx Z (Ax Z Z <| rl Z <| Ab g (wf hA [(0, 0)] Z Z Z))
 refine cd Z i (fun j => ?_) (fun k => ?_)
 .refine rs AA <| rl Z <| AJ <| AK ?_
  cases j
  exact er Z Le.rfl
 refine AG <| AE <| rs AA <| rn 3 Z <| bq k fun m d l => sx Z (Am d Z Z Z <| rl Z <| AJ ?_)
 cases l
 exact er Z Le.rfl
noncomputable def GZ (b : AH) (a : Int) : Option (Int ⊕ Bool) :=
 bif decide (a < (b.elems.length : Int)) then (((Ad b.elems a).bind fun d => bif (d.kind != 4) then (Ad b.elems a).bind fun e => some (decide (e.length < b.top)) else some false : Option (Bool))).bind fun (c : Bool) => bif c then some (.inr false) else some (.inl (AX (a + 1))) else some (.inr true)
noncomputable def IL (a : AH) (b : Int) : Option (Int ⊕ Bool) :=
 bif decide (b < (a.signals.length : Int)) then (Ad a.signals b).bind fun c => (((DB a c.at_.elem).bind fun e => bif (e == 1) then (HG a c.at_.elem).bind fun f => some (decide (f < a.margin)) else some false : Option (Bool))).bind fun (d : Bool) => bif d then some (.inr false) else some (.inl (AX (b + 1))) else (AO (GZ a) 0).map .inr
noncomputable def JY (a : AH) : Option Bool :=
 (Hz a.top a.brake).bind fun b => bif decide (a.margin < AX (a.top + b)) then some false else AO (IL a) 0
theorem Vt (b : AH) (r : Bool) (h : JY b = some r) : Bf Try.prog 97 [.agg (Ag b)] (· = .bool r) := by
 refine fn AA Try.func97 Z Z 68 Z [.tmp 2] Z [(0, .p (.agg (Ag b)))] Z Z fun A hA => ?_
 unfold JY at h
 refine rs AA <| rl Z <| AC <| AC ?_
 refine Ct AA mixed [0, 1, 2, 3, 4, 5, 6, 7, 8, 9, 10] 11 (by kernel_rfl) Z Z Z ?_
 refine A1 8 Z <| bq h fun a6 q s => An Z (Bo (Vs _ _ _ q) (.inl Z) Z Z Z <| Bb Z <| AE <| cd Z s (fun t => ?_) (fun u => ?_))
 .refine rs AA <| rl Z <| AJ <| AK ?_
  cases t
  exact er Z Le.rfl
 refine AG <| AE <| AC <| rs AA <| rl Z <| AI ?_
 apply lp (a := r) (fun c : Int => ⟨68, [(1, .lpb 0 0), (3, li c)], [(0, bx (Ag b))], 1⟩) u
 . exact wf hA [(0, 0)] Z Z Z
 intro c az g
 unfold IL at g
 refine AC <| rs AA <| rn 3 Z <| sx Z (Ax Z Z <| rl Z <| cd Z g (fun v => ?_) (fun ag => ?_))
 .refine AG <| AE <| AC <| AI <| rs AA <| rn 3 Z <| bq v fun a1 k w => sx Z (Am k Z Z Z <| rl Z <| jb (fun e : Bool => ⟨68, [(1, .lpb 0 0), (3, li c), (42, lb e)], [(0, bx (Ag b))], 1⟩) w (fun e x => ?_) (fun e ac => ?_))
  .refine Ct AA mixed [0, 1, 2, 3, 4, 5, 6, 7, 8, 9, 10, 11] 12 (by kernel_rfl) Z Z Z ?_
   refine A1 2 Z <| bq x fun a2 l y => An Z (Bo (E8 _ _ _ l) (.inl Z) Z Z Z <| A1 2 Z <| Mu 35 y Z Z Z (fun z => ?_) (fun ab => ?_))
   .exact A1 2 Z <| bq z fun a3 m aa => An Z (Bo (Tf _ _ _ m) (.inl Z) Z Z Z <| Bb Z <| Ab aa (wf hA [(0, 0)] Z Z Z))
   exact Bb Z <| Ab ab (wf hA [(0, 0)] Z Z Z)
  refine cd Z ac (fun ad => ?_) (fun af => ?_)
  .refine rs AA <| rl Z <| AJ <| Ac <| AK <| BP ad fun aw ae => Ac <| AK ?_
   cases ae
   exact er Z Le.rfl
  exact AG <| Aq <| AE <| rg AA <| rl Z <| BA af (wf hA [(0, 0)] Z Z Z)
 refine Aj <| Al <| De ag fun j ah => A5 <| AE <| AC <| rs AA <| rl Z <| AI ?_
 apply lp (a := j) (fun d : Int => ⟨68, [(1, .lpb 0 0), (5, li d)], [(0, bx (Ag b))], 1⟩) ah
 . exact wf hA [(0, 0)] Z Z Z
 intro d a0 i
 unfold GZ at i
 refine AC <| rs AA <| rn 3 Z <| sx Z (Ax Z Z <| rl Z <| cd Z i (fun ai => ?_) (fun au => ?_))
 .refine AG <| AE <| AC <| AI <| jb (fun f : Bool => ⟨68, [(1, .lpb 0 0), (5, li d), (67, lb f)], [(0, bx (Ag b))], 1⟩) ai (fun f aj => ?_) (fun f ao => ?_)
  .refine Ct AA mixed [0, 1, 2, 3, 4, 5, 6, 7, 8, 9, 10, 11, 12, 13, 14, 15, 16, 17] 18 (by kernel_rfl) Z Z Z ?_
   refine A1 3 Z <| bq aj fun a4 n ak => An Z (Ak Z (Am n Z Z Z <| A1 4 Z <| Mu 57 ak Z Z Z (fun al => ?_) (fun an => ?_)))
   .exact A1 3 Z <| bq al fun a5 o am => An Z (Ak Z (Am o Z Z Z <| Bb Z <| Ab am (wf hA [(0, 0)] Z Z Z)))
   exact Bb Z <| Ab an (wf hA [(0, 0)] Z Z Z)
  refine cd Z ao (fun ap => ?_) (fun ar => ?_)
  .refine rs AA <| rl Z <| AJ <| Ac <| AK <| BP ap fun ax aq => Ac <| AK ?_
   cases aq
   exact er Z Le.rfl
  exact AG <| Aq <| AE <| rg AA <| rl Z <| BA ar (wf hA [(0, 0)] Z Z Z)
 refine Aj <| Al <| CP au fun ay av => A5 <| AE <| rs AA <| rl Z <| AJ ?_
 cases av
 exact er Z Le.rfl
noncomputable def Dn (a : AH) : Option Int :=
 ((bif decide (40 < (a.elems.length : Int)) then some true else bif decide (24 < (a.signals.length : Int)) then some true else bif decide (4 < (a.lines.length : Int)) then some true else some (decide (80 < (a.joins.length : Int))) : Option (Bool))).bind fun (d : Bool) => bif d then some 3 else (IH a).bind fun b => (JX a).bind fun l => bif (!l) then some 1 else (((FO b.1).bind fun e => bif e then some true else (FO b.2.1).bind fun f => bif f then some true else (FO b.2.2).bind fun g => some g : Option (Bool))).bind fun (c : Bool) => bif c then some 4 else (HE a).bind fun h => bif (!h) then some 6 else (GY a).bind fun i => bif (!i) then some 7 else (IJ a).bind fun j => bif (!j) then some 8 else (JY a).bind fun k => bif (!k) then some 9 else some 0
theorem Pq (a : AH) (r : Int) (h : Dn a = some r) : Bf Try.prog 44 [.agg (Ag a)] (· = .int .i64 r) := by
 refine fn AA Try.func44 Z Z 65 Z [.tmp 2] Z [(0, .p (.agg (Ag a)))] Z Z fun A hA => ?_
 unfold Dn at h
 refine rs AA <| rl Z <| AC <| jb (fun c : Bool => ⟨65, [(1, .lpb 0 0), (27, lb c)], [(0, bx (Ag a))], 1⟩) h (fun c am => ?_) (fun c av => ?_)
 .refine rg AA <| rn 2 Z <| sx Z (Ax Z Z <| rn 2 Z <| gs 10 am Z Z Z (fun an => ?_) (fun ao => ?_))
  .exact rl Z <| Ab an (wf hA [(0, 0)] Z Z Z)
  refine rn 2 Z <| sx Z (Ax Z Z <| rn 3 Z <| gs 16 ao Z Z Z (fun ap => ?_) (fun aq => ?_))
  .exact rl Z <| Ab ap (wf hA [(0, 0)] Z Z Z)
  refine rn 2 Z <| sx Z (Ax Z Z <| rn 3 Z <| gs 22 aq Z Z Z (fun ar => ?_) (fun au => ?_))
  .exact rl Z <| Ab ar (wf hA [(0, 0)] Z Z Z)
  exact rn 2 Z <| sx Z (Ax Z Z <| rl Z <| Ab au (wf hA [(0, 0)] Z Z Z))
 refine cd Z av (fun aw => ?_) (fun ax => ?_)
 .refine rs AA <| rl Z <| AJ <| AK ?_
  cases aw
  exact er Z Le.rfl
 refine AG <| AE <| rs AA <| rn 1 Z <| bq ax fun a9 l ay => sx Z (Ah (Uy _ _ l) (.inr Z) Z Z Z <| rl Z <| AC <| AI <| rs AA <| rn 1 Z <| bq ay fun ba m az => sx Z (Ah (Vp _ _ m) (.inl Z) Z Z Z <| rl Z <| cd Z az (fun a0 => ?_) (fun a1 => ?_)))
 .refine rs AA <| rl Z <| AJ <| Ac <| AK ?_
  cases a0
  exact er Z Le.rfl
 refine jb (fun b : Bool => ⟨65, [(1, .lpb 0 0), (38, lb b)], [(0, bx (Ag a))], 1⟩) a1 (fun b n => ?_) (fun b x => ?_)
 .refine rg AA <| rn 1 Z <| bq n fun a2 d o => sx Z (Ah (MU _ _ d) (.inl Z) Z Z Z <| rn 1 Z <| gs 41 o Z Z Z (fun q => ?_) (fun s => ?_))
  .exact rl Z <| Ab q (wf hA [(0, 0)] Z Z Z)
  refine rn 1 Z <| bq s fun a3 e t => sx Z (Ah (MU _ _ e) (.inl Z) Z Z Z <| rn 2 Z <| gs 45 t Z Z Z (fun u => ?_) (fun v => ?_))
  .exact rl Z <| Ab u (wf hA [(0, 0)] Z Z Z)
  exact rn 1 Z <| bq v fun a4 f w => sx Z (Ah (MU _ _ f) (.inl Z) Z Z Z <| rl Z <| Ab w (wf hA [(0, 0)] Z Z Z))
 refine cd Z x (fun y => ?_) (fun z => ?_)
 .refine rs AA <| rl Z <| AJ <| Ac <| AK ?_
  cases y
  exact er Z Le.rfl
 refine rs AA <| rn 1 Z <| bq z fun a5 g aa => sx Z (Ah (Td _ _ g) (.inl Z) Z Z Z <| rl Z <| cd Z aa (fun ab => ?_) (fun ac => ?_))
 .refine rs AA <| rl Z <| AJ <| Ac <| AK ?_
  cases ab
  exact er Z Le.rfl
 refine rs AA <| rn 1 Z <| bq ac fun a6 i ad => sx Z (Ah (Sj _ _ i) (.inl Z) Z Z Z <| rl Z <| cd Z ad (fun ae => ?_) (fun af => ?_))
 .refine rs AA <| rl Z <| AJ <| Ac <| AK ?_
  cases ae
  exact er Z Le.rfl
 refine rs AA <| rn 1 Z <| bq af fun a7 j ag => sx Z (Ah (Uz _ _ j) (.inl Z) Z Z Z <| rl Z <| cd Z ag (fun ah => ?_) (fun ai => ?_))
 .refine rs AA <| rl Z <| AJ <| Ac <| AK ?_
  cases ah
  exact er Z Le.rfl
 refine rs AA <| rn 1 Z <| bq ai fun a8 k aj => sx Z (Ah (Vt _ _ k) (.inl Z) Z Z Z <| rl Z <| cd Z aj (fun ak => ?_) (fun al => ?_))
 .refine rs AA <| rl Z <| AJ <| Ac <| AK ?_
  cases ak
  exact er Z Le.rfl
 refine AG <| Aq <| AE <| rs AA <| rl Z <| AJ ?_
 cases al
 exact er Z Le.rfl
noncomputable def Ga (a : AH) : Option Bool :=
 (((Is a).bind fun d => bif d then (Dn a).bind fun c => some (c == 0) else some false : Option (Bool))).bind fun (b : Bool) => some b
theorem Vu (b : AH) (r : Bool) (h : Ga b = some r) : Bf Try.prog 12 [.agg (Ag b)] (· = .bool r) := by
 refine fn AA Try.func12 Z Z 10 Z [.tmp 2] Z [(0, .p (.agg (Ag b)))] Z Z fun A hA => ?_
 unfold Ga at h
 refine rs AA <| rl Z <| jb (fun a : Bool => ⟨10, [(2, lb a)], [], 0⟩) h (fun a k => ?_) (fun a j => ?_)
 .refine rg AA <| rn 1 Z <| bq k fun m d e => sx Z (Ah (Wv _ _ d) (.inl Z) Z Z Z <| rn 1 Z <| gs 5 e Z Z Z (fun f => ?_) (fun i => ?_))
  .exact rn 1 Z <| bq f fun l c g => sx Z (Ah (Pq _ _ c) (.inl Z) Z Z Z <| rl Z <| Ab g (wf hA [] Z Z Z))
  exact rl Z <| Ab i (wf hA [] Z Z Z)
 refine AJ ?_
 have hr := Option.some.inj j; subst hr
 exact er Z Le.rfl
noncomputable def HZ (a : Int) : Option Bool :=
 ((bif decide (97 <= a) then bif decide (a <= 122) then some true else bif decide (65 <= a) then some (decide (a <= 90)) else some false else bif decide (65 <= a) then some (decide (a <= 90)) else some false : Option (Bool))).bind fun (b : Bool) => some b
noncomputable def Gp (b : ByteArray) (a : Int) : Option (Int ⊕ Bool) :=
 bif decide (a < (b.size : Int)) then (((MP b a).bind fun d => (HZ (d.toNat : Int)).bind fun e => bif (!e) then (MP b a).bind fun f => bif decide ((f.toNat : Int) < 48) then some true else (MP b a).bind fun g => some (decide (57 < (g.toNat : Int))) else some false : Option (Bool))).bind fun (c : Bool) => bif c then some (.inr false) else some (.inl (AX (a + 1))) else some (.inr true)
noncomputable def HH (a : ByteArray) : Option Bool :=
 ((bif (a.toList == ByteArray.empty.toList) then some true else bif decide (8 < (a.size : Int)) then some true else (MP a 0).bind fun c => (HZ (c.toNat : Int)).bind fun d => some (!d) : Option (Bool))).bind fun (b : Bool) => bif b then some false else AO (Gp a) 1
noncomputable def JF (a : Int) : Option Int :=
 bif (a == 1) then some 2 else bif (a == 2) then some 3 else bif (a == 3) then some 4 else bif (a == 4) then some 1 else some 0
noncomputable def Di (b : AH) (a : Int) : Option (Int ⊕ Bool) :=
 bif decide (a < (b.lines.length : Int)) then (Ad b.lines a).bind fun c => (HH c.name).bind fun d => bif (!d) then some (.inr false) else some (.inl (AX (a + 1))) else some (.inr true)
noncomputable def Dj (b : AH) (a : Int) : Option (Int ⊕ Bool) :=
 bif decide (a < (b.signals.length : Int)) then (Ad b.signals a).bind fun c => (HH c.name).bind fun d => bif (!d) then some (.inr false) else some (.inl (AX (a + 1))) else (AO (Di b) 0).map .inr
noncomputable def Eh (c : AH) (b : Int) : Option (Int ⊕ Bool) :=
 bif decide (b < (c.elems.length : Int)) then D8 (((Ad c.elems b).bind fun a => (((HH a.name).bind fun f => bif (!f) then some true else (JF a.kind).bind fun g => some (g == 0) : Option (Bool))).bind fun (d : Bool) => bif d then some (.inr (.inr false)) else bif (a.kind == 4) then bif (a.length != 0) then some (.inr (.inr false)) else some (.inl ()) else ((bif decide (a.length < 1) then some true else some (decide (4000 < a.length)) : Option (Bool))).bind fun (e : Bool) => bif e then some (.inr (.inr false)) else some (.inl ()) : Option (Unit ⊕ (Int ⊕ Bool)))) fun (h : Unit) => some (.inl (AX (b + 1))) else (AO (Dj c) 0).map .inr
noncomputable def It (a : AH) : Option Bool :=
 ((bif decide (a.top < 1) then some true else bif decide (60 < a.top) then some true else bif decide (a.brake < 1) then some true else bif decide (10 < a.brake) then some true else bif decide (a.margin < 1) then some true else bif decide (4000 < a.margin) then some true else bif decide (a.throw < 1) then some true else bif decide (20 < a.throw) then some true else some ((a.elems.length : Int) == 0) : Option (Bool))).bind fun (b : Bool) => bif b then some false else AO (Eh a) 0
noncomputable def Iu (a : Int) (b : AH) : Option ByteArray :=
 (Ad b.elems a).bind fun c => some c.name
noncomputable def Iv (a : Int) (b : AH) : Option ByteArray :=
 (Ad b.signals a).bind fun c => some c.name
noncomputable def Iw (a : Int) (b : AH) : Option ByteArray :=
 (Ad b.lines a).bind fun c => some c.name
noncomputable def JG (b : AH) (a : AD) : Option Bool :=
 ((bif decide (0 <= a.elem) then bif decide (a.elem < (b.elems.length : Int)) then bif decide (0 <= a.fin) then (Ad b.elems a.elem).bind fun d => (JF d.kind).bind fun e => some (decide (a.fin < e)) else some false else some false else some false : Option (Bool))).bind fun (c : Bool) => some c
noncomputable def Dx (c : AH) (b : (Int × (List (AD × AD)))) (a : Int) : Option (Int ⊕ ((List (AD × AD)) × Bool)) :=
 bif decide (a < (c.elems.length : Int)) then D8 (((Ad c.elems a).bind fun e => bif (e.kind != 4) then some (.inl ()) else ((bif (!(AU b.2 (⟨a, 0⟩ : AD)).isSome) then some true else (Ad c.elems (((AU b.2 (⟨a, 0⟩ : AD)).getD (⟨0, 0⟩ : AD)).elem)).bind fun f => some (f.kind == 4) : Option (Bool))).bind fun (d : Bool) => bif d then some (.inr (.inr ([], false))) else some (.inl ()) : Option (Unit ⊕ (Int ⊕ ((List (AD × AD)) × Bool))))) fun (g : Unit) => some (.inl (AX (a + 1))) else some (.inr (b.2, true))
noncomputable def FP (e : AH) (d : Int × (List (AD × AD))) : Option ((Int × (List (AD × AD))) ⊕ ((List (AD × AD)) × Bool)) :=
 bif decide (d.1 < (e.joins.length : Int)) then (Ad e.joins d.1).bind fun c => ((bif (AU d.2 c.a).isSome then some true else bif (AU d.2 c.b).isSome then some true else bif (c.a == c.b) then some true else (JG e c.a).bind fun g => bif (!g) then some true else (JG e c.b).bind fun h => some (!h) : Option (Bool))).bind fun (f : Bool) => bif f then some (.inr ([], false)) else some (.inl (AX (d.1 + 1), Av c.b c.a (Av c.a c.b d.2))) else (AO (Dx e d) 0).map .inr
noncomputable def Jn (a : AH) : Option ((List (AD × AD)) × Bool) :=
 AO (FP a) (0, [])
noncomputable def Dk (b : AH) (c : (Int × (List (AD × Bool)))) (a : Int) : Option (Int ⊕ Bool) :=
 bif decide (a < (b.elems.length : Int)) then (Ad b.elems a).bind fun e => ((bif (e.kind == 4) then some (!((AU c.2 (⟨a, 0⟩ : AD)).getD false)) else some false : Option (Bool))).bind fun (d : Bool) => bif d then some (.inr false) else some (.inl (AX (a + 1))) else some (.inr true)
noncomputable def Ei (b : AH) (d : (List (AD × AD))) (a : Int × (List (AD × Bool))) : Option ((Int × (List (AD × Bool))) ⊕ Bool) :=
 bif decide (a.1 < (b.signals.length : Int)) then (Ad b.signals a.1).bind fun c => (((JG b c.at_).bind fun j => bif (!j) then some true else some ((AU a.2 c.at_).getD false) : Option (Bool))).bind fun (g : Bool) => bif g then some (.inr false) else (Ad b.elems c.at_.elem).bind fun e => ((bif (e.kind != 1) then some (e.kind != 4) else some false : Option (Bool))).bind fun (h : Bool) => bif h then some (.inr false) else ((bif (!(AU d c.at_).isSome) then some true else (Ad b.elems (((AU d c.at_).getD (⟨0, 0⟩ : AD)).elem)).bind fun i => some (i.kind == 4) : Option (Bool))).bind fun (f : Bool) => bif f then some (.inr false) else some (.inl (AX (a.1 + 1), Av c.at_ true a.2)) else (AO (Dk b a) 0).map .inr
noncomputable def Ix (a : AH) (b : (List (AD × AD))) : Option Bool :=
 AO (Ei a b) (0, [])
noncomputable def Fp (b : (List Int)) (c : (List (AD × AD))) (a : Int × Int) : Option ((Int × Int) ⊕ Bool) :=
 bif decide (a.2 < (b.length : Int)) then (Ad b (AX (a.2 - 1))).bind fun d => ((bif (!(AU c (⟨d, a.1⟩ : AD)).isSome) then some true else (Ad b a.2).bind fun f => some ((((AU c (⟨d, a.1⟩ : AD)).getD (⟨0, 0⟩ : AD)).elem) != f) : Option (Bool))).bind fun (e : Bool) => bif e then some (.inr false) else some (.inl (AX (1 - (((AU c (⟨d, a.1⟩ : AD)).getD (⟨0, 0⟩ : AD)).fin)), AX (a.2 + 1))) else some (.inr true)
noncomputable def ED (b : (List Int)) (c : (List (AD × AD))) (a : Int × Int) : Option ((Int × Int) ⊕ Bool) :=
 bif decide (0 <= a.2) then (((Ad b 0).bind fun d => ((bif (AU c (⟨d, a.2⟩ : AD)).isSome then (Ad b 1).bind fun g => some ((((AU c (⟨d, a.2⟩ : AD)).getD (⟨0, 0⟩ : AD)).elem) == g) else some false : Option (Bool))).bind fun (f : Bool) => bif f then some a.2 else some a.1 : Option (Int))).bind fun (e : Int) => some (.inl (e, AX (a.2 - 1))) else (bif decide (a.1 < 0) then some false else AO (Fp b c) (a.1, 1)).map .inr
noncomputable def MW (a : (List Int)) (b : (List (AD × AD))) : Option Bool :=
 bif decide ((a.length : Int) < 2) then some true else AO (ED a b) ((-1), 1)
noncomputable def GA (d : AH) (g : (List (AD × AD))) (e : (Int × (List (Int × Bool)))) (c : B9) (a : Int × (List (Int × Bool))) : Option ((Int × (List (Int × Bool))) ⊕ ((Int × (List (Int × Bool))) ⊕ Bool)) :=
 bif decide (a.1 < (c.elems.length : Int)) then (Ad c.elems a.1).bind fun b => ((bif decide (b < 0) then some true else bif decide ((d.elems.length : Int) <= b) then some true else (Ad d.elems b).bind fun h => bif (h.kind != 1) then some true else some ((AU a.2 b).getD false) : Option (Bool))).bind fun (f : Bool) => bif f then some (.inr (.inr false)) else some (.inl (AX (a.1 + 1), Av b true a.2)) else ((MW c.elems g).bind fun i => bif (!i) then some (.inr false) else some (.inl (AX (e.1 + 1), a.2))).map .inr
noncomputable def GB (b : AH) (d : (List (AD × AD))) (a : Int × (List (Int × Bool))) : Option ((Int × (List (Int × Bool))) ⊕ Bool) :=
 bif decide (a.1 < (b.lines.length : Int)) then (Ad b.lines a.1).bind fun c => bif ((c.elems.length : Int) == 0) then some (.inr false) else AO (GA b d a c) (0, a.2) else some (.inr true)
noncomputable def KV (a : AH) (b : (List (AD × AD))) : Option Bool :=
 AO (GB a b) (0, [])
noncomputable def QX (b : Int) (a : Int × Int) : Option ((Int × Int) ⊕ Int) :=
 bif decide (0 < a.1) then some (.inl (AX (a.1 - b), AX (a.2 + a.1))) else some (.inr a.2)
noncomputable def OV (b : Int) (a : Int) : Option Int :=
 ((bif decide (b < 0) then some true else bif decide (60 < b) then some true else bif decide (a < 1) then some true else some (decide (10 < a)) : Option (Bool))).bind fun (c : Bool) => bif c then some 0 else AO (QX a) (AX (b - a), 0)
noncomputable def Eu (b : AH) (a : Int) : Option (Int ⊕ Bool) :=
 bif decide (a < (b.elems.length : Int)) then (Ad b.elems a).bind fun c => ((bif (c.kind != 4) then some (decide (c.length < b.top)) else some false : Option (Bool))).bind fun (d : Bool) => bif d then some (.inr false) else some (.inl (AX (a + 1))) else some (.inr true)
noncomputable def Gq (a : AH) (b : Int) : Option (Int ⊕ Bool) :=
 bif decide (b < (a.signals.length : Int)) then (Ad a.signals b).bind fun e => (Ad a.elems e.at_.elem).bind fun c => ((bif (c.kind == 1) then some (decide (c.length < a.margin)) else some false : Option (Bool))).bind fun (d : Bool) => bif d then some (.inr false) else some (.inl (AX (b + 1))) else (AO (Eu a) 0).map .inr
noncomputable def LK (a : AH) : Option Bool :=
 (OV a.top a.brake).bind fun b => bif decide (a.margin < AX (a.top + b)) then some false else AO (Gq a) 0
noncomputable def EJ (b : AH) (a : Int × (List (ByteArray × Bool))) : Option ((Int × (List (ByteArray × Bool))) ⊕ Bool) :=
 bif decide (a.1 < (b.elems.length : Int)) then (Iu a.1 b).bind fun c => bif ((AU a.2 c).getD false) then some (.inr true) else (Iu a.1 b).bind fun d => some (.inl (AX (a.1 + 1), Av d true a.2)) else some (.inr false)
noncomputable def EK (b : AH) (a : Int × (List (ByteArray × Bool))) : Option ((Int × (List (ByteArray × Bool))) ⊕ Bool) :=
 bif decide (a.1 < (b.signals.length : Int)) then (Iv a.1 b).bind fun c => bif ((AU a.2 c).getD false) then some (.inr true) else (Iv a.1 b).bind fun d => some (.inl (AX (a.1 + 1), Av d true a.2)) else some (.inr false)
noncomputable def EL (b : AH) (a : Int × (List (ByteArray × Bool))) : Option ((Int × (List (ByteArray × Bool))) ⊕ Bool) :=
 bif decide (a.1 < (b.lines.length : Int)) then (Iw a.1 b).bind fun c => bif ((AU a.2 c).getD false) then some (.inr true) else (Iw a.1 b).bind fun d => some (.inl (AX (a.1 + 1), Av d true a.2)) else some (.inr false)
noncomputable def KW (a : AH) : Option Int :=
 ((bif decide (40 < (a.elems.length : Int)) then some true else bif decide (24 < (a.signals.length : Int)) then some true else bif decide (4 < (a.lines.length : Int)) then some true else some (decide (80 < (a.joins.length : Int))) : Option (Bool))).bind fun (c : Bool) => bif c then some 3 else (It a).bind fun h => bif (!h) then some 1 else ((((AO (EJ a) (0, []) : Option (Bool))).bind fun (e : Bool) => bif e then some true else ((AO (EK a) (0, []) : Option (Bool))).bind fun (f : Bool) => bif f then some true else ((AO (EL a) (0, []) : Option (Bool))).bind fun (g : Bool) => some g : Option (Bool))).bind fun (d : Bool) => bif d then some 4 else (Jn a).bind fun b => bif (!b.2) then some 6 else (Ix a b.1).bind fun i => bif (!i) then some 7 else (KV a b.1).bind fun j => bif (!j) then some 8 else (LK a).bind fun k => bif (!k) then some 9 else some 0
end Go.E
/- Plain functions, and walks in step with them. Written by a program (gen.py). No condition. -/
set_option maxRecDepth 100000
namespace Go.E
open Go Go.RowKit Go.Proofs
noncomputable def HI (a : (List Bl)) : Option (List Bl) :=
 LI a (some []) ((BJ ([] : List Bl) a).bind fun b => some b)
noncomputable def HJ (a : (List Bk)) : Option (List Bk) :=
 LI a (some []) ((BJ ([] : List Bk) a).bind fun b => some b)
noncomputable def Gb (a : (List A6)) : Option (List A6) :=
 LI a (some []) ((BJ ([] : List A6) a).bind fun b => some b)
noncomputable def HK (a : (List B9)) : Option (List B9) :=
 LI a (some []) ((BJ ([] : List B9) a).bind fun b => some b)
noncomputable def Bx (a : (List Int)) : Option (List Int) :=
 LI a (some []) ((BJ ([] : List Int) a).bind fun b => some b)
theorem Nd (a : (List Int)) (r : (List Int)) (h : Bx a = some r) : Bf Try.prog 71 [.slice 1 (a.map AL)] (· = .slice 1 (r.map AL)) := by
 refine fn AA Try.func71 Z Z 8 Z [.tmp 2] Z [(0, .p (.slice 1 (a.map AL)))] Z Z fun A hA => ?_
 unfold Bx at h
 refine rs AA <| rl Z <| AC <| rs AA <| rn 1 Z <| sx Z (Pe h Z Z Z (fun d => ?_) (fun e => ?_))
 .refine rl Z <| Qv Z <| rs AA <| rl Z <| AJ <| AK ?_
  cases d
  exact er Z (Le.nil _)
 refine rl Z <| PZ Z <| AG <| AE <| rs AA <| rn 2 Z <| bq e fun f b c => sx Z (A7 (enc := AL) (l := ([] : List Int)) (m := a) b (fun _ => ⟨Z, Z⟩) Z Z Z Z Z Z <| rl Z <| AJ ?_)
 have hr := Option.some.inj c; subst hr
 exact er (Lk Z (.one (.own (enc := AL) f Z Z))) Le.rfl
theorem M3 (a : (List Int)) (r : (List Int)) (h : Bx a = some r) : FD Try.prog 71 [.slice 1 (a.map AL)] 3 1 (r.map AL) := by
 refine Vj (enc := AL) (fun _ => ⟨Z, Z⟩) Try.func71 Z Z 8 Z 2 Z [(0, .p (.slice 1 (a.map AL)))] Z Z fun A hA => ?_
 unfold Bx at h
 refine rs AA <| rl Z <| AC <| rs AA <| rn 1 Z <| sx Z (Pe h Z Z Z (fun d => ?_) (fun e => ?_))
 .refine rl Z <| Qv Z <| rs AA <| rl Z <| AJ <| AK ?_
  cases d
  exact Yn Z
 refine rl Z <| PZ Z <| AG <| AE <| rs AA <| rn 2 Z <| bq e fun f b c => sx Z (A7 (enc := AL) (l := ([] : List Int)) (m := a) b (fun _ => ⟨Z, Z⟩) Z Z Z Z Z Z <| rl Z <| AJ ?_)
 have hr := Option.some.inj c; subst hr
 exact Vk Z Z Z
noncomputable def Ha (b : AH) (h : (List Bl)) (i : (List Bk)) (c : (List A6)) (g : (List B9)) (a : Int × (List B9)) : Option ((Int × (List B9)) ⊕ AH) :=
 bif decide (a.1 < (g.length : Int)) then (Ad a.2 a.1).bind fun d => (Bx d.elems).bind fun e => (Ad a.2 a.1).bind fun f => some (.inl (AX (a.1 + 1), Bq a.2 a.1 (⟨f.name, e⟩ : B9))) else some (.inr (⟨h, i, c, a.2, b.top, b.brake, b.margin, b.throw, b.hard⟩ : AH))
noncomputable def J0 (a : AH) : Option AH :=
 (HI a.elems).bind fun d => (HJ a.joins).bind fun e => (Gb a.signals).bind fun c => (HK a.lines).bind fun b => AO (Ha a d e c b) (0, b)
noncomputable def IM (e : (Int × (List (AD × AD)))) (c : (Int × (List (Int × Fz)) × (List (Int × Int)))) (d : B9) (a : Int × Int × (List (Int × Fz)) × (List (Int × Int))) : Option ((Int × Int × (List (Int × Fz)) × (List (Int × Int))) ⊕ ((Int × (List (Int × Fz)) × (List (Int × Int))) ⊕ ((Option CJ) × Int))) :=
 bif decide (a.2.1 < (d.elems.length : Int)) then (Ad d.elems a.2.1).bind fun b => some (.inl (((AU e.2 (⟨b, AX (1 - a.1)⟩ : AD)).getD (⟨0, 0⟩ : AD)).fin, AX (a.2.1 + 1), Av b (⟨c.1, a.2.1⟩ : Fz) a.2.2.1, Av b a.1 a.2.2.2)) else some (.inr (.inl (AX (c.1 + 1), a.2.2.1, a.2.2.2)))
noncomputable def Gc (d : AH) (j : AH) (b : (Int × (List (AD × AD)))) (f : (Int × (List (AD × Int)))) (a : Int × (List (Int × Fz)) × (List (Int × Int))) : Option ((Int × (List (Int × Fz)) × (List (Int × Int))) ⊕ ((Option CJ) × Int)) :=
 bif decide (a.1 < (d.lines.length : Int)) then (Ad d.lines a.1).bind fun c => ((bif decide (1 < (c.elems.length : Int)) then (Ad c.elems 0).bind fun e => ((bif (AU b.2 (⟨e, 0⟩ : AD)).isSome then (Ad c.elems 1).bind fun i => some ((((AU b.2 (⟨e, 0⟩ : AD)).getD (⟨0, 0⟩ : AD)).elem) == i) else some false : Option (Bool))).bind fun (h : Bool) => bif h then some 1 else some 0 else some 0 : Option (Int))).bind fun (g : Int) => AO (IM b a c) (g, 0, a.2.1, a.2.2) else some (.inr (some (⟨j, b.2, f.2, a.2.1, a.2.2⟩ : CJ), 0))
noncomputable def IN (b : AH) (d : AH) (c : (Int × (List (AD × AD)))) (a : Int × (List (AD × Int))) : Option ((Int × (List (AD × Int))) ⊕ ((Option CJ) × Int)) :=
 bif decide (a.1 < (b.signals.length : Int)) then (Ad b.signals a.1).bind fun e => some (.inl (AX (a.1 + 1), Av e.at_ a.1 a.2)) else (AO (Gc b d c a) (0, [], [])).map .inr
noncomputable def IQ (e : AH) (f : AH) (c : Int × (List (AD × AD))) : Option ((Int × (List (AD × AD))) ⊕ ((Option CJ) × Int)) :=
 bif decide (c.1 < (e.joins.length : Int)) then (Ad e.joins c.1).bind fun d => some (.inl (AX (c.1 + 1), Av d.b d.a (Av d.a d.b c.2))) else (AO (IN e f c) (0, [])).map .inr
noncomputable def Q3 (a : AH) : Option ((Option CJ) × Int) :=
 (KW a).bind fun b => bif (b != 0) then some (none, b) else (J0 a).bind fun c => AO (IQ a c) (0, [])
noncomputable def Lr (b : AH) (a : Int) : Option (AD × Bool) :=
 ((bif decide (a < 0) then some true else some (decide ((b.signals.length : Int) <= a)) : Option (Bool))).bind fun (c : Bool) => bif c then some ((⟨0, 0⟩ : AD), false) else (Ad b.signals a).bind fun d => some (d.at_, true)
theorem YG (a : AH) (b : Int) (r : (AD × Bool)) (h : Lr a b = some r) : Bf Try.prog 88 [.agg (Ag a), .int .i64 b] (· = .tup [.agg (Aw r.1), .bool r.2]) := by
 refine fn AA Try.func88 Z Z 22 Z [.cell 4 96, .tmp 5] Z [(0, .p (.agg (Ag a))), (1, .p (.int .i64 b))] Z Z fun A hA => ?_
 unfold Lr at h
 refine rs AA <| rl Z <| AC <| jb (fun c : Bool => ⟨22, [(1, li b), (2, .lpb 0 0), (4, .lpb 1 0), (14, lb c)], [(0, bx (Ag a)), (1, .box [li 0, li 0])], 2⟩) h (fun c e => ?_) (fun c i => ?_)
 .refine rg AA <| rn 3 Z <| gs 8 e Z Z Z (fun f => ?_) (fun g => ?_)
  .exact rl Z <| Ab f (wf hA [(0, 0), (1, 1)] Z Z Z)
  exact rn 3 Z <| sx Z (Ax Z Z <| rl Z <| Ab g (wf hA [(0, 0), (1, 1)] Z Z Z))
 refine cd Z i (fun j => ?_) (fun k => ?_)
 .refine rs AA <| rl Z <| AJ <| AK ?_
  cases j
  exact er Z Le.rfl
 refine AG <| AE <| rs AA <| rn 3 Z <| bq k fun m d l => sx Z (Am d Z Z Z <| rl Z <| AJ ?_)
 cases l
 exact er Z Le.rfl
noncomputable def Gd (a : AH) (b : Int) : Option Int :=
 (DB a b).bind fun c => some c
theorem Nf (a : AH) (b : Int) (r : Int) (h : Gd a b = some r) : Bf Try.prog 105 [.agg (Ag a), .int .i64 b] (· = .int .i64 r) := by
 refine fn AA Try.func105 Z Z 8 Z [.tmp 4] Z [(0, .p (.agg (Ag a))), (1, .p (.int .i64 b))] Z Z fun A hA => ?_
 unfold Gd at h
 refine rs AA <| rl Z <| rs AA <| rn 2 Z <| bq h fun e c d => sx Z (Ah (E8 _ _ _ c) (.inl Z) Z Z Z <| rl Z <| AJ ?_)
 have hr := Option.some.inj d; subst hr
 exact er Z Le.rfl
noncomputable def EM (a : AQ) (b : Ar) (c : Int) (f : Int) (g : Int) : Option AQ :=
 (BJ ([] : List Ar) a.steps).bind fun i => (BJ i [b]).bind fun j => (BJ ([] : List AN) a.needs).bind fun d => ((bif (c != 0) then (BJ d [(⟨b.elem, c⟩ : AN)]).bind fun h => some h else some d : Option ((List AN)))).bind fun (e : (List AN)) => some (⟨a.frm, g, f, j, e, [], [], [], false⟩ : AQ)
theorem J1 (a : AQ) (b : Ar) (f : Int) (g : Int) (i : Int) (r : AQ) (h : EM a b f g i = some r) : Bf Try.prog 128 [.agg (As a), .agg (BE b), .int .i64 f, .int .i64 g, .int .i64 i] (· = .agg (As r)) := by
 refine fn AA Try.func128 Z Z 42 Z [.cell 10 36] Z [(0, .p (.agg (As a))), (1, .p (.agg (BE b))), (2, .p (.int .i64 f)), (3, .p (.int .i64 g)), (4, .p (.int .i64 i))] Z Z fun A hA => ?_
 unfold EM at h
 refine rs AA <| rl Z <| rs AA <| rl Z <| AC <| bq h fun j c x => bq x fun k d y => ?_
 refine Yv AA mixed (.picks [1, 2] (.alt 0 [] (.alt 3 [4, 5, 6, 7, 8] .done (.alt 4 [] (.alt 3 [5, 6, 7, 8] .done (.alt 5 [3, 6, 7, 8] .done .nil)) .nil)) (.alt 4 [0] (.alt 3 [5, 6, 7, 8] .done (.alt 5 [3, 6, 7, 8] .done .nil)) .nil))) 9 ⟨42, [(2, li f), (5, .lpb 0 0), (6, .lpb 1 0), (10, .lpb 2 0), (11, .lpb 3 0)], [(0, bx (As a)), (1, bx (BE b)), (2, .box [li 0, li 0, li 0, .p (.nils), .p (.nils), .p (.nils), .p (.nils), .p (.nils), lb false]), (3, .box [li a.frm, li i, li g, .lsl 4 3 0 k.length, .p (.nils), .p (.nils), .p (.nils), .p (.nils), lb false]), (4, .row 90 3 (k.map BE))], 5⟩ (by kernel_rfl) Z ?_ ?_
 .refine U0 <| Bb Z <| D6 ?_ ?_
  .refine Bb Z <| D6 ?_ ?_
   .exact An Z (Bi Z (A7 (enc := BE) (l := ([] : List Ar)) (m := a.steps) c (fun _ => ⟨Z, Z⟩) Z Z Z Z Z Z <| A1 2 Z <| An Z (Bi Z (A7 (enc := BE) (l := j) (m := [b]) d (fun _ => ⟨Z, Z⟩) Z Z Z Z Z Z <| Bb Z <| Hb (wf hA (gi 4 [(4, 10)]) Z Z Z)))))
   refine D6 ?_ ?_
   .refine Bb Z <| D6 ?_ ?_
    .exact An Z (Bi Z (A7 (enc := BE) (l := ([] : List Ar)) (m := a.steps) c (fun _ => ⟨Z, Z⟩) Z Z Z Z Z Z <| A1 1 Z <| An Z (Bi Z (A7 (enc := BE) (l := j) (m := [b]) d (fun _ => ⟨Z, Z⟩) Z Z Z Z Z Z <| Bb Z <| Hb (wf hA (gi 4 [(4, 10)]) Z Z Z)))))
    refine D6 ?_ ?_
    .exact A1 1 Z <| An Z (Bi Z (A7 (enc := BE) (l := ([] : List Ar)) (m := a.steps) c (fun _ => ⟨Z, Z⟩) Z Z Z Z Z Z <| An Z (Bi Z (A7 (enc := BE) (l := j) (m := [b]) d (fun _ => ⟨Z, Z⟩) Z Z Z Z Z Z <| Bb Z <| Hb (wf hA (gi 4 [(4, 10)]) Z Z Z)))))
    exact J2
   exact J2
  refine D6 ?_ ?_
  .refine Bb Z <| D6 ?_ ?_
   .exact An Z (Bi Z (A7 (enc := BE) (l := ([] : List Ar)) (m := a.steps) c (fun _ => ⟨Z, Z⟩) Z Z Z Z Z Z <| A1 1 Z <| An Z (Bi Z (A7 (enc := BE) (l := j) (m := [b]) d (fun _ => ⟨Z, Z⟩) Z Z Z Z Z Z <| Bb Z <| Hb (wf hA (gi 4 [(4, 10)]) Z Z Z)))))
   refine D6 ?_ ?_
   .exact A1 1 Z <| An Z (Bi Z (A7 (enc := BE) (l := ([] : List Ar)) (m := a.steps) c (fun _ => ⟨Z, Z⟩) Z Z Z Z Z Z <| An Z (Bi Z (A7 (enc := BE) (l := j) (m := [b]) d (fun _ => ⟨Z, Z⟩) Z Z Z Z Z Z <| Bb Z <| Hb (wf hA (gi 4 [(4, 10)]) Z Z Z)))))
   exact J2
  exact J2
 refine AE <| rs AA <| rn 3 Z <| bq y fun z n q => sx Z (A7 (enc := AS) (l := ([] : List AN)) (m := a.needs) n (fun _ => ⟨Z, Z⟩) Z Z Z Z Z Z <| rl Z <| jb (fun e : (List AN) => ⟨42, [(10, .lpb 0 0), (11, .lpb 1 0)], [(0, .box [li 0, li 0, li 0, .p (.nils), .p (.nils), .p (.nils), .p (.nils), .p (.nils), lb false]), (1, .box [li a.frm, li i, li g, .lsl 2 3 0 k.length, .lsl 3 2 0 e.length, .p (.nils), .p (.nils), .p (.nils), lb false]), (2, .row 90 3 (k.map BE)), (3, .row 46 2 (e.map AS))], 4⟩) q (fun e s => ?_) (fun e w => ?_))
 .refine rs AA <| rl Z <| cd Z s (fun t => ?_) (fun v => ?_)
  .exact rg AA <| rn 7 Z <| bq t fun aa o u => sx Z (A7 (enc := AS) (l := z) (m := [(⟨b.elem, f⟩ : AN)]) o (fun _ => ⟨Z, Z⟩) Z Z Z Z Z Z <| rl Z <| Ab u (wf hA [(0, 2), (1, 3), (2, 4), (3, 8)] Z Z Z))
  exact AG <| Ab v (wf hA [(0, 2), (1, 3), (2, 4), (3, 6)] Z Z Z)
 refine rs AA <| rl Z <| AJ ?_
 cases w
 exact er (Lk Z (.agg (.cons (.p _) (.cons (.p _) (.cons (.p _) (.cons (.own (enc := BE) k Z Z) (.cons (.own (enc := AS) e Z Z) (.cons (.p _) (.cons (.p _) (.cons (.p _) (.cons (.p _) .nil))))))))))) (Le.agg' (.cons Le.rfl (.cons Le.rfl (.cons Le.rfl (.cons Le.rfl (.cons Le.rfl (.cons (Le.nil _) (.cons (Le.nil _) (.cons (Le.nil _) (.cons Le.rfl .nil))))))))))
noncomputable def H0 (c : AH) (d : Int) (a : Int) : Option (List Cx) :=
 (Hq c (⟨d, a⟩ : AD)).bind fun e => bif (!e) then some [] else (DB c d).bind fun b => bif (b == 1) then some [(⟨AX (1 - a), 0⟩ : Cx)] else bif (b == 3) then some [(⟨Xg a 1, 0⟩ : Cx)] else bif (b == 2) then bif (a == 0) then some [(⟨1, 1⟩ : Cx), (⟨2, 2⟩ : Cx)] else some [(⟨0, a⟩ : Cx)] else some []
theorem Q4 (b : AH) (c : Int) (a : Int) (r : (List Cx)) (h : H0 b c a = some r) : Bf Try.prog 129 [.agg (Ag b), .int .i64 c, .int .i64 a] (· = .slice 2 (r.map MX)) := by
 refine fn AA Try.func129 Z Z 38 Z [.tmp 6] Z [(0, .p (.agg (Ag b))), (1, .p (.int .i64 c)), (2, .p (.int .i64 a))] Z Z fun A hA => ?_
 unfold H0 at h
 refine rs AA <| rl Z <| AC <| rs AA <| rn 4 Z <| bq h fun v e f => sx Z (Ah (Ow _ _ _ e) (.inl Z) Z Z Z <| rl Z <| cd Z f (fun g => ?_) (fun i => ?_))
 .refine rs AA <| rl Z <| AJ <| AK ?_
  cases g
  exact er Z (Le.nil _)
 refine AG <| AE <| AC <| rs AA <| rn 2 Z <| bq i fun u d j => sx Z (Ah (E8 _ _ _ d) (.inl Z) Z Z Z <| rl Z <| AI <| rs AA <| rl Z <| cd Z j (fun k => ?_) (fun l => ?_))
 .refine rs AA <| rl Z <| AJ <| Ac <| AK ?_
  cases k
  exact er (Lk Z (.one (.own (enc := MX) ([(⟨AX (1 - a), 0⟩ : Cx)] : List Cx) Z Z))) Le.rfl
 refine rs AA <| rl Z <| cd Z l (fun m => ?_) (fun n => ?_)
 .refine rs AA <| rl Z <| AJ <| Ac <| AK ?_
  cases m
  exact er (Lk Z (.one (.own (enc := MX) ([(⟨Xg a 1, 0⟩ : Cx)] : List Cx) Z Z))) Le.rfl
 refine rs AA <| rl Z <| cd Z n (fun o => ?_) (fun t => ?_)
 .refine AC <| rs AA <| rl Z <| cd Z o (fun q => ?_) (fun s => ?_)
  .refine rs AA <| rl Z <| AJ <| AK <| Ac <| AK ?_
   cases q
   exact er (Lk Z (.one (.own (enc := MX) ([(⟨1, 1⟩ : Cx), (⟨2, 2⟩ : Cx)] : List Cx) Z Z))) Le.rfl
  refine AG <| AE <| rs AA <| rl Z <| AJ <| Ac <| AK ?_
  cases s
  exact er (Lk Z (.one (.own (enc := MX) ([(⟨0, a⟩ : Cx)] : List Cx) Z Z))) Le.rfl
 refine AG <| Aq <| AE <| rs AA <| rl Z <| AJ ?_
 cases t
 exact er Z (Le.nil _)
noncomputable def Fq (d : AH) (e : AQ) (b : AD) (rc : (AH × AQ × AD × (List Int)) -> Option (List AQ)) (u : (List Int)) (c : (List Cx)) (a : Int × (List AQ)) : Option ((Int × (List AQ)) ⊕ (List AQ)) :=
 bif decide (a.1 < (c.length : Int)) then (((Ad c a.1).bind fun g => (Ad c a.1).bind fun f => (EG d (⟨b.elem, g.out⟩ : AD)).bind fun h => bif decide (0 <= h) then (Ad c a.1).bind fun k => (EM e (⟨b.elem, b.fin, f.out⟩ : Ar) k.pos 1 h).bind fun l => (BJ a.2 [l]).bind fun m => some m else (CU d (⟨b.elem, g.out⟩ : AD)).bind fun i => bif (!i.2) then (Ad c a.1).bind fun n => (EM e (⟨b.elem, b.fin, f.out⟩ : Ar) n.pos 3 (-1)).bind fun o => (BJ a.2 [o]).bind fun p => some p else (Ad c a.1).bind fun q => (EM e (⟨b.elem, b.fin, f.out⟩ : Ar) q.pos 0 (-1)).bind fun r => (rc (d, r, i.1, u)).bind fun s => (BJ a.2 s).bind fun t => some t : Option ((List AQ)))).bind fun (j : (List AQ)) => some (.inl (AX (a.1 + 1), j)) else some (.inr a.2)
noncomputable def FQ (rc : (AH × AQ × AD × (List Int)) -> Option (List AQ)) (b : AH) (c : AQ) (a : AD) (d : (List Int)) : Option (List AQ) :=
 (((Cw d a.elem).bind fun f => bif f then some true else some ((c.steps.length : Int) == 12) : Option (Bool))).bind fun (e : Bool) => bif e then some [] else (BJ ([] : List Int) d).bind fun g => (BJ g [a.elem]).bind fun h => (Gd b a.elem).bind fun i => bif (i == 4) then (EM c (⟨a.elem, a.fin, (-1)⟩ : Ar) 0 2 (-1)).bind fun j => some [j] else (H0 b a.elem a.fin).bind fun k => AO (Fq b c a rc h k) (0, ([] : List AQ))
noncomputable def Sk (b : AH) (c : AQ) (d : AD) (e : (List Int)) : Option (List AQ) :=
 Ng (fun (rc : (AH × AQ × AD × (List Int)) -> Option (List AQ)) (a : (AH × AQ × AD × (List Int))) => FQ rc a.1 a.2.1 a.2.2.1 a.2.2.2) 1000 (b, c, d, e)
theorem U1 (rc : (AH × AQ × AD × (List Int)) -> Option (List AQ)) (hrec : ∀ (d : AH) (e : AQ) (b : AD) (c : (List Int)) (r : (List AQ)), rc (d, e, b, c) = some r -> Bf Try.prog 90 [.agg (Ag d), .agg (As e), .agg (Aw b), .slice 1 (c.map AL)] (· = .slice 9 (r.map As))) (d : AH) (e : AQ) (b : AD) (c : (List Int)) (r : (List AQ)) (h : FQ rc d e b c = some r) : Bf Try.prog 90 [.agg (Ag d), .agg (As e), .agg (Aw b), .slice 1 (c.map AL)] (· = .slice 9 (r.map As)) := by
 refine fn AA Try.func90 Z Z 128 Z [.tmp 8] Z [(0, .p (.agg (Ag d))), (1, .p (.agg (As e))), (2, .p (.agg (Aw b))), (3, .p (.slice 1 (c.map AL)))] Z Z fun A hA => ?_
 unfold FQ at h
 refine rs AA <| rl Z <| AC <| jb (fun o : Bool => ⟨128, [(3, ls 1 AL c), (4, .lpb 0 0), (5, .lpb 1 0), (6, .lpb 2 0), (26, lb o)], [(0, bx (Ag d)), (1, bx (As e)), (2, .box [li b.elem, li b.fin])], 3⟩) h (fun o ba => ?_) (fun o bf => ?_)
 .refine rg AA <| rn 3 Z <| bq ba fun b9 ah bb => sx Z (Ah (Fy _ _ _ ah) (.inl Z) Z Z Z <| rn 1 Z <| gs 21 bb Z Z Z (fun bc => ?_) (fun be => ?_))
  .exact rl Z <| Ab bc (wf hA (gi 3 []) Z Z Z)
  exact rn 2 Z <| sx Z (Ax Z Z <| rl Z <| Ab be (wf hA (gi 3 []) Z Z Z))
 refine cd Z bf (fun bg => ?_) (fun bh => ?_)
 .refine rs AA <| rl Z <| AJ <| AK ?_
  cases bg
  exact er Z (Le.nil _)
 refine AG <| AE <| AC <| bq bh fun j g bi => bq bi fun k i bj => ?_
 refine Yv AA mixed (.picks [1, 3] (.alt 0 [] (.alt 2 [4, 5, 6, 7] .done (.alt 4 [] (.alt 2 [5, 6, 7] .done (.alt 5 [2, 6, 7] .done .nil)) .nil)) (.alt 4 [0] (.alt 2 [5, 6, 7] .done (.alt 5 [2, 6, 7] .done .nil)) .nil))) 8 ⟨128, [(3, .lsl 0 1 0 k.length), (4, .lpb 1 0), (5, .lpb 2 0), (6, .lpb 3 0)], [(0, .row 3 1 (k.map AL)), (1, bx (Ag d)), (2, bx (As e)), (3, .box [li b.elem, li b.fin])], 4⟩ (by kernel_rfl) Z ?_ ?_
 .refine U0 <| Bb Z <| D6 ?_ ?_
  .refine Bb Z <| D6 ?_ ?_
   .exact An Z (Bi Z (A7 (enc := AL) (l := ([] : List Int)) (m := c) g (fun _ => ⟨Z, Z⟩) Z Z Z Z Z Z <| A1 2 Z <| An Z (Bi Z (A7 (enc := AL) (l := j) (m := [b.elem]) i (fun _ => ⟨Z, Z⟩) Z Z Z Z Z Z <| Bb Z <| Hb (wf hA [(0, 9), (1, 0), (2, 1), (3, 2)] Z Z Z)))))
   refine D6 ?_ ?_
   .refine Bb Z <| D6 ?_ ?_
    .exact An Z (Bi Z (A7 (enc := AL) (l := ([] : List Int)) (m := c) g (fun _ => ⟨Z, Z⟩) Z Z Z Z Z Z <| A1 1 Z <| An Z (Bi Z (A7 (enc := AL) (l := j) (m := [b.elem]) i (fun _ => ⟨Z, Z⟩) Z Z Z Z Z Z <| Bb Z <| Hb (wf hA [(0, 9), (1, 0), (2, 1), (3, 2)] Z Z Z)))))
    refine D6 ?_ ?_
    .exact A1 1 Z <| An Z (Bi Z (A7 (enc := AL) (l := ([] : List Int)) (m := c) g (fun _ => ⟨Z, Z⟩) Z Z Z Z Z Z <| An Z (Bi Z (A7 (enc := AL) (l := j) (m := [b.elem]) i (fun _ => ⟨Z, Z⟩) Z Z Z Z Z Z <| Bb Z <| Hb (wf hA [(0, 9), (1, 0), (2, 1), (3, 2)] Z Z Z)))))
    exact J2
   exact J2
  refine D6 ?_ ?_
  .refine Bb Z <| D6 ?_ ?_
   .exact An Z (Bi Z (A7 (enc := AL) (l := ([] : List Int)) (m := c) g (fun _ => ⟨Z, Z⟩) Z Z Z Z Z Z <| A1 1 Z <| An Z (Bi Z (A7 (enc := AL) (l := j) (m := [b.elem]) i (fun _ => ⟨Z, Z⟩) Z Z Z Z Z Z <| Bb Z <| Hb (wf hA [(0, 9), (1, 0), (2, 1), (3, 2)] Z Z Z)))))
   refine D6 ?_ ?_
   .exact A1 1 Z <| An Z (Bi Z (A7 (enc := AL) (l := ([] : List Int)) (m := c) g (fun _ => ⟨Z, Z⟩) Z Z Z Z Z Z <| An Z (Bi Z (A7 (enc := AL) (l := j) (m := [b.elem]) i (fun _ => ⟨Z, Z⟩) Z Z Z Z Z Z <| Bb Z <| Hb (wf hA [(0, 9), (1, 0), (2, 1), (3, 2)] Z Z Z)))))
   exact J2
  exact J2
 refine AE <| AC <| rs AA <| rn 3 Z <| bq bj fun ca ai bk => sx Z (Ah (Nf _ _ _ ai) (.inl Z) Z Z Z <| rl Z <| cd Z bk (fun bl => ?_) (fun bn => ?_))
 .refine rs AA <| rn 6 Z <| bq bl fun bt aj bm => sx Z (Ah (J1 _ _ _ _ _ _ aj) (.inr Z) Z Z Z <| rl Z <| AJ <| AK ?_)
  cases bm
  exact er (Lk Z (.one (.own (enc := As) ([bt] : List AQ) Z Z))) Le.rfl
 refine AG <| AE <| rs AA <| rl Z <| rs AA <| rn 5 Z <| bq bn fun s ak bo => sx Z (Ah (Q4 _ _ _ _ ak) (.inr Z) Z Z Z <| rl Z <| AC <| rs AA <| rl Z <| AI ?_)
 apply lp (a := r) (fun f : (Int × (List AQ)) => ⟨128, [(3, ls 1 AL k), (4, .lpb 0 0), (5, .lpb 1 0), (6, .lpb 2 0), (9, .lsl 3 9 0 f.2.length), (10, ls 2 MX s), (11, li f.1)], [(0, bx (Ag d)), (1, bx (As e)), (2, .box [li b.elem, li b.fin]), (3, .row 36 9 (f.2.map As))], 4⟩) bo
 . exact A3.trans (Ho 0 (KS (enc := AL) (l := k) Z) (.cons 3 .hit (.cons 4 (.same _) (.cons 5 (.same _) (.cons 6 (.same _) (.cons 9 (.same _) (.cons 10 (.same _) (.cons 11 (.same _) .nil))))))) (.cons 1 Z Z (.same _) (.cons 2 Z Z (.same _) (.cons 3 Z Z (.same _) .nil)))) (A3.trans (CM 9 36 9 Z) (wf hA [(0, 1), (1, 2), (2, 3), (3, 4)] Z Z Z))
 intro f bv q
 unfold Fq at q
 refine AC <| rs AA <| rn 2 Z <| sx Z (Ax Z Z <| rl Z <| cd Z q (fun al => ?_) (fun a8 => ?_))
 .refine AG <| AE <| jb (fun n : (List AQ) => ⟨128, [(3, ls 1 AL k), (4, .lpb 0 0), (5, .lpb 1 0), (6, .lpb 2 0), (9, .lsl 3 9 0 n.length), (10, ls 2 MX s), (11, li f.1)], [(0, bx (Ag d)), (1, bx (As e)), (2, .box [li b.elem, li b.fin]), (3, .row 36 9 (n.map As))], 4⟩) al (fun n am => ?_) (fun n a7 => ?_)
  .refine AI <| AC ?_
   refine Ct AA mixed [0, 1, 2, 3, 4, 5, 6, 7, 8, 9] 10 (by kernel_rfl) Z Z Z ?_
   refine A1 4 Z <| bq am fun bw t an => An Z (Ak Z (Am t Z Z Z <| Bb Z <| AE <| AC ?_))
   refine Ct AA mixed [0, 1, 2, 3, 4, 5, 6, 7, 8, 9, 10, 11] 12 (by kernel_rfl) Z Z Z ?_
   refine A1 6 Z <| bq an fun bz u ao => An Z (Ak Z (Am u Z Z Z <| Bb Z <| AE <| AC <| rs AA <| rn 2 Z <| bq ao fun b0 v ap => sx Z (Ah (Jz _ _ _ v) (.inl Z) Z Z Z <| rl Z <| rs AA <| rl Z <| cd Z ap (fun aq => ?_) (fun aw => ?_))))
   .refine AC ?_
    refine Ct AA mixed [0, 1, 2, 3, 4, 5, 6, 7, 8, 9, 10, 11, 12] 13 (by kernel_rfl) Z Z Z ?_
    exact A1 5 Z <| bq aq fun b1 w ar => An Z (Ak Z (Am w Z Z Z <| A1 3 Z <| bq ar fun bp x au => An Z (Bo (J1 _ _ _ _ _ _ x) (.inr Z) Z Z Z <| A1 1 Z <| bq au fun b2 y av => An Z (Bi Z (A7 (enc := As) (l := f.2) (m := [bp]) y (fun _ => ⟨Z, Z⟩) Z Z Z Z Z Z <| Bb Z <| AE <| Aj <| Al <| A5 <| Ab av (wf hA (gi 3 [(3, 37)]) Z Z Z))))))
   refine AG <| AE <| rs AA <| rn 2 Z <| bq aw fun b3 z ax => sx Z (Ah (DA _ _ _ z) (.inl Z) Z Z Z <| rl Z <| AC <| rs AA <| rl Z <| cd Z ax (fun ay => ?_) (fun a2 => ?_))
   .refine AC ?_
    refine Ct AA mixed [0, 1, 2, 3, 4, 5, 6, 7, 8, 9, 10, 11] 12 (by kernel_rfl) Z Z Z ?_
    exact A1 5 Z <| bq ay fun b4 aa az => An Z (Ak Z (Am aa Z Z Z <| A1 2 Z <| bq az fun br ab a0 => An Z (Bo (J1 _ _ _ _ _ _ ab) (.inr Z) Z Z Z <| A1 1 Z <| bq a0 fun b5 ac a1 => An Z (Bi Z (A7 (enc := As) (l := f.2) (m := [br]) ac (fun _ => ⟨Z, Z⟩) Z Z Z Z Z Z <| Bb Z <| AE <| Aj <| Al <| A5 <| Ab a1 (wf hA (gi 3 [(3, 37)]) Z Z Z))))))
   refine AG <| AE ?_
   refine Ct AA mixed [0, 1, 2, 3, 4, 5, 6, 7, 8, 9, 10, 11, 12, 13, 14] 15 (by kernel_rfl) Z Z Z ?_
   exact A1 6 Z <| bq a2 fun b6 ad a3 => An Z (Ak Z (Am ad Z Z Z <| A1 2 Z <| bq a3 fun b7 ae a4 => An Z (Bo (J1 _ _ _ _ _ _ ae) (.inr Z) Z Z Z <| A1 2 Z <| bq a4 fun bs af a5 => An Z (Bo (hrec _ _ _ _ _ af) (.inr Z) Z Z Z <| bq a5 fun b8 ag a6 => An Z (Bi Z (A7 (enc := As) (l := f.2) (m := bs) ag (fun _ => ⟨Z, Z⟩) Z Z Z Z Z Z <| Bb Z <| Aq <| Ab a6 (wf hA (gi 3 [(3, 40)]) Z Z Z)))))))
  exact rg AA <| rl Z <| BA a7 (wf hA (gi 4 []) Z Z Z)
 refine Aj <| Al <| CP a8 fun bu a9 => A5 <| AE <| rs AA <| rl Z <| AJ ?_
 cases a9
 exact er (Lk Z (.one (.own (enc := As) f.2 Z Z))) Le.rfl
theorem Ww (b : AH) (c : AQ) (d : AD) (e : (List Int)) (r : (List AQ)) (h : Sk b c d e = some r) : Bf Try.prog 90 [.agg (Ag b), .agg (As c), .agg (Aw d), .slice 1 (e.map AL)] (· = .slice 9 (r.map As)) :=
 recF_holds (F := fun (rc : (AH × AQ × AD × (List Int)) -> Option (List AQ)) (a : (AH × AQ × AD × (List Int))) => FQ rc a.1 a.2.1 a.2.2.1 a.2.2.2) (C := fun (a : (AH × AQ × AD × (List Int))) (r : (List AQ)) => Bf Try.prog 90 [.agg (Ag a.1), .agg (As a.2.1), .agg (Aw a.2.2.1), .slice 1 (a.2.2.2.map AL)] (· = .slice 9 (r.map As))) (fun rc hrec a r h => U1 rc (fun f g i j r h => hrec (f, g, i, j) r h) a.1 a.2.1 a.2.2.1 a.2.2.2 r h) 1000 (b, c, d, e) r h
noncomputable def KX (a : AH) (c : Int) : Option (List AQ) :=
 (Lr a c).bind fun b => bif (!b.2) then some [] else (CU a b.1).bind fun d => bif (!d.2) then some [] else (Sk a (⟨c, 0, 0, [], [], [], [], [], false⟩ : AQ) d.1 ([b.1.elem] : (List Int))).bind fun e => some e
theorem Wx (a : AH) (b : Int) (r : (List AQ)) (h : KX a b = some r) : Bf Try.prog 42 [.agg (Ag a), .int .i64 b] (· = .slice 9 (r.map As)) := by
 refine fn AA Try.func42 Z Z 33 Z [.tmp 4] Z [(0, .p (.agg (Ag a))), (1, .p (.int .i64 b))] Z Z fun A hA => ?_
 unfold KX at h
 refine rs AA <| rl Z <| rs AA <| rn 2 Z <| bq h fun n e k => sx Z (Ah (YG _ _ _ e) (.inl Z) Z Z Z <| rl Z <| AC <| rs AA <| rl Z <| cd Z k (fun l => ?_) (fun m => ?_))
 .refine rs AA <| rl Z <| AJ <| AK ?_
  cases l
  exact er Z (Le.nil _)
 refine AG <| AE <| rs AA <| rn 2 Z <| bq m fun o c f => sx Z (Ah (DA _ _ _ c) (.inl Z) Z Z Z <| rl Z <| AC <| rs AA <| rl Z <| cd Z f (fun g => ?_) (fun i => ?_))
 .refine rs AA <| rl Z <| AJ <| AK ?_
  cases g
  exact er Z (Le.nil _)
 refine AG <| AE <| rs AA <| rn 7 Z <| bq i fun q d j => sx Z (X9 (Bf.le (Ww _ _ _ _ _ d) (.cons Le.rfl (.cons (Le.agg' (.cons Le.rfl (.cons Le.rfl (.cons Le.rfl (.cons (Le.nil _) (.cons (Le.nil _) (.cons (Le.nil _) (.cons (Le.nil _) (.cons (Le.nil _) (.cons Le.rfl .nil)))))))))) (.cons Le.rfl (.cons Le.rfl .nil))))) Z Z Z (Dw.eq (.cons (.one (.p _)) (.cons (.one (.p _)) (.cons (.one (.p _)) (.cons (.one (.own (enc := AL) ([n.1.elem] : List Int) Z Z)) .nil))))) Z <| rl Z <| AJ ?_)
 have hr := Option.some.inj j; subst hr
 exact er Z Le.rfl
noncomputable def HL (a : (List Ar)) : Option (List Ar) :=
 LI a (some []) ((BJ ([] : List Ar) a).bind fun b => some b)
noncomputable def BG (a : (List AN)) : Option (List AN) :=
 LI a (some []) ((BJ ([] : List AN) a).bind fun b => some b)
theorem HM (a : (List AN)) (r : (List AN)) (h : BG a = some r) : Bf Try.prog 50 [.slice 2 (a.map AS)] (· = .slice 2 (r.map AS)) := by
 refine fn AA Try.func50 Z Z 8 Z [.tmp 2] Z [(0, .p (.slice 2 (a.map AS)))] Z Z fun A hA => ?_
 unfold BG at h
 refine rs AA <| rl Z <| AC <| rs AA <| rn 1 Z <| sx Z (Pe h Z Z Z (fun d => ?_) (fun e => ?_))
 .refine rl Z <| Qv Z <| rs AA <| rl Z <| AJ <| AK ?_
  cases d
  exact er Z (Le.nil _)
 refine rl Z <| PZ Z <| AG <| AE <| rs AA <| rn 2 Z <| bq e fun f b c => sx Z (A7 (enc := AS) (l := ([] : List AN)) (m := a) b (fun _ => ⟨Z, Z⟩) Z Z Z Z Z Z <| rl Z <| AJ ?_)
 have hr := Option.some.inj c; subst hr
 exact er (Lk Z (.one (.own (enc := AS) f Z Z))) Le.rfl
theorem Ki (a : (List AN)) (r : (List AN)) (h : BG a = some r) : FD Try.prog 50 [.slice 2 (a.map AS)] 46 2 (r.map AS) := by
 refine Vj (enc := AS) (fun _ => ⟨Z, Z⟩) Try.func50 Z Z 8 Z 2 Z [(0, .p (.slice 2 (a.map AS)))] Z Z fun A hA => ?_
 unfold BG at h
 refine rs AA <| rl Z <| AC <| rs AA <| rn 1 Z <| sx Z (Pe h Z Z Z (fun d => ?_) (fun e => ?_))
 .refine rl Z <| Qv Z <| rs AA <| rl Z <| AJ <| AK ?_
  cases d
  exact Yn Z
 refine rl Z <| PZ Z <| AG <| AE <| rs AA <| rn 2 Z <| bq e fun f b c => sx Z (A7 (enc := AS) (l := ([] : List AN)) (m := a) b (fun _ => ⟨Z, Z⟩) Z Z Z Z Z Z <| rl Z <| AJ ?_)
 have hr := Option.some.inj c; subst hr
 exact Vk Z Z Z
noncomputable def Iy (a : CJ) : Option AH :=
 (J0 a.p).bind fun b => some b
noncomputable def Iz (b : CJ) (a : Int) : Option Bl :=
 ((bif decide (a < 0) then some true else some (decide ((b.p.elems.length : Int) <= a)) : Option (Bool))).bind fun (c : Bool) => bif c then some (⟨ByteArray.empty, 0, 0⟩ : Bl) else (Ad b.p.elems a).bind fun d => some d
noncomputable def Ds (a : CJ) (b : Int) : Option Int :=
 (Iz a b).bind fun c => some c.kind
end Go.E
/- Plain functions, and walks in step with them. Written by a program (gen.py). No condition. -/
set_option maxRecDepth 100000
namespace Go.E
open Go Go.RowKit Go.Proofs
noncomputable def Ci (a : CJ) (b : AD) : Option (AD × Bool) :=
 some (((AU a.next b).getD (⟨0, 0⟩ : AD)), (AU a.next b).isSome)
noncomputable def GC (g : CJ) (e : (Int × (List AD))) (c : Ar) (b : (List Int)) (a : Int × (List AD)) : Option ((Int × (List AD)) ⊕ ((Int × (List AD)) ⊕ (List AD))) :=
 bif decide (a.1 < (b.length : Int)) then (((Ad b a.1).bind fun d => (Ci g (⟨c.elem, d⟩ : AD)).bind fun h => bif h.2 then (BJ a.2 [(⟨c.elem, d⟩ : AD)]).bind fun i => some i else some a.2 : Option ((List AD)))).bind fun (f : (List AD)) => some (.inl (AX (a.1 + 1), f)) else some (.inr (.inl (AX (e.1 + 1), a.2)))
noncomputable def IR (c : CJ) (d : AQ) (b : Int × (List AD)) : Option ((Int × (List AD)) ⊕ (List AD)) :=
 bif decide (b.1 < (d.steps.length : Int)) then (Ad d.steps b.1).bind fun a => (((Ds c a.elem).bind fun e => bif (e == 2) then some [AX (3 - (if a.out > a.in_ then a.out else a.in_))] else bif (e == 3) then bif decide (1 < a.in_) then some [0, 1] else some [2, 3] else some ([] : List Int) : Option ((List Int)))).bind fun (f : (List Int)) => AO (GC c b a f) (0, b.2) else some (.inr b.2)
noncomputable def KY (a : CJ) (b : AQ) : Option (List AD) :=
 AO (IR a b) (0, ([] : List AD))
noncomputable def Nh (a : Ar) (b : Int) : Option Bool :=
 some (a.elem == b)
noncomputable def Hc (b : AQ) (c : Int) (a : Int) : Option (Int ⊕ Int) :=
 bif decide (a < (b.steps.length : Int)) then (Ad b.steps a).bind fun d => (Nh d c).bind fun e => bif e then some (.inr a) else some (.inl (AX (a + 1))) else some (.inr (-1))
noncomputable def MY (c : AQ) (d : Int) : Option Bool :=
 ((((AO (Hc c d) 0 : Option (Int))).bind fun (b : Int) => some (decide (0 <= b)) : Option (Bool))).bind fun (a : Bool) => some a
noncomputable def IS (a : CJ) (b : AD) : Option Int :=
 bif (AU a.reads b).isSome then some ((AU a.reads b).getD 0) else some (-1)
noncomputable def B7 (b : (List Int)) (c : Int) (a : Int) : Option (Int ⊕ Int) :=
 bif decide (a < (b.length : Int)) then (Ad b a).bind fun d => bif (c == d) then some (.inr a) else some (.inl (AX (a + 1))) else some (.inr (-1))
noncomputable def Cc (a : (List Int)) (b : Int) : Option Int :=
 AO (B7 a b) 0
theorem JZ (b : (List Int)) (c : Int) (r : Int) (h : Cc b c = some r) : Bf Try.prog 72 [.slice 1 (b.map AL), .int .i64 c] (· = .int .i64 r) := by
 refine fn AA Try.func72 Z Z 19 Z [.tmp 4] Z [(0, .p (.slice 1 (b.map AL))), (1, .p (.int .i64 c))] Z Z fun A hA => ?_
 unfold Cc at h
 refine rs AA <| rl Z <| AC <| rs AA <| rn 1 Z <| sx Z (Ax Z Z <| rl Z <| AI ?_)
 apply lp (a := r) (fun e : Int => ⟨19, [(0, ls 1 AL b), (1, li c), (7, li (b.length : Int)), (8, li e)], [], 0⟩) h
 . exact wf hA [] Z Z Z
 intro e s d
 unfold B7 at d
 refine rs AA <| rl Z <| AC <| cd Z d (fun n => ?_) (fun l => ?_)
 .refine AG <| AE <| AC <| AI <| rs AA <| rl Z <| rs AA <| rn 3 Z <| bq n fun t f g => sx Z (Am f Z Z Z <| rl Z <| cd Z g (fun i => ?_) (fun k => ?_))
  .refine rs AA <| rl Z <| AJ <| Ac <| AK <| BP i fun o j => Ac <| AK ?_
   have hr := Option.some.inj j; subst hr
   exact er Z Le.rfl
  exact AG <| Aq <| AE <| rg AA <| rl Z <| BA k (wf hA [] Z Z Z)
 refine Aj <| Al <| CP l fun q m => A5 <| AE <| rs AA <| rl Z <| AJ ?_
 cases m
 exact er Z Le.rfl
noncomputable def BX (a : (List Int)) (b : Int) : Option Bool :=
 (Cc a b).bind fun c => some (decide (0 <= c))
theorem H2 (a : (List Int)) (b : Int) (r : Bool) (h : BX a b = some r) : Bf Try.prog 57 [.slice 1 (a.map AL), .int .i64 b] (· = .bool r) := by
 refine fn AA Try.func57 Z Z 9 Z [.tmp 4] Z [(0, .p (.slice 1 (a.map AL))), (1, .p (.int .i64 b))] Z Z fun A hA => ?_
 unfold BX at h
 refine rs AA <| rl Z <| rs AA <| rn 2 Z <| bq h fun e c d => sx Z (Ah (JZ _ _ _ c) (.inl Z) Z Z Z <| rl Z <| AJ ?_)
 cases d
 exact er Z Le.rfl
noncomputable def C0 (b : (List AN)) (c : AN) (a : Int) : Option (Int ⊕ Int) :=
 bif decide (a < (b.length : Int)) then (Ad b a).bind fun d => bif (c == d) then some (.inr a) else some (.inl (AX (a + 1))) else some (.inr (-1))
noncomputable def HN (a : (List AN)) (b : AN) : Option Int :=
 AO (C0 a b) 0
noncomputable def CY (a : (List AN)) (b : AN) : Option Bool :=
 (HN a b).bind fun c => some (decide (0 <= c))
noncomputable def I2 (c : CJ) (d : Int) (a : Int) : Option (List Cx) :=
 ((bif decide (a < 0) then some true else (Ds c d).bind fun f => (JF f).bind fun g => some (decide (g <= a)) : Option (Bool))).bind fun (e : Bool) => bif e then some [] else (Ds c d).bind fun b => bif (b == 1) then some [(⟨AX (1 - a), 0⟩ : Cx)] else bif (b == 3) then (Ad ([1, 0, 3, 2] : List Int) a).bind fun h => some [(⟨h, 0⟩ : Cx)] else bif (b == 2) then bif (a == 0) then some [(⟨1, 1⟩ : Cx), (⟨2, 2⟩ : Cx)] else (Ad ([0, 1, 2] : List Int) a).bind fun i => some [(⟨0, i⟩ : Cx)] else some []
noncomputable def FR (e : Int) (c : (List Cx)) (a : Int) : Option (Int ⊕ (Int × Bool)) :=
 bif decide (a < (c.length : Int)) then (Ad c a).bind fun b => ((bif (b.pos == 0) then some true else some (b.pos == e) : Option (Bool))).bind fun (d : Bool) => bif d then some (.inr (b.out, true)) else some (.inl (AX (a + 1))) else some (.inr (0, false))
noncomputable def G0 (a : CJ) (b : Int) (c : Int) (d : Int) : Option (Int × Bool) :=
 (I2 a b c).bind fun e => AO (FR d e) 0
noncomputable def Ls (b : CJ) (c : Int) (d : Int) (e : Int) : Option (Int × Bool) :=
 (G0 b c d e).bind fun a => some (a.1, a.2)
noncomputable def B1 (d : CJ) (e : AQ) (r : (List Ar)) (l : (List AN)) (am : AH) (a : Bool × (List (AD × Bool)) × (List AN) × (List Int) × (List Int) × (List AD)) : Option ((Bool × (List (AD × Bool)) × (List AN) × (List Int) × (List Int) × (List AD)) ⊕ AQ) :=
 bif decide (0 < (a.2.2.2.2.2.length : Int)) then (Ad a.2.2.2.2.2 (AX ((a.2.2.2.2.2.length : Int) - 1))).bind fun b => (Yw a.2.2.2.2.2 0 (AX ((a.2.2.2.2.2.length : Int) - 1))).bind fun c => (((MY (⟨e.frm, e.to, e.fin, r, l, a.2.2.1, a.2.2.2.1, a.2.2.2.2.1, a.1⟩ : AQ) b.elem).bind fun an => bif an then some true else some ((AU a.2.1 b).getD false) : Option (Bool))).bind fun (y : Bool) => bif y then some (.inl (a.1, a.2.1, a.2.2.1, a.2.2.2.1, a.2.2.2.2.1, c)) else (IS d b).bind fun m => ((bif decide (0 <= m) then some (!am.hard) else some false : Option (Bool))).bind fun (z : Bool) => bif z then (((BX a.2.2.2.2.1 m).bind fun ao => bif (!ao) then (BJ a.2.2.2.2.1 [m]).bind fun ap => some ap else some a.2.2.2.2.1 : Option ((List Int)))).bind fun (aa : (List Int)) => some (.inl (a.1, Av b true a.2.1, a.2.2.1, a.2.2.2.1, aa, c)) else (Ds d b.elem).bind fun s => bif (s == 4) then some (.inl (true, Av b true a.2.1, a.2.2.1, a.2.2.2.1, a.2.2.2.2.1, c)) else bif (s == 2) then bif (b.fin == 0) then (((((BX a.2.2.2.1 b.elem).bind fun aq => bif aq then some (true, a.1, a.2.2.2.1) else bif decide (12 <= (a.2.2.2.1.length : Int)) then some (false, true, a.2.2.2.1) else (BJ a.2.2.2.1 [b.elem]).bind fun ar => some (true, a.1, ar) : Option (Bool × Bool × (List Int)))).bind fun (h : Bool × Bool × (List Int)) => bif h.1 then (((Ci d (⟨b.elem, 2⟩ : AD)).bind fun t => bif t.2 then (BJ c [t.1]).bind fun au => some au else some c : Option ((List AD)))).bind fun (n : (List AD)) => (((Ci d (⟨b.elem, 1⟩ : AD)).bind fun u => bif u.2 then (BJ n [u.1]).bind fun av => some av else some n : Option ((List AD)))).bind fun (ab : (List AD)) => some (h.2.1, h.2.2, ab) else some (h.2.1, h.2.2, c) : Option (Bool × (List Int) × (List AD)))).bind fun (k : Bool × (List Int) × (List AD)) => some (.inl (k.1, Av b true a.2.1, a.2.2.1, k.2.1, a.2.2.2.2.1, k.2.2)) else (((CY l (⟨b.elem, b.fin⟩ : AN)).bind fun ac => bif ac then some true else (CY a.2.2.1 (⟨b.elem, b.fin⟩ : AN)).bind fun ad => some ad : Option (Bool))).bind fun (v : Bool) => bif v then (((((BX a.2.2.2.1 b.elem).bind fun ae => bif ae then some (true, a.1, a.2.2.2.1) else bif decide (12 <= (a.2.2.2.1.length : Int)) then some (false, true, a.2.2.2.1) else (BJ a.2.2.2.1 [b.elem]).bind fun af => some (true, a.1, af) : Option (Bool × Bool × (List Int)))).bind fun (f : Bool × Bool × (List Int)) => bif f.1 then (((Ci d (⟨b.elem, 0⟩ : AD)).bind fun o => bif o.2 then (BJ c [o.1]).bind fun ag => some ag else some c : Option ((List AD)))).bind fun (w : (List AD)) => some (f.2.1, f.2.2, w) else some (f.2.1, f.2.2, c) : Option (Bool × (List Int) × (List AD)))).bind fun (i : Bool × (List Int) × (List AD)) => some (.inl (i.1, Av b true a.2.1, a.2.2.1, i.2.1, a.2.2.2.2.1, i.2.2)) else (CY a.2.2.1 (⟨b.elem, AX (3 - b.fin)⟩ : AN)).bind fun ah => bif (!ah) then (BJ a.2.2.1 [(⟨b.elem, AX (3 - b.fin)⟩ : AN)]).bind fun ai => some (.inl (a.1, Av b true a.2.1, ai, a.2.2.2.1, a.2.2.2.2.1, c)) else some (.inl (a.1, Av b true a.2.1, a.2.2.1, a.2.2.2.1, a.2.2.2.2.1, c)) else (Ls d b.elem b.fin 0).bind fun p => ((bif p.2 then (((BX a.2.2.2.1 b.elem).bind fun aj => bif aj then some (true, a.1, a.2.2.2.1) else bif decide (12 <= (a.2.2.2.1.length : Int)) then some (false, true, a.2.2.2.1) else (BJ a.2.2.2.1 [b.elem]).bind fun ak => some (true, a.1, ak) : Option (Bool × Bool × (List Int)))).bind fun (j : Bool × Bool × (List Int)) => some (j.1, j.2.1, j.2.2) else some (false, a.1, a.2.2.2.1) : Option (Bool × Bool × (List Int)))).bind fun (g : Bool × Bool × (List Int)) => bif g.1 then (((Ci d (⟨b.elem, p.1⟩ : AD)).bind fun q => bif q.2 then (BJ c [q.1]).bind fun al => some al else some c : Option ((List AD)))).bind fun (x : (List AD)) => some (.inl (g.2.1, Av b true a.2.1, a.2.2.1, g.2.2, a.2.2.2.2.1, x)) else some (.inl (g.2.1, Av b true a.2.1, a.2.2.1, g.2.2, a.2.2.2.2.1, c)) else some (.inr (⟨e.frm, e.to, e.fin, r, l, a.2.2.1, a.2.2.2.1, a.2.2.2.2.1, a.1⟩ : AQ))
noncomputable def Fs (b : CJ) (c : AQ) (i : (List Ar)) (j : (List AN)) (d : AH) (e : (List AD)) (a : Int × (List AD)) : Option ((Int × (List AD)) ⊕ AQ) :=
 bif decide (0 <= a.1) then (Ad e a.1).bind fun f => (Ci b f).bind fun g => (BJ a.2 [g.1]).bind fun h => some (.inl (AX (a.1 - 1), h)) else (AO (B1 b c i j d) (false, [], ([] : List AN), ([] : List Int), ([] : List Int), a.2)).map .inr
noncomputable def Gr (b : CJ) (a : AQ) : Option AQ :=
 (HL a.steps).bind fun d => (BG a.needs).bind fun e => (Iy b).bind fun f => (KY b (⟨a.frm, a.to, a.fin, d, e, [], [], [], false⟩ : AQ)).bind fun c => AO (Fs b a d e f c) (AX ((c.length : Int) - 1), ([] : List AD))
noncomputable def KZ (b : (List Int)) (c : (List Int)) (a : Int) : Option (Int ⊕ Bool) :=
 bif decide (a < (b.length : Int)) then (Ad b a).bind fun d => (Ad c a).bind fun e => bif (d != e) then some (.inr false) else some (.inl (AX (a + 1))) else some (.inr true)
noncomputable def Hd (a : (List Int)) (b : (List Int)) : Option Bool :=
 bif ((a.length : Int) != (b.length : Int)) then some false else AO (KZ a b) 0
theorem RX (b : (List Int)) (c : (List Int)) (r : Bool) (h : Hd b c = some r) : Bf Try.prog 33 [.slice 1 (b.map AL), .slice 1 (c.map AL)] (· = .bool r) := by
 refine fn AA Try.func33 Z Z 26 Z [.tmp 4] Z [(0, .p (.slice 1 (b.map AL))), (1, .p (.slice 1 (c.map AL)))] Z Z fun A hA => ?_
 unfold Hd at h
 refine rs AA <| rl Z <| AC <| rs AA <| rn 1 Z <| sx Z (Ax Z Z <| rn 1 Z <| sx Z (Ax Z Z <| rl Z <| cd Z h (fun s => ?_) (fun t => ?_)))
 .refine rs AA <| rl Z <| AJ <| AK ?_
  cases s
  exact er Z Le.rfl
 refine AG <| AE <| AC <| rs AA <| rl Z <| AI ?_
 apply lp (a := r) (fun e : Int => ⟨26, [(0, ls 1 AL b), (1, ls 1 AL c), (5, li e)], [], 0⟩) t
 . exact wf hA [] Z Z Z
 intro e w d
 unfold KZ at d
 refine AC <| rs AA <| rn 2 Z <| sx Z (Ax Z Z <| rl Z <| cd Z d (fun i => ?_) (fun o => ?_))
 .refine AG <| AE <| AC <| AI <| AC ?_
  refine Ct AA mixed [0, 1, 2, 3, 4, 5, 6, 7, 8] 9 (by kernel_rfl) Z Z Z ?_
  refine A1 2 Z <| bq i fun x f j => An Z (Ak Z (Am f Z Z Z <| A1 3 Z <| bq j fun y g k => An Z (Ak Z (Am g Z Z Z <| Bb Z <| AE <| cd Z k (fun l => ?_) (fun n => ?_)))))
  .refine rs AA <| rl Z <| AJ <| Ac <| AK <| BP l fun u m => Ac <| AK ?_
   cases m
   exact er Z Le.rfl
  exact AG <| Aq <| AE <| rg AA <| rl Z <| BA n (wf hA [] Z Z Z)
 refine Aj <| Al <| CP o fun v q => A5 <| AE <| rs AA <| rl Z <| AJ ?_
 cases q
 exact er Z Le.rfl
noncomputable def Ev (b : AH) (a : Int × (List AQ)) : Option ((Int × (List AQ)) ⊕ ((List AQ) × Int)) :=
 bif decide (a.1 < (b.signals.length : Int)) then (KX b a.1).bind fun d => (BJ a.2 d).bind fun c => bif decide (64 < (c.length : Int)) then some (.inr (([] : List AQ), 3)) else some (.inl (AX (a.1 + 1), c)) else some (.inr (a.2, 0))
noncomputable def Ja (a : AH) : Option ((List AQ) × Int) :=
 AO (Ev a) (0, ([] : List AQ))
theorem Vv (c : AH) (r : ((List AQ) × Int)) (h : Ja c = some r) : G1 Try.prog 46 [] 0 [.p (.agg (Ag c))] (.tup [.lsl 0 9 0 r.1.length, li r.2]) [(0, .row 36 9 (r.1.map As))] 1 := by
 refine Sl AA Try.func46 22 [.tmp 2, .tmp 3] [(0, .p (.agg (Ag c)))] Z Z Z Z Z Z (fun A hA => ?_)
 unfold Ja at h
 refine rs AA <| rl Z <| rs AA <| rl Z <| AC <| rs AA <| rl Z <| AI ?_
 apply lp (a := r) (fun b : (Int × (List AQ)) => ⟨22, [(1, .lpb 0 0), (4, .lsl 1 9 0 b.2.length), (5, li b.1)], [(0, bx (Ag c)), (1, .row 36 9 (b.2.map As))], 2⟩) h
 . exact A3.trans (CM 4 36 9 Z) (wj hA [(0, 0), (1, 1)] Z Z Z Z)
 intro b w d
 unfold Ev at d
 refine AC <| rs AA <| rn 3 Z <| sx Z (Ax Z Z <| rl Z <| cd Z d (fun g => ?_) (fun q => ?_))
 .refine AG <| AE <| AC <| AI <| rs AA <| rn 3 Z <| bq g fun t e i => sx Z (Ah (Wx _ _ _ e) (.inr Z) Z Z Z <| bq i fun x f j => sx Z (A7 (enc := As) (l := b.2) (m := t) f (fun _ => ⟨Z, Z⟩) Z Z Z Z Z Z <| rl Z <| rs AA <| rl Z <| cd Z j (fun k => ?_) (fun o => ?_)))
  .refine rs AA <| rl Z <| AJ <| Ac <| AK <| BP k fun u n => Ac <| AK ?_
   cases n
   exact E7 (nt := 22) (sl := [(2, .lsl 0 9 0 ([] : List AQ).length), (3, li 3)]) (A3.trans (CM 2 36 9 Z) (wj hA [(0, 3)] Z Z Z Z)) Z
  exact AG <| Aq <| AE <| rg AA <| rl Z <| BA o (wj hA [(0, 0), (1, 2)] Z Z Z Z)
 refine Aj <| Al <| CP q fun v s => A5 <| AE <| rs AA <| rl Z <| AJ ?_
 cases s
 exact E7 (nt := 22) (sl := [(2, .lsl 0 9 0 b.2.length), (3, li 0)]) (wj hA [(0, 1)] Z Z Z Z) Z
noncomputable def Ew (e : AH) (c : (Int × (List AD))) (b : (List AD)) (a : Int × (List AD)) : Option ((Int × (List AD)) ⊕ ((Int × (List AD)) ⊕ (List AD))) :=
 bif decide (a.1 < (b.length : Int)) then (((Ad b a.1).bind fun f => (CU e f).bind fun g => bif g.2 then (Ad b a.1).bind fun h => (BJ a.2 [h]).bind fun i => some i else some a.2 : Option ((List AD)))).bind fun (d : (List AD)) => some (.inl (AX (a.1 + 1), d)) else some (.inr (.inl (AX (c.1 + 1), a.2)))
noncomputable def Gs (d : AH) (e : AQ) (b : Int × (List AD)) : Option ((Int × (List AD)) ⊕ (List AD)) :=
 bif decide (b.1 < (e.steps.length : Int)) then (Ad e.steps b.1).bind fun a => (((Gd d a.elem).bind fun f => bif (f == 2) then (BJ ([] : List AD) [(⟨a.elem, AX (3 - (if a.out > a.in_ then a.out else a.in_))⟩ : AD)]).bind fun h => some h else bif (f == 3) then ((bif decide (2 <= a.in_) then some 0 else some 2 : Option (Int))).bind fun (c : Int) => (BJ ([] : List AD) [(⟨a.elem, c⟩ : AD), (⟨a.elem, AX (c + 1)⟩ : AD)]).bind fun i => some i else some ([] : List AD) : Option ((List AD)))).bind fun (g : (List AD)) => AO (Ew d b g) (0, b.2) else some (.inr b.2)
noncomputable def HO (a : AH) (b : AQ) : Option (List AD) :=
 AO (Gs a b) (0, ([] : List AD))
theorem Tg (d : AH) (f : AQ) (r : (List AD)) (h : HO d f = some r) : Bf Try.prog 62 [.agg (Ag d), .agg (As f)] (· = .slice 2 (r.map Aw)) := by
 refine fn AA Try.func62 Z Z 84 Z [.tmp 4] Z [(0, .p (.agg (Ag d))), (1, .p (.agg (As f)))] Z Z fun A hA => ?_
 unfold HO at h
 refine rs AA <| rl Z <| rs AA <| rl Z <| AC <| rs AA <| rl Z <| AI ?_
 apply lp (a := r) (fun b : (Int × (List AD)) => ⟨84, [(2, .lpb 0 0), (3, .lpb 1 0), (5, .lsl 2 2 0 b.2.length), (6, li b.1)], [(0, bx (Ag d)), (1, bx (As f)), (2, .row 96 2 (b.2.map Aw))], 3⟩) h
 . exact A3.trans (CM 5 96 2 Z) (wf hA (gi 3 []) Z Z Z)
 intro b t q
 unfold Gs at q
 refine AC <| rs AA <| rn 3 Z <| sx Z (Ax Z Z <| rl Z <| cd Z q (fun aa => ?_) (fun a2 => ?_))
 .refine AG <| AE <| AC <| AI <| rs AA <| rn 3 Z <| bq aa fun g u ab => sx Z (Am u Z Z Z <| rl Z <| rs AA <| rl Z <| jb (fun c : (List AD) => ⟨84, [(2, .lpb 0 0), (3, .lpb 1 0), (5, .lsl 2 2 0 b.2.length), (6, li b.1), (8, .lsl 3 2 0 c.length)], [(0, bx (Ag d)), (1, bx (As f)), (2, .row 96 2 (b.2.map Aw)), (3, .row 96 2 (c.map Aw))], 4⟩) ab (fun c ac => ?_) (fun c ao => ?_))
  .refine rs AA <| rn 3 Z <| bq ac fun a8 v ad => sx Z (Ah (Nf _ _ _ v) (.inl Z) Z Z Z <| rl Z <| AI <| rs AA <| rl Z <| cd Z ad (fun ae => ?_) (fun ag => ?_))
   .exact rg AA <| rn 11 Z <| bq ae fun a9 w af => sx Z (Vi (e := 96) (sz := 2) (enc := Aw) (m := [(⟨g.elem, AX (3 - (if g.out > g.in_ then g.out else g.in_))⟩ : AD)]) w (fun _ => ⟨Z, Z⟩) Z Z Z <| rl Z <| Aq <| Ab af (wf hA (gi 3 [(3, 5)]) Z Z Z))
   refine rs AA <| rl Z <| cd Z ag (fun ah => ?_) (fun an => ?_)
   .refine rs AA <| rl Z <| jb (fun j : Int => ⟨84, [(2, .lpb 0 0), (3, .lpb 1 0), (5, .lsl 2 2 0 b.2.length), (6, li b.1), (7, .lpb 3 0), (8, .p (.nils)), (9, li j)], [(0, bx (Ag d)), (1, bx (As f)), (2, .row 96 2 (b.2.map Aw)), (3, bx (BE g))], 4⟩) ah (fun j ai => ?_) (fun j al => ?_)
    .refine rs AA <| rl Z <| cd Z ai (fun aj => ?_) (fun ak => ?_)
     .exact rg AA <| rl Z <| Ab aj (wf hA (gi 4 []) Z Z Z)
     exact AG <| Ab ak (wf hA (gi 4 []) Z Z Z)
    exact rg AA <| rn 11 Z <| bq al fun ba x am => sx Z (Vi (e := 96) (sz := 2) (enc := Aw) (m := [(⟨g.elem, j⟩ : AD), (⟨g.elem, AX (j + 1)⟩ : AD)]) x (fun _ => ⟨Z, Z⟩) Z Z Z <| rl Z <| Aq <| Ab am (wf hA (gi 3 [(3, 5)]) Z Z Z))
   exact AG <| Aq <| Ab an (A3.trans (CM 8 96 2 Z) (wf hA (gi 3 [(3, 4)]) Z Z Z))
  refine rs AA <| rl Z <| AI ?_
  apply lp (a := t) (fun i : (Int × (List AD)) => ⟨84, [(2, .lpb 0 0), (3, .lpb 1 0), (5, .lsl 2 2 0 i.2.length), (6, li b.1), (8, .lsl 3 2 0 c.length), (10, li i.1)], [(0, bx (Ag d)), (1, bx (As f)), (2, .row 96 2 (i.2.map Aw)), (3, .row 96 2 (c.map Aw))], 4⟩) ao
  . exact wf hA (gi 4 []) Z Z Z
  intro i a7 s
  unfold Ew at s
  refine AC <| rs AA <| rl Z <| cd Z s (fun ap => ?_) (fun a0 => ?_)
  .refine AG <| AE <| jb (fun k : (List AD) => ⟨84, [(2, .lpb 0 0), (3, .lpb 1 0), (5, .lsl 2 2 0 k.length), (6, li b.1), (8, .lsl 3 2 0 c.length), (10, li i.1)], [(0, bx (Ag d)), (1, bx (As f)), (2, .row 96 2 (k.map Aw)), (3, .row 96 2 (c.map Aw))], 4⟩) ap (fun k aq => ?_) (fun k az => ?_)
   .refine AI <| AC ?_
    refine Ct AA mixed [0, 1, 2, 3, 4, 5, 6, 7, 8, 9, 10, 11] 12 (by kernel_rfl) Z Z Z ?_
    refine A1 3 Z <| bq aq fun bb n ar => An Z (Ak Z (CQ n Z Z Z Z <| An Z (Fi Z (Dm n Z Z Z <| bq ar fun bc y au => An Z (Bo (DA _ _ _ y) (.inl Z) Z Z Z <| Bb Z <| AE <| rs AA <| rl Z <| cd Z au (fun av => ?_) (fun ay => ?_))))))
    .exact rg AA <| rn 3 Z <| bq av fun a4 o aw => sx Z (CQ o Z Z Z Z <| sx Z (Dm o Z Z Z <| rn 1 Z <| bq aw fun be z ax => sx Z (A7 (enc := Aw) (l := i.2) (m := [a4]) z (fun _ => ⟨Z, Z⟩) Z Z Z Z Z Z <| rl Z <| Aq <| Ab ax (wf hA [(0, 0), (1, 1), (2, 17), (3, 3)] Z Z Z))))
    exact AG <| Aq <| Ab ay (wf hA (gi 4 []) Z Z Z)
   exact rg AA <| rl Z <| BA az (wf hA (gi 4 []) Z Z Z)
  exact Aj <| Al <| CP a0 fun a5 a1 => A5 <| Aq <| AE <| rg AA <| rl Z <| BA a1 (wf hA (gi 3 []) Z Z Z)
 refine Aj <| Al <| CP a2 fun a6 a3 => A5 <| AE <| rs AA <| rl Z <| AJ ?_
 cases a3
 exact er (Lk Z (.one (.own (enc := Aw) b.2 Z Z))) Le.rfl
noncomputable def Lt (b : AQ) (a : Int × (List Int)) : Option ((Int × (List Int)) ⊕ (List Int)) :=
 bif decide (a.1 < (b.steps.length : Int)) then (Ad b.steps a.1).bind fun c => (BJ a.2 [c.elem]).bind fun d => some (.inl (AX (a.1 + 1), d)) else some (.inr a.2)
noncomputable def HB (a : AQ) : Option (List Int) :=
 AO (Lt a) (0, ([] : List Int))
theorem Nc (c : AQ) (r : (List Int)) (h : HB c = some r) : FD Try.prog 22 [.agg (As c)] 3 1 (r.map AL) := by
 refine Vj (enc := AL) (fun _ => ⟨Z, Z⟩) Try.func22 Z Z 22 Z 2 Z [(0, .p (.agg (As c)))] Z Z fun A hA => ?_
 unfold HB at h
 refine rs AA <| rl Z <| rs AA <| rl Z <| AC <| rs AA <| rl Z <| AI ?_
 apply lp (a := r) (fun b : (Int × (List Int)) => ⟨22, [(1, .lpb 0 0), (3, .lsl 1 1 0 b.2.length), (4, li b.1)], [(0, bx (As c)), (1, .row 3 1 (b.2.map AL))], 2⟩) h
 . exact A3.trans (CM 3 3 1 Z) (wf hA [(0, 0), (1, 1)] Z Z Z)
 intro b s d
 unfold Lt at d
 refine AC <| rs AA <| rn 3 Z <| sx Z (Ax Z Z <| rl Z <| cd Z d (fun n => ?_) (fun j => ?_))
 .exact AG <| AE <| AC <| AI <| rg AA <| rn 4 Z <| bq n fun o e g => sx Z (Am e Z Z Z <| rn 3 Z <| bq g fun t f i => sx Z (A7 (enc := AL) (l := b.2) (m := [o.elem]) f (fun _ => ⟨Z, Z⟩) Z Z Z Z Z Z <| rl Z <| Aq <| AE <| rg AA <| rl Z <| BA i (wf hA [(0, 0), (1, 3)] Z Z Z)))
 refine Aj <| Al <| CP j fun q k => A5 <| AE <| rs AA <| rl Z <| AJ ?_
 cases k
 exact Vk Z Z Z
noncomputable def Jb (a : AQ) (b : Int) : Option Bool :=
 (HB a).bind fun c => (Cw c b).bind fun d => some d
theorem Vw (a : AQ) (b : Int) (r : Bool) (h : Jb a b = some r) : Bf Try.prog 153 [.agg (As a), .int .i64 b] (· = .bool r) := by
 refine fn AA Try.func153 Z Z 9 Z [.tmp 4] Z [(0, .p (.agg (As a))), (1, .p (.int .i64 b))] Z Z fun A hA => ?_
 unfold Jb at h
 refine rs AA <| rl Z <| rs AA <| rn 1 Z <| bq h fun g c e => sx Z (Ln (Nc _ _ c) Z Z Z Z <| rn 1 Z <| bq e fun i d f => sx Z (Ah (Fy _ _ _ d) (.inl Z) Z Z (Dw.eq (.cons (.one (.own (enc := AL) g Z Z)) (.cons (.one (.p _)) .nil))) <| rl Z <| AJ ?_))
 have hr := Option.some.inj f; subst hr
 exact er Z Le.rfl
noncomputable def DL (b : (List AD)) (c : AD) (a : Int) : Option (Int ⊕ Bool) :=
 bif decide (a < (b.length : Int)) then (Ad b a).bind fun d => bif (d == c) then some (.inr true) else some (.inl (AX (a + 1))) else some (.inr false)
noncomputable def Ft (a : (List AD)) (b : AD) : Option Bool :=
 AO (DL a b) 0
theorem RY (c : (List AD)) (b : AD) (r : Bool) (h : Ft c b = some r) : Bf Try.prog 154 [.slice 2 (c.map Aw), .agg (Aw b)] (· = .bool r) := by
 refine fn AA Try.func154 Z Z 18 Z [.tmp 4] Z [(0, .p (.slice 2 (c.map Aw))), (1, .p (.agg (Aw b)))] Z Z fun A hA => ?_
 unfold Ft at h
 refine rs AA <| rl Z <| AC <| rs AA <| rl Z <| AI ?_
 apply lp (a := r) (fun e : Int => ⟨18, [(0, ls 2 Aw c), (3, .lpb 0 0), (5, li e)], [(0, .box [li b.elem, li b.fin])], 1⟩) h
 . exact wf hA [(0, 0)] Z Z Z
 intro e t d
 unfold DL at d
 refine AC <| rs AA <| rn 2 Z <| sx Z (Ax Z Z <| rl Z <| cd Z d (fun n => ?_) (fun l => ?_))
 .refine AG <| AE <| AC <| AI <| AC ?_
  refine Ct AA mixed [0, 1, 2, 3, 4, 5] 6 (by kernel_rfl) Z Z Z ?_
  refine A1 2 Z <| bq n fun o f g => An Z (Ak Z (Am f Z Z Z <| A1 2 Z <| An Z (Lj (KU o b) Z Z Z Z Z <| Bb Z <| AE <| cd Z g (fun i => ?_) (fun k => ?_))))
  .refine rs AA <| rl Z <| AJ <| Ac <| AK <| BP i fun q j => Ac <| AK ?_
   cases j
   exact er Z Le.rfl
  exact AG <| Aq <| AE <| rg AA <| rl Z <| BA k (wf hA [(0, 0)] Z Z Z)
 refine Aj <| Al <| CP l fun s m => A5 <| AE <| rs AA <| rl Z <| AJ ?_
 cases m
 exact er Z Le.rfl
end Go.E
