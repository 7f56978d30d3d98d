/- Au rows cut short; nil cells of own boxes; functions that call themselves. No condition. -/
import Derived.Test.YtilbadmonidmhaaGreatJ2
set_option linter.unusedVariables false
set_option linter.unusedSimpArgs false
namespace Go.E
open Go Go.RowKit
section
variable {A : BX} {μ : Nat -> Option Bt} {h : List (Nat × BK)} {F : Nat -> Prop} {w : World}
theorem HRel.swap (hh : HRel A μ h F w) {id : Nat} {o o' : BK} (hx : AL id h = some o) (hor : ∀ loc, μ id = some loc -> Dy (Au A μ h) μ w loc o -> Dy (Au A μ h) μ w loc o') :
  HRel A μ (B3 id o' h) F w /\ ∀ b, Au A μ (B3 id o' h) b -> Au A μ h b := by
 have hlook : ∀ j y, AL j (B3 id o' h) = some y -> (j = id /\ y = o') \/ (j ≠ id /\ AL j h = some y) := by
  intro j y hy
  by_cases e : j = id
  .subst e; rw [Ku hx] at hy; cases hy; exact .inl ⟨rfl, rfl⟩
  rw [E5 e] at hy; exact .inr ⟨e, hy⟩
 have hmine : ∀ b, CN μ (B3 id o' h) b -> CN μ h b := by
  rintro b ⟨j, y, lc, h1, h2, h3, h4⟩
  rcases hlook j y h1 with ⟨rfl, rfl⟩ | ⟨_, h1⟩
  .exact ⟨j, o, lc, hx, h2, h3, h4⟩
  exact ⟨j, y, lc, h1, h2, h3, h4⟩
 have hown : ∀ b, Au A μ (B3 id o' h) b -> Au A μ h b := fun b hb => hb.imp (fun h => h) (hmine b)
 have f : ∀ j y, AL j (B3 id o' h) = some y -> ∃ y, AL j h = some y := by
  intro j y hy
  rcases hlook j y hy with ⟨rfl, rfl⟩ | ⟨_, hy⟩
  .exact ⟨_, hx⟩
  exact ⟨_, hy⟩
 refine ⟨⟨?_, ?_, hh.fresh, ?_, hh.size, hh.block, hh.os, hh.tape, hh.output, hh.ext⟩, hown⟩
 .intro j y hy
  rcases hlook j y hy with ⟨rfl, rfl⟩ | ⟨e, hy⟩
  .obtain ⟨lc, h1, h2⟩ := hh.obj j o hx
   exact ⟨lc, h1, (hor lc h1 h2).mono (Bh.refl _ _) (fun b _ hb => hown b hb) (fun _ _ h => h) fun _ => rfl⟩
  obtain ⟨lc, h1, h2⟩ := hh.obj j y hy
  exact ⟨lc, h1, h2.mono (Bh.refl _ _) (fun b _ hb => hown b hb) (fun _ _ h => h) fun _ => rfl⟩
 .intro j j' y y' lc lc' h1 h2 m1 m2 n1 n2 he
  obtain ⟨z, hz⟩ := f j y h1
  obtain ⟨z', hz'⟩ := f j' y' h2
  exact hh.inj _ _ _ _ _ _ hz hz' m1 m2 n1 n2 he
 intro j y lc h1 m1 n1
 obtain ⟨z, hz⟩ := f j y h1
 exact hh.base _ _ _ hz m1 n1
end
section
variable {A : BX} {nt : Nat} {sl : List (Nat × LV)} {h h' : Ag} {c : Nat}
theorem Xx {id : Nat} {o o' : BK} (hx : AL id h = some o) (hor : ∀ O μ w loc, Dy O μ w loc o -> Dy O μ w loc o') : A9 A ⟨nt, sl, h, c⟩ ⟨nt, sl, B3 id o' h, c⟩ := fun a w ⟨⟨μ, hh, hr⟩, hnt, hdef⟩ => by
 obtain ⟨g1, g2⟩ := hh.swap hx (o' := o') fun loc _ => hor _ _ _ loc
 exact ⟨⟨μ, g1, fun t ht => (hr t ht).mono (Bh.refl _ _) (fun b _ hb => g2 b hb) fun _ _ h => h⟩, hnt, hdef⟩
theorem Ln {α : Type} {enc : α -> List DV} (id : Nat) {e sz : Nat} {l r : List α} {m : Int} (hr : MH l 0 m = some r) (hl : Bu id h = some (.row e sz (l.map enc)))
  (hu : MW id (.row e sz (r.map enc)) h some = some h') : A9 A ⟨nt, sl, h, c⟩ ⟨nt, sl, h', c⟩ := by
 rw [Bn] at hl
 rw [JD, Option.some.injEq] at hu
 subst hu
 refine Xx hl fun O μ w loc ⟨h1, h2, h3⟩ => ?_
 obtain ⟨-, hr⟩ := RA hr
 have hk : r = l.take (m - 0).toNat := by rw [<- hr]; rfl
 generalize (m - 0).toNat = k at hk
 subst hk
 refine ⟨h1, fun x hx => h2 x ?_, ?_⟩
 .obtain ⟨a, ha, rfl⟩ := List.mem_map.1 hx
  exact List.mem_map.2 ⟨a, List.mem_of_mem_take ha, rfl⟩
 rcases h3 with ⟨h3, h4⟩ | ⟨h3, cs, h4, h5, h6, h7, h8⟩
 .refine .inl ⟨h3, ?_⟩
  rw [List.map_take, h4]; simp
 refine .inr ⟨h3, cs, h4, h5, ?_, h7, fun i j x d v hx => h8 i j x d v ?_⟩
 .rw [List.length_map] at h6 ⊢
  rw [List.length_take]; omega
 rw [List.map_take, List.getElem?_take] at hx
 split at hx
 .exact hx
 cases hx
theorem Cg (id j e sz : Nat) {cells cells' : List LV} (hl : Bu id h = some (.box cells)) (hj : cells[j]? = some (.p .nils)) (hc : cells.set j (.lsl c sz 0 0) = cells')
  (hu : MW id (.box cells') h some = some h') : A9 A ⟨nt, sl, h, c⟩ ⟨nt, sl, (c, .row e sz []) :: h', c + 1⟩ := fun a w ⟨⟨μ, hh, hr⟩, hnt, hdef⟩ => by
 rw [Bn] at hl
 rw [JD, Option.some.injEq] at hu
 subst hu hc
 have hno := hh.fresh c (Nat.le_refl _)
 let loc : Bt := ⟨true, 0, 0, sz, 0⟩
 have hsub : ∀ id x, AL id ((c, BK.row e sz []) :: h) = some x -> (id = c /\ x = .row e sz []) \/ AL id h = some x := by
  intro id x hx
  simp only [AL] at hx
  split at hx
  .cases hx; exact .inl ⟨‹_›, rfl⟩
  exact .inr hx
 have hadd := hh.add hno loc (.row e sz []) ((c, .row e sz []) :: h) (fun hn => by cases hn) (fun hn => by cases hn) hsub (Bh.refl _ _) (fun _ _ _ _ _ _ _ => rfl) rfl rfl rfl ⟨rfl, by simp, .inl ⟨rfl, rfl⟩⟩
 have hown := hh.sub_add loc (.row e sz []) ((c, .row e sz []) :: h) (fun hn => by cases hn) hsub
 have hadd' := hadd.less (F' := Fr (c + 1)) fun id hid => by simp only [Fr] at hid ⊢; omega
 have hne : id ≠ c := hh.live_ne hno hl
 have hl' : AL id ((c, BK.row e sz []) :: h) = some (.box cells) := by simp only [AL, if_neg hne]; exact hl
 obtain ⟨g1, g2⟩ := hadd'.swap hl' (o' := .box (cells.set j (.lsl c sz 0 0))) fun lc _ ⟨k1, cs, t, k2, k3, k4⟩ => by
  refine ⟨k1, cs, t, k2, by rw [List.length_set]; exact k3, fun i v l hv hl => ?_⟩
  rw [List.getElem?_set] at hl
  split at hl
  .split at hl
   .cases hl
    subst_vars
    have := k4 _ v _ hv hj
    rw [this.nils_inv]
    exact .lsln c loc (by simp [Bf]) rfl
   cases hl
  exact k4 i v l hv hl
 have hup : B3 id (.box (cells.set j (.lsl c sz 0 0))) ((c, BK.row e sz []) :: h) = (c, .row e sz []) :: B3 id (.box (cells.set j (.lsl c sz 0 0))) h := by
  simp only [B3, if_neg hne]
 rw [hup] at g1 g2
 exact ⟨⟨_, g1, fun u hu => (hr u hu).mono (Bh.refl _ _) (fun b hb hb' => hown b hb (g2 b hb')) (K1 hno loc)⟩, hnt, hdef⟩
end
section
variable {P : Program} {A : BX} {AE : BG} {α : Type} {enc : α -> List DV} {l r : List α} {nt : Nat} {sl : List (Nat × LV)} {h : Ag} {c d : Nat} {f : St -> Prop} {hf : JQ f} {x : Operand} {t sz : Nat}
theorem Tc {hi : Option Operand} {m : Int} {id k : Nat} (hr : MH l 0 m = some r) (ht : NZ AE t sz = true) (hk : k = l.length) (hx : BM nt sl x = .lsl id sz 0 k)
  (hhi : Oi nt sl l.length hi = some m)
  (kk : f ⟨nt, (d, .lsl id sz 0 r.length) :: sl, h, c⟩) : BQ P A AE ⟨nt, sl, h, c⟩ (some d) (.slice t x none hi none) ⟨f, hf⟩ := by
 refine Wl (lo := none) hr ht hk hx rfl hhi ?_
 have e : (m - 0).toNat = r.length := by
  obtain ⟨h1, h2⟩ := RA hr
  rw [<- h2]
  simp at h1 ⊢; omega
 rw [e]
 exact kk
end
section
variable (id : Nat) (src d : LV)
mutual
inductive PJ : LV -> LV -> Prop
 | same (v : LV) : PJ v v
 | hit : PJ src d
 | nil (z : Nat) : PJ (.p .nils) (.p (.slice z []))
 | agg {a b : List LV} : Ph a b -> PJ (.agg a) (.agg b)
inductive Ph : List LV -> List LV -> Prop
 | nil : Ph [] []
 | cons {x y : LV} {a b : List LV} : PJ x y -> Ph a b -> Ph (x :: a) (y :: b)
end
inductive PK (sl : List (Nat × LV)) : List (Nat × LV) -> Prop
 | nil : PK sl []
 | cons (t : Nat) {v : LV} {r : List (Nat × LV)} : PJ src d (Bo sl t) v -> PK sl r -> PK sl ((t, v) :: r)
inductive XE : BK -> BK -> Prop
 | same (o : BK) : XE o o
 | box {a b : List LV} : Ph src d a b -> XE (.box a) (.box b)
inductive PL (h : Ag) : Ag -> Prop
 | nil : PL h []
 | cons (i : Nat) {o o' : BK} {r : Ag} (hne : Nat.beq i id = false) (hl : Bu i h = some o) : XE src d o o' -> PL h r -> PL h ((i, o') :: r)
end
section
variable {A : BX} {nt : Nat} {sl sl' : List (Nat × LV)} {h h' : Ag} {c : Nat} {id : Nat} {src d : LV}
mutual
theorem QO {O O' : Nat -> Prop} {μ μ' : Nat -> Option Bt} {w : World} (hμ : ∀ id l, μ id = some l -> μ' id = some l) (hO : ∀ b, b < w.heap.size -> O' b -> O b) (hd : ∀ v, Ar O μ w v src -> Ar O' μ' w v d) : ∀ {x y : LV}, PJ src d x y -> ∀ v, Ar O μ w v x -> Ar O' μ' w v y
 | _, _, .same _, v, h => h.mono (Bh.refl _ _) hO hμ
 | _, _, .hit, v, h => hd v h
 | _, _, .nil z, v, h => by
  rw [h.nils_inv]
  exact .p _ _ (.snil z)
 | _, _, .agg (a := ls) (b := b) q, v, h => by
  cases h with
  | agg vs _ hsz hr =>
   obtain ⟨g1, g2⟩ := MP hμ hO hd q
   exact .agg vs _ (by omega) fun i v l hv hl => by
    have hi := (List.getElem?_eq_some_iff.1 hl).1
    obtain ⟨x, hx⟩ : ∃ x, ls[i]? = some x := ⟨ls[i]'(by omega), List.getElem?_eq_getElem _⟩
    exact g2 i x l hx hl v (hr i v x hv hx)
theorem MP {O O' : Nat -> Prop} {μ μ' : Nat -> Option Bt} {w : World} (hμ : ∀ id l, μ id = some l -> μ' id = some l) (hO : ∀ b, b < w.heap.size -> O' b -> O b) (hd : ∀ v, Ar O μ w v src -> Ar O' μ' w v d) : ∀ {a b : List LV}, Ph src d a b -> a.length = b.length /\ ∀ (i : Nat) (x y : LV), a[i]? = some x -> b[i]? = some y -> ∀ v, Ar O μ w v x -> Ar O' μ' w v y
 | _, _, .nil => ⟨rfl, fun i x y h => by simp at h⟩
 | _, _, .cons q r => by
  obtain ⟨g1, g2⟩ := MP hμ hO hd r
  refine ⟨by simp [g1], fun i x y hx hy => ?_⟩
  cases i with
  | zero => simp at hx hy; subst hx hy; exact QO hμ hO hd q
  | succ i => exact g2 i x y (by simpa using hx) (by simpa using hy)
end
theorem PM : ∀ {sl' : List (Nat × LV)}, PK src d sl sl' -> ∀ t l, AL t sl' = some l -> PJ src d (Bo sl t) l
 | _, .nil, t, l, h => by simp [AL] at h
 | _, .cons u q r, t, l, h => by
  simp only [AL] at h
  split at h
  .cases h; subst_vars; exact q
  exact PM r t l h
theorem PN : ∀ {h' : Ag}, PL id src d h h' -> ∀ i o', AL i h' = some o' -> i ≠ id /\ ∃ o, AL i h = some o /\ XE src d o o'
 | _, .nil, i, o, h => by simp [AL] at h
 | _, .cons u hne hl q r, i, o, h => by
  simp only [AL] at h
  split at h
  .cases h; subst_vars
   rw [Bn] at hl
   exact ⟨fun e => by subst e; simp at hne, _, hl, q⟩
  exact PN r i o h
theorem S9 (id : Nat) {d0 : DV} (hd : ∀ μ w (O' : Nat -> Prop), HRel A μ h (Fr c) w -> (∀ b, O' b -> Au A μ (Cp [id] h) b) -> ∀ v, Ar (Au A μ h) μ w v src -> A5 O' w v d0) (hs : PK src (.p d0) sl sl') (hh : PL id src (.p d0) h h') : A9 A ⟨nt, sl, h, c⟩ ⟨nt, sl', h', c⟩ := fun a w ⟨⟨μ, hR, hr⟩, hnt, hdef⟩ => by
 have hlk := fun i o' => PN hh i o'
 have hmine : ∀ b, CN μ h' b -> CN μ (Cp [id] h) b := by
  rintro b ⟨j, y, lc, h1, h2, h3, h4⟩
  obtain ⟨g1, o, g2, -⟩ := hlk j y h1
  refine ⟨j, o, lc, ?_, h2, h3, h4⟩
  show AL j (JO id h) = some o
  rw [GH g1]; exact g2
 have hown1 : ∀ b, Au A μ h' b -> Au A μ (Cp [id] h) b := fun b hb => hb.imp (fun h => h) (hmine b)
 have hown : ∀ b, Au A μ h' b -> Au A μ h b := fun b hb => I5 b (hown1 b hb)
 have hp : ∀ v, Ar (Au A μ h) μ w v src -> Ar (Au A μ h') μ w v (.p d0) := fun v hv => .p _ _ (hd μ w _ hR hown1 v hv)
 refine ⟨⟨μ, ⟨?_, ?_, hR.fresh, ?_, hR.size, hR.block, hR.os, hR.tape, hR.output, hR.ext⟩, fun t ht => ?_⟩, hnt, hdef⟩
 .intro j o' hj
  obtain ⟨g1, o, g2, q⟩ := hlk j o' hj
  obtain ⟨lc, h1, h2⟩ := hR.obj j o g2
  refine ⟨lc, h1, ?_⟩
  cases q with
  | same _ => exact h2.mono (Bh.refl _ _) (fun b _ hb => hown b hb) (fun _ _ h => h) fun _ => rfl
  | box q =>
   obtain ⟨k1, cs, ty, k2, k3, k4⟩ := h2
   obtain ⟨q1, q2⟩ := MP (O' := Au A μ h') (w := w) (fun _ _ h => h) (fun b _ hb => hown b hb) hp q
   refine ⟨k1, cs, ty, k2, by omega, fun i v l hv hl => ?_⟩
   have hi := (List.getElem?_eq_some_iff.1 hl).1
   rename_i a b
   have hx : a[i]? = some (a[i]'(by omega)) := List.getElem?_eq_getElem _
   exact q2 i _ l hx hl v (k4 i v _ hv hx)
 .intro j j' y y' lc lc' h1 h2 m1 m2 n1 n2 he
  obtain ⟨-, z, hz, -⟩ := hlk j y h1
  obtain ⟨-, z', hz', -⟩ := hlk j' y' h2
  exact hR.inj _ _ _ _ _ _ hz hz' m1 m2 n1 n2 he
 .intro j y lc h1 m1 n1
  obtain ⟨-, z, hz, -⟩ := hlk j y h1
  exact hR.base _ _ _ hz m1 n1
 show Ar _ _ _ _ (match AL t sl' with | some v => v | none => .any)
 cases hl : AL t sl' with
 | none => exact .any _
 | some l => exact QO (fun _ _ h => h) (fun b _ hb => hown b hb) hp (PM hs t l hl) _ (hr t ht)
theorem Gz (id : Nat) {d0 : DV} (hd : Gl h src = some d0 /\ Jz src = [id]) (hs : PK src (.p d0) sl sl') (hh : PL id src (.p d0) h h') : A9 A ⟨nt, sl, h, c⟩ ⟨nt, sl', h', c⟩ :=
 S9 id (fun μ w O' hR hown v hv => (L5 hR (l := [id]) hv hd.1 (by rw [hd.2]; simp)).mono (Bh.refl _ _) fun b _ hb => hown b hb) hs hh
theorem Yv {O : Nat -> Prop} {μ : Nat -> Option Bt} {w : World} {v : Value} {id sz off n : Nat} (h : Ar O μ w v (.lsl id sz off n)) : ∃ loc, μ id = some loc := by
 cases h with
 | lsln _ loc hm hn => exact ⟨loc, hm⟩
 | lsl _ _ _ cap a loc hm => exact ⟨loc, hm⟩
theorem Fs (hs : PK (.lsl c 0 0 0) (.p .nils) sl sl') (hh : PL c (.lsl c 0 0 0) (.p .nils) h h') : A9 A ⟨nt, sl, h, c⟩ ⟨nt, sl', h', c⟩ :=
 S9 c (fun μ w O' hR hown v hv => by
  have hno := hR.fresh c (Nat.le_refl _)
  obtain ⟨loc, hm⟩ := Yv hv
  rw [hno] at hm; cases hm) hs hh
theorem Jc {α : Type} {enc : α -> List DV} {l : List α} {e : Nat} {sz : Nat} (hl : Bu id h = some (.row e sz (l.map enc))) : Gl h (.lsl id sz 0 l.length) = some (.slice sz (l.map enc)) /\ Jz (.lsl id sz 0 l.length) = [id] := by
 refine ⟨?_, rfl⟩
 rw [Bn] at hl
 simp only [Gl, hl, Nat.zero_add, List.length_map, Nat.le_refl, and_self, if_true, List.drop_zero]
 rw [List.take_of_length_le (by simp)]
theorem UH {α : Type} {enc : α -> List DV} {l y : List α} {e sz off n : Nat} (id : Nat) (hl : Bu id h = some (.row e sz (l.map enc))) (hy : off + n <= l.length /\ (l.drop off).take n = y)
  (hs : PK (.lsl id sz off n) (.lsl c sz 0 y.length) sl sl') (hh : PL id (.lsl id sz off n) (.lsl c sz 0 y.length) h h') : A9 A ⟨nt, sl, h, c⟩ ⟨nt, sl', (c, .row e sz (y.map enc)) :: h', c + 1⟩ := fun a w ⟨⟨μ, hR, hr⟩, hnt, hdef⟩ => by
 rw [Bn] at hl
 obtain ⟨hfit, hy⟩ := hy
 have hlen : y.length = n := by rw [<- hy]; simp; omega
 have hno := hR.fresh c (Nat.le_refl _)
 have hlk := fun i o' => PN hh i o'
 obtain ⟨loc, hm, hz, hel, hrow⟩ := hR.obj id _ hl
 have hidc : id ≠ c := fun e2 => by rw [e2, hno] at hm; cases hm
 let loc' : Bt := ⟨loc.nil, loc.b, loc.o + off * loc.sz, loc.sz, loc.cap - off⟩
 have hμ := K1 hno loc'
 have hmine : ∀ b, CN (Bf μ c loc') ((c, BK.row e sz (y.map enc)) :: h') b -> CN μ h b := by
  rintro b ⟨j, o, lc, h1, h2, h3, h4⟩
  simp only [AL] at h1
  split at h1
  .rename_i e2
   subst e2
   simp [Bf] at h2
   subst h2
   exact ⟨id, _, loc, hl, hm, h3, h4⟩
  rename_i e2
  obtain ⟨g1, o2, g2, -⟩ := hlk j o h1
  simp [Bf, e2] at h2
  exact ⟨j, o2, lc, g2, h2, h3, h4⟩
 have hown : ∀ b, b < w.heap.size -> Au A (Bf μ c loc') ((c, BK.row e sz (y.map enc)) :: h') b -> Au A μ h b := fun b _ hb => hb.imp (fun h => h) (hmine b)
 have hp : ∀ v, Ar (Au A μ h) μ w v (.lsl id sz off n) -> Ar (Au A (Bf μ c loc') ((c, BK.row e sz (y.map enc)) :: h')) (Bf μ c loc') w v (.lsl c sz 0 y.length) := by
  intro v hv
  rw [hlen]
  cases hv with
  | lsln _ lc hm2 hn =>
   rw [hm] at hm2; cases hm2
   exact .lsln c loc' (by simp [Bf]) hn
  | lsl _ _ _ cap ad lc hm2 hn hcap hl2 had hb hsp =>
   rw [hm] at hm2; cases hm2
   exact .lsl c 0 n cap ad loc' (by simp [Bf]) hn (by simp only [loc']; omega) hl2 (fun hc => by rw [had hc]; simp [loc']) hb hsp
 refine ⟨⟨Bf μ c loc', ⟨?_, ?_, ?_, ?_, hR.size, hR.block, hR.os, hR.tape, hR.output, fun j lc hj => hμ _ _ (hR.ext j lc hj)⟩, fun t ht => ?_⟩, hnt, hdef⟩
 .intro j o' hj
  simp only [AL] at hj
  split at hj
  .rename_i e2
   subst e2
   cases hj
   refine ⟨loc', by simp [Bf], hz, fun x hx => ?_, ?_⟩
   .obtain ⟨z, hz2, rfl⟩ := List.mem_map.1 hx
    refine hel _ (List.mem_map.2 ⟨z, ?_, rfl⟩)
    rw [<- hy] at hz2
    exact List.mem_of_mem_drop (List.mem_of_mem_take hz2)
   rcases hrow with ⟨hn, he0⟩ | ⟨hn, cs, hblk, hcs, hle, hcm, hrel⟩
   .refine .inl ⟨hn, ?_⟩
    have : l = [] := by simpa using he0
    subst this
    simp at hfit
    have : y = [] := by rw [<- hy]; simp
    rw [this]; rfl
   refine .inr ⟨hn, cs, hblk, ?_, ?_, ?_, fun i k x d v hx hd hv => ?_⟩
   .simp only [loc']
    rw [List.length_map] at hle
    rw [hcs, Nat.add_assoc, hz, <- Nat.add_mul]
    congr 2; omega
   .simp only [loc', List.length_map] at hle ⊢; omega
   .simp only [loc']; omega
   rw [List.getElem?_map] at hx
   cases hyi : y[i]? with
   | none => rw [hyi] at hx; cases hx
   | some z =>
    rw [hyi] at hx
    cases hx
    have hi : i < n := by have := (List.getElem?_eq_some_iff.1 hyi).1; omega
    have hli : l[off + i]? = some z := by
     rw [<- hy, List.getElem?_take, if_pos hi, List.getElem?_drop] at hyi
     exact hyi
    refine (hrel (off + i) k _ d v (by rw [List.getElem?_map, hli]; rfl) hd ?_).mono (Bh.refl _ _) hown
    rw [<- hv]
    simp only [loc', hz]
    congr 1
    rw [Nat.add_mul]; omega
  obtain ⟨g1, o, g2, q⟩ := hlk j o' hj
  obtain ⟨lc, h1, h2⟩ := hR.obj j o g2
  refine ⟨lc, hμ _ _ h1, ?_⟩
  cases q with
  | same _ => exact h2.mono (Bh.refl _ _) hown hμ fun _ => rfl
  | box q =>
   obtain ⟨k1, cs, ty, k2, k3, k4⟩ := h2
   obtain ⟨q1, q2⟩ := MP (w := w) hμ hown hp q
   refine ⟨k1, cs, ty, k2, by omega, fun i v l hv hl => ?_⟩
   have hi := (List.getElem?_eq_some_iff.1 hl).1
   rename_i a b
   have hx : a[i]? = some (a[i]'(by omega)) := List.getElem?_eq_getElem _
   exact q2 i _ l hx hl v (k4 i v _ hv hx)
 .intro j j' y1 y1' lc lc' h1 h2 m1 m2 n1 n2 he
  have back : ∀ j o lc, AL j ((c, BK.row e sz (y.map enc)) :: h') = some o -> Bf μ c loc' j = some lc -> (j = c /\ lc = loc') \/ (j ≠ c /\ j ≠ id /\ (∃ o2, AL j h = some o2) /\ μ j = some lc) := by
   intro j o lc h1 m1
   simp only [AL] at h1
   split at h1
   .rename_i e2; subst e2; simp [Bf] at m1; exact .inl ⟨rfl, m1.symm⟩
   rename_i e2
   obtain ⟨g1, o2, g2, -⟩ := hlk j o h1
   simp [Bf, e2] at m1
   exact .inr ⟨e2, g1, ⟨o2, g2⟩, m1⟩
  rcases back j y1 lc h1 m1 with ⟨rfl, rfl⟩ | ⟨a1, a2, ⟨o1, a3⟩, a4⟩ <;> rcases back j' y1' lc' h2 m2 with ⟨rfl, rfl⟩ | ⟨b1, b2, ⟨o2, b3⟩, b4⟩
  .rfl
  .exact absurd (hR.inj _ _ _ _ _ _ hl b3 hm b4 n1 n2 he).symm b2
  .exact absurd (hR.inj _ _ _ _ _ _ a3 hl a4 hm n1 n2 he) a2
  exact hR.inj _ _ _ _ _ _ a3 b3 a4 b4 n1 n2 he
 .intro j hj
  simp only [Fr] at hj
  simp only [Bf]
  rw [if_neg (by omega)]
  exact hR.fresh j (by simp only [Fr]; omega)
 .intro j o lc h1 m1 n1
  simp only [AL] at h1
  split at h1
  .rename_i e2
   subst e2
   simp [Bf] at m1
   subst m1
   exact hR.base id _ loc hl hm n1
  rename_i e2
  obtain ⟨g1, o2, g2, -⟩ := hlk j o h1
  simp [Bf, e2] at m1
  exact hR.base j o2 lc g2 m1 n1
 show Ar _ _ _ _ (match AL t sl' with | some v => v | none => .any)
 cases hl2 : AL t sl' with
 | none => exact .any _
 | some l => exact QO hμ hown hp (PM hs t l hl2) _ (hr t ht)
end
section
variable {P : Program} {A : BX} {AE : BG}
theorem Ef.ownF {h : Ag} {ctr k : Nat} {args : List LV} {ds : List DV} {e sz : Nat} {elems : List (List DV)} {K : LV -> Ag -> Nat -> Prop} (hds : Bz h args = some ds) (hf : Gn P k ds e sz elems)
  (hfl : ∀ x ∈ elems, ∀ d ∈ x, d.flat = true) (hK : K (.lsl ctr sz 0 elems.length) ((ctr, .row e sz elems) :: h) (ctr + 1)) : Ef P A h ctr k args K := by
 refine ⟨hf.enters, fun μ w vs hh hsz hr => ?_⟩
 obtain ⟨g1, g2⟩ := F4 hh (l := args.flatMap (Eg h)) hds (fun id hid => hid)
 generalize args.flatMap (Eg h) = dl at g2
 have hO : ∀ b, Au A μ (Cp dl h) b -> b < w.heap.size := by
  intro b hb
  rcases I5 b hb with hb | ⟨id, x, lc, h1, h2, h3, rfl⟩
  .exact Nat.lt_of_lt_of_le (A.hO b hb).1 hh.size
  exact (hh.base id x lc h1 h2 h3).1
 refine (hf.run (Au A μ (Cp dl h)) w vs hO (by omega) fun i v d hv hd => ?_).mono fun en w' ⟨v, he, hn, hb⟩ => ?_
 .have hi := (List.getElem?_eq_some_iff.1 hd).1
  have hx : args[i]? = some (args[i]'(by omega)) := List.getElem?_eq_getElem _
  exact g2 i v _ d hx hd (hr i v _ hv hx)
 have hno : μ ctr = none := hh.fresh ctr (Nat.le_refl _)
 obtain ⟨hlen, hn⟩ := hn
 have hkm : Bh (CN μ h) w w' := ⟨hb.size, fun b hb' _ => hb.block b hb'⟩
 have hsub : ∀ id x, AL id ((ctr, BK.row e sz elems) :: h) = some x -> (id = ctr /\ x = .row e sz elems) \/ AL id h = some x := by
  intro id x hx
  simp only [AL] at hx
  split at hx
  .cases hx; exact .inl ⟨‹_›, rfl⟩
  exact .inr hx
 have hold : ∀ id x lc, AL id ((ctr, BK.row e sz elems) :: h) = some x -> id ≠ ctr -> μ id = some lc -> lc.nil = false -> w'.heap[lc.b]? = w.heap[lc.b]? := by
  intro id x lc hx hne hm hnl
  rcases hsub id x hx with ⟨rfl, _⟩ | hx
  .exact absurd rfl hne
  exact hb.block _ (hh.base id x lc hx hm hnl).1
 have fin : ∀ (loc : Bt), (loc.nil = false -> loc.b < w'.heap.size /\ w.heap.size <= loc.b) ->
   (∀ O' : Nat -> Prop, Dy O' (Bf μ ctr loc) w' loc (.row e sz elems)) ->
   (∀ O', Ar O' (Bf μ ctr loc) w' v (.lsl ctr sz 0 elems.length)) ->
   ∃ u l h' c' μ', en = .returned u /\ K l h' c' /\ HRel A μ' h' (Fr c') w' /\ Ar (Au A μ' h') μ' w' u l /\ ∀ v x, Ar (Au A μ h) μ w v x -> Ar (Au A μ' h') μ' w' v x := by
  intro loc hloc ho hu
  have hfr : PP μ h ((ctr, BK.row e sz elems) :: h) w loc := fun hn => .inl (hloc hn).2
  have hown := hh.sub_add loc (.row e sz elems) ((ctr, .row e sz elems) :: h) hfr hsub
  have hadd := hh.add (w' := w') hno loc (.row e sz elems) ((ctr, .row e sz elems) :: h) (fun hn => (hloc hn).1) hfr hsub hkm hold hb.os hb.tape hb.output (ho _)
  exact ⟨v, _, _, _, _, he, hK, hadd.less (fun id hid => by simp only [Fr] at hid ⊢; omega), hu _, fun v x hv => hv.mono hkm.own hown (K1 hno loc)⟩
 rcases hn with ⟨rfl, rfl⟩ | ⟨a, b, o, cap, c, rfl, h1, h2, h3, h4, h5, h6, h7, h8, h9, h10⟩
 .exact fin ⟨true, 0, 0, sz, 0⟩ (fun hn => by cases hn) (fun O' => ⟨rfl, hlen, .inl ⟨rfl, rfl⟩⟩) (fun O' => .lsln ctr ⟨true, 0, 0, sz, 0⟩ (by simp [Bf]) rfl)
 refine fin ⟨false, b, o, sz, cap⟩ (fun _ => ⟨h2, h1⟩) (fun O' => ⟨rfl, hlen, .inr ⟨rfl, c, h6, h7, h8, h9, fun i j x d u hx hd hu => ?_⟩⟩) (fun O' => ?_)
 .exact (h10 i j x d u hx hd hu).flat (hfl x (List.mem_of_getElem? hx) d (List.mem_of_getElem? hd)) _ _
 exact .lsl ctr 0 elems.length cap a ⟨false, b, o, sz, cap⟩ (by simp [Bf]) rfl (by simp) h8 (fun hc => by rw [h3 hc]; simp) h4 h5
end
section
variable {P : Program} {A : BX} {AE : BG} {α : Type} {enc : α -> List DV} {nt : Nat} {sl : List (Nat × LV)} {h : Ag} {c d : Nat} {f : St -> Prop} {hf : JQ f}
theorem QH {fo : Operand} {args : Array Operand} {ts : Array TypeId} {k e sz : Nat} {caps ls : List LV} {ds : List DV} {r : List α} (hF : Gn P k ds e sz (r.map enc)) (hfl : ∀ x : α, (enc x).all (·.flat) = true)
  (hfn : BM nt sl fo = .fn k caps) (hl : FF nt sl args.toList some = some ls) (hds : Bz h (ls ++ caps) = some ds)
  (kk : f ⟨nt, (d, .lsl c sz 0 r.length) :: sl, (c, .row e sz (r.map enc)) :: h, c + 1⟩) : BQ P A AE ⟨nt, sl, h, c⟩ (some d) (.call ⟨.value fo, args, ts⟩) ⟨f, hf⟩ := by
 rw [BV (h := h) (c := c)] at hfn
 show N4 _ _
 rw [hfn]
 show KH P A h c k (args.toList.map _ ++ caps) _
 rw [IM hl]
 refine Ef.ownF hds hF (fun x hx d hd => ?_) ?_
 .obtain ⟨a, _, rfl⟩ := List.mem_map.1 hx
  exact List.all_eq_true.1 (hfl a) d hd
 rw [List.length_map]
 exact kk
end
theorem YW {A : BX} {nt : Nat} {sl : List (Nat × LV)} {h : Ag} {c : Nat} (t : Nat) {k : Nat} {ds : List DV} (ht : Bo sl t = .p (.fn k ds)) : A9 A ⟨nt, sl, h, c⟩ ⟨nt, (t, .fn k (ds.map .p)) :: sl, h, c⟩ := fun a w ⟨⟨μ, hh, hr⟩, hnt, hdef⟩ => by
 refine ⟨⟨μ, hh, fun u hu => ?_⟩, hnt, hdef⟩
 show Ar _ _ _ _ (match AL u ((t, LV.fn k (ds.map .p)) :: sl) with | some v => v | none => .any)
 simp only [AL]
 by_cases hut : u = t
 .subst hut
  rw [if_pos rfl]
  have := hr u hu
  simp only at this
  rw [ht] at this
  have hp := this.p_inv
  generalize a.tmps.getD u undef = v at hp
  cases hp with
  | fn _ caps _ hsz q =>
   refine .fn k caps _ (by simpa using hsz) fun i v l hv hl => ?_
   simp only [List.getElem?_map, Option.map_eq_some_iff] at hl
   obtain ⟨d, hd, rfl⟩ := hl
   exact .p _ _ (q i v d hv hd)
 rw [if_neg hut]
 exact hr u hu
noncomputable def Ox {α β : Type} (F : (α -> Option β) -> α -> Option β) (n : Nat) : α -> Option β := Nat.rec (fun _ => none) (fun _ ih => F ih) n
theorem recF_holds {α β : Type} {F : (α -> Option β) -> α -> Option β} {C : α -> β -> Prop} (h : ∀ rec : α -> Option β, (∀ a r, rec a = some r -> C a r) -> ∀ a r, F rec a = some r -> C a r) : ∀ n a r, Ox F n a = some r -> C a r
 | 0, a, r, e => by cases e
 | n + 1, a, r, e => h (Ox F n) (recF_holds h n) a r e
end Go.E
/- Drawn regions of which the orders do not all come to one by waiting: a tree of orders. No condition. -/
namespace Go.E
open Go Go.RowKit
inductive I4 where
 | done
 | nil
 | picks (l : List Nat) (t : I4)
 | alt (i : Nat) (l : List Nat) (t r : I4)
def L2 (listed : Array Bool) : List Nat -> Array Bool
 | [] => listed
 | i :: l => L2 (listed.setIfInBounds i true) l
def JN (q w : Bool) (md : Region.Mode) (ops : Array Oper) : List Nat -> Array Bool -> Bool
 | [], _ => true
 | i :: rest, listed => (match ops[i]? with
  | none => false
  | some oi => (Region.ready md ops listed == [i]) || ((Region.ready md ops listed).contains i && PR q w md ops listed i oi (NL md ops listed i))) &&
  JN q w md ops rest (listed.setIfInBounds i true)
def I4.heads : I4 -> List Nat
 | .alt i _ _ r => i :: r.heads
 | _ => []
def K0 (q w : Bool) (md : Region.Mode) (ops : Array Oper) : I4 -> Bool -> Array Bool -> Nat -> Bool
 | .done, b, listed, n => !b && (Region.ready md ops listed).isEmpty && n == 0
 | .nil, b, _, _ => b
 | .picks l t, b, listed, n => !b && JN q w md ops l listed && decide (l.length <= n) && K0 q w md ops t false (L2 listed l) (n - l.length)
 | .alt i l t r, b, listed, n => (b || decide (0 < n) && !(Region.ready md ops listed).isEmpty && (Region.ready md ops listed).all fun j => (i :: r.heads).contains j) &&
   (decide (i < ops.size) && JN q w md ops l (listed.setIfInBounds i true) && decide (l.length <= (bif b then n else n - 1)) &&
    K0 q w md ops t false (L2 (listed.setIfInBounds i true) l) ((bif b then n else n - 1) - l.length) && K0 q w md ops r true listed (bif b then n else n - 1))
section
variable (P : Program) (A : BX) (AE : BG) (base n : Nat) (K : St -> Prop) (ops : List Oper)
def ND : I4 -> St -> Prop
 | .done, st => K st
 | .nil, _ => True
 | .picks l t, st => Ds P A AE base n ⟨ND t, ⟨⟩⟩ (Gt ops l) st
 | .alt i l t r, st => Ds P A AE base n ⟨ND t, ⟨⟩⟩ (Gt ops (i :: l)) st /\ ND r st
end
section
variable {P : Program} {A : BX} {AE : BG} {md : Region.Mode} {base : Nat} {K : St -> Prop}
theorem Td {ops : List Oper} {n : Nat} {l : List Nat} {t : I4} {st : St} (k : Ds P A AE base n ⟨ND P A AE base n K ops t, ⟨⟩⟩ (Gt ops l) st) : ND P A AE base n K ops (.picks l t) st := k
theorem Eh {ops : List Oper} {n : Nat} {i : Nat} {l : List Nat} {t r : I4} {st : St} (k : Ds P A AE base n ⟨ND P A AE base n K ops t, ⟨⟩⟩ (Gt ops (i :: l)) st) (k' : ND P A AE base n K ops r st) : ND P A AE base n K ops (.alt i l t r) st := ⟨k, k'⟩
theorem Hl {ops : List Oper} {n c c' nt : Nat} {sl : List (Nat × LV)} {h : Ag} {S : St} (k : A9 A ⟨nt, sl, h, c + n⟩ S) : ND P A AE c n (fun st => A9 A { st with ctr := c + n } S) ops .done ⟨nt, sl, h, c'⟩ := k
theorem KK {ops : List Oper} {n : Nat} {st : St} : ND P A AE base n K ops .nil st := trivial
theorem QP {q w : Bool} {ops : Array Oper} : ∀ {l : List Nat} {listed : Array Bool}, JN q w md ops l listed = true -> ∀ i ∈ l, i < ops.size
 | [], _, _, i, hi => by simp at hi
 | j :: l, listed, h, i, hi => by
  simp only [JN, Bool.and_eq_true] at h
  rcases List.mem_cons.1 hi with rfl | hi
  .cases ho : ops[i]? with
   | none => rw [ho] at h; simp at h
   | some o => exact (Array.getElem?_eq_some_iff.1 ho).1
  exact QP h.2 i hi
theorem N3 (q : Bool) (hq : q = true -> ∃ b, AE.calm = some b) {ops : Array Oper} {T Q : St -> Prop} (fuel : Nat) : ∀ (l : List Nat) (listed : Array Bool) (st : St), JN q AE.own md ops l listed = true -> (∀ k, listed.getD k true = false -> AL (base + k) st.heap = none) ->
  (∀ st', (∀ k, (L2 listed l).getD k true = false -> AL (base + k) st'.heap = none) -> T st' -> I6 P AE md ops base Q fuel (L2 listed l) st') ->
  Hk P AE ops base T l st -> I6 P AE md ops base Q (l.length + fuel) listed st
 | [], listed, st, _, hfresh, hT, h => by
  rw [List.length_nil, Nat.zero_add]
  exact hT st hfresh h
 | i :: rest, listed, st, hok, hfresh, hT, h => by
  obtain ⟨o, l, e, ho, hd, hrest⟩ := NM h
  simp only [JN, ho, Bool.and_eq_true, Bool.or_eq_true] at hok
  have hrec : I6 P AE md ops base Q (rest.length + fuel) (listed.setIfInBounds i true) (apS st (base + i) o l e) := by
   refine N3 q hq fuel rest _ _ hok.2 (fun k hk => ?_) hT hrest
   have hik : i ≠ k := by
    rintro rfl
    rcases Nat.lt_or_ge i listed.size with h' | h'
    .simp [h'] at hk
    simp [Array.getElem?_eq_none h'] at hk
   rw [Bx]
   exact L6 hd (by simp only [St.at]; omega) (hfresh k (by rw [getD_set_ne true hik] at hk; exact hk))
  rw [show (i :: rest).length + fuel = rest.length + fuel + 1 by simp; omega]
  rcases hok.1 with h1 | h1
  .have hr : Region.ready md ops listed = [i] := by simpa using h1
   refine ⟨fun h0 => (by rw [hr] at h0; cases h0), fun j hj => ?_⟩
   rw [hr] at hj
   simp at hj
   subst hj
   exact ⟨o, l, e, ho, hd, hrec⟩
  obtain ⟨h1, h2⟩ := h1
  simp only [PR, Bool.and_eq_true, List.all_eq_true, List.mem_range] at h2
  obtain ⟨h2, h3⟩ := h2
  generalize hBe : NL md ops listed i = B at h2 h3
  refine Qb q hq ho (fun j => B.contains j) (fun j hj => ?_) (rest.length + fuel) listed st (fun j hj => ?_) (fun j oj hoj hji hun hBj => ?_) hfresh (by simpa using h1) hd hrec
  .have := h2 j (by simpa using hj)
   obtain ⟨⟨a1, a2⟩, a3⟩ := this
   refine ⟨by simpa using a1, fun oj hoj => ?_⟩
   rw [hoj] at a3
   obtain ⟨x, hx, hx2⟩ := Array.any_eq_true'.1 a3
   simp only [Bool.and_eq_true, Bool.or_eq_true, beq_iff_eq] at hx2
   exact ⟨x, hx, hx2.1, hx2.2⟩
  .have := (h2 j (by simpa using hj)).1.2
   simpa using this
  have := h3 j (Array.getElem?_eq_some_iff.1 hoj).1
  simp only [Bool.or_eq_true, beq_iff_eq, hji, false_or, hun, Bool.false_eq_true] at this
  rw [hBj] at this
  simp only [Bool.false_eq_true, false_or, hoj, Bool.and_eq_true] at this
  refine ⟨this.1, this.2.1, fun ho => ?_⟩
  have := this.2.2
  rw [ho] at this; simpa using this
theorem Kq (q : Bool) (hq : q = true -> ∃ b, AE.calm = some b) {ops : List Oper} : ∀ (T : I4) (listed : Array Bool) (st : St) (n : Nat), (∀ k, listed.getD k true = false -> AL (base + k) st.heap = none) -> ND P A AE base ops.length K ops T st ->
  (K0 q AE.own md ops.toArray T false listed n = true -> I6 P AE md ops.toArray base K n listed st) /\
  (K0 q AE.own md ops.toArray T true listed n = true -> ∀ i ∈ T.heads, ∃ o l e, ops.toArray[i]? = some o /\ DY P AE ops.toArray (st.at (base + i)) o l e /\ I6 P AE md ops.toArray base K n (listed.setIfInBounds i true) (apS st (base + i) o l e))
 | .done, listed, st, n, hfresh, h => by
  refine ⟨fun hok => ?_, fun hok => by simp [K0] at hok⟩
  simp only [K0, Bool.not_false, Bool.true_and, Bool.and_eq_true, beq_iff_eq, List.isEmpty_iff] at hok
  obtain ⟨h1, rfl⟩ := hok
  exact ⟨h1, st, HD.refl st, h⟩
 | .nil, listed, st, n, hfresh, h => ⟨fun hok => by simp [K0] at hok, fun _ i hi => by simp [I4.heads] at hi⟩
 | .picks l t, listed, st, n, hfresh, h => by
  refine ⟨fun hok => ?_, fun hok => by simp [K0] at hok⟩
  simp only [K0, Bool.not_false, Bool.true_and, Bool.and_eq_true, decide_eq_true_eq] at hok
  obtain ⟨⟨h1, h2⟩, h3⟩ := hok
  have hb : (l.all fun i => decide (i < ops.length)) = true := List.all_eq_true.2 fun i hi => by simpa using QP h1 i hi
  have := N3 q hq (md := md) (Q := K) (n - l.length) l listed st h1 hfresh (fun st' hf' hT => ?_) (JC l st hb h)
  .rwa [show l.length + (n - l.length) = n by omega] at this
  refine NK _ _ { st' with ctr := base + ops.length } _ ⟨rfl, fun _ => rfl, fun _ => rfl⟩ ?_
  exact (Kq q hq t (L2 listed l) { st' with ctr := base + ops.length } (n - l.length) hf' hT).1 h3
 | .alt i l t r, listed, st, n, hfresh, ⟨h, h'⟩ => by
  have key : ∀ m, (decide (i < ops.toArray.size) && JN q AE.own md ops.toArray l (listed.setIfInBounds i true) && decide (l.length <= m) && K0 q AE.own md ops.toArray t false (L2 (listed.setIfInBounds i true) l) (m - l.length) && K0 q AE.own md ops.toArray r true listed m) = true ->
    ∀ j ∈ i :: r.heads, ∃ o l e, ops.toArray[j]? = some o /\ DY P AE ops.toArray (st.at (base + j)) o l e /\ I6 P AE md ops.toArray base K m (listed.setIfInBounds j true) (apS st (base + j) o l e) := by
   intro m hok j hj
   simp only [Bool.and_eq_true, decide_eq_true_eq] at hok
   obtain ⟨⟨⟨⟨h0, h1⟩, h2⟩, h3⟩, h4⟩ := hok
   rcases List.mem_cons.1 hj with rfl | hj
   .have hb : ((j :: l).all fun i => decide (i < ops.length)) = true := List.all_eq_true.2 fun i hi => by
     rcases List.mem_cons.1 hi with rfl | hi
     .simpa using h0
     simpa using QP h1 i hi
    obtain ⟨o, lv, e, ho, hd, hrest⟩ := NM (JC (j :: l) st hb h)
    refine ⟨o, lv, e, ho, hd, ?_⟩
    have := N3 q hq (md := md) (Q := K) (m - l.length) l (listed.setIfInBounds j true) (apS st (base + j) o lv e) h1 (fun k hk => ?_) (fun st' hf' hT => ?_) hrest
    .rwa [show l.length + (m - l.length) = m by omega] at this
    .have hik : j ≠ k := by
      rintro rfl
      rcases Nat.lt_or_ge j listed.size with h' | h'
      .simp [h'] at hk
      simp [Array.getElem?_eq_none h'] at hk
     rw [Bx]
     exact L6 hd (by simp only [St.at]; omega) (hfresh k (by rw [getD_set_ne true hik] at hk; exact hk))
    refine NK _ _ { st' with ctr := base + ops.length } _ ⟨rfl, fun _ => rfl, fun _ => rfl⟩ ?_
    exact (Kq q hq t _ { st' with ctr := base + ops.length } (m - l.length) hf' hT).1 h3
   exact (Kq q hq r listed st m hfresh h').2 h4 j hj
  refine ⟨fun hok => ?_, fun hok => ?_⟩
  .rw [K0, Bool.false_or] at hok
   obtain ⟨h1, h2⟩ := Bool.and_eq_true_iff.1 hok
   simp only [Bool.and_eq_true, decide_eq_true_eq, Bool.not_eq_true', List.all_eq_true] at h1
   obtain ⟨⟨h3, h4⟩, h5⟩ := h1
   obtain ⟨m, rfl⟩ : ∃ m, n = m + 1 := ⟨n - 1, by omega⟩
   refine ⟨fun h0 => by rw [h0] at h4; simp at h4, fun j hj => ?_⟩
   exact key m (by simpa using h2) j (by simpa using h5 j hj)
  simp only [K0, Bool.true_or, Bool.true_and, cond_true] at hok
  exact key n hok
theorem YX (hE : BN P AE) (hm : P.follows .mixedOrders = true) {id : Nat} {ops : List Oper} {Q : Exit -> St -> Prop} {nt : Nat} {sl : List (Nat × LV)} {h : Ag} {c : Nat} (T : I4) (n : Nat) (S : St)
  (hok : K0 false AE.own .any ops.toArray T false (Array.replicate ops.length false) ops.length = true) (hn : Nat.beq ops.length n = true)
  (k : ND P A AE c n (fun st => A9 A { st with ctr := c + n } S) ops T ⟨nt, sl, h, c⟩) (kk : Q .normal S) : CM P A (.region id ops.toArray true) Q ⟨nt, sl, h, c⟩ := fun a w hR => by
 have hn' := Nat.eq_of_beq_eq_true hn
 subst hn'
 refine wp_region_any hm ?_
 have hR' := (hR.drawn (w.drawn + 1)).toRF
 have hfr : ∀ k, AL (c + k) h = none := by
  intro k
  cases hx : AL (c + k) h with
  | none => rfl
  | some o =>
   obtain ⟨⟨μ, hh, _⟩, _, _⟩ := hR
   obtain ⟨loc, h1, _⟩ := hh.obj _ _ hx
   rw [hh.fresh _ (by simp [Fr])] at h1; cases h1
 have hD := (Kq false (fun h => by cases h) (md := .any) T (Array.replicate ops.length false) ⟨nt, sl, h, c⟩ ops.length (fun k _ => hfr k) k).1 hok
 rw [show ops.toArray.size = ops.length by simp]
 refine Ix (A := A) (n := ops.length) hE (by simp) (fun st' a' w' listed hk hR'' => ?_) ops.length _ ⟨nt, sl, h, c⟩ a _ (by simp) hD ?_
 .refine ⟨S, ?_, kk⟩
  obtain ⟨⟨μ, x1, x2⟩, x3, x4⟩ := hR''
  exact hk a' w' ⟨⟨μ, x1.less fun id hid => .inl hid, x2⟩, x3, x4⟩
 obtain ⟨⟨μ, x1, x2⟩, x3, x4⟩ := hR'
 refine ⟨⟨μ, x1.less fun id hid => ?_, x2⟩, x3, x4⟩
 rcases hid with hid | ⟨k, _, _, rfl⟩
 .simp only [Fr]; omega
 simp [Fr]
theorem AAi (hE : BN P AE) (hm : P.follows .mixedOrders = true) {id : Nat} {ops : List Oper} {Q : Exit -> St -> Prop} {nt : Nat} {sl : List (Nat × LV)} {h : Ag} {c : Nat} (T : I4) (n : Nat) (S : St)
  (hq : AE.calm.isSome = true) (hok : K0 true AE.own .any ops.toArray T false (Array.replicate ops.length false) ops.length = true) (hn : Nat.beq ops.length n = true)
  (k : ND P A AE c n (fun st => A9 A { st with ctr := c + n } S) ops T ⟨nt, sl, h, c⟩) (kk : Q .normal S) : CM P A (.region id ops.toArray true) Q ⟨nt, sl, h, c⟩ := fun a w hR => by
 have hn' := Nat.eq_of_beq_eq_true hn
 subst hn'
 refine wp_region_any hm ?_
 have hR' := (hR.drawn (w.drawn + 1)).toRF
 have hfr : ∀ k, AL (c + k) h = none := by
  intro k
  cases hx : AL (c + k) h with
  | none => rfl
  | some o =>
   obtain ⟨⟨μ, hh, _⟩, _, _⟩ := hR
   obtain ⟨loc, h1, _⟩ := hh.obj _ _ hx
   rw [hh.fresh _ (by simp [Fr])] at h1; cases h1
 have hD := (Kq true (fun _ => Option.isSome_iff_exists.1 hq) (md := .any) T (Array.replicate ops.length false) ⟨nt, sl, h, c⟩ ops.length (fun k _ => hfr k) k).1 hok
 rw [show ops.toArray.size = ops.length by simp]
 refine Ix (A := A) (n := ops.length) hE (by simp) (fun st' a' w' listed hk hR'' => ?_) ops.length _ ⟨nt, sl, h, c⟩ a _ (by simp) hD ?_
 .refine ⟨S, ?_, kk⟩
  obtain ⟨⟨μ, x1, x2⟩, x3, x4⟩ := hR''
  exact hk a' w' ⟨⟨μ, x1.less fun id hid => .inl hid, x2⟩, x3, x4⟩
 obtain ⟨⟨μ, x1, x2⟩, x3, x4⟩ := hR'
 refine ⟨⟨μ, x1.less fun id hid => ?_, x2⟩, x3, x4⟩
 rcases hid with hid | ⟨k, _, _, rfl⟩
 .simp only [Fr]; omega
 simp [Fr]
end
end Go.E
/- Au objects handed to a function that turns them: its contract (Ef of the objects alone), and its use among other objects (V0, JG). No condition. -/
namespace Go.E
open Go Go.RowKit
def Sk (ρ : Nat -> Nat) : LV -> LV
 | .lsl id sz off len => .lsl (ρ id) sz off len
 | .lpb id off => .lpb (ρ id) off
 | .lpe id i off => .lpe (ρ id) i off
 | .lmap id => .lmap (ρ id)
 | x => x
def Z5 : LV -> Option Nat
 | .lsl id _ _ _ => some id
 | .lpb id _ => some id
 | .lpe id _ _ => some id
 | .lmap id => some id
 | _ => none
def Z6 : LV -> Bool
 | .p _ => true
 | .lsl _ _ _ _ => true
 | .lpb _ _ => true
 | .lpe _ _ _ => true
 | .lmap _ => true
 | .und => true
 | .any => true
 | _ => false
def O3 (ρ : Nat -> Nat) : BK -> BK
 | .box cs => .box (cs.map (Sk ρ))
 | o => o
def Pv (gl : List (Nat × Nat)) (m : Nat) (l : LV) : Bool := Z6 l && (match Z5 l with
 | none => true
 | some i => Nat.ble m i || (AL i gl).isSome)
def UR (gl : List (Nat × Nat)) (m : Nat) : BK -> Bool
 | .box cs => cs.all (Pv gl m)
 | _ => true
def Z7 (ρ : Nat -> Nat) : LV -> LV
 | .agg l => .agg (l.map (Sk ρ))
 | l => Sk ρ l
def Z8 (gl : List (Nat × Nat)) (m : Nat) : LV -> Bool
 | .agg l => l.all (Pv gl m)
 | l => Pv gl m l
def mrL (ρ : Nat -> Nat) : LV -> LV
 | .tup l => .tup (l.map (Z7 ρ))
 | l => Z7 ρ l
def moL (gl : List (Nat × Nat)) (m : Nat) : LV -> Bool
 | .tup l => l.all (Z8 gl m)
 | l => Z8 gl m l
def Kk (ρ : Nat -> Nat) : Ag -> Ag
 | [] => []
 | (i, o) :: h => (ρ i, O3 ρ o) :: Kk ρ h
def Ev (gl : List (Nat × Nat)) (m c i : Nat) : Nat := match AL i gl with
 | some j => j
 | none => c + (i - m)
def RJ (ρ : Nat -> Nat) (h : Ag) : Ag -> Prop
 | [] => True
 | (i, o) :: r => AL (ρ i) h = some (O3 ρ o) /\ RJ ρ h r
def Yb (gl : List (Nat × Nat)) (m m1 : Nat) (H H1 : Ag) : Bool :=
 Nat.ble m m1 && H.all (fun p => Nat.ble (p.1 + 1) m && (AL p.1 gl).isSome && UR gl m p.2) && gl.all (fun p => (AL p.1 H).isSome && gl.all fun q => p.1 == q.1 || p.2 != q.2) && H1.all (fun p => (Nat.ble m p.1 || (AL p.1 gl).isSome) && UR gl m p.2)
theorem IC {α : Type} {i : Nat} {o : α} : ∀ {l : List (Nat × α)}, AL i l = some o -> (i, o) ∈ l
 | [], h => by simp [AL] at h
 | (k, v) :: l, h => by
  unfold AL at h
  split at h
  .rename_i e; cases h; subst e; simp
  exact List.mem_cons_of_mem _ (IC h)
theorem Pw {ρ : Nat -> Nat} {h : Ag} {i : Nat} {o : BK} : ∀ {H : Ag}, RJ ρ h H -> AL i H = some o -> AL (ρ i) h = some (O3 ρ o)
 | [], _, hl => by simp [AL] at hl
 | (k, v) :: H, hk, hl => by
  unfold AL at hl
  split at hl
  .rename_i e; cases hl; subst e; exact hk.1
  exact Pw hk.2 hl
theorem US {ρ : Nat -> Nat} {id : Nat} {o : BK} : ∀ {H : Ag}, AL id (Kk ρ H) = some o -> ∃ i o1, AL i H = some o1 /\ ρ i = id /\ o = O3 ρ o1
 | [], h => by simp [Kk, AL] at h
 | (k, v) :: H, h => by
  unfold Kk AL at h
  split at h
  .rename_i e; cases h; exact ⟨k, v, by simp [AL], e.symm, rfl⟩
  rename_i e
  obtain ⟨i, o1, h1, h2, h3⟩ := US h
  refine ⟨i, o1, ?_, h2, h3⟩
  unfold AL
  rw [if_neg (fun e2 => e (by rw [<- h2, e2]))]
  exact h1
theorem UT {α : Type} {id : Nat} {o : α} : ∀ {a b : List (Nat × α)}, AL id (a ++ b) = some o -> AL id a = some o \/ AL id b = some o
 | [], b, h => .inr h
 | (k, v) :: a, b, h => by
  rw [List.cons_append] at h
  have e1 : ∀ l : List (Nat × α), AL id ((k, v) :: l) = if id = k then some v else AL id l := fun _ => rfl
  rw [e1] at h
  by_cases e : id = k
  .rw [if_pos e] at h; rw [e1, if_pos e]; exact .inl h
  rw [if_neg e] at h; rw [e1, if_neg e]; exact UT h
section
variable {O : Nat -> Prop} {μ μ' : Nat -> Option Bt} {w : World} {ρ : Nat -> Nat}
theorem V1 {v : Value} {l : LV} (hf : Z6 l = true) (hμ : ∀ i loc, Z5 l = some i -> μ (ρ i) = some loc -> μ' i = some loc) (h : Ar O μ w v (Sk ρ l)) : Ar O μ' w v l := by
 cases l with
 | p d => cases h with | p _ _ h => exact .p _ _ h
 | lsl id sz off len =>
  cases h with
  | lsln _ loc hm hn => exact .lsln id loc (hμ _ _ rfl hm) hn
  | lsl _ _ _ cap a loc hm hn hcap hl ha hb hs => exact .lsl id off len cap a loc (hμ _ _ rfl hm) hn hcap hl ha hb hs
 | lpb id off => cases h with | lpb _ _ loc hm hn => exact .lpb id off loc (hμ _ _ rfl hm) hn
 | lpe id i off => cases h with | lpe _ _ _ loc hm hn => exact .lpe id i off loc (hμ _ _ rfl hm) hn
 | lmap id => cases h with | lmap _ loc hm hn => exact .lmap id loc (hμ _ _ rfl hm) hn
 | und => cases h; exact .und
 | any => exact .any v
 | agg l => cases hf
 | tup l => cases hf
 | fn f l => cases hf
theorem UU {v : Value} {l : LV} (hf : Z6 l = true) (hμ : ∀ i loc, Z5 l = some i -> μ' i = some loc -> μ (ρ i) = some loc) (h : Ar O μ' w v l) : Ar O μ w v (Sk ρ l) := by
 cases l with
 | p d => cases h with | p _ _ h => exact .p _ _ h
 | lsl id sz off len =>
  cases h with
  | lsln _ loc hm hn => exact .lsln _ loc (hμ _ _ rfl hm) hn
  | lsl _ _ _ cap a loc hm hn hcap hl ha hb hs => exact .lsl _ off len cap a loc (hμ _ _ rfl hm) hn hcap hl ha hb hs
 | lpb id off => cases h with | lpb _ _ loc hm hn => exact .lpb _ off loc (hμ _ _ rfl hm) hn
 | lpe id i off => cases h with | lpe _ _ _ loc hm hn => exact .lpe _ i off loc (hμ _ _ rfl hm) hn
 | lmap id => cases h with | lmap _ loc hm hn => exact .lmap _ loc (hμ _ _ rfl hm) hn
 | und => cases h; exact .und
 | any => exact .any v
 | agg l => cases hf
 | tup l => cases hf
 | fn f l => cases hf
theorem ZW {gl : List (Nat × Nat)} {m : Nat} {loc : Bt} {o : BK} (hf : UR gl m o = true) (hμ : ∀ i lc, (m <= i \/ ∃ j, AL i gl = some j) -> μ (ρ i) = some lc -> μ' i = some lc) (h : Dy O μ w loc (O3 ρ o)) : Dy O μ' w loc o := by
 cases o with
 | row e sz el => exact h
 | map mp => exact h
 | iter cur left => exact h
 | box cs =>
  obtain ⟨hn, c, t, h1, h2, h3⟩ := h
  refine ⟨hn, c, t, h1, by simpa using h2, fun i v l hv hl => ?_⟩
  have hok := List.all_eq_true.1 hf l (List.mem_of_getElem? hl)
  simp only [Pv, Bool.and_eq_true] at hok
  refine V1 hok.1 (fun j lc hj hm => hμ j lc ?_ hm) (h3 i v _ hv (by rw [List.getElem?_map, hl]; rfl))
  have h4 := hok.2
  rw [hj] at h4
  simp only [Bool.or_eq_true, Nat.ble_eq] at h4
  exact h4.imp (fun x => x) fun h5 => Option.isSome_iff_exists.1 h5
theorem Yc {gl : List (Nat × Nat)} {m : Nat} {loc : Bt} {o : BK} (hf : UR gl m o = true) (hμ : ∀ i lc, (m <= i \/ ∃ j, AL i gl = some j) -> μ' i = some lc -> μ (ρ i) = some lc) (h : Dy O μ' w loc o) : Dy O μ w loc (O3 ρ o) := by
 cases o with
 | row e sz el => exact h
 | map mp => exact h
 | iter cur left => exact h
 | box cs =>
  obtain ⟨hn, c, t, h1, h2, h3⟩ := h
  refine ⟨hn, c, t, h1, by simpa using h2, fun i v l hv hl => ?_⟩
  rw [List.getElem?_map] at hl
  cases hc : cs[i]? with
  | none => rw [hc] at hl; cases hl
  | some x =>
   rw [hc] at hl
   cases hl
   have hok := List.all_eq_true.1 hf x (List.mem_of_getElem? hc)
   simp only [Pv, Bool.and_eq_true] at hok
   refine UU hok.1 (fun j lc hj hm => hμ j lc ?_ hm) (h3 i v x hv hc)
   have h4 := hok.2
   rw [hj] at h4
   simp only [Bool.or_eq_true, Nat.ble_eq] at h4
   exact h4.imp (fun x => x) fun h5 => Option.isSome_iff_exists.1 h5
end
section
variable {P : Program}
theorem V0 {k : Nat} {H H1 : Ag} {m m1 : Nat} {ls : List LV} {L : LV} (hM : ∀ A : BX, (∀ id, A.μ0 id ≠ none -> id < m) -> Ef P A H m k ls (fun l h c => l = L /\ h = H1 /\ c = m1))
  (gl : List (Nat × Nat)) {A : BX} {h : Ag} {c : Nat} {K : LV -> Ag -> Nat -> Prop} (hB : Yb gl m m1 H H1 = true) (hobj : RJ (Ev gl m c) h H) (hls : ls.all (Pv gl m) = true) (hL : moL gl m L = true)
  (hK : K (mrL (Ev gl m c) L) (Kk (Ev gl m c) H1 ++ Cp (gl.map (·.2)) h) (c + (m1 - m))) : Ef P A h c k (ls.map (Sk (Ev gl m c))) K := by
 simp only [Yb, Bool.and_eq_true, List.all_eq_true, Nat.ble_eq, Bool.or_eq_true, beq_iff_eq, bne_iff_ne] at hB
 obtain ⟨⟨⟨hm, hH⟩, hgl⟩, hH1⟩ := hB
 have key : ∀ i o, AL i H = some o -> i < m /\ (∃ j, AL i gl = some j) /\ UR gl m o = true := fun i o hl => by
  obtain ⟨⟨h1, h2⟩, h3⟩ := hH _ (IC hl)
  exact ⟨h1, Option.isSome_iff_exists.1 h2, h3⟩
 have gkey : ∀ i j, AL i gl = some j -> ∃ o, AL i H = some o := fun i j hl => Option.isSome_iff_exists.1 (hgl _ (IC hl)).1
 have ginj : ∀ i i' j, AL i gl = some j -> AL i' gl = some j -> i = i' := fun i i' j h1 h2 => by
  have := (hgl _ (IC h1)).2 _ (IC h2)
  rcases this with h | h
  .exact h
  exact absurd rfl h
 have rg : ∀ i j, AL i gl = some j -> Ev gl m c i = j := fun i j hl => by unfold Ev; rw [hl]
 have rn : ∀ i, m <= i -> Ev gl m c i = c + (i - m) := fun i hi => by
  unfold Ev
  cases hl : AL i gl with
  | none => rfl
  | some j =>
   obtain ⟨o, ho⟩ := gkey i j hl
   have := (key i o ho).1
   omega
 refine ⟨(hM ⟨default, fun _ => False, fun _ => False, fun _ => none, fun _ h => h.elim⟩ (fun _ h => absurd rfl h)).1, fun μ w vs hh hsz hr => ?_⟩
 have hlt : ∀ id loc, μ id = some loc -> id < c := by
  intro id loc hm'
  by_cases hi : id < c
  .exact hi
  rw [hh.fresh id (by simp only [Fr]; omega)] at hm'; cases hm'
 let μ' : Nat -> Option Bt := fun i => match AL i gl with | some j => μ j | none => none
 have μg : ∀ i j, AL i gl = some j -> μ' i = μ j := fun i j hl => by simp only [μ', hl]
 have μlt : ∀ i loc, μ' i = some loc -> ∃ j, AL i gl = some j /\ μ j = some loc := by
  intro i loc hi
  cases hl : AL i gl with
  | none => simp only [μ', hl] at hi; cases hi
  | some j => exact ⟨j, rfl, by rw [<- μg i j hl]; exact hi⟩
 have hobj' : ∀ i o, AL i H = some o -> ∃ j, AL i gl = some j /\ AL j h = some (O3 (Ev gl m c) o) := fun i o hl => by
  obtain ⟨_, ⟨j, hj⟩, _⟩ := key i o hl
  have := Pw hobj hl
  rw [rg i j hj] at this
  exact ⟨j, hj, this⟩
 have mine : ∀ b, CN μ' H b -> CN μ h b /\ ∃ i j o loc, AL i H = some o /\ AL i gl = some j /\ AL j h = some (O3 (Ev gl m c) o) /\ μ j = some loc /\ loc.nil = false /\ loc.b = b := by
  rintro b ⟨i, o, loc, h1, h2, h3, h4⟩
  obtain ⟨j, hj, hj2⟩ := hobj' i o h1
  rw [μg i j hj] at h2
  exact ⟨⟨j, _, loc, hj2, h2, h3, h4⟩, i, j, o, loc, h1, hj, hj2, h2, h3, h4⟩
 have ownlt : ∀ b, Au A μ h b -> b < w.heap.size := by
  rintro b (hb | ⟨id, o, loc, h1, h2, h3, rfl⟩)
  .exact Nat.lt_of_lt_of_le (A.hO b hb).1 hh.size
  exact (hh.base id o loc h1 h2 h3).1
 let A' : BX := ⟨w, fun b => Au A μ h b /\ ¬ CN μ' H b, CN μ' H, μ', fun b hb => ⟨ownlt b hb.1, hb.2⟩⟩
 have own1 : ∀ b, Au A' μ' H b -> Au A μ h b := by
  rintro b (hb | hb)
  .exact hb.1
  exact .inr (mine b hb).1
 have own2 : ∀ b, Au A μ h b -> Au A' μ' H b := fun b hb => by
  by_cases hc : CN μ' H b
  .exact .inr hc
  exact .inl ⟨hb, hc⟩
 have hh' : HRel A' μ' H (Fr m) w := by
  refine ⟨?_, ?_, ?_, ?_, Nat.le_refl _, fun _ _ _ => rfl, rfl, rfl, rfl, fun _ _ hm' => hm'⟩
  .intro i o hl
   obtain ⟨j, hj, hj2⟩ := hobj' i o hl
   obtain ⟨loc, h1, h2⟩ := hh.obj j _ hj2
   refine ⟨loc, by rw [μg i j hj]; exact h1, ?_⟩
   have h3 : Dy (Au A' μ' H) μ w loc (O3 (Ev gl m c) o) := h2.mono (Bh.refl _ _) (fun b _ hb => own1 b hb) (fun _ _ h => h) (fun _ => rfl)
   refine ZW (key i o hl).2.2 (fun i' lc hi' hm' => ?_) h3
   rcases hi' with hi' | ⟨j', hj'⟩
   .rw [rn i' hi'] at hm'
    have := hlt _ _ hm'
    omega
   rw [rg i' j' hj'] at hm'
   rw [μg i' j' hj']; exact hm'
  .intro i i' o o' loc loc' h1 h2 m1' m2' n1 n2 he
   obtain ⟨j, hj, hj2⟩ := hobj' i o h1
   obtain ⟨j', hj', hj2'⟩ := hobj' i' o' h2
   rw [μg i j hj] at m1'
   rw [μg i' j' hj'] at m2'
   have := hh.inj _ _ _ _ _ _ hj2 hj2' m1' m2' n1 n2 he
   subst this
   exact ginj _ _ _ hj hj'
  .intro i hi
   cases hm' : μ' i with
   | none => rfl
   | some loc =>
    obtain ⟨j, hj, _⟩ := μlt i loc hm'
    obtain ⟨o, ho⟩ := gkey i j hj
    have := (key i o ho).1
    simp only [Fr] at hi; omega
  intro i o loc h1 h2 h3
  have hmine : CN μ' H loc.b := ⟨i, o, loc, h1, h2, h3, rfl⟩
  exact ⟨ownlt _ (.inr (mine _ hmine).1), fun hb => hb.2 hmine, .inr hmine⟩
 have hargs : ∀ (i : Nat) (v : Value) (l : LV), vs[i]? = some v -> ls[i]? = some l -> Ar (Au A' μ' H) μ' w v l := by
  intro i v l hv hl
  have hok := List.all_eq_true.1 hls l (List.mem_of_getElem? hl)
  simp only [Pv, Bool.and_eq_true] at hok
  have h1 := (hr i v _ hv (by rw [List.getElem?_map, hl]; rfl)).mono (O' := Au A' μ' H) (Bh.refl _ _) (fun b _ hb => own1 b hb) (fun _ _ h => h)
  refine V1 hok.1 (fun i' lc hi' hm' => ?_) h1
  have h4 := hok.2
  rw [hi'] at h4
  simp only [Bool.or_eq_true, Nat.ble_eq] at h4
  rcases h4 with h4 | h4
  .rw [rn i' h4] at hm'
   have := hlt _ _ hm'
   omega
  obtain ⟨j', hj'⟩ := Option.isSome_iff_exists.1 h4
  rw [rg i' j' hj'] at hm'
  rw [μg i' j' hj']; exact hm'
 have hμ0 : ∀ id, A'.μ0 id ≠ none -> id < m := by
  intro id hid
  cases hm' : μ' id with
  | none => exact absurd hm' hid
  | some loc =>
   obtain ⟨j, hj, _⟩ := μlt id loc hm'
   obtain ⟨o, ho⟩ := gkey id j hj
   exact (key id o ho).1
 refine ((hM A' hμ0).2 μ' w vs hh' (by simpa using hsz) hargs).mono ?_
 rintro e w' ⟨u, l, h1, c1, μ'', he, ⟨rfl, rfl, rfl⟩, hh2, hu, -⟩
 let μ3 : Nat -> Option Bt := fun id => if id < c then μ id else μ'' (m + (id - c))
 have ext : ∀ i loc, μ' i = some loc -> μ'' i = some loc := fun i loc hi => hh2.ext i loc hi
 have μ3o : ∀ id loc, μ id = some loc -> μ3 id = some loc := fun id loc hm' => by simp only [μ3, if_pos (hlt id loc hm'), hm']
 have name : ∀ i lc, (m <= i \/ ∃ j, AL i gl = some j) -> μ'' i = some lc -> μ3 (Ev gl m c i) = some lc := by
  intro i lc hi hm'
  rcases hi with hi | ⟨j, hj⟩
  .rw [rn i hi]
   simp only [μ3]
   rw [if_neg (by omega), show m + (c + (i - m) - c) = i by omega]
   exact hm'
  obtain ⟨o, ho⟩ := gkey i j hj
  obtain ⟨j', hj', hj2⟩ := hobj' i o ho
  rw [hj] at hj'
  cases hj'
  obtain ⟨loc, g1, _⟩ := hh.obj j _ hj2
  have := ext i loc (by rw [μg i j hj]; exact g1)
  rw [hm'] at this
  cases this
  rw [rg i j hj]
  exact μ3o j _ g1
 have new : ∀ id o, AL id (Kk (Ev gl m c) h1) = some o -> ∃ i o1, AL i h1 = some o1 /\ Ev gl m c i = id /\ o = O3 (Ev gl m c) o1 /\ (m <= i \/ ∃ j, AL i gl = some j) /\ UR gl m o1 = true := by
  intro id o hl
  obtain ⟨i, o1, g1, g2, g3⟩ := US hl
  obtain ⟨g4, g5⟩ := hH1 _ (IC g1)
  exact ⟨i, o1, g1, g2, g3, g4.imp (fun x => x) fun h5 => Option.isSome_iff_exists.1 h5, g5⟩
 have cases' : ∀ id o, AL id (Kk (Ev gl m c) h1 ++ Cp (gl.map (·.2)) h) = some o -> (∃ i o1, AL i h1 = some o1 /\ Ev gl m c i = id /\ o = O3 (Ev gl m c) o1 /\ (m <= i \/ ∃ j, AL i gl = some j) /\ UR gl m o1 = true) \/ (id ∉ gl.map (·.2) /\ AL id h = some o) := by
  intro id o hl
  rcases UT hl with hl | hl
  .exact .inl (new id o hl)
  exact .inr (Hs hl)
 have other : ∀ id o loc, id ∉ gl.map (·.2) -> AL id h = some o -> μ id = some loc -> loc.nil = false -> ¬ CN μ' H loc.b := by
  intro id o loc hid hl hm' hn hmine
  obtain ⟨_, i, j, o', loc', g1, g2, g3, g4, g5, g6⟩ := mine _ hmine
  have := hh.inj _ _ _ _ _ _ g3 hl g4 hm' g5 hn g6
  subst this
  exact hid (List.mem_map.2 ⟨(i, j), IC g2, rfl⟩)
 have hkept : Bh (Au A μ h) w w' := ⟨hh2.size, fun b hb hO => hh2.block b hb fun hm' => hO (.inr (mine b hm').1)⟩
 have nmine : ∀ b, CN μ3 (Kk (Ev gl m c) h1 ++ Cp (gl.map (·.2)) h) b -> CN μ'' h1 b \/ (Au A μ h b /\ ¬ CN μ' H b) := by
  rintro b ⟨id, o, loc, g1, g2, g3, g4⟩
  rcases cases' id o g1 with ⟨i, o1, k1, k2, k3, k4, k5⟩ | ⟨k1, k2⟩
  .left
   obtain ⟨lc, q1, _⟩ := hh2.obj i o1 k1
   have := name i lc k4 q1
   rw [k2, g2] at this
   cases this
   exact ⟨i, o1, loc, k1, q1, g3, g4⟩
  right
  obtain ⟨lc, q1, _⟩ := hh.obj id o k2
  have := μ3o id lc q1
  rw [g2] at this
  cases this
  rw [<- g4]
  exact ⟨.inr ⟨id, o, loc, k2, q1, g3, rfl⟩, other id o loc k1 k2 q1 g3⟩
 have own3 : ∀ b, Au A μ3 (Kk (Ev gl m c) h1 ++ Cp (gl.map (·.2)) h) b -> Au A' μ'' h1 b := by
  rintro b (hb | hb)
  .refine .inl ⟨.inl hb, fun hm' => ?_⟩
   obtain ⟨_, i, j, o', loc', g1, g2, g3, g4, g5, rfl⟩ := mine _ hm'
   exact (hh.base j _ loc' g3 g4 g5).2.1 hb
  rcases nmine b hb with hb | hb
  .exact .inr hb
  exact .inl hb
 have own4 : ∀ b, b < w.heap.size -> Au A μ3 (Kk (Ev gl m c) h1 ++ Cp (gl.map (·.2)) h) b -> Au A μ h b := by
  rintro b hlt' (hb | hb)
  .exact .inl hb
  rcases nmine b hb with ⟨i, o1, loc, k1, k2, k3, rfl⟩ | hb
  .rcases (hh2.base i o1 loc k1 k2 k3).2.2 with hx | hx
   .exact absurd hx (by show ¬ w.heap.size <= _; omega)
   exact .inr (mine _ hx).1
  exact hb.1
 have hu2 : Ar (Au A μ3 (Kk (Ev gl m c) h1 ++ Cp (gl.map (·.2)) h)) μ'' w' u l := hu.mono (Bh.refl _ _) (fun b _ hb => own3 b hb) (fun _ _ h => h)
 have one : ∀ v x, Pv gl m x = true -> Ar (Au A μ3 (Kk (Ev gl m c) h1 ++ Cp (gl.map (·.2)) h)) μ'' w' v x -> Ar (Au A μ3 (Kk (Ev gl m c) h1 ++ Cp (gl.map (·.2)) h)) μ3 w' v (Sk (Ev gl m c) x) := by
  intro v x hx hv
  simp only [Pv, Bool.and_eq_true] at hx
  refine UU hx.1 (fun i' lc' hi' hm' => name i' lc' ?_ hm') hv
  have h4 := hx.2
  rw [hi'] at h4
  simp only [Bool.or_eq_true, Nat.ble_eq] at h4
  exact h4.imp (fun x => x) fun h5 => Option.isSome_iff_exists.1 h5
 refine ⟨u, _, _, _, μ3, he, hK, ⟨?_, ?_, ?_, ?_, Nat.le_trans hh.size hh2.size, ?_, hh2.os.trans hh.os, hh2.tape.trans hh.tape, hh2.output.trans hh.output, fun id loc hm' => μ3o id loc (hh.ext id loc hm')⟩, ?_, fun v x hv => hv.mono hkept own4 μ3o⟩
 .intro id o hl
  rcases cases' id o hl with ⟨i, o1, k1, k2, rfl, k4, k5⟩ | ⟨k1, k2⟩
  .obtain ⟨lc, q1, q2⟩ := hh2.obj i o1 k1
   refine ⟨lc, by rw [<- k2]; exact name i lc k4 q1, ?_⟩
   have q3 : Dy (Au A μ3 (Kk (Ev gl m c) h1 ++ Cp (gl.map (·.2)) h)) μ'' w' lc o1 := q2.mono (Bh.refl _ _) (fun b _ hb => own3 b hb) (fun _ _ h => h) (fun _ => rfl)
   exact Yc k5 (fun i' lc' hi' hm' => name i' lc' hi' hm') q3
  obtain ⟨lc, q1, q2⟩ := hh.obj id o k2
  refine ⟨lc, μ3o id lc q1, q2.mono hkept own4 μ3o fun hn => ?_⟩
  exact hh2.block _ (hh.base id o lc k2 q1 hn).1 (other id o lc k1 k2 q1 hn)
 .intro id id' o o' loc loc' g1 g2 m1' m2' n1 n2 hb
  rcases cases' id o g1 with ⟨i, o1, k1, k2, k3, k4, k5⟩ | ⟨k1, k2⟩
  .obtain ⟨lc, q1, _⟩ := hh2.obj i o1 k1
   have e1 := name i lc k4 q1
   rw [k2, m1'] at e1
   cases e1
   rcases cases' id' o' g2 with ⟨i', o1', k1', k2', k3', k4', k5'⟩ | ⟨k1', k2'⟩
   .obtain ⟨lc', q1', _⟩ := hh2.obj i' o1' k1'
    have e1' := name i' lc' k4' q1'
    rw [k2', m2'] at e1'
    cases e1'
    have := hh2.inj _ _ _ _ _ _ k1 k1' q1 q1' n1 n2 hb
    rw [<- k2, <- k2', this]
   exfalso
   obtain ⟨lc', q1', _⟩ := hh.obj id' o' k2'
   have e1' := μ3o id' lc' q1'
   rw [m2'] at e1'
   cases e1'
   have hno := other id' o' loc' k1' k2' q1' n2
   have hsz' := (hh.base id' o' loc' k2' q1' n2).1
   rcases (hh2.base i o1 loc k1 q1 n1).2.2 with hx | hx
   .have : w.heap.size <= loc.b := hx
    omega
   rw [hb] at hx; exact hno hx
  obtain ⟨lc, q1, _⟩ := hh.obj id o k2
  have e1 := μ3o id lc q1
  rw [m1'] at e1
  cases e1
  rcases cases' id' o' g2 with ⟨i', o1', k1', k2', k3', k4', k5'⟩ | ⟨k1', k2'⟩
  .exfalso
   obtain ⟨lc', q1', _⟩ := hh2.obj i' o1' k1'
   have e1' := name i' lc' k4' q1'
   rw [k2', m2'] at e1'
   cases e1'
   have hno := other id o loc k1 k2 q1 n1
   have hsz' := (hh.base id o loc k2 q1 n1).1
   rcases (hh2.base i' o1' loc' k1' q1' n2).2.2 with hx | hx
   .have : w.heap.size <= loc'.b := hx
    omega
   rw [<- hb] at hx; exact hno hx
  obtain ⟨lc', q1', _⟩ := hh.obj id' o' k2'
  have e1' := μ3o id' lc' q1'
  rw [m2'] at e1'
  cases e1'
  exact hh.inj _ _ _ _ _ _ k2 k2' q1 q1' n1 n2 hb
 .intro id hid
  simp only [Fr] at hid
  simp only [μ3]
  rw [if_neg (by omega)]
  exact hh2.fresh _ (by simp only [Fr]; omega)
 .intro id o loc g1 g2 g3
  rcases cases' id o g1 with ⟨i, o1, k1, k2, k3, k4, k5⟩ | ⟨k1, k2⟩
  .obtain ⟨lc, q1, _⟩ := hh2.obj i o1 k1
   have e1 := name i lc k4 q1
   rw [k2, g2] at e1
   cases e1
   obtain ⟨b1, b2, b3⟩ := hh2.base i o1 loc k1 q1 g3
   refine ⟨b1, fun hO => b2 ⟨.inl hO, fun hm' => ?_⟩, ?_⟩
   .obtain ⟨_, i', j', o', loc', g1', g2', g3', g4', g5', g6'⟩ := mine _ hm'
    rw [<- g6'] at hO
    exact (hh.base j' _ loc' g3' g4' g5').2.1 hO
   rcases b3 with hx | hx
   .exact .inl (Nat.le_trans hh.size hx)
   obtain ⟨_, i', j', o', loc', g1', g2', g3', g4', g5', g6'⟩ := mine _ hx
   rw [<- g6']
   exact (hh.base j' _ loc' g3' g4' g5').2.2
  obtain ⟨lc, q1, _⟩ := hh.obj id o k2
  have e1 := μ3o id lc q1
  rw [g2] at e1
  cases e1
  obtain ⟨b1, b2, b3⟩ := hh.base id o loc k2 q1 g3
  exact ⟨Nat.lt_of_lt_of_le b1 hh2.size, b2, b3⟩
 .intro b hb hnf
  have hnm : ¬ CN μ' H b := by
   intro hm'
   obtain ⟨_, i', j', o', loc', g1', g2', g3', g4', g5', g6'⟩ := mine _ hm'
   have := (hh.base j' _ loc' g3' g4' g5').2.2
   rw [g6'] at this
   rcases this with hx | hx
   .omega
   exact hnf hx
  rw [hh2.block b (Nat.lt_of_lt_of_le hb hh.size) hnm]
  exact hh.block b hb hnf
 have oneA : ∀ v x, Z8 gl m x = true -> Ar (Au A μ3 (Kk (Ev gl m c) h1 ++ Cp (gl.map (·.2)) h)) μ'' w' v x -> Ar (Au A μ3 (Kk (Ev gl m c) h1 ++ Cp (gl.map (·.2)) h)) μ3 w' v (Z7 (Ev gl m c) x) := by
  intro v x hx hv
  cases x with
  | agg xs =>
   cases hv with
   | agg vs' _ hsz' hxs =>
    refine .agg vs' _ (by simpa using hsz') fun i v x hv hx' => ?_
    rw [List.getElem?_map] at hx'
    cases hc : xs[i]? with
    | none => rw [hc] at hx'; cases hx'
    | some y =>
     rw [hc] at hx'
     cases hx'
     exact one v y (List.all_eq_true.1 hx y (List.mem_of_getElem? hc)) (hxs i v y hv hc)
  | p d => exact one v _ hx hv
  | lsl id sz off len => exact one v _ hx hv
  | lpb id off => exact one v _ hx hv
  | lpe id i off => exact one v _ hx hv
  | lmap id => exact one v _ hx hv
  | und => exact one v _ hx hv
  | any => exact one v _ hx hv
  | tup l => exact one v _ hx hv
  | fn f l => exact one v _ hx hv
 cases l with
 | tup xs =>
  cases hu2 with
  | tup vs' _ hsz' hxs =>
   refine .tup vs' _ (by simpa using hsz') fun i v x hv hx => ?_
   rw [List.getElem?_map] at hx
   cases hc : xs[i]? with
   | none => rw [hc] at hx; cases hx
   | some y =>
    rw [hc] at hx
    cases hx
    exact oneA v y (List.all_eq_true.1 hL y (List.mem_of_getElem? hc)) (hxs i v y hv hc)
 | p d => exact oneA u (.p d) hL hu2
 | lsl id sz off len => exact oneA u (.lsl id sz off len) hL hu2
 | lpb id off => exact oneA u (.lpb id off) hL hu2
 | lpe id i off => exact oneA u (.lpe id i off) hL hu2
 | lmap id => exact oneA u (.lmap id) hL hu2
 | und => exact oneA u .und hL hu2
 | any => exact oneA u .any hL hu2
 | agg l => exact oneA u (.agg l) hL hu2
 | fn f l => exact oneA u (.fn f l) hL hu2
end
def Lo (P : Program) (k : Nat) (H : Ag) (c : Nat) (args : List LV) (L : LV) (H1 : Ag) (C : Nat) : Prop :=
 ∀ A : BX, (∀ id, A.μ0 id ≠ none -> id < c) -> Ef P A H c k args fun l h c' => l = L /\ h = H1 /\ c' = C
section
variable {P : Program} {AE : BG}
theorem Z4 (hE : BN P AE) {k : Nat} {fn : Func} {cd : Code} (hfun : P.funcs[k]? = some fn) (nt' : Nat) (rs : List ResultVar) (sl' : List (Nat × LV)) (hb : fn.body = some cd) (hn : (fn.name == "runtime.NumGoroutine") = false) (hnt : Nat.beq fn.ntmps nt' = true) (hrs : fn.results.toList = rs)
  {H H1 : Ag} {c C : Nat} {ls : List LV} {L : LV} (hlen : Nat.ble ls.length nt' = true) (hsl : ME 0 ls = sl')
  (body : ∀ A : BX, (∀ id, A.μ0 id ≠ none -> id < c) -> CM P A cd (IP AE.tt rs A L H1 C) ⟨nt', sl', H, c⟩) : Lo P k H c ls L H1 C := by
 intro A hA
 subst hsl
 refine UA hE hfun hb hn nt' (Nat.eq_of_beq_eq_true hnt) rs hrs (Nat.le_of_ble_eq_true hlen) fun A' hA' => ?_
 refine LL (Vw (body A' hA')) fun e s q => ?_
 have fin : (JY AE.tt rs s = some L /\ s.heap = H1 /\ s.ctr = C) -> ∃ l, JY AE.tt rs s = some l /\ l = L /\ s.heap = H1 /\ s.ctr = C := fun ⟨q1, q2, q3⟩ => ⟨_, q1, rfl, q2, q3⟩
 cases e <;> first | exact fin q | exact q.elim
section
variable {A : BX} {f : St -> Prop} {hf : JQ f} {nt : Nat} {sl : List (Nat × LV)} {h : Ag} {c : Nat}
theorem JG {k : Nat} {H H1 : Ag} {m m1 : Nat} {ls : List LV} {L L' : LV} (hM : Lo P k H m ls L H1 m1) (gl : List (Nat × Nat)) {h' : Ag} {c' : Nat} {dst : Option Tmp} {fo : Operand} {args : Array Operand} {ts : Array TypeId}
  (hB : Yb gl m m1 H H1 = true) (hobj : RJ (Ev gl m c) h H) (hls : ls.all (Pv gl m) = true) (hfn : BM nt sl fo = .fn k []) (hl : FF nt sl args.toList some = some (ls.map (Sk (Ev gl m c))))
  (hh : Kk (Ev gl m c) H1 ++ Cp (gl.map (·.2)) h = h') (hc : c + (m1 - m) = c') (hL : moL gl m L = true) (hL' : mrL (Ev gl m c) L = L') (kk : f (match dst with | some d => ⟨nt, (d, L') :: sl, h', c'⟩ | none => ⟨nt, sl, h', c'⟩)) :
  BQ P A AE ⟨nt, sl, h, c⟩ dst (.call ⟨.value fo, args, ts⟩) ⟨f, hf⟩ := by
 rw [BV (h := h) (c := c)] at hfn
 show N4 _ _
 rw [hfn]
 show KH P A h c k (args.toList.map _ ++ []) _
 rw [IM hl, List.append_nil]
 refine V0 hM gl hB hobj hls hL ?_
 rw [hh, hc, hL']
 show f (St.go ⟨nt, sl, h, c⟩ dst L' h' c')
 rw [PW]
 cases dst <;> exact kk
end
end
end Go.E
/- Loops over maps, in whatever order (loopA); iterators. No condition. -/
namespace Go.E
open Go Go.RowKit
section
variable {σ α Ans : Type}
open Classical in
end
section
variable {P : Program} {A : BX} {AE : BG} {st : St} {σ α Ans : Type}
end
section
variable {P : Program} {A : BX} {AE : BG} {f : St -> Prop} {hf : JQ f} {nt : Nat} {sl : List (Nat × LV)} {h : Ag} {c : Nat} {d : Tmp} {κ υ : Type} {ke : κ -> DV} {ve : υ -> DV}
end
end Go.E
/- Drawn regions whose last operation waits for all others: it is run as in the text's order (a call that turns an object, a call that hands back an own row). Condition: the checks, by kernel. -/
namespace Go.E
open Go Go.RowKit
def Jl (o : Oper) : Oper := { o with dst := none, op := .move (.tmp 0), guard := none }
def M9 : List Oper -> List Oper
 | [] => []
 | [o] => [Jl o]
 | o :: o' :: r => o :: M9 (o' :: r)
theorem Pu (o : Oper) : ∀ l : List Oper, M9 (l ++ [o]) = l ++ [Jl o]
 | [] => rfl
 | [a] => rfl
 | a :: b :: l => by
  have := Pu o (b :: l)
  simp only [List.cons_append] at this ⊢
  rw [M9, this]
def RG (md : Region.Mode) (ops : Array Oper) : List Nat -> List Nat -> Bool
 | _, [] => true
 | done, i :: r => (match ops[i]? with
  | some o => o.after.all fun x => !Region.binds md x || done.contains x.on
  | none => false) && RG md ops (i :: done) r
def O0 (md : Region.Mode) (ops : Array Oper) : List Nat -> List Nat -> Bool
 | _, [] => true
 | later, j :: r => (later.any fun k => match ops[k]? with
  | some o => o.after.any fun x => Region.binds md x && x.on == j
  | none => false) && O0 md ops (j :: later) r
def Vz (ops : Array Oper) (L : Nat) : Bool := ops.all fun o => match o.guard with
 | some (j, _) => !(j == L)
 | none => true
def Xg (md : Region.Mode) (ops : Array Oper) (listed : Array Bool) : Prop := ∀ i, listed.getD i false = true -> ∀ o, ops[i]? = some o -> ∀ x ∈ o.after, Region.binds md x = true -> listed.getD x.on false = true
section
variable {P : Program} {A : BX} {AE : BG} {md : Region.Mode} {ops : Array Oper} {base : Nat} {K : St -> Prop}
theorem RH {listed : Array Bool} (hr : Region.ready md ops listed = []) : ∀ (order done : List Nat), (∀ i ∈ done, listed.getD i false = true) -> (∀ i ∈ order, i < listed.size) -> RG md ops done order = true -> ∀ i ∈ order, listed.getD i false = true
 | [], _, _, _, _, i, hi => by simp at hi
 | k :: r, done, hd, hs, ht, i, hi => by
  simp only [RG, Bool.and_eq_true] at ht
  have hk : listed.getD k false = true := by
   cases hl : listed.getD k false with
   | true => rfl
   | false =>
    exfalso
    cases ho : ops[k]? with
    | none => rw [ho] at ht; simp at ht
    | some o =>
     rw [ho] at ht
     have hks := hs k (by simp)
     have : k ∈ Region.ready md ops listed := mem_ready.2 ⟨by
      simp only [Array.getD_eq_getD_getElem?, Array.getElem?_eq_getElem hks, Option.getD_some] at hl ⊢; exact hl, o, ho, fun x hx hb => by
      have h1 := Array.all_eq_true'.1 ht.1 x hx
      simp only [hb, Bool.not_true, Bool.false_or, List.contains_iff_mem] at h1
      exact hd _ h1⟩
     rw [hr] at this
     cases this
  rcases List.mem_cons.1 hi with rfl | hi
  .exact hk
  exact RH hr r (k :: done) (fun j hj => by
  rcases List.mem_cons.1 hj with rfl | hj
  .exact hk
  exact hd j hj) (fun j hj => hs j (by simp [hj])) ht.2 i hi
theorem O1 {listed : Array Bool} (hc : Xg md ops listed) : ∀ (others later : List Nat), (∀ k ∈ later, ∀ o, ops[k]? = some o -> ∀ x ∈ o.after, Region.binds md x = true -> listed.getD x.on false = true) -> O0 md ops later others = true -> ∀ j ∈ others, listed.getD j false = true
 | [], _, _, _, j, hj => by simp at hj
 | k :: r, later, hl, h, j, hj => by
  simp only [O0, Bool.and_eq_true, List.any_eq_true] at h
  obtain ⟨⟨m, hm, h1⟩, h2⟩ := h
  have hk : listed.getD k false = true := by
   cases ho : ops[m]? with
   | none => rw [ho] at h1; cases h1
   | some o =>
    rw [ho] at h1
    obtain ⟨x, hx, hx2⟩ := Array.any_eq_true'.1 h1
    simp only [Bool.and_eq_true, beq_iff_eq] at hx2
    rw [<- hx2.2]
    exact hl m hm o ho x hx hx2.1
  rcases List.mem_cons.1 hj with rfl | hj
  .exact hk
  exact O1 hc r (k :: later) (fun i hi => by
   rcases List.mem_cons.1 hi with rfl | hi
   .exact hc _ hk
   exact hl i hi) h2 j hj
theorem Xh {Q' : Exit -> Act -> World -> Prop} {listed : Array Bool} (hr : Region.ready md ops listed = []) {a : Act} {w : World} (h : Q' .normal a w) : ∀ fuel, wpAny P md ops Q' fuel listed a w
 | 0 => ⟨hr, h⟩
 | fuel + 1 => ⟨fun _ => h, fun i hi => by rw [hr] at hi; cases hi⟩
theorem Wt (hE : BN P AE) {ops' : Array Oper} {n L : Nat} {oL : Oper} (hn : n = ops.size) (hn' : n = ops'.size) (hL : ops[L]? = some oL) (hL' : ops'[L]? = some (Jl oL)) (hg : oL.guard = none) (heq : ∀ i, i ≠ L -> ops'[i]? = ops[i]?) (hgs : Vz ops L = true)
  {others : List Nat} (hall : ∀ i, i < n -> i = L \/ i ∈ others) (hin : ∀ i ∈ others, i < n) (hLn : L < n) (ht : RG md ops [] (others ++ [L]) = true) (hch : O0 md ops [L] others.reverse = true)
  {Q' : Exit -> Act -> World -> Prop} {F : St -> Prop} (hQ : ∀ st a w, F st -> R A st a w -> Q' .normal a w) (hK : ∀ st, K st -> BQ P A AE { st with ctr := base + n } oL.dst oL.op ⟨F, ⟨⟩⟩) :
  ∀ (fuel : Nat) (listed : Array Bool) (st : St) (a : Act) (w : World), listed.size = n -> Xg md ops listed -> listed.getD L true = false -> I6 P AE md ops' base K fuel listed st -> RF A (Fl base n listed) st a w -> wpAny P md ops Q' fuel listed a w := by
 have hrd : ∀ listed i, i ∈ Region.ready md ops' listed ↔ i ∈ Region.ready md ops listed := fun listed i => by
  rw [mem_ready, mem_ready]
  by_cases e : i = L
  .subst e
   rw [hL, hL']
   constructor
   .rintro ⟨h1, o, h2, h3⟩; cases h2; exact ⟨h1, oL, rfl, h3⟩
   rintro ⟨h1, o, h2, h3⟩; cases h2; exact ⟨h1, Jl oL, rfl, h3⟩
  rw [heq i e]
 have hrd0 : ∀ listed, Region.ready md ops' listed = [] ↔ Region.ready md ops listed = [] := fun listed => by
  simp only [List.eq_nil_iff_forall_not_mem, hrd]
 have hne : ∀ listed : Array Bool, listed.size = n -> listed.getD L true = false -> Region.ready md ops listed ≠ [] := fun listed hs hl h0 => by
  have := RH h0 (others ++ [L]) [] (fun i hi => by simp at hi) (fun i hi => by
   rcases List.mem_append.1 hi with hi | hi
   .have := hin i hi; omega
   simp at hi; omega) ht L (by simp)
  rw [Array.getD_eq_getD_getElem?, Array.getElem?_eq_getElem (by omega : L < listed.size)] at this hl
  simp only [Option.getD_some] at this hl
  rw [this] at hl; cases hl
 intro fuel
 induction fuel with
 | zero => intro listed st a w hs _ hl hD _; exact absurd ((hrd0 _).1 hD.1) (hne _ hs hl)
 | succ fuel ih =>
  intro listed st a w hs hc hl hD hR
  refine ⟨fun h0 => absurd h0 (hne _ hs hl), fun i hi => ?_⟩
  obtain ⟨o, l, e, ho, hd, hrec⟩ := hD.2 i ((hrd _ _).2 hi)
  obtain ⟨hun, o', ho', hdep⟩ := mem_ready.1 hi
  by_cases hiL : i = L
  .subst hiL
   rw [hL] at ho'; cases ho'
   rw [hL'] at ho; cases ho
   have hoth : ∀ j ∈ others, listed.getD j false = true := fun j hj => O1 hc others.reverse [i] (fun k hk o hok x hx hb => by
    simp at hk; subst hk
    rw [hL] at hok; cases hok
    exact hdep x hx hb) hch j (List.mem_reverse.2 hj)
   have hend : Region.ready md ops (listed.setIfInBounds i true) = [] := by
    rw [List.eq_nil_iff_forall_not_mem]
    intro j hj
    obtain ⟨g1, o2, g2, _⟩ := mem_ready.1 hj
    have hjn : j < n := by rw [hn]; exact (Array.getElem?_eq_some_iff.1 g2).1
    by_cases hji : i = j
    .subst hji
     simp [show i < listed.size by omega] at g1
    rw [getD_set_ne true hji] at g1
    rcases hall j hjn with rfl | h
    .exact hji rfl
    have := hoth j h
    rw [Array.getD_eq_getD_getElem?, Array.getElem?_eq_getElem (by omega : j < listed.size)] at this g1
    simp only [Option.getD_some] at this g1
    rw [this] at g1; cases g1
   obtain ⟨st', hev, hk⟩ : ∃ st', HD (apS st (base + i) (Jl oL) l e) st' /\ K st' := by
    cases fuel with
    | zero => exact hrec.2
    | succ f => exact hrec.1 ((hrd0 _).2 hend)
   have he : e = .keep := by
    unfold DY Jl at hd
    simp only [CV] at hd
    exact hd.1
   subst he
   have hap : apS st (base + i) (Jl oL) l .keep = st := rfl
   rw [hap] at hev
   have hR2 := hR.eqv hev
   have hRR : R A { st' with ctr := base + n } a w := by
    obtain ⟨⟨μ, x1, x2⟩, x3, x4⟩ := hR2
    exact ⟨⟨μ, x1.less fun id hid => .inl hid, x2⟩, x3, x4⟩
   unfold wpOp
   rw [hL]
   have hw : Region.wanted oL (yielded ops a.tmps) = true := by unfold Region.wanted; rw [hg]
   simp only [hw, if_true]
   exact .inl (SM hE (Rm (hK st' hk)) hRR fun st'' a' w' hF hR' => Xh hend (hQ st'' a' w' hF hR') fuel)
  rw [heq i hiL] at ho
  have hlt : i < n := by rw [hn]; exact (Array.getElem?_eq_some_iff.1 ho).1
  have hd' : DY P AE ops (st.at (base + i)) o l e := by
   unfold DY at hd ⊢
   cases hgo : o.guard with
   | none => rw [hgo] at hd; exact hd
   | some g =>
    obtain ⟨j, want⟩ := g
    rw [hgo] at hd
    have hjL : j ≠ L := by
     have := Array.all_eq_true'.1 hgs o (Array.mem_of_getElem? ho)
     rw [hgo] at this
     simpa using this
    have hgl : Dz (st.at (base + i)) ops' j = Dz (st.at (base + i)) ops j := by unfold Dz; rw [heq j hjL]
    simp only [hgl] at hd ⊢
    exact hd
  refine P6 (st := st.at (base + i)) hE ho ⟨hR.ex, hR.nt, hR.defers⟩ (.inr ⟨i, hlt, hun, rfl⟩) hd' fun a' w' hR' => ?_
  refine ih _ _ _ _ (by simpa using hs) (fun k hk o2 ho2 x hx hb => ?_) (by rw [getD_set_ne true hiL]; exact hl) hrec ?_
  .by_cases hki : i = k
   .subst hki
    rw [ho] at ho2; cases ho2
    rw [ho] at ho'; cases ho'
    exact getD_set_true (hdep x hx hb)
   rw [getD_set_ne false hki] at hk
   exact getD_set_true (hc k hk o2 ho2 x hx hb)
  have hR'' : RF A (fun id => Fl base n listed id /\ id ≠ base + i) (apS st (base + i) o l e) a' w' := by
   obtain ⟨⟨μ, x1, x2⟩, x3, x4⟩ := hR'
   refine ⟨⟨μ, ?_, fun t ht => ?_⟩, ?_, x4⟩
   .rw [Bx] at x1 ⊢; exact x1
   .have := x2 t (by rw [HE] at ht ⊢; exact ht)
    rw [Bx, DK] at this
    rw [Bx, DK]; exact this
   rw [HE] at x3 ⊢; exact x3
  obtain ⟨⟨μ, x1, x2⟩, x3, x4⟩ := hR''
  refine ⟨⟨μ, x1.less fun id hid => ?_, x2⟩, x3, x4⟩
  rcases hid with hid | ⟨k, hk1, hk2, rfl⟩
  .exact ⟨.inl hid, by omega⟩
  have hik : i ≠ k := by
   rintro rfl
   simp [show i < listed.size by omega] at hk2
  exact ⟨.inr ⟨k, hk1, by rw [getD_set_ne true hik] at hk2; exact hk2, rfl⟩, by omega⟩
def J9 : List Oper -> Option Oper
 | [] => none
 | [o] => some o
 | _ :: o :: r => J9 (o :: r)
theorem O2 {o : Oper} : ∀ {l : List Oper}, J9 l = some o -> ∃ pre, l = pre ++ [o]
 | [a], h => by simp [J9] at h; subst h; exact ⟨[], rfl⟩
 | a :: b :: l, h => by
  obtain ⟨pre, e⟩ := O2 (l := b :: l) (by simpa [J9] using h)
  exact ⟨a :: pre, by rw [e]; rfl⟩
def Xi (ops : List Oper) (others : List Nat) : Bool :=
 match J9 ops with
 | none => false
 | some o => o.guard.isNone && (Vz ops.toArray (ops.length - 1) && ((List.range ops.length).all (fun i => Nat.beq i (ops.length - 1) || others.contains i) && ((others.all fun i => Nat.blt i ops.length) &&
   (RG .any ops.toArray [] (others ++ [ops.length - 1]) && O0 .any ops.toArray [ops.length - 1] others.reverse))))
theorem ABA (q : Bool) (hE : BN P AE) (hm : P.follows .mixedOrders = true) {id : Nat} {ops : List Oper} {Q : Exit -> St -> Prop} {nt : Nat} {sl : List (Nat × LV)} {h : Ag} {c : Nat} (others : List Nat) (n : Nat) {oL : Oper}
  (hq : (!q || AE.calm.isSome) = true) (hlast : J9 ops = some oL) (hcl : Xi ops others = true) (hok : If q AE.own .any (M9 ops).toArray (others ++ [ops.length - 1]) (Array.replicate ops.length false) = true) (hl : Nat.beq (others.length + 1) ops.length = true) (hn : Nat.beq ops.length n = true)
  (k : Ds P A AE c n ⟨fun st => BQ P A AE st oL.dst oL.op ⟨Q .normal, ⟨⟩⟩, ⟨⟩⟩ (Gt (M9 ops) (others ++ [n - 1])) ⟨nt, sl, h, c⟩) : CM P A (.region id ops.toArray true) Q ⟨nt, sl, h, c⟩ := fun a w hR => by
 have hn' := Nat.eq_of_beq_eq_true hn
 subst hn'
 have hq' : q = true -> ∃ b, AE.calm = some b := fun e => by subst e; exact Option.isSome_iff_exists.1 (by simpa using hq)
 obtain ⟨pre, rfl⟩ := O2 hlast
 unfold Xi at hcl
 rw [hlast] at hcl
 simp only [Bool.and_eq_true, Option.isNone_iff_eq_none] at hcl
 obtain ⟨g0, g1, g2, g3, g4, g5⟩ := hcl
 have hlen : (pre ++ [oL]).length - 1 = pre.length := by simp
 rw [hlen] at g1 g2 g4 g5 hok k
 rw [Pu] at hok k
 have hsz : (pre ++ [Jl oL]).length = (pre ++ [oL]).length := by simp
 have hb : ((others ++ [pre.length]).all fun i => decide (i < (pre ++ [Jl oL]).length)) = true := by
  rw [List.all_eq_true] at g3 ⊢
  intro i hi
  rcases List.mem_append.1 hi with hi | hi
  .have := Nat.le_of_ble_eq_true (g3 i hi)
   simp only [List.length_append, List.length_cons, List.length_nil, decide_eq_true_eq] at this ⊢
   omega
  simp at hi; subst hi; simp
 rw [<- hsz] at k hok
 have hd := JC (others ++ [pre.length]) _ hb k
 refine wp_region_any hm ?_
 have hR' := (hR.drawn (w.drawn + 1)).toRF
 have hfr : ∀ k, AL (c + k) h = none := by
  intro k
  cases hx : AL (c + k) h with
  | none => rfl
  | some o =>
   obtain ⟨⟨μ, hh, _⟩, _, _⟩ := hR
   obtain ⟨loc, h1, _⟩ := hh.obj _ _ hx
   rw [hh.fresh _ (by simp [Fr])] at h1; cases h1
 have hD := Ks q hq' (others ++ [pre.length]) (Array.replicate (pre ++ [Jl oL]).length false) ⟨nt, sl, h, c⟩ hok (fun k _ => hfr k) hd
 have hol : (others ++ [pre.length]).length = (pre ++ [oL]).length := by
  have := Nat.eq_of_beq_eq_true hl
  simpa using this
 rw [hol, hsz] at hD
 have hs2 : (pre ++ [oL]).toArray.size = (pre ++ [oL]).length := by simp
 rw [hs2]
 have hL0 : pre.length < (pre ++ [oL]).length := by simp
 refine Wt (A := A) (n := (pre ++ [oL]).length) (L := pre.length) (oL := oL) (ops' := (pre ++ [Jl oL]).toArray) (F := Q .normal) (base := c) hE (by simp) (by simp) (by simp) (by simp) g0 (fun i hi => ?_) g1 (others := others) (fun i hi => ?_) (fun i hi => ?_) hL0 g4 g5
  (fun st a w hF hRR => ⟨st, hRR, hF⟩) (fun st hK => hK) (pre ++ [oL]).length _ _ a _ (by simp) (fun i hi => ?_) ?_ hD ?_
 .simp only [List.getElem?_toArray]
  rcases Nat.lt_trichotomy i pre.length with h' | h' | h'
  .rw [List.getElem?_append_left h', List.getElem?_append_left h']
  .exact absurd h' hi
  rw [List.getElem?_eq_none (by simp; omega), List.getElem?_eq_none (by simp; omega)]
 .have := List.all_eq_true.1 g2 i (List.mem_range.2 hi)
  simp only [Bool.or_eq_true, List.contains_iff_mem] at this
  exact this.imp (fun h => Nat.eq_of_beq_eq_true h) fun h => h
 .exact Nat.le_of_ble_eq_true (List.all_eq_true.1 g3 i hi)
 .exfalso
  rw [Array.getD_eq_getD_getElem?] at hi
  rcases Nat.lt_or_ge i (pre ++ [oL]).length with h' | h'
  .rw [Array.getElem?_eq_getElem (by simpa using h')] at hi; simp at hi
  rw [Array.getElem?_eq_none (by simpa using h')] at hi; simp at hi
 .rw [Array.getD_eq_getD_getElem?, Array.getElem?_eq_getElem (by simp)]; simp
 obtain ⟨⟨μ, x1, x2⟩, x3, x4⟩ := hR'
 refine ⟨⟨μ, x1.less fun id hid => ?_, x2⟩, x3, x4⟩
 rcases hid with hid | ⟨k, _, _, rfl⟩
 .simp only [Fr]; omega
 simp [Fr]
end
end Go.E
/- The program's data in plain Lean, and how they stand in cells. Written by a program (gen.py). No condition. -/
namespace Go.E
open Go Go.RowKit Go.Proofs
theorem bq {α β : Type} {o : Option α} {f : α -> Option β} {b : β} {G : Prop} (h : o.bind f = some b) (k : ∀ a, o = some a -> f a = some b -> G) : G := by
 obtain ⟨a, h1, h2⟩ := bd h
 exact k a h1 h2
abbrev bx (l : List DV) : BK := .box (l.map .p)
theorem Z {α : Type} {a : α} : a = a := rfl
theorem AN {σ : Type} {A : BX} {S : σ -> St} {st : St} {s t : σ} (h : some s = some t) (hw : A9 A st (S s)) : NP A S t .normal st := by
 cases h; exact npn hw
theorem Av {σ Ans : Type} {A : BX} {S : σ -> St} {Q : Ans -> Exit -> St -> Prop} {st : St} {s : σ} {b : σ ⊕ Ans} (h : some (.inl s) = some b) (hw : A9 A st (S s)) : LP A S Q b .normal st := by
 cases h; exact lpn hw
theorem BH {σ Ans : Type} {A : BX} {S : σ -> St} {Q : Ans -> Exit -> St -> Prop} {st : St} {x : Ans} {b : σ ⊕ Ans} {id : Nat} (h : some (.inr x) = some b) (k : ∀ a, some x = some a -> Q a (.exit id) st) : LP A S Q b (.exit id) st := by
 cases h; exact lpx (k x rfl)
theorem A1 {σ Ans : Type} {A : BX} {S : σ -> St} {Q : Ans -> Exit -> St -> Prop} {st : St} {x : Ans} {b : σ ⊕ Ans} (h : some (.inr x) = some b) (k : ∀ a, some x = some a -> Q a .ret st) : LP A S Q b .ret st := by
 cases h; exact lpt (k x rfl)
theorem CW {σ Ans : Type} {A : BX} {S : σ -> St} {Q : Ans -> Exit -> St -> Prop} {st : St} {o : Option Ans} {b : σ ⊕ Ans} {id : Nat} (h : o.map .inr = some b) (k : ∀ a, o = some a -> Q a (.exit id) st) : LP A S Q b (.exit id) st := by
 obtain ⟨a, h1, rfl⟩ := mp h; exact lpx (k a h1)
theorem ABF {σ Ans : Type} {A : BX} {S : σ -> St} {Q : Ans -> Exit -> St -> Prop} {st : St} {o : Option Ans} {b : σ ⊕ Ans} (h : o.map .inr = some b) (k : ∀ a, o = some a -> Q a .ret st) : LP A S Q b .ret st := by
 obtain ⟨a, h1, rfl⟩ := mp h; exact lpt (k a h1)

instance : BEq ByteArray := ⟨fun a b => a.toList == b.toList⟩
def AQ (n : Int) : Int := IntKind.wrap .i64 n
def Y3 (a b : Int) : Int := IntKind.wrap .i64 (BitVec.ofInt (IntKind.bits .i64) a ^^^ BitVec.ofInt (IntKind.bits .i64) b).toNat
def AY (n : Int) : List DV := [.int .i64 n]
def AAj (b : Bool) : List DV := [.bool b]
def GP (s : ByteArray) : List DV := [.str s]
def EW {α : Type} (sz : Nat) (enc : α -> List DV) (l : List α) : List DV := [.slice sz (l.map enc)]
def ABB {α : Type} (enc : α -> List DV) (p : Option α) : DV := match p with
 | none => .nilp
 | some x => .place (enc x) 0
structure AF where
 elem : Int
 fin : Int
 deriving DecidableEq
def AK (x : AF) : List DV := [.int .i64 x.elem, .int .i64 x.fin]
theorem I9 (x y : AF) : Cd (AK x) (AK y) = (x == y) := by
 rw [Bool.eq_iff_iff]
 rw [beq_iff_eq]
 simp only [AK, Cd, ER, Bool.and_eq_true, beq_iff_eq, Bool.and_true]
 constructor
 .intro h
  obtain ⟨a1, a2⟩ := x; obtain ⟨b1, b2⟩ := y; simp only at h; simp [h]
 rintro rfl; simp
structure Bs where
 a : AF
 b : AF
 deriving DecidableEq
def BZ (x : Bs) : List DV := [.int .i64 x.a.elem, .int .i64 x.a.fin, .int .i64 x.b.elem, .int .i64 x.b.fin]
structure Bv where
 name : ByteArray
 kind : Int
 length : Int
 deriving DecidableEq
def BJ (x : Bv) : List DV := [.str x.name, .int .i64 x.kind, .int .i64 x.length]
structure BB where
 name : ByteArray
 at_ : AF
 auto : Bool
 deriving DecidableEq
def A2 (x : BB) : List DV := [.str x.name, .int .i64 x.at_.elem, .int .i64 x.at_.fin, .bool x.auto]
structure CC where
 name : ByteArray
 elems : (List Int)
 deriving DecidableEq
def BR (x : CC) : List DV := [.str x.name, .slice 1 (x.elems.map AY)]
structure AM where
 elems : (List Bv)
 joins : (List Bs)
 signals : (List BB)
 lines : (List CC)
 top : Int
 brake : Int
 margin : Int
 throw : Int
 hard : Bool
 deriving DecidableEq
def Aa (x : AM) : List DV := [.slice 3 (x.elems.map BJ), .slice 4 (x.joins.map BZ), .slice 4 (x.signals.map A2), .slice 2 (x.lines.map BR), .int .i64 x.top, .int .i64 x.brake, .int .i64 x.margin, .int .i64 x.throw, .bool x.hard]
structure Dp where
 a0 : Int
 a1 : Int
 deriving DecidableEq
def G5 (x : Dp) : List DV := [.int .i64 x.a0, .int .i64 x.a1]
structure BI where
 p : AM
 next : (List (AF × AF))
 reads : (List (AF × Int))
 line : (List (Int × Dp))
 lead : (List (Int × Int))
 deriving DecidableEq
def A6 (x : BI) : List DV := [.slice 3 (x.p.elems.map BJ), .slice 4 (x.p.joins.map BZ), .slice 4 (x.p.signals.map A2), .slice 2 (x.p.lines.map BR), .int .i64 x.p.top, .int .i64 x.p.brake, .int .i64 x.p.margin, .int .i64 x.p.throw, .bool x.p.hard, .map (Aw (fun x => .agg (AK x)) (fun x => .agg (AK x)) x.next), .map (Aw (fun x => .agg (AK x)) (.int .i64) x.reads), .map (Aw (.int .i64) (fun x => .agg (G5 x)) x.line), .map (Aw (.int .i64) (.int .i64) x.lead)]
structure AV where
 elem : Int
 in_ : Int
 out : Int
 deriving DecidableEq
def Af (x : AV) : List DV := [.int .i64 x.elem, .int .i64 x.in_, .int .i64 x.out]
theorem UG (x y : AV) : Cd (Af x) (Af y) = (x == y) := by
 rw [Bool.eq_iff_iff]
 rw [beq_iff_eq]
 simp only [Af, Cd, ER, Bool.and_eq_true, beq_iff_eq, Bool.and_true]
 constructor
 .intro h
  obtain ⟨a1, a2, a3⟩ := x; obtain ⟨b1, b2, b3⟩ := y; simp only at h; simp [h]
 rintro rfl; simp
structure AJ where
 elem : Int
 pos : Int
 deriving DecidableEq
def AR (x : AJ) : List DV := [.int .i64 x.elem, .int .i64 x.pos]
theorem Nk (x y : AJ) : Cd (AR x) (AR y) = (x == y) := by
 rw [Bool.eq_iff_iff]
 rw [beq_iff_eq]
 simp only [AR, Cd, ER, Bool.and_eq_true, beq_iff_eq, Bool.and_true]
 constructor
 .intro h
  obtain ⟨a1, a2⟩ := x; obtain ⟨b1, b2⟩ := y; simp only at h; simp [h]
 rintro rfl; simp
structure AW where
 frm : Int
 to : Int
 fin : Int
 steps : (List AV)
 needs : (List AJ)
 guards : (List AJ)
 zone : (List Int)
 holds : (List Int)
 bare : Bool
 deriving DecidableEq
def Ad (x : AW) : List DV := [.int .i64 x.frm, .int .i64 x.to, .int .i64 x.fin, .slice 3 (x.steps.map Af), .slice 2 (x.needs.map AR), .slice 2 (x.guards.map AR), .slice 1 (x.zone.map AY), .slice 1 (x.holds.map AY), .bool x.bare]
structure BO where
 out : Int
 pos : Int
 deriving DecidableEq
def CR (x : BO) : List DV := [.int .i64 x.out, .int .i64 x.pos]
structure Ni where
 berth : Int
 steps : (List AV)
 pos : (List Int)
 left : (List (List BO))
 deriving DecidableEq
def Sf (x : Ni) : List DV := [.int .i64 x.berth, .slice 3 (x.steps.map Af), .slice 1 (x.pos.map AY), .slice 1 (x.left.map (EW 2 CR))]
structure CG where
 plan : AM
 roads : (List AW)
 deriving DecidableEq
def Bp (x : CG) : List DV := [.slice 3 (x.plan.elems.map BJ), .slice 4 (x.plan.joins.map BZ), .slice 4 (x.plan.signals.map A2), .slice 2 (x.plan.lines.map BR), .int .i64 x.plan.top, .int .i64 x.plan.brake, .int .i64 x.plan.margin, .int .i64 x.plan.throw, .bool x.plan.hard, .slice 9 (x.roads.map Ad)]
structure Aq where
 p : AM
 r : AW
 met : (List AF)
 deriving DecidableEq
theorem Ck : Lc AE 96 (fun x => .agg (AK x)) := ⟨fun a b => (I9 a b), fun _ => rfl⟩
theorem Lq : Lc AE 3 (.int .i64) := ⟨fun _ _ => rfl, fun _ => rfl⟩
theorem M8 : Lc AE 9 .str := ⟨fun _ _ => rfl, fun _ => rfl⟩
end Go.E
/- Plain functions, and walks in step with them. Written by a program (gen.py). No condition. -/
set_option maxRecDepth 100000
namespace Go.E
open Go Go.RowKit Go.Proofs
noncomputable def Hz (a : Int) (b : Int) (c : Int) (d : Int) : Option Bs :=
 some (⟨(⟨a, b⟩ : AF), (⟨c, d⟩ : AF)⟩ : Bs)
theorem Kh (a : Int) (b : Int) (c : Int) (d : Int) (r : Bs) (h : Hz a b c d = some r) : A4 Tryz.prog 103 [.int .i64 a, .int .i64 b, .int .i64 c, .int .i64 d] (· = .agg (BZ r)) := by
 refine fn AA Tryz.func103 Z Z 16 Z [.cell 8 154] Z [(0, .p (.int .i64 a)), (1, .p (.int .i64 b)), (2, .p (.int .i64 c)), (3, .p (.int .i64 d))] Z Z fun A hA => ?_
 unfold Hz at h
 refine rs AA <| rl Z <| rs AA <| rl Z <| AG ?_
 cases h
 exact er Z Le.rfl
noncomputable def Ng : Option AM :=
 (Hz 0 0 1 0).bind fun a => (Hz 1 1 2 0).bind fun b => (Hz 2 1 3 0).bind fun c => (Hz 3 1 5 0).bind fun d => (Hz 2 2 4 0).bind fun e => some (⟨[(⟨(⟨#[87]⟩ : ByteArray), 4, 0⟩ : Bv), (⟨(⟨#[65]⟩ : ByteArray), 1, 20⟩ : Bv), (⟨(⟨#[80]⟩ : ByteArray), 2, 10⟩ : Bv), (⟨(⟨#[66]⟩ : ByteArray), 1, 20⟩ : Bv), (⟨(⟨#[67]⟩ : ByteArray), 1, 30⟩ : Bv), (⟨(⟨#[69]⟩ : ByteArray), 4, 0⟩ : Bv)], [a, b, c, d, e], [(⟨(⟨#[119]⟩ : ByteArray), (⟨0, 0⟩ : AF), false⟩ : BB), (⟨(⟨#[97]⟩ : ByteArray), (⟨1, 1⟩ : AF), false⟩ : BB), (⟨(⟨#[101]⟩ : ByteArray), (⟨5, 0⟩ : AF), false⟩ : BB), (⟨(⟨#[98]⟩ : ByteArray), (⟨3, 0⟩ : AF), false⟩ : BB), (⟨(⟨#[99]⟩ : ByteArray), (⟨4, 0⟩ : AF), false⟩ : BB)], [], 10, 5, 15, 2, false⟩ : AM)
theorem Wi (r : AM) (h : Ng = some r) : A4 Tryz.prog 37 [] (· = .agg (Aa r)) := by
 refine fn AA Tryz.func37 Z Z 31 Z [.cell 0 27] Z [] Z Z fun A hA => ?_
 unfold Ng at h
 refine rs AA <| rl Z <| rs AA <| rl Z <| rs AA <| rl Z <| rs AA <| bq h fun l a f => sx Z (AS (Kh _ _ _ _ _ a) (.inl Z) Z Z Z <| bq f fun m b g => sx Z (AS (Kh _ _ _ _ _ b) (.inl Z) Z Z Z <| bq g fun n c i => sx Z (AS (Kh _ _ _ _ _ c) (.inl Z) Z Z Z <| bq i fun o d j => sx Z (AS (Kh _ _ _ _ _ d) (.inl Z) Z Z Z <| bq j fun q e k => sx Z (AS (Kh _ _ _ _ _ e) (.inl Z) Z Z Z <| rl Z <| rs AA <| rl Z <| rs AA <| rl Z <| AG ?_)))))
 cases k
 exact er (HH Z (.agg (.cons (.own (enc := BJ) ([(⟨(⟨#[87]⟩ : ByteArray), 4, 0⟩ : Bv), (⟨(⟨#[65]⟩ : ByteArray), 1, 20⟩ : Bv), (⟨(⟨#[80]⟩ : ByteArray), 2, 10⟩ : Bv), (⟨(⟨#[66]⟩ : ByteArray), 1, 20⟩ : Bv), (⟨(⟨#[67]⟩ : ByteArray), 1, 30⟩ : Bv), (⟨(⟨#[69]⟩ : ByteArray), 4, 0⟩ : Bv)] : List Bv) Z Z) (.cons (.own (enc := BZ) ([l, m, n, o, q] : List Bs) Z Z) (.cons (.own (enc := A2) ([(⟨(⟨#[119]⟩ : ByteArray), (⟨0, 0⟩ : AF), false⟩ : BB), (⟨(⟨#[97]⟩ : ByteArray), (⟨1, 1⟩ : AF), false⟩ : BB), (⟨(⟨#[101]⟩ : ByteArray), (⟨5, 0⟩ : AF), false⟩ : BB), (⟨(⟨#[98]⟩ : ByteArray), (⟨3, 0⟩ : AF), false⟩ : BB), (⟨(⟨#[99]⟩ : ByteArray), (⟨4, 0⟩ : AF), false⟩ : BB)] : List BB) Z Z) (.cons (.p _) (.cons (.p _) (.cons (.p _) (.cons (.p _) (.cons (.p _) (.cons (.p _) .nil))))))))))) (Le.agg' (.cons Le.rfl (.cons Le.rfl (.cons Le.rfl (.cons (Le.nil _) (.cons Le.rfl (.cons Le.rfl (.cons Le.rfl (.cons Le.rfl (.cons Le.rfl .nil))))))))))
noncomputable def Ij (b : AM) (a : Int) : Option (Int ⊕ Bool) :=
 bif decide (a < (b.signals.length : Int)) then (Ak b.signals a).bind fun c => bif decide (100 < (c.name.size : Int)) then some (.inr false) else some (.inl (AQ (a + 1))) else some (.inr true)
noncomputable def Ik (b : AM) (a : Int) : Option (Int ⊕ Bool) :=
 bif decide (a < (b.elems.length : Int)) then (Ak b.elems a).bind fun c => bif decide (100 < (c.name.size : Int)) then some (.inr false) else some (.inl (AQ (a + 1))) else (AO (Ij b) 0).map .inr
noncomputable def KJ (b : AM) (a : Int) : Option (Int ⊕ Bool) :=
 bif decide (a < (b.lines.length : Int)) then (((Ak b.lines a).bind fun d => bif decide (60 < (d.elems.length : Int)) then some true else (Ak b.lines a).bind fun e => some (decide (100 < (e.name.size : Int))) : Option (Bool))).bind fun (c : Bool) => bif c then some (.inr false) else some (.inl (AQ (a + 1))) else (AO (Ik b) 0).map .inr
noncomputable def Lj (a : AM) : Option Bool :=
 ((bif decide (60 < (a.elems.length : Int)) then some true else bif decide (120 < (a.joins.length : Int)) then some true else bif decide (60 < (a.signals.length : Int)) then some true else some (decide (20 < (a.lines.length : Int))) : Option (Bool))).bind fun (b : Bool) => bif b then some false else AO (KJ a) 0
theorem YV (b : AM) (r : Bool) (h : Lj b = some r) : A4 Tryz.prog 41 [.agg (Aa b)] (· = .bool r) := by
 refine fn AA Tryz.func41 Z Z 83 Z [.tmp 2] Z [(0, .p (.agg (Aa b)))] Z Z fun A hA => ?_
 unfold Lj at h
 refine rs AA <| rl Z <| AB <| jb (fun d : Bool => ⟨83, [(1, .lpb 0 0), (27, lb d)], [(0, bx (Aa b))], 1⟩) h (fun d u => ?_) (fun d am => ?_)
 .refine rg AA <| rn 2 Z <| sx Z (Al Z Z <| rn 2 Z <| gs 10 u Z Z Z (fun v => ?_) (fun ac => ?_))
  .exact rl Z <| AN v (wf hA [(0, 0)] Z Z Z)
  refine rn 2 Z <| sx Z (Al Z Z <| rn 3 Z <| gs 16 ac Z Z Z (fun ai => ?_) (fun aj => ?_))
  .exact rl Z <| AN ai (wf hA [(0, 0)] Z Z Z)
  refine rn 2 Z <| sx Z (Al Z Z <| rn 3 Z <| gs 22 aj Z Z Z (fun ak => ?_) (fun al => ?_))
  .exact rl Z <| AN ak (wf hA [(0, 0)] Z Z Z)
  exact rn 2 Z <| sx Z (Al Z Z <| rl Z <| AN al (wf hA [(0, 0)] Z Z Z))
 refine cd Z am (fun an => ?_) (fun ao => ?_)
 .refine rs AA <| rl Z <| AG <| AI ?_
  cases an
  exact er Z Le.rfl
 refine AD <| AC <| AB <| rs AA <| rl Z <| AH ?_
 apply lp (a := r) (fun c : Int => ⟨83, [(1, .lpb 0 0), (3, li c)], [(0, bx (Aa b))], 1⟩) ao
 . exact wf hA [(0, 0)] Z Z Z
 intro c a9 f
 unfold KJ at f
 refine AB <| rs AA <| rn 3 Z <| sx Z (Al Z Z <| rl Z <| cd Z f (fun t => ?_) (fun ag => ?_))
 .refine AD <| AC <| AB <| AH <| jb (fun e : Bool => ⟨83, [(1, .lpb 0 0), (3, li c), (52, lb e)], [(0, bx (Aa b))], 1⟩) t (fun e w => ?_) (fun e ab => ?_)
  .refine rg AA <| rn 3 Z <| bq w fun bc n x => sx Z (Aj n Z Z Z <| rn 2 Z <| sx Z (Al Z Z <| rn 2 Z <| gs 43 x Z Z Z (fun y => ?_) (fun z => ?_)))
   .exact rl Z <| AN y (wf hA [(0, 0)] Z Z Z)
   exact rn 3 Z <| bq z fun be o aa => sx Z (Aj o Z Z Z <| rl Z <| AN aa (wf hA [(0, 0)] Z Z Z))
  refine cd Z ab (fun ad => ?_) (fun af => ?_)
  .refine rs AA <| rl Z <| AG <| AT <| AI <| A1 ad fun a5 ae => AT <| AI ?_
   cases ae
   exact er Z Le.rfl
  exact AD <| Ai <| AC <| rg AA <| rl Z <| Av af (wf hA [(0, 0)] Z Z Z)
 refine AU <| Ab <| CW ag fun l ah => Ao <| AC <| AB <| rs AA <| rl Z <| AH ?_
 apply lp (a := l) (fun j : Int => ⟨83, [(1, .lpb 0 0), (4, li j)], [(0, bx (Aa b))], 1⟩) ah
 . exact wf hA [(0, 0)] Z Z Z
 intro j ba g
 unfold Ik at g
 refine AB <| rs AA <| rn 3 Z <| sx Z (Al Z Z <| rl Z <| cd Z g (fun ap => ?_) (fun aw => ?_))
 .refine AD <| AC <| AB <| AH <| rs AA <| rn 3 Z <| bq ap fun bf q aq => sx Z (Aj q Z Z Z <| rl Z <| cd Z aq (fun ar => ?_) (fun av => ?_))
  .refine rs AA <| rl Z <| AG <| AT <| AI <| A1 ar fun a6 au => AT <| AI ?_
   cases au
   exact er Z Le.rfl
  exact AD <| Ai <| AC <| rg AA <| rl Z <| Av av (wf hA [(0, 0)] Z Z Z)
 refine AU <| Ab <| CW aw fun m ax => Ao <| AC <| AB <| rs AA <| rl Z <| AH ?_
 apply lp (a := m) (fun k : Int => ⟨83, [(1, .lpb 0 0), (5, li k)], [(0, bx (Aa b))], 1⟩) ax
 . exact wf hA [(0, 0)] Z Z Z
 intro k bb i
 unfold Ij at i
 refine AB <| rs AA <| rn 3 Z <| sx Z (Al Z Z <| rl Z <| cd Z i (fun ay => ?_) (fun a3 => ?_))
 .refine AD <| AC <| AB <| AH <| rs AA <| rn 3 Z <| bq ay fun bg s az => sx Z (Aj s Z Z Z <| rl Z <| cd Z az (fun a0 => ?_) (fun a2 => ?_))
  .refine rs AA <| rl Z <| AG <| AT <| AI <| A1 a0 fun a7 a1 => AT <| AI ?_
   cases a1
   exact er Z Le.rfl
  exact AD <| Ai <| AC <| rg AA <| rl Z <| Av a2 (wf hA [(0, 0)] Z Z Z)
 refine AU <| Ab <| BH a3 fun a8 a4 => Ao <| AC <| rs AA <| rl Z <| AG ?_
 cases a4
 exact er Z Le.rfl
noncomputable def Fc (b : AM) (d : (Int × (List ByteArray))) (c : (Int × (List ByteArray))) (a : Int × (List ByteArray)) : Option ((Int × (List ByteArray)) ⊕ ((List ByteArray) × (List ByteArray) × (List ByteArray))) :=
 bif decide (a.1 < (b.lines.length : Int)) then (Ak b.lines a.1).bind fun e => (BE a.2 [e.name]).bind fun f => some (.inl (AQ (a.1 + 1), f)) else some (.inr (d.2, c.2, a.2))
noncomputable def Fd (b : AM) (c : (Int × (List ByteArray))) (a : Int × (List ByteArray)) : Option ((Int × (List ByteArray)) ⊕ ((List ByteArray) × (List ByteArray) × (List ByteArray))) :=
 bif decide (a.1 < (b.signals.length : Int)) then (Ak b.signals a.1).bind fun d => (BE a.2 [d.name]).bind fun e => some (.inl (AQ (a.1 + 1), e)) else (AO (Fc b c a) (0, ([] : List ByteArray))).map .inr
noncomputable def HI (b : AM) (a : Int × (List ByteArray)) : Option ((Int × (List ByteArray)) ⊕ ((List ByteArray) × (List ByteArray) × (List ByteArray))) :=
 bif decide (a.1 < (b.elems.length : Int)) then (Ak b.elems a.1).bind fun c => (BE a.2 [c.name]).bind fun d => some (.inl (AQ (a.1 + 1), d)) else (AO (Fd b a) (0, ([] : List ByteArray))).map .inr
noncomputable def Jb (a : AM) : Option ((List ByteArray) × (List ByteArray) × (List ByteArray)) :=
 AO (HI a) (0, ([] : List ByteArray))
theorem Wj (e : AM) (r : ((List ByteArray) × (List ByteArray) × (List ByteArray))) (h : Jb e = some r) : A4 Tryz.prog 108 [.agg (Aa e)] (· = .tup [.slice 1 (r.1.map GP), .slice 1 (r.2.1.map GP), .slice 1 (r.2.2.map GP)]) := by
 refine fn AA Tryz.func108 Z Z 62 Z [.tmp 2, .tmp 3, .tmp 4] Z [(0, .p (.agg (Aa e)))] Z Z fun A hA => ?_
 unfold Jb at h
 refine rs AA <| rl Z <| rs AA <| rl Z <| AB <| rs AA <| rl Z <| AH ?_
 apply lp (a := r) (fun b : (Int × (List ByteArray)) => ⟨62, [(1, .lpb 0 0), (5, .lsl 1 1 0 b.2.length), (6, .p (.nils)), (7, .p (.nils)), (8, li b.1)], [(0, bx (Aa e)), (1, .row 9 1 (b.2.map GP))], 2⟩) h
 . exact A9.trans (By 5 9 1 Z) (wf hA [(0, 0), (1, 1)] Z Z Z)
 intro b aq i
 unfold HI at i
 refine AB <| rs AA <| rn 3 Z <| sx Z (Al Z Z <| rl Z <| cd Z i (fun aj => ?_) (fun x => ?_))
 .exact AD <| AC <| AB <| AH <| rg AA <| rn 4 Z <| bq aj fun ak n v => sx Z (Aj n Z Z Z <| rn 3 Z <| bq v fun ar o w => sx Z (Ax (enc := GP) (l := b.2) (m := [ak.name]) o (fun _ => ⟨Z, Z⟩) Z Z Z Z Z Z <| rl Z <| Ai <| AC <| rg AA <| rl Z <| Av w (wf hA [(0, 0), (1, 3)] Z Z Z)))
 refine AU <| Ab <| CW x fun j y => Ao <| AC <| AB <| rs AA <| rl Z <| AH ?_
 apply lp (a := j) (fun c : (Int × (List ByteArray)) => ⟨62, [(1, .lpb 0 0), (5, .lsl 1 1 0 b.2.length), (6, .lsl 2 1 0 c.2.length), (7, .p (.nils)), (9, li c.1)], [(0, bx (Aa e)), (1, .row 9 1 (b.2.map GP)), (2, .row 9 1 (c.2.map GP))], 3⟩) y
 . exact A9.trans (By 6 9 1 Z) (wf hA (gi 3 []) Z Z Z)
 intro c ao f
 unfold Fd at f
 refine AB <| rs AA <| rn 3 Z <| sx Z (Al Z Z <| rl Z <| cd Z f (fun z => ?_) (fun ac => ?_))
 .exact AD <| AC <| AB <| AH <| rg AA <| rn 4 Z <| bq z fun al q aa => sx Z (Aj q Z Z Z <| rn 3 Z <| bq aa fun au s ab => sx Z (Ax (enc := GP) (l := c.2) (m := [al.name]) s (fun _ => ⟨Z, Z⟩) Z Z Z Z Z Z <| rl Z <| Ai <| AC <| rg AA <| rl Z <| Av ab (wf hA [(0, 0), (1, 1), (2, 4)] Z Z Z)))
 refine AU <| Ab <| CW ac fun k ad => Ao <| AC <| AB <| rs AA <| rl Z <| AH ?_
 apply lp (a := k) (fun d : (Int × (List ByteArray)) => ⟨62, [(1, .lpb 0 0), (5, .lsl 1 1 0 b.2.length), (6, .lsl 2 1 0 c.2.length), (7, .lsl 3 1 0 d.2.length), (10, li d.1)], [(0, bx (Aa e)), (1, .row 9 1 (b.2.map GP)), (2, .row 9 1 (c.2.map GP)), (3, .row 9 1 (d.2.map GP))], 4⟩) ad
 . exact A9.trans (By 7 9 1 Z) (wf hA (gi 4 []) Z Z Z)
 intro d ap g
 unfold Fc at g
 refine AB <| rs AA <| rn 3 Z <| sx Z (Al Z Z <| rl Z <| cd Z g (fun ae => ?_) (fun ah => ?_))
 .exact AD <| AC <| AB <| AH <| rg AA <| rn 4 Z <| bq ae fun am t af => sx Z (Aj t Z Z Z <| rn 3 Z <| bq af fun av u ag => sx Z (Ax (enc := GP) (l := d.2) (m := [am.name]) u (fun _ => ⟨Z, Z⟩) Z Z Z Z Z Z <| rl Z <| Ai <| AC <| rg AA <| rl Z <| Av ag (wf hA (gi 3 [(3, 5)]) Z Z Z)))
 refine AU <| Ab <| BH ah fun an ai => Ao <| AC <| rs AA <| rl Z <| AG ?_
 cases ai
 exact er (SY Z (.cons (.one (.own (enc := GP) b.2 Z Z)) (.cons (.one (.own (enc := GP) c.2 Z Z)) (.cons (.one (.own (enc := GP) d.2 Z Z)) .nil)))) Le.rfl
noncomputable def Di (a : Int) (c : Int) (d : Int) : Option Bool :=
 ((bif decide (c <= a) then some (decide (a <= d)) else some false : Option (Bool))).bind fun (b : Bool) => some b
theorem HZ (b : Int) (c : Int) (d : Int) (r : Bool) (h : Di b c d = some r) : A4 Tryz.prog 154 [.int .i64 b, .int .i64 c, .int .i64 d] (· = .bool r) := by
 refine fn AA Tryz.func154 Z Z 15 Z [.tmp 6] Z [(0, .p (.int .i64 b)), (1, .p (.int .i64 c)), (2, .p (.int .i64 d))] Z Z fun A hA => ?_
 unfold Di at h
 refine rs AA <| rl Z <| jb (fun a : Bool => ⟨15, [(6, lb a)], [], 0⟩) h (fun a e => ?_) (fun a i => ?_)
 .refine rg AA <| rn 4 Z <| gs 10 e Z Z Z (fun f => ?_) (fun g => ?_)
  .exact rl Z <| AN f (wf hA [] Z Z Z)
  exact rl Z <| AN g (wf hA [] Z Z Z)
 refine AG ?_
 have hr := Option.some.inj i; subst hr
 exact er Z Le.rfl
noncomputable def ET (c : ByteArray) (b : Int) : Option (Int ⊕ Bool) :=
 bif decide (b < (c.size : Int)) then (Kv c b).bind fun a => ((bif decide (97 <= (a.toNat : Int)) then bif decide ((a.toNat : Int) <= 122) then some true else bif decide (65 <= (a.toNat : Int)) then some (decide ((a.toNat : Int) <= 90)) else some false else bif decide (65 <= (a.toNat : Int)) then some (decide ((a.toNat : Int) <= 90)) else some false : Option (Bool))).bind fun (d : Bool) => ((bif (!d) then bif (b == 0) then some true else bif decide ((a.toNat : Int) < 48) then some true else some (decide (57 < (a.toNat : Int))) else some false : Option (Bool))).bind fun (e : Bool) => bif e then some (.inr false) else some (.inl (AQ (b + 1))) else (((bif decide (1 <= (c.size : Int)) then some (decide ((c.size : Int) <= 8)) else some false : Option (Bool))).bind fun (f : Bool) => some f).map .inr
noncomputable def Fp (a : ByteArray) : Option Bool :=
 AO (ET a) 0
theorem Oo (b : ByteArray) (r : Bool) (h : Fp b = some r) : A4 Tryz.prog 155 [.str b] (· = .bool r) := by
 refine fn AA Tryz.func155 Z Z 51 Z [.tmp 2] Z [(0, .p (.str b))] Z Z fun A hA => ?_
 unfold Fp at h
 refine rs AA <| rl Z <| AB <| rs AA <| rl Z <| AH ?_
 apply lp (a := r) (fun c : Int => ⟨51, [(0, .p (.str b)), (3, li c)], [], 0⟩) h
 . exact wf hA [] Z Z Z
 intro c ar g
 unfold ET at g
 refine AB <| rs AA <| rl Z <| cd Z g (fun j => ?_) (fun ai => ?_)
 .refine AD <| AC <| AB <| AH <| rs AA <| rn 2 Z <| bq j fun ao i k => sx Z (Oh i Z Z Z <| rl Z <| jb (fun d : Bool => ⟨51, [(0, .p (.str b)), (3, li c), (4, .p (.int .u8 (ao.toNat : Int))), (5, lb d)], [], 0⟩) k (fun d l => ?_) (fun d w => ?_))
  .refine rg AA <| rn 3 Z <| gs 17 l Z Z Z (fun m => ?_) (fun t => ?_)
   .refine rn 4 Z <| gs 21 m Z Z Z (fun n => ?_) (fun o => ?_)
    .exact rl Z <| AN n (wf hA [] Z Z Z)
    refine rn 3 Z <| gs 24 o Z Z Z (fun q => ?_) (fun s => ?_)
    .exact rl Z <| AN q (wf hA [] Z Z Z)
    exact rl Z <| AN s (wf hA [] Z Z Z)
   refine rn 7 Z <| gs 24 t Z Z Z (fun u => ?_) (fun v => ?_)
   .exact rl Z <| AN u (wf hA [] Z Z Z)
   exact rl Z <| AN v (wf hA [] Z Z Z)
  refine jb (fun e : Bool => ⟨51, [(0, .p (.str b)), (3, li c), (42, lb e)], [], 0⟩) w (fun e x => ?_) (fun e ae => ?_)
  .refine rg AA <| rn 3 Z <| gs 31 x Z Z Z (fun y => ?_) (fun ad => ?_)
   .refine rn 3 Z <| gs 34 y Z Z Z (fun z => ?_) (fun aa => ?_)
    .exact rl Z <| AN z (wf hA [] Z Z Z)
    refine rn 4 Z <| gs 38 aa Z Z Z (fun ab => ?_) (fun ac => ?_)
    .exact rl Z <| AN ab (wf hA [] Z Z Z)
    exact rl Z <| AN ac (wf hA [] Z Z Z)
   exact rl Z <| AN ad (wf hA [] Z Z Z)
  refine cd Z ae (fun af => ?_) (fun ah => ?_)
  .refine rs AA <| rl Z <| AG <| AT <| AI <| A1 af fun ap ag => AT <| AI ?_
   cases ag
   exact er Z Le.rfl
  exact AD <| Ai <| AC <| rg AA <| rl Z <| Av ah (wf hA [] Z Z Z)
 refine AU <| Ab <| CW ai fun aq aj => Ao <| AC <| jb (fun f : Bool => ⟨51, [(2, lb f)], [], 0⟩) aj (fun f ak => ?_) (fun f an => ?_)
 .refine rg AA <| rn 4 Z <| gs 46 ak Z Z Z (fun al => ?_) (fun am => ?_)
  .exact rl Z <| AN al (wf hA [] Z Z Z)
  exact rl Z <| AN am (wf hA [] Z Z Z)
 refine AG ?_
 have hr := Option.some.inj an; subst hr
 exact er Z Le.rfl
noncomputable def H0 (a : Int) : Option Int :=
 bif (a == 1) then some 2 else bif (a == 2) then some 3 else bif (a == 3) then some 4 else bif (a == 4) then some 1 else some 0
theorem Oq (a : Int) (r : Int) (h : H0 a = some r) : A4 Tryz.prog 156 [.int .i64 a] (· = .int .i64 r) := by
 refine fn AA Tryz.func156 Z Z 12 Z [.tmp 2] Z [(0, .p (.int .i64 a))] Z Z fun A hA => ?_
 unfold H0 at h
 refine rs AA <| rl Z <| AB <| rs AA <| rl Z <| AH <| rs AA <| rl Z <| cd Z h (fun j => ?_) (fun b => ?_)
 .refine rs AA <| rl Z <| AG <| AT <| AI ?_
  cases j
  exact er Z Le.rfl
 refine rs AA <| rl Z <| cd Z b (fun c => ?_) (fun d => ?_)
 .refine rs AA <| rl Z <| AG <| AT <| AI ?_
  cases c
  exact er Z Le.rfl
 refine rs AA <| rl Z <| cd Z d (fun e => ?_) (fun f => ?_)
 .refine rs AA <| rl Z <| AG <| AT <| AI ?_
  cases e
  exact er Z Le.rfl
 refine rs AA <| rl Z <| cd Z f (fun g => ?_) (fun i => ?_)
 .refine rs AA <| rl Z <| AG <| AT <| AI ?_
  cases g
  exact er Z Le.rfl
 refine AD <| Ai <| AC <| rs AA <| rl Z <| AG ?_
 cases i
 exact er Z Le.rfl
noncomputable def EU (b : AM) (a : Int) : Option (Int ⊕ Bool) :=
 bif decide (a < (b.lines.length : Int)) then (Ak b.lines a).bind fun c => (Fp c.name).bind fun d => bif (!d) then some (.inr false) else some (.inl (AQ (a + 1))) else some (.inr true)
noncomputable def EV (b : AM) (a : Int) : Option (Int ⊕ Bool) :=
 bif decide (a < (b.signals.length : Int)) then (Ak b.signals a).bind fun c => (Fp c.name).bind fun d => bif (!d) then some (.inr false) else some (.inl (AQ (a + 1))) else (AO (EU b) 0).map .inr
noncomputable def FJ (c : AM) (b : Int) : Option (Int ⊕ Bool) :=
 bif decide (b < (c.elems.length : Int)) then (Ak c.elems b).bind fun a => (((Fp a.name).bind fun e => bif (!e) then some true else (H0 a.kind).bind fun f => bif (f == 0) then some true else bif (a.kind == 4) then bif (a.length != 0) then some true else bif (a.kind != 4) then (Di a.length 1 4000).bind fun g => some (!g) else some false else bif (a.kind != 4) then (Di a.length 1 4000).bind fun h => some (!h) else some false : Option (Bool))).bind fun (d : Bool) => bif d then some (.inr false) else some (.inl (AQ (b + 1))) else (AO (EV c) 0).map .inr
noncomputable def H2 (a : AM) : Option Bool :=
 (((Di a.top 1 60).bind fun c => bif (!c) then some true else (Di a.brake 1 10).bind fun d => bif (!d) then some true else (Di a.margin 1 4000).bind fun e => bif (!e) then some true else (Di a.throw 1 20).bind fun f => bif (!f) then some true else some ((a.elems.length : Int) == 0) : Option (Bool))).bind fun (b : Bool) => bif b then some false else AO (FJ a) 0
theorem Xb (b : AM) (r : Bool) (h : H2 b = some r) : A4 Tryz.prog 109 [.agg (Aa b)] (· = .bool r) := by
 refine fn AA Tryz.func109 Z Z 108 Z [.tmp 2] Z [(0, .p (.agg (Aa b)))] Z Z fun A hA => ?_
 unfold H2 at h
 refine rs AA <| rl Z <| AB <| jb (fun d : Bool => ⟨108, [(1, .lpb 0 0), (34, lb d)], [(0, bx (Aa b))], 1⟩) h (fun d aj => ?_) (fun d bo => ?_)
 .refine rg AA <| rn 2 Z <| bq aj fun cc q ak => sx Z (AS (HZ _ _ _ _ q) (.inl Z) Z Z Z <| rn 2 Z <| gs 11 ak Z Z Z (fun al => ?_) (fun am => ?_))
  .exact rl Z <| AN al (wf hA [(0, 0)] Z Z Z)
  refine rn 2 Z <| bq am fun ce s ao => sx Z (AS (HZ _ _ _ _ s) (.inl Z) Z Z Z <| rn 3 Z <| gs 17 ao Z Z Z (fun ap => ?_) (fun aq => ?_))
  .exact rl Z <| AN ap (wf hA [(0, 0)] Z Z Z)
  refine rn 2 Z <| bq aq fun cf t ar => sx Z (AS (HZ _ _ _ _ t) (.inl Z) Z Z Z <| rn 3 Z <| gs 23 ar Z Z Z (fun av => ?_) (fun aw => ?_))
  .exact rl Z <| AN av (wf hA [(0, 0)] Z Z Z)
  refine rn 2 Z <| bq aw fun cj x bc => sx Z (AS (HZ _ _ _ _ x) (.inl Z) Z Z Z <| rn 3 Z <| gs 29 bc Z Z Z (fun bl => ?_) (fun bn => ?_))
  .exact rl Z <| AN bl (wf hA [(0, 0)] Z Z Z)
  exact rn 2 Z <| sx Z (Al Z Z <| rl Z <| AN bn (wf hA [(0, 0)] Z Z Z))
 refine cd Z bo (fun bp => ?_) (fun br => ?_)
 .refine rs AA <| rl Z <| AG <| AI ?_
  cases bp
  exact er Z Le.rfl
 refine AD <| AC <| AB <| rs AA <| rl Z <| AH ?_
 apply lp (a := r) (fun c : Int => ⟨108, [(1, .lpb 0 0), (3, li c)], [(0, bx (Aa b))], 1⟩) br
 . exact wf hA [(0, 0)] Z Z Z
 intro c b7 f
 unfold FJ at f
 refine AB <| rs AA <| rn 3 Z <| sx Z (Al Z Z <| rl Z <| cd Z f (fun an => ?_) (fun bk => ?_))
 .refine AD <| AC <| AB <| AH <| rs AA <| rn 3 Z <| bq an fun cg u au => sx Z (Aj u Z Z Z <| rl Z <| jb (fun e : Bool => ⟨108, [(1, .lpb 0 0), (3, li c), (77, lb e)], [(0, bx (Aa b))], 1⟩) au (fun e ax => ?_) (fun e bg => ?_))
  .refine rg AA <| rn 2 Z <| bq ax fun ch v ay => sx Z (AS (Oo _ _ v) (.inl Z) Z Z Z <| rn 2 Z <| gs 51 ay Z Z Z (fun az => ?_) (fun a0 => ?_))
   .exact rl Z <| AN az (wf hA [(0, 0)] Z Z Z)
   refine rn 2 Z <| bq a0 fun ci w a1 => sx Z (AS (Oq _ _ w) (.inl Z) Z Z Z <| rn 3 Z <| gs 57 a1 Z Z Z (fun a2 => ?_) (fun a3 => ?_))
   .exact rl Z <| AN a2 (wf hA [(0, 0)] Z Z Z)
   refine rn 4 Z <| gs 61 a3 Z Z Z (fun a4 => ?_) (fun ba => ?_)
   .refine rn 6 Z <| gs 67 a4 Z Z Z (fun a5 => ?_) (fun a6 => ?_)
    .exact rl Z <| AN a5 (wf hA [(0, 0)] Z Z Z)
    refine rn 4 Z <| gs 71 a6 Z Z Z (fun a7 => ?_) (fun a9 => ?_)
    .exact rn 2 Z <| bq a7 fun ck y a8 => sx Z (AS (HZ _ _ _ _ y) (.inl Z) Z Z Z <| rl Z <| AN a8 (wf hA [(0, 0)] Z Z Z))
    exact rl Z <| AN a9 (wf hA [(0, 0)] Z Z Z)
   refine rn 10 Z <| gs 71 ba Z Z Z (fun bb => ?_) (fun bf => ?_)
   .exact rn 2 Z <| bq bb fun cl z be => sx Z (AS (HZ _ _ _ _ z) (.inl Z) Z Z Z <| rl Z <| AN be (wf hA [(0, 0)] Z Z Z))
   exact rl Z <| AN bf (wf hA [(0, 0)] Z Z Z)
  refine cd Z bg (fun bh => ?_) (fun bj => ?_)
  .refine rs AA <| rl Z <| AG <| AT <| AI <| A1 bh fun b5 bi => AT <| AI ?_
   cases bi
   exact er Z Le.rfl
  exact AD <| Ai <| AC <| rg AA <| rl Z <| Av bj (wf hA [(0, 0)] Z Z Z)
 refine AU <| Ab <| CW bk fun l bm => Ao <| AC <| AB <| rs AA <| rl Z <| AH ?_
 apply lp (a := l) (fun j : Int => ⟨108, [(1, .lpb 0 0), (5, li j)], [(0, bx (Aa b))], 1⟩) bm
 . exact wf hA [(0, 0)] Z Z Z
 intro j b8 g
 unfold EV at g
 refine AB <| rs AA <| rn 3 Z <| sx Z (Al Z Z <| rl Z <| cd Z g (fun bs => ?_) (fun b0 => ?_))
 .refine AD <| AC <| AB <| AH <| rs AA <| rn 3 Z <| bq bs fun cm aa bt => sx Z (Aj aa Z Z Z <| rn 2 Z <| bq bt fun cn ab bu => sx Z (AS (Oo _ _ ab) (.inl Z) Z Z Z <| rl Z <| cd Z bu (fun bv => ?_) (fun bz => ?_)))
  .refine rs AA <| rl Z <| AG <| AT <| AI <| A1 bv fun b6 bw => AT <| AI ?_
   cases bw
   exact er Z Le.rfl
  exact AD <| Ai <| AC <| rg AA <| rl Z <| Av bz (wf hA [(0, 0)] Z Z Z)
 refine AU <| Ab <| CW b0 fun m b1 => Ao <| AC <| AB <| rs AA <| rl Z <| AH ?_
 apply lp (a := m) (fun k : Int => ⟨108, [(1, .lpb 0 0), (6, li k)], [(0, bx (Aa b))], 1⟩) b1
 . exact wf hA [(0, 0)] Z Z Z
 intro k b9 i
 unfold EU at i
 refine AB <| rs AA <| rn 3 Z <| sx Z (Al Z Z <| rl Z <| cd Z i (fun b2 => ?_) (fun ah => ?_))
 .refine AD <| AC <| AB <| AH <| rs AA <| rn 3 Z <| bq b2 fun ca n ac => sx Z (Aj n Z Z Z <| rn 2 Z <| bq ac fun cb o ad => sx Z (AS (Oo _ _ o) (.inl Z) Z Z Z <| rl Z <| cd Z ad (fun ae => ?_) (fun ag => ?_)))
  .refine rs AA <| rl Z <| AG <| AT <| AI <| A1 ae fun b3 af => AT <| AI ?_
   cases af
   exact er Z Le.rfl
  exact AD <| Ai <| AC <| rg AA <| rl Z <| Av ag (wf hA [(0, 0)] Z Z Z)
 refine AU <| Ab <| BH ah fun b4 ai => Ao <| AC <| rs AA <| rl Z <| AG ?_
 cases ai
 exact er Z Le.rfl
noncomputable def Eo (c : (List ByteArray)) (a : Int) (b : Int) : Option (Int ⊕ (Int ⊕ Bool)) :=
 bif decide (b < a) then (Ak c a).bind fun d => (Ak c b).bind fun e => bif (d.toList == e.toList) then some (.inr (.inr true)) else some (.inl (AQ (b + 1))) else some (.inr (.inl (AQ (a + 1))))
noncomputable def Fe (b : (List ByteArray)) (a : Int) : Option (Int ⊕ Bool) :=
 bif decide (a < (b.length : Int)) then AO (Eo b a) 0 else some (.inr false)
noncomputable def Ex (a : (List ByteArray)) : Option Bool :=
 AO (Fe a) 0
theorem Nh (b : (List ByteArray)) (r : Bool) (h : Ex b = some r) : A4 Tryz.prog 110 [.slice 1 (b.map GP)] (· = .bool r) := by
 refine fn AA Tryz.func110 Z Z 25 Z [.tmp 2] Z [(0, .p (.slice 1 (b.map GP)))] Z Z fun A hA => ?_
 unfold Ex at h
 refine rs AA <| rl Z <| AB <| rs AA <| rl Z <| AH ?_
 apply lp (a := r) (fun c : Int => ⟨25, [(0, ls 1 GP b), (3, li c)], [], 0⟩) h
 . exact wf hA [] Z Z Z
 intro c g d
 unfold Fe at d
 refine AB <| rs AA <| rn 2 Z <| sx Z (Al Z Z <| rl Z <| cd Z d (fun k => ?_) (fun w => ?_))
 .refine AD <| AC <| AB <| AH <| rs AA <| rl Z <| AH ?_
  apply lp (a := g) (fun f : Int => ⟨25, [(0, ls 1 GP b), (3, li c), (4, li f)], [], 0⟩) k
  . exact wf hA [] Z Z Z
  intro f ac e
  unfold Eo at e
  refine AB <| rs AA <| rl Z <| cd Z e (fun l => ?_) (fun u => ?_)
  .refine AD <| AC <| AB <| AH <| AB ?_
   refine Bi AA Az [0, 1, 2, 3, 4, 5, 6, 7, 8] 9 (by kernel_rfl) Z Z Z ?_
   refine Am 2 Z <| bq l fun ad i m => An Z (AZ Z (Aj i Z Z Z <| Am 3 Z <| bq m fun ae j n => An Z (AZ Z (Aj j Z Z Z <| A0 Z <| AC <| cd Z n (fun o => ?_) (fun t => ?_)))))
   .refine rs AA <| rl Z <| AG <| AT <| AI <| A1 o fun y q => AT <| AT <| AI <| A1 q fun z s => AT <| AI ?_
    cases s
    exact er Z Le.rfl
   exact AD <| Ai <| AC <| rg AA <| rl Z <| Av t (wf hA [] Z Z Z)
  exact AU <| Ab <| BH u fun aa v => Ao <| Ai <| AC <| rg AA <| rl Z <| Av v (wf hA [] Z Z Z)
 refine AU <| Ab <| BH w fun ab x => Ao <| AC <| rs AA <| rl Z <| AG ?_
 cases x
 exact er Z Le.rfl
end Go.E
/- Plain functions, and walks in step with them. Written by a program (gen.py). No condition. -/
set_option maxRecDepth 100000
namespace Go.E
open Go Go.RowKit Go.Proofs
noncomputable def JA (b : AM) (a : AF) : Option Bool :=
 ((bif decide (0 <= a.elem) then bif decide (a.elem < (b.elems.length : Int)) then bif decide (0 <= a.fin) then (Ak b.elems a.elem).bind fun d => (H0 d.kind).bind fun e => some (decide (a.fin < e)) else some false else some false else some false : Option (Bool))).bind fun (c : Bool) => some c
theorem QI (b : AM) (c : AF) (r : Bool) (h : JA b c = some r) : A4 Tryz.prog 157 [.agg (Aa b), .agg (AK c)] (· = .bool r) := by
 refine fn AA Tryz.func157 Z Z 34 Z [.tmp 4] Z [(0, .p (.agg (Aa b))), (1, .p (.agg (AK c)))] Z Z fun A hA => ?_
 unfold JA at h
 refine rs AA <| rl Z <| jb (fun a : Bool => ⟨34, [(4, lb a)], [], 0⟩) h (fun a f => ?_) (fun a q => ?_)
 .refine Bi AA Az [0, 1, 2, 3, 4, 5, 6, 7, 8, 9, 10, 11, 12, 13, 14, 15, 16, 17, 18, 19, 20, 21, 22, 23, 24, 25, 26, 27, 28, 29] 30 (by kernel_rfl) Z Z Z ?_
  refine Am 4 Z <| Dk 8 f Z Z Z (fun g => ?_) (fun o => ?_)
  .refine Am 4 Z <| An Z (Og Z Z <| Am 3 Z <| Dk 16 g Z Z Z (fun i => ?_) (fun n => ?_))
   .refine Am 5 Z <| Dk 21 i Z Z Z (fun j => ?_) (fun m => ?_)
    .exact Am 6 Z <| bq j fun s d k => An Z (AZ Z (Aj d Z Z Z <| Am 2 Z <| bq k fun t e l => An Z (BA (Oq _ _ e) (.inl Z) Z Z Z <| A0 Z <| AN l (wf hA [] Z Z Z))))
    exact A0 Z <| AN m (wf hA [] Z Z Z)
   exact A0 Z <| AN n (wf hA [] Z Z Z)
  exact A0 Z <| AN o (wf hA [] Z Z Z)
 refine AG ?_
 have hr := Option.some.inj q; subst hr
 exact er Z Le.rfl
noncomputable def Ji (d : AM) (e : AF) (c : Int) : Option (Int ⊕ (AF × Bool)) :=
 bif decide (c < (d.joins.length : Int)) then (Ak d.joins c).bind fun f => bif (f.a == e) then (Ak d.joins c).bind fun g => some (.inr (g.b, true)) else (Ak d.joins c).bind fun h => bif (h.b == e) then (Ak d.joins c).bind fun i => some (.inr (i.a, true)) else some (.inl (AQ (c + 1))) else some (.inr ((⟨0, 0⟩ : AF), false))
noncomputable def CK (a : AM) (b : AF) : Option (AF × Bool) :=
 AO (Ji a b) 0
theorem Cs (d : AM) (c : AF) (r : (AF × Bool)) (h : CK d c = some r) : A4 Tryz.prog 104 [.agg (Aa d), .agg (AK c)] (· = .tup [.agg (AK r.1), .bool r.2]) := by
 refine fn AA Tryz.func104 Z Z 43 Z [.cell 4 96, .tmp 5] Z [(0, .p (.agg (Aa d))), (1, .p (.agg (AK c)))] Z Z fun A hA => ?_
 unfold CK at h
 refine rs AA <| rl Z <| AB <| rs AA <| rl Z <| AH ?_
 apply lp (a := r) (fun f : Int => ⟨43, [(2, .lpb 0 0), (3, .lpb 1 0), (4, .lpb 2 0), (6, li f)], [(0, bx (Aa d)), (1, .box [li c.elem, li c.fin]), (2, .box [li 0, li 0])], 3⟩) h
 . exact wf hA (gi 3 []) Z Z Z
 intro f af e
 unfold Ji at e
 refine AB <| rs AA <| rn 3 Z <| sx Z (Al Z Z <| rl Z <| cd Z e (fun l => ?_) (fun y => ?_))
 .refine AD <| AC <| AB <| AH <| AB <| AB ?_
  refine Bi AA Az [0, 1, 2, 3, 4, 5, 6, 7] 8 (by kernel_rfl) Z Z Z ?_
  refine Am 3 Z <| bq l fun aa g m => An Z (AZ Z (Aj g Z Z Z <| Am 3 Z <| An Z (Lf (I9 aa.a c) Z Z Z Z Z <| A0 Z <| AC <| cd Z m (fun n => ?_) (fun s => ?_))))
  .refine rs AA <| rn 3 Z <| bq n fun ag i o => sx Z (Aj i Z Z Z <| rl Z <| AG <| AI <| AT <| AI <| A1 o fun ac q => AT <| AI ?_)
   cases q
   exact er Z Le.rfl
  refine AD <| AC <| AB ?_
  refine Bi AA Az [0, 1, 2, 3, 4, 5, 6, 7] 8 (by kernel_rfl) Z Z Z ?_
  refine Am 3 Z <| bq s fun ab j t => An Z (AZ Z (Aj j Z Z Z <| Am 3 Z <| An Z (Lf (I9 ab.b c) Z Z Z Z Z <| A0 Z <| AC <| cd Z t (fun u => ?_) (fun x => ?_))))
  .refine rs AA <| rn 3 Z <| bq u fun ah k v => sx Z (Aj k Z Z Z <| rl Z <| AG <| AT <| AI <| A1 v fun ad w => AT <| AI ?_)
   cases w
   exact er Z Le.rfl
  exact AD <| Ai <| AC <| rg AA <| rl Z <| Av x (wf hA (gi 3 []) Z Z Z)
 refine AU <| Ab <| BH y fun ae z => Ao <| AC <| rs AA <| rl Z <| AG ?_
 cases z
 exact er Z Le.rfl
noncomputable def Du (b : AM) (a : Int) : Option Int :=
 ((bif decide (a < 0) then some true else some (decide ((b.elems.length : Int) <= a)) : Option (Bool))).bind fun (c : Bool) => bif c then some 0 else (Ak b.elems a).bind fun d => some d.kind
theorem Gj (a : AM) (b : Int) (r : Int) (h : Du a b = some r) : A4 Tryz.prog 144 [.agg (Aa a), .int .i64 b] (· = .int .i64 r) := by
 refine fn AA Tryz.func144 Z Z 20 Z [.tmp 4] Z [(0, .p (.agg (Aa a))), (1, .p (.int .i64 b))] Z Z fun A hA => ?_
 unfold Du at h
 refine rs AA <| rl Z <| AB <| jb (fun c : Bool => ⟨20, [(1, li b), (2, .lpb 0 0), (13, lb c)], [(0, bx (Aa a))], 1⟩) h (fun c e => ?_) (fun c i => ?_)
 .refine rg AA <| rn 3 Z <| gs 7 e Z Z Z (fun f => ?_) (fun g => ?_)
  .exact rl Z <| AN f (wf hA [(0, 0)] Z Z Z)
  exact rn 3 Z <| sx Z (Al Z Z <| rl Z <| AN g (wf hA [(0, 0)] Z Z Z))
 refine cd Z i (fun j => ?_) (fun k => ?_)
 .refine rs AA <| rl Z <| AG <| AI ?_
  cases j
  exact er Z Le.rfl
 refine AD <| AC <| rs AA <| rn 3 Z <| bq k fun m d l => sx Z (Aj d Z Z Z <| rl Z <| AG ?_)
 cases l
 exact er Z Le.rfl
noncomputable def D8 (c : (Int × (List AF))) (b : Int) (a : Int) : Option (Int ⊕ (Int ⊕ Bool)) :=
 bif decide (a < b) then (Ak c.2 a).bind fun d => (Ak c.2 b).bind fun e => bif (d == e) then some (.inr (.inr false)) else some (.inl (AQ (a + 1))) else some (.inr (.inl (AQ (b + 1))))
noncomputable def Dd (b : AM) (a : Int) : Option (Int ⊕ Bool) :=
 bif decide (a < (b.elems.length : Int)) then FG (((Ak b.elems a).bind fun e => bif (e.kind == 4) then (CK b (⟨a, 0⟩ : AF)).bind fun c => ((bif (!c.2) then some true else (Du b c.1.elem).bind fun f => some (f == 4) : Option (Bool))).bind fun (d : Bool) => bif d then some (.inr (.inr false)) else some (.inl ()) else some (.inl ()) : Option (Unit ⊕ (Int ⊕ Bool)))) fun (g : Unit) => some (.inl (AQ (a + 1))) else some (.inr true)
noncomputable def De (c : AM) (a : (Int × (List AF))) (b : Int) : Option (Int ⊕ Bool) :=
 bif decide (b < (a.2.length : Int)) then (Ak a.2 b).bind fun d => (JA c d).bind fun e => bif (!e) then some (.inr false) else AO (D8 a b) 0 else (AO (Dd c) 0).map .inr
noncomputable def D9 (d : AM) (c : Int × (List AF)) : Option ((Int × (List AF)) ⊕ Bool) :=
 bif decide (c.1 < (d.joins.length : Int)) then (Ak d.joins c.1).bind fun e => (Ak d.joins c.1).bind fun f => (BE c.2 [e.a, f.b]).bind fun g => some (.inl (AQ (c.1 + 1), g)) else (AO (De d c) 0).map .inr
noncomputable def F8 (a : AM) : Option Bool :=
 AO (D9 a) (0, ([] : List AF))
theorem VP (d : AM) (r : Bool) (h : F8 d = some r) : A4 Tryz.prog 111 [.agg (Aa d)] (· = .bool r) := by
 refine fn AA Tryz.func111 Z Z 89 Z [.tmp 2] Z [(0, .p (.agg (Aa d)))] Z Z fun A hA => ?_
 unfold F8 at h
 refine rs AA <| rl Z <| rs AA <| rl Z <| AB <| rs AA <| rl Z <| AH ?_
 apply lp (a := r) (fun c : (Int × (List AF)) => ⟨89, [(1, .lpb 0 0), (3, .lsl 1 2 0 c.2.length), (4, li c.1)], [(0, bx (Aa d)), (1, .row 96 2 (c.2.map AK))], 2⟩) h
 . exact A9.trans (By 3 96 2 Z) (wf hA [(0, 0), (1, 1)] Z Z Z)
 intro c b2 o
 unfold D9 at o
 refine AB <| rs AA <| rn 3 Z <| sx Z (Al Z Z <| rl Z <| cd Z o (fun ag => ?_) (fun aw => ?_))
 .refine AD <| AC <| AB <| AH ?_
  refine Bi AA Az [0, 1, 2, 3, 4, 5, 6, 7, 8, 9, 10, 11, 12, 13, 14, 15] 16 (by kernel_rfl) Z Z Z ?_
  exact Am 4 Z <| bq ag fun bo z am => An Z (AZ Z (Aj z Z Z Z <| Am 5 Z <| bq am fun bp aa an => An Z (AZ Z (Aj aa Z Z Z <| Am 3 Z <| bq an fun b7 ab ap => An Z (BY (Ax (enc := AK) (l := c.2) (m := [bo.a, bp.b]) ab (fun _ => ⟨Z, Z⟩) Z Z Z Z Z Z <| A0 Z <| Ai <| AC <| rg AA <| rl Z <| Av ap (wf hA [(0, 0), (1, 16)] Z Z Z)))))))
 refine AU <| Ab <| CW aw fun v a3 => Ao <| AC <| AB <| rs AA <| rl Z <| AH ?_
 apply lp (a := v) (fun f : Int => ⟨89, [(1, .lpb 0 0), (3, .lsl 1 2 0 c.2.length), (5, li f)], [(0, bx (Aa d)), (1, .row 96 2 (c.2.map AK))], 2⟩) a3
 . exact wf hA [(0, 0), (1, 1)] Z Z Z
 intro f w n
 unfold De at n
 refine AB <| rs AA <| rl Z <| cd Z n (fun af => ?_) (fun a1 => ?_)
 .refine AD <| AC <| AB <| AH <| AB <| AB ?_
  refine Bi AA Az [0, 1, 2, 3, 4, 5, 6] 7 (by kernel_rfl) Z Z Z ?_
  refine Am 3 Z <| bq af fun b5 i ah => An Z (AZ Z (B4 i Z Z Z Z <| An Z (Hy Z (DM i Z Z Z <| bq ah fun b6 y ai => An Z (BA (QI _ _ _ y) (.inl Z) Z Z Z <| A0 Z <| AC <| cd Z ai (fun aj => ?_) (fun al => ?_))))))
  .refine rs AA <| rl Z <| AG <| AI <| AT <| AI <| A1 aj fun bt ak => AT <| AI ?_
   cases ak
   exact er Z Le.rfl
  refine AD <| AC <| rs AA <| rl Z <| AH ?_
  apply lp (a := w) (fun t : Int => ⟨89, [(1, .lpb 0 0), (3, .lsl 1 2 0 c.2.length), (5, li f), (6, li t)], [(0, bx (Aa d)), (1, .row 96 2 (c.2.map AK))], 2⟩) al
  . exact wf hA [(0, 0), (1, 1)] Z Z Z
  intro t b3 q
  unfold D8 at q
  refine AB <| rs AA <| rl Z <| cd Z q (fun ao => ?_) (fun az => ?_)
  .refine AD <| AC <| AB <| AH <| AB ?_
   refine Bi AA Az [0, 1, 2, 3, 4, 5, 6, 7, 8] 9 (by kernel_rfl) Z Z Z ?_
   refine Am 2 Z <| bq ao fun br j aq => An Z (AZ Z (B4 j Z Z Z Z <| An Z (Hy Z (DM j Z Z Z <| Am 2 Z <| bq aq fun bs k ar => An Z (AZ Z (B4 k Z Z Z Z <| An Z (Hy Z (DM k Z Z Z <| An Z (Lf (I9 br bs) Z Z Z Z Z <| A0 Z <| AC <| cd Z ar (fun au => ?_) (fun ay => ?_))))))))))
   .refine rs AA <| rl Z <| AG <| AT <| AI <| A1 au fun bu av => AT <| AT <| AI <| A1 av fun bv ax => AT <| AI ?_
    cases ax
    exact er Z Le.rfl
   exact AD <| Ai <| AC <| rg AA <| rl Z <| Av ay (wf hA [(0, 0), (1, 1)] Z Z Z)
  exact AU <| Ab <| BH az fun bw a0 => Ao <| Ai <| AC <| rg AA <| rl Z <| Av a0 (wf hA [(0, 0), (1, 1)] Z Z Z)
 refine AU <| Ab <| CW a1 fun u a2 => Ao <| AC <| AB <| rs AA <| rl Z <| AH ?_
 apply lp (a := u) (fun e : Int => ⟨89, [(1, .lpb 0 0), (7, li e)], [(0, bx (Aa d))], 1⟩) a2
 . exact wf hA [(0, 0)] Z Z Z
 intro e x s
 unfold Dd at s
 refine AB <| rs AA <| rn 3 Z <| sx Z (Al Z Z <| rl Z <| cd Z s (fun a4 => ?_) (fun bl => ?_))
 .refine AD <| AC ?_
  apply jn (a := x) (fun bn : Unit => ⟨89, [(1, .lpb 0 0), (7, li e)], [(0, bx (Aa d))], 1⟩) a4
  .intro b4 a5
   refine AH <| rs AA <| rn 3 Z <| bq a5 fun b8 ac a6 => sx Z (Aj ac Z Z Z <| rl Z <| cd Z a6 (fun a7 => ?_) (fun bj => ?_))
   .refine rs AA <| rn 3 Z <| bq a7 fun b9 ad a8 => sx Z (AS (Cs _ _ _ ad) (.inl Z) Z Z Z <| rl Z <| jb (fun g : Bool => ⟨89, [(1, .lpb 0 0), (7, li e), (88, lb g)], [(0, bx (Aa d))], 1⟩) a8 (fun g a9 => ?_) (fun g be => ?_))
    .refine rg AA <| rn 3 Z <| gs 82 a9 Z Z Z (fun ba => ?_) (fun bb => ?_)
     .exact rl Z <| AN ba (wf hA [(0, 0)] Z Z Z)
     exact rn 3 Z <| bq bb fun ca ae bc => sx Z (AS (Gj _ _ _ ae) (.inl Z) Z Z Z <| rl Z <| AN bc (wf hA [(0, 0)] Z Z Z))
    refine cd Z be (fun bf => ?_) (fun bi => ?_)
    .refine rs AA <| rl Z <| AG <| AT <| A1 bf fun bz bg => A1 bg fun b0 bh => AT <| AI ?_
     cases bh
     exact er Z Le.rfl
    exact AD <| Ai <| Av bi (wf hA [(0, 0)] Z Z Z)
   exact AD <| Ai <| Av bj (wf hA [(0, 0)] Z Z Z)
  intro bn bk
  exact rg AA <| rl Z <| Av bk (wf hA [(0, 0)] Z Z Z)
 refine AU <| Ab <| BH bl fun b1 bm => Ao <| AC <| rs AA <| rl Z <| AG ?_
 cases bm
 exact er Z Le.rfl
noncomputable def I0 (b : AM) (c : AF) (a : Int) : Option (Int ⊕ Int) :=
 bif decide (a < (b.signals.length : Int)) then (Ak b.signals a).bind fun d => bif (d.at_ == c) then some (.inr a) else some (.inl (AQ (a + 1))) else some (.inr (-1))
noncomputable def Dl (a : AM) (b : AF) : Option Int :=
 AO (I0 a b) 0
theorem G1 (c : AM) (b : AF) (r : Int) (h : Dl c b = some r) : A4 Tryz.prog 146 [.agg (Aa c), .agg (AK b)] (· = .int .i64 r) := by
 refine fn AA Tryz.func146 Z Z 22 Z [.tmp 4] Z [(0, .p (.agg (Aa c))), (1, .p (.agg (AK b)))] Z Z fun A hA => ?_
 unfold Dl at h
 refine rs AA <| rl Z <| AB <| rs AA <| rl Z <| AH ?_
 apply lp (a := r) (fun e : Int => ⟨22, [(2, .lpb 0 0), (3, .lpb 1 0), (5, li e)], [(0, bx (Aa c)), (1, .box [li b.elem, li b.fin])], 2⟩) h
 . exact wf hA [(0, 0), (1, 1)] Z Z Z
 intro e t d
 unfold I0 at d
 refine AB <| rs AA <| rn 3 Z <| sx Z (Al Z Z <| rl Z <| cd Z d (fun n => ?_) (fun l => ?_))
 .refine AD <| AC <| AB <| AH <| AB ?_
  refine Bi AA Az [0, 1, 2, 3, 4, 5, 6, 7] 8 (by kernel_rfl) Z Z Z ?_
  refine Am 3 Z <| bq n fun o f g => An Z (AZ Z (Aj f Z Z Z <| Am 3 Z <| An Z (Lf (I9 o.at_ b) Z Z Z Z Z <| A0 Z <| AC <| cd Z g (fun i => ?_) (fun k => ?_))))
  .refine rs AA <| rl Z <| AG <| AT <| AI <| A1 i fun q j => AT <| AI ?_
   have hr := Option.some.inj j; subst hr
   exact er Z Le.rfl
  exact AD <| Ai <| AC <| rg AA <| rl Z <| Av k (wf hA [(0, 0), (1, 1)] Z Z Z)
 refine AU <| Ab <| BH l fun s m => Ao <| AC <| rs AA <| rl Z <| AG ?_
 cases m
 exact er Z Le.rfl
noncomputable def DN (b : AM) (a : Int) : Option (Int ⊕ Bool) :=
 bif decide (a < (b.elems.length : Int)) then (((Ak b.elems a).bind fun d => bif (d.kind == 4) then (Dl b (⟨a, 0⟩ : AF)).bind fun e => some (decide (e < 0)) else some false : Option (Bool))).bind fun (c : Bool) => bif c then some (.inr false) else some (.inl (AQ (a + 1))) else some (.inr true)
noncomputable def Ek (a : AM) (b : Int) : Option (Int ⊕ Bool) :=
 bif decide (b < (a.signals.length : Int)) then (Ak a.signals b).bind fun c => (Du a c.at_.elem).bind fun d => (((JA a c.at_).bind fun h => bif (!h) then some true else bif (d != 1) then some (d != 4) else some false : Option (Bool))).bind fun (f : Bool) => bif f then some (.inr false) else (CK a c.at_).bind fun e => ((bif (!e.2) then some true else (Du a e.1.elem).bind fun i => bif (i == 4) then some true else (Dl a c.at_).bind fun j => some (j != b) : Option (Bool))).bind fun (g : Bool) => bif g then some (.inr false) else some (.inl (AQ (b + 1))) else (AO (DN a) 0).map .inr
noncomputable def FT (a : AM) : Option Bool :=
 AO (Ek a) 0
theorem UM (b : AM) (r : Bool) (h : FT b = some r) : A4 Tryz.prog 112 [.agg (Aa b)] (· = .bool r) := by
 refine fn AA Tryz.func112 Z Z 81 Z [.tmp 2] Z [(0, .p (.agg (Aa b)))] Z Z fun A hA => ?_
 unfold FT at h
 refine rs AA <| rl Z <| AB <| rs AA <| rl Z <| AH ?_
 apply lp (a := r) (fun c : Int => ⟨81, [(1, .lpb 0 0), (3, li c)], [(0, bx (Aa b))], 1⟩) h
 . exact wf hA [(0, 0)] Z Z Z
 intro c bh j
 unfold Ek at j
 refine AB <| rs AA <| rn 3 Z <| sx Z (Al Z Z <| rl Z <| cd Z j (fun ai => ?_) (fun a9 => ?_))
 .refine AD <| AC <| AB <| AH <| rs AA <| rn 3 Z <| bq ai fun k o aj => sx Z (Aj o Z Z Z <| rl Z <| rs AA <| rn 3 Z <| bq aj fun bk q ak => sx Z (AS (Gj _ _ _ q) (.inl Z) Z Z Z <| rl Z <| AB <| jb (fun f : Bool => ⟨81, [(1, .lpb 0 0), (3, li c), (4, .lpb 1 0), (37, lb f)], [(0, bx (Aa b)), (1, .box [li k.at_.elem, li k.at_.fin])], 2⟩) ak (fun f al => ?_) (fun f ar => ?_)))
  .refine rg AA <| rn 2 Z <| bq al fun bl s am => sx Z (AS (QI _ _ _ s) (.inl Z) Z Z Z <| rn 2 Z <| gs 30 am Z Z Z (fun an => ?_) (fun ao => ?_))
   .exact rl Z <| AN an (wf hA [(0, 0), (1, 1)] Z Z Z)
   refine rn 3 Z <| gs 33 ao Z Z Z (fun ap => ?_) (fun aq => ?_)
   .exact rl Z <| AN ap (wf hA [(0, 0), (1, 1)] Z Z Z)
   exact rl Z <| AN aq (wf hA [(0, 0), (1, 1)] Z Z Z)
  refine cd Z ar (fun au => ?_) (fun aw => ?_)
  .refine rs AA <| rl Z <| AG <| AI <| AT <| AI <| A1 au fun be av => AT <| AI ?_
   cases av
   exact er Z Le.rfl
  refine AD <| AC <| rs AA <| rn 2 Z <| bq aw fun bm t ax => sx Z (AS (Cs _ _ _ t) (.inl Z) Z Z Z <| rl Z <| jb (fun g : Bool => ⟨81, [(1, .lpb 0 0), (3, li c), (59, lb g)], [(0, bx (Aa b))], 1⟩) ax (fun g ay => ?_) (fun g a5 => ?_))
  .refine rg AA <| rn 3 Z <| gs 46 ay Z Z Z (fun az => ?_) (fun a0 => ?_)
   .exact rl Z <| AN az (wf hA [(0, 0)] Z Z Z)
   refine rn 3 Z <| bq a0 fun bn u a1 => sx Z (AS (Gj _ _ _ u) (.inl Z) Z Z Z <| rn 3 Z <| gs 53 a1 Z Z Z (fun a2 => ?_) (fun a3 => ?_))
   .exact rl Z <| AN a2 (wf hA [(0, 0)] Z Z Z)
   exact rn 2 Z <| bq a3 fun bo v a4 => sx Z (AS (G1 _ _ _ v) (.inl Z) Z Z Z <| rl Z <| AN a4 (wf hA [(0, 0)] Z Z Z))
  refine cd Z a5 (fun a6 => ?_) (fun a8 => ?_)
  .refine rs AA <| rl Z <| AG <| AT <| AI <| A1 a6 fun bf a7 => AT <| AI ?_
   cases a7
   exact er Z Le.rfl
  exact AD <| Ai <| AC <| rg AA <| rl Z <| Av a8 (wf hA [(0, 0)] Z Z Z)
 refine AU <| Ab <| CW a9 fun l ba => Ao <| AC <| AB <| rs AA <| rl Z <| AH ?_
 apply lp (a := l) (fun d : Int => ⟨81, [(1, .lpb 0 0), (8, li d)], [(0, bx (Aa b))], 1⟩) ba
 . exact wf hA [(0, 0)] Z Z Z
 intro d bg i
 unfold DN at i
 refine AB <| rs AA <| rn 3 Z <| sx Z (Al Z Z <| rl Z <| cd Z i (fun w => ?_) (fun ag => ?_))
 .refine AD <| AC <| AB <| AH <| jb (fun e : Bool => ⟨81, [(1, .lpb 0 0), (8, li d), (80, lb e)], [(0, bx (Aa b))], 1⟩) w (fun e x => ?_) (fun e ac => ?_)
  .refine rg AA <| rn 3 Z <| bq x fun bi m y => sx Z (Aj m Z Z Z <| rn 4 Z <| gs 74 y Z Z Z (fun z => ?_) (fun ab => ?_))
   .exact rn 3 Z <| bq z fun bj n aa => sx Z (AS (G1 _ _ _ n) (.inl Z) Z Z Z <| rl Z <| AN aa (wf hA [(0, 0)] Z Z Z))
   exact rl Z <| AN ab (wf hA [(0, 0)] Z Z Z)
  refine cd Z ac (fun ad => ?_) (fun af => ?_)
  .refine rs AA <| rl Z <| AG <| AT <| AI <| A1 ad fun bb ae => AT <| AI ?_
   cases ae
   exact er Z Le.rfl
  exact AD <| Ai <| AC <| rg AA <| rl Z <| Av af (wf hA [(0, 0)] Z Z Z)
 refine AU <| Ab <| BH ag fun bc ah => Ao <| AC <| rs AA <| rl Z <| AG ?_
 cases ah
 exact er Z Le.rfl
noncomputable def EH (b : (List Int)) (c : Int) (a : Int) : Option (Int ⊕ Bool) :=
 bif decide (a < (b.length : Int)) then (Ak b a).bind fun d => bif (d == c) then some (.inr true) else some (.inl (AQ (a + 1))) else some (.inr false)
noncomputable def C0 (a : (List Int)) (b : Int) : Option Bool :=
 AO (EH a b) 0
theorem Ha (b : (List Int)) (c : Int) (r : Bool) (h : C0 b c = some r) : A4 Tryz.prog 16 [.slice 1 (b.map AY), .int .i64 c] (· = .bool r) := by
 refine fn AA Tryz.func16 Z Z 18 Z [.tmp 4] Z [(0, .p (.slice 1 (b.map AY))), (1, .p (.int .i64 c))] Z Z fun A hA => ?_
 unfold C0 at h
 refine rs AA <| rl Z <| AB <| rs AA <| rl Z <| AH ?_
 apply lp (a := r) (fun e : Int => ⟨18, [(0, ls 1 AY b), (1, li c), (5, li e)], [], 0⟩) h
 . exact wf hA [] Z Z Z
 intro e s d
 unfold EH at d
 refine AB <| rs AA <| rn 2 Z <| sx Z (Al Z Z <| rl Z <| cd Z d (fun n => ?_) (fun l => ?_))
 .refine AD <| AC <| AB <| AH <| rs AA <| rn 2 Z <| bq n fun t f g => sx Z (Aj f Z Z Z <| rl Z <| cd Z g (fun i => ?_) (fun k => ?_))
  .refine rs AA <| rl Z <| AG <| AT <| AI <| A1 i fun o j => AT <| AI ?_
   cases j
   exact er Z Le.rfl
  exact AD <| Ai <| AC <| rg AA <| rl Z <| Av k (wf hA [] Z Z Z)
 refine AU <| Ab <| BH l fun q m => Ao <| AC <| rs AA <| rl Z <| AG ?_
 cases m
 exact er Z Le.rfl
noncomputable def Df (e : AM) (c : (List Int)) (a : Int × Int × (List Int)) : Option ((Int × Int × (List Int)) ⊕ ((List Int) × Bool)) :=
 bif decide (a.2.1 < (c.length : Int)) then (Ak c (AQ (a.2.1 - 1))).bind fun f => (CK e (⟨f, a.1⟩ : AF)).bind fun b => ((bif (!b.2) then some true else (Ak c a.2.1).bind fun g => some (b.1.elem != g) : Option (Bool))).bind fun (d : Bool) => bif d then some (.inr ([], false)) else (BE a.2.2 [b.1.fin]).bind fun h => some (.inl (AQ (1 - b.1.fin), AQ (a.2.1 + 1), h)) else some (.inr (a.2.2, true))
noncomputable def CD (c : AM) (b : (List Int)) (a : Int × Int) : Option ((Int × Int) ⊕ ((List Int) × Bool)) :=
 bif decide (0 <= a.2) then (((Ak b 0).bind fun g => (CK c (⟨g, a.2⟩ : AF)).bind fun d => ((bif d.2 then (Ak b 1).bind fun h => some (d.1.elem == h) else some false : Option (Bool))).bind fun (f : Bool) => bif f then some a.2 else some a.1 : Option (Int))).bind fun (e : Int) => some (.inl (e, AQ (a.2 - 1))) else (bif decide (a.1 < 0) then some ([], false) else AO (Df c b) (a.1, 1, [AQ (1 - a.1)])).map .inr
noncomputable def FA (c : AM) (a : (List Int)) (b : Int) : Option (Int ⊕ ((List Int) × Bool)) :=
 bif decide (b < (a.length : Int)) then (Ak a b).bind fun d => (Du c d).bind fun e => bif (e != 1) then some (.inr ([], false)) else some (.inl (AQ (b + 1))) else (bif ((a.length : Int) == 1) then some ([0], true) else AO (CD c a) ((-1), 1)).map .inr
noncomputable def F9 (b : AM) (a : (List Int)) : Option ((List Int) × Bool) :=
 bif ((a.length : Int) == 0) then some ([], false) else AO (FA b a) 0
theorem VQ (c : AM) (d : (List Int)) (r : ((List Int) × Bool)) (h : F9 c d = some r) : A4 Tryz.prog 158 [.agg (Aa c), .slice 1 (d.map AY)] (· = .tup [.slice 1 (r.1.map AY), .bool r.2]) := by
 refine fn AA Tryz.func158 Z Z 102 Z [.tmp 4, .tmp 5] Z [(0, .p (.agg (Aa c))), (1, .p (.slice 1 (d.map AY)))] Z Z fun A hA => ?_
 unfold F9 at h
 refine rs AA <| rl Z <| AB <| rs AA <| rn 1 Z <| sx Z (Al Z Z <| rl Z <| cd Z h (fun an => ?_) (fun ao => ?_))
 .refine rs AA <| rl Z <| AG <| AI ?_
  cases an
  exact er Z (Le.tup' (.cons (Le.nil _) (.cons Le.rfl .nil)))
 refine AD <| AC <| AB <| rs AA <| rl Z <| AH ?_
 apply lp (a := r) (fun q : Int => ⟨102, [(1, ls 1 AY d), (2, .lpb 0 0), (6, li q)], [(0, bx (Aa c))], 1⟩) ao
 . exact wf hA [(0, 0)] Z Z Z
 intro q bp k
 unfold FA at k
 refine AB <| rs AA <| rn 2 Z <| sx Z (Al Z Z <| rl Z <| cd Z k (fun ad => ?_) (fun aj => ?_))
 .refine AD <| AC <| AB <| AH <| AB ?_
  refine Bi AA Az [0, 1, 2, 3, 4, 5, 6] 7 (by kernel_rfl) Z Z Z ?_
  refine Am 3 Z <| bq ad fun bt u ae => An Z (AZ Z (Aj u Z Z Z <| Am 1 Z <| bq ae fun bu v af => An Z (BA (Gj _ _ _ v) (.inl Z) Z Z Z <| A0 Z <| AC <| cd Z af (fun ag => ?_) (fun ai => ?_))))
  .refine rs AA <| rl Z <| AG <| AT <| AI <| A1 ag fun bm ah => AT <| AI ?_
   cases ah
   exact er Z (Le.tup' (.cons (Le.nil _) (.cons Le.rfl .nil)))
  exact AD <| Ai <| AC <| rg AA <| rl Z <| Av ai (wf hA [(0, 0)] Z Z Z)
 refine AU <| Ab <| CW aj fun s ak => Ao <| AC <| AB <| rs AA <| rn 1 Z <| sx Z (Al Z Z <| rl Z <| cd Z ak (fun al => ?_) (fun am => ?_))
 .refine rs AA <| rl Z <| AG <| AI ?_
  cases al
  exact er (SY Z (.cons (.one (.own (enc := AY) ([0] : List Int) Z Z)) (.cons (.one (.p _)) .nil))) Le.rfl
 refine AD <| AC <| rs AA <| rl Z <| AB <| rs AA <| rl Z <| AH ?_
 apply lp (a := s) (fun e : (Int × Int) => ⟨102, [(1, ls 1 AY d), (2, .lpb 0 0), (7, li e.1), (8, li e.2)], [(0, bx (Aa c))], 1⟩) am
 . exact wf hA [(0, 0)] Z Z Z
 intro e br n
 unfold CD at n
 refine AB <| rs AA <| rl Z <| cd Z n (fun ap => ?_) (fun a3 => ?_)
 .refine AD <| AC <| jb (fun f : Int => ⟨102, [(1, ls 1 AY d), (2, .lpb 0 0), (7, li f), (8, li e.2)], [(0, bx (Aa c))], 1⟩) ap (fun f aq => ?_) (fun f a2 => ?_)
  .refine AH <| AB ?_
   refine Bi AA Az [0, 1, 2, 3, 4, 5, 6, 7, 8, 9, 10, 11, 12] 13 (by kernel_rfl) Z Z Z ?_
   refine Am 2 Z <| bq aq fun bv w ar => An Z (AZ Z (Aj w Z Z Z <| Am 3 Z <| bq ar fun bw x au => An Z (BA (Cs _ _ _ x) (.inl Z) Z Z Z <| A0 Z <| AC <| jb (fun g : Bool => ⟨102, [(1, ls 1 AY d), (2, .lpb 0 0), (7, li e.1), (8, li e.2), (57, lb g)], [(0, bx (Aa c))], 1⟩) au (fun g av => ?_) (fun g az => ?_))))
   .refine Bi AA Az [0, 1, 2, 3, 4, 5, 6, 7, 8] 9 (by kernel_rfl) Z Z Z ?_
    refine Am 2 Z <| Dk 50 av Z Z Z (fun aw => ?_) (fun ay => ?_)
    .exact Am 3 Z <| bq aw fun bz y ax => An Z (AZ Z (Aj y Z Z Z <| A0 Z <| AN ax (wf hA [(0, 0)] Z Z Z)))
    exact A0 Z <| AN ay (wf hA [(0, 0)] Z Z Z)
   refine cd Z az (fun a0 => ?_) (fun a1 => ?_)
   .exact rg AA <| rl Z <| Ai <| AN a0 (wf hA [(0, 0)] Z Z Z)
   exact AD <| Ai <| AN a1 (wf hA [(0, 0)] Z Z Z)
  exact rg AA <| rl Z <| Av a2 (wf hA [(0, 0)] Z Z Z)
 refine AU <| Ab <| CW a3 fun t a4 => Ao <| AC <| AB <| rs AA <| rl Z <| cd Z a4 (fun a5 => ?_) (fun a6 => ?_)
 .refine rs AA <| rl Z <| AG <| AI ?_
  cases a5
  exact er Z (Le.tup' (.cons (Le.nil _) (.cons Le.rfl .nil)))
 refine AD <| AC <| rs AA <| rl Z <| AB <| rs AA <| rl Z <| AH ?_
 apply lp (a := t) (fun b : (Int × Int × (List Int)) => ⟨102, [(1, ls 1 AY d), (2, .lpb 0 0), (7, li b.1), (11, .lsl 1 1 0 b.2.2.length), (12, li b.2.1)], [(0, bx (Aa c)), (1, .row 3 1 (b.2.2.map AY))], 2⟩) a6
 . exact wf hA [(0, 0), (1, 1)] Z Z Z
 intro b bs o
 unfold Df at o
 refine AB <| rs AA <| rn 2 Z <| sx Z (Al Z Z <| rl Z <| cd Z o (fun a7 => ?_) (fun bk => ?_))
 .refine AD <| AC <| AB <| AH <| AB ?_
  refine Bi AA Az [0, 1, 2, 3, 4, 5, 6, 7, 8, 9, 10, 11, 12, 13, 14] 15 (by kernel_rfl) Z Z Z ?_
  refine Am 4 Z <| bq a7 fun b0 z a8 => An Z (AZ Z (Aj z Z Z Z <| Am 3 Z <| bq a8 fun j aa a9 => An Z (BA (Cs _ _ _ aa) (.inl Z) Z Z Z <| A0 Z <| AC <| AB <| jb (fun i : Bool => ⟨102, [(1, ls 1 AY d), (2, .lpb 0 0), (11, .lsl 1 1 0 b.2.2.length), (12, li b.2.1), (13, .lpb 2 0), (92, lb i)], [(0, bx (Aa c)), (1, .row 3 1 (b.2.2.map AY)), (2, .box [li j.1.elem, li j.1.fin])], 3⟩) a9 (fun i ba => ?_) (fun i bf => ?_))))
  .refine Bi AA Az [0, 1, 2, 3, 4, 5, 6, 7, 8, 9, 10] 11 (by kernel_rfl) Z Z Z ?_
   refine Am 3 Z <| Dk 84 ba Z Z Z (fun bb => ?_) (fun bc => ?_)
   .exact A0 Z <| AN bb (wf hA [(0, 0), (1, 1), (2, 14)] Z Z Z)
   exact Am 4 Z <| bq bc fun b1 ab be => An Z (AZ Z (Aj ab Z Z Z <| A0 Z <| AN be (wf hA [(0, 0), (1, 1), (2, 14)] Z Z Z)))
  refine cd Z bf (fun bg => ?_) (fun bi => ?_)
  .refine rs AA <| rl Z <| AG <| AI <| AT <| AI <| A1 bg fun bn bh => AT <| AI ?_
   cases bh
   exact er Z (Le.tup' (.cons (Le.nil _) (.cons Le.rfl .nil)))
  exact AD <| AC <| rs AA <| rn 4 Z <| bq bi fun b2 ac bj => sx Z (Ax (enc := AY) (l := b.2.2) (m := [j.1.fin]) ac (fun _ => ⟨Z, Z⟩) Z Z Z Z Z Z <| rl Z <| rg AA <| rl Z <| Ai <| AC <| rg AA <| rl Z <| Av bj (wf hA [(0, 0), (1, 4)] Z Z Z))
 refine AU <| Ab <| BH bk fun bo bl => Ao <| AC <| rs AA <| rl Z <| AG ?_
 cases bl
 exact er (SY Z (.cons (.one (.own (enc := AY) b.2.2 Z Z)) (.cons (.one (.p _)) .nil))) Le.rfl
end Go.E
/- Plain functions, and walks in step with them. Written by a program (gen.py). No condition. -/
set_option maxRecDepth 100000
namespace Go.E
open Go Go.RowKit Go.Proofs
noncomputable def Dv (d : AM) (c : (Int × (List Int))) (b : CC) (a : Int × (List Int)) : Option ((Int × (List Int)) ⊕ ((Int × (List Int)) ⊕ Bool)) :=
 bif decide (a.1 < (b.elems.length : Int)) then (Ak b.elems a.1).bind fun e => (C0 a.2 e).bind fun f => bif f then some (.inr (.inr false)) else (Ak b.elems a.1).bind fun g => (BE a.2 [g]).bind fun h => some (.inl (AQ (a.1 + 1), h)) else ((F9 d b.elems).bind fun i => bif (!i.2) then some (.inr false) else some (.inl (AQ (c.1 + 1), a.2))).map .inr
noncomputable def Ep (b : AM) (a : Int × (List Int)) : Option ((Int × (List Int)) ⊕ Bool) :=
 bif decide (a.1 < (b.lines.length : Int)) then (Ak b.lines a.1).bind fun c => AO (Dv b a c) (0, a.2) else some (.inr true)
noncomputable def G3 (a : AM) : Option Bool :=
 AO (Ep a) (0, ([] : List Int))
theorem Wq (d : AM) (r : Bool) (h : G3 d = some r) : A4 Tryz.prog 113 [.agg (Aa d)] (· = .bool r) := by
 refine fn AA Tryz.func113 Z Z 49 Z [.tmp 2] Z [(0, .p (.agg (Aa d)))] Z Z fun A hA => ?_
 unfold G3 at h
 refine rs AA <| rl Z <| rs AA <| rl Z <| AB <| rs AA <| rl Z <| AH ?_
 apply lp (a := r) (fun c : (Int × (List Int)) => ⟨49, [(1, .lpb 0 0), (3, .lsl 1 1 0 c.2.length), (4, li c.1)], [(0, bx (Aa d)), (1, .row 3 1 (c.2.map AY))], 2⟩) h
 . exact A9.trans (By 3 3 1 Z) (wf hA [(0, 0), (1, 1)] Z Z Z)
 intro c g e
 unfold Ep at e
 refine AB <| rs AA <| rn 3 Z <| sx Z (Al Z Z <| rl Z <| cd Z e (fun s => ?_) (fun aj => ?_))
 .refine AD <| AC <| AB <| AH <| rs AA <| rn 3 Z <| bq s fun al i t => sx Z (Aj i Z Z Z <| rl Z <| AB <| rs AA <| rl Z <| AH ?_)
  apply lp (a := g) (fun b : (Int × (List Int)) => ⟨49, [(1, .lpb 0 0), (3, .lsl 1 1 0 b.2.length), (4, li c.1), (5, ls 1 AY al.elems), (6, li b.1)], [(0, bx (Aa d)), (1, .row 3 1 (b.2.map AY))], 2⟩) t
  . exact wf hA [(0, 0), (1, 1)] Z Z Z
  intro b au f
  unfold Dv at f
  refine AB <| rs AA <| rn 2 Z <| sx Z (Al Z Z <| rl Z <| cd Z f (fun u => ?_) (fun ad => ?_))
  .refine AD <| AC <| AB <| AH <| AB <| rs AA <| rn 3 Z <| bq u fun av j v => sx Z (Aj j Z Z Z <| rn 1 Z <| bq v fun aw k w => sx Z (AS (Ha _ _ _ k) (.inl Z) Z Z (C9.eq (.cons (.one (.own (enc := AY) b.2 Z Z)) (.cons (.one (.p _)) .nil))) <| rl Z <| cd Z w (fun x => ?_) (fun aa => ?_)))
   .refine rs AA <| rl Z <| AG <| AI <| AT <| AI <| A1 x fun an y => AT <| AI <| AT <| AI <| A1 y fun ao z => AT <| AI ?_
    cases z
    exact er Z Le.rfl
   exact AD <| AC <| rg AA <| rn 3 Z <| bq aa fun am n ab => sx Z (Aj n Z Z Z <| rn 2 Z <| bq ab fun ax o ac => sx Z (Ax (enc := AY) (l := b.2) (m := [am]) o (fun _ => ⟨Z, Z⟩) Z Z Z Z Z Z <| rl Z <| Ai <| AC <| rg AA <| rl Z <| Av ac (wf hA [(0, 0), (1, 3)] Z Z Z)))
  refine AU <| Ab <| CW ad fun ap ae => Ao <| AC <| rs AA <| rn 2 Z <| bq ae fun ay q af => sx Z (AS (VQ _ _ _ q) (.inr Z) Z Z Z <| rl Z <| rs AA <| rl Z <| cd Z af (fun ag => ?_) (fun ai => ?_))
  .refine rs AA <| rl Z <| AG <| AT <| AI <| A1 ag fun aq ah => AT <| AI ?_
   cases ah
   exact er Z Le.rfl
  exact AD <| Ai <| AC <| rg AA <| rl Z <| Av ai (wf hA [(0, 0), (1, 1)] Z Z Z)
 refine AU <| Ab <| BH aj fun ar ak => Ao <| AC <| rs AA <| rl Z <| AG ?_
 cases ak
 exact er Z Le.rfl
noncomputable def Jj (b : Int) (a : Int × Int) : Option ((Int × Int) ⊕ Int) :=
 bif decide (0 < a.1) then some (.inl (AQ (a.1 - b), AQ (a.2 + a.1))) else some (.inr a.2)
noncomputable def JJ (b : Int) (a : Int) : Option Int :=
 ((bif decide (b < 0) then some true else bif decide (60 < b) then some true else bif decide (a < 1) then some true else some (decide (10 < a)) : Option (Bool))).bind fun (c : Bool) => bif c then some 0 else AO (Jj a) (AQ (b - a), 0)
theorem Xd (c : Int) (b : Int) (r : Int) (h : JJ c b = some r) : A4 Tryz.prog 159 [.int .i64 c, .int .i64 b] (· = .int .i64 r) := by
 refine fn AA Tryz.func159 Z Z 32 Z [.tmp 4] Z [(0, .p (.int .i64 c)), (1, .p (.int .i64 b))] Z Z fun A hA => ?_
 unfold JJ at h
 refine rs AA <| rl Z <| AB <| jb (fun e : Bool => ⟨32, [(0, li c), (1, li b), (19, lb e)], [], 0⟩) h (fun e g => ?_) (fun e o => ?_)
 .refine rg AA <| rn 3 Z <| gs 8 g Z Z Z (fun i => ?_) (fun j => ?_)
  .exact rl Z <| AN i (wf hA [] Z Z Z)
  refine rn 4 Z <| gs 12 j Z Z Z (fun k => ?_) (fun l => ?_)
  .exact rl Z <| AN k (wf hA [] Z Z Z)
  refine rn 4 Z <| gs 16 l Z Z Z (fun m => ?_) (fun n => ?_)
  .exact rl Z <| AN m (wf hA [] Z Z Z)
  exact rl Z <| AN n (wf hA [] Z Z Z)
 refine cd Z o (fun q => ?_) (fun s => ?_)
 .refine rs AA <| rl Z <| AG <| AI ?_
  cases q
  exact er Z Le.rfl
 refine AD <| AC <| rs AA <| rl Z <| AB <| rs AA <| rl Z <| AH ?_
 apply lp (a := r) (fun d : (Int × Int) => ⟨32, [(0, li d.1), (1, li b), (5, li d.2)], [], 0⟩) s
 . exact wf hA [] Z Z Z
 intro d x f
 unfold Jj at f
 refine AB <| rs AA <| rl Z <| cd Z f (fun t => ?_) (fun u => ?_)
 .exact AD <| AC <| AB <| AH <| rg AA <| rl Z <| Ai <| AC <| rg AA <| rl Z <| Av t (wf hA [] Z Z Z)
 refine AU <| Ab <| BH u fun w v => Ao <| AC <| rs AA <| rl Z <| AG ?_
 cases v
 exact er Z Le.rfl
noncomputable def Iq (b : AM) (a : Int) : Option Int :=
 ((bif decide (a < 0) then some true else some (decide ((b.elems.length : Int) <= a)) : Option (Bool))).bind fun (c : Bool) => bif c then some 0 else (Ak b.elems a).bind fun d => some d.length
theorem VR (a : AM) (b : Int) (r : Int) (h : Iq a b = some r) : A4 Tryz.prog 160 [.agg (Aa a), .int .i64 b] (· = .int .i64 r) := by
 refine fn AA Tryz.func160 Z Z 20 Z [.tmp 4] Z [(0, .p (.agg (Aa a))), (1, .p (.int .i64 b))] Z Z fun A hA => ?_
 unfold Iq at h
 refine rs AA <| rl Z <| AB <| jb (fun c : Bool => ⟨20, [(1, li b), (2, .lpb 0 0), (13, lb c)], [(0, bx (Aa a))], 1⟩) h (fun c e => ?_) (fun c i => ?_)
 .refine rg AA <| rn 3 Z <| gs 7 e Z Z Z (fun f => ?_) (fun g => ?_)
  .exact rl Z <| AN f (wf hA [(0, 0)] Z Z Z)
  exact rn 3 Z <| sx Z (Al Z Z <| rl Z <| AN g (wf hA [(0, 0)] Z Z Z))
 refine cd Z i (fun j => ?_) (fun k => ?_)
 .refine rs AA <| rl Z <| AG <| AI ?_
  cases j
  exact er Z Le.rfl
 refine AD <| AC <| rs AA <| rn 3 Z <| bq k fun m d l => sx Z (Aj d Z Z Z <| rl Z <| AG ?_)
 cases l
 exact er Z Le.rfl
noncomputable def Ed (b : AM) (a : Int) : Option (Int ⊕ Bool) :=
 bif decide (a < (b.elems.length : Int)) then (((Ak b.elems a).bind fun d => bif (d.kind != 4) then (Ak b.elems a).bind fun e => some (decide (e.length < b.top)) else some false : Option (Bool))).bind fun (c : Bool) => bif c then some (.inr false) else some (.inl (AQ (a + 1))) else some (.inr true)
noncomputable def Ga (a : AM) (b : Int) : Option (Int ⊕ Bool) :=
 bif decide (b < (a.signals.length : Int)) then (Ak a.signals b).bind fun c => (((Du a c.at_.elem).bind fun e => bif (e == 1) then (Iq a c.at_.elem).bind fun f => some (decide (f < a.margin)) else some false : Option (Bool))).bind fun (d : Bool) => bif d then some (.inr false) else some (.inl (AQ (b + 1))) else (AO (Ed a) 0).map .inr
noncomputable def H8 (a : AM) : Option Bool :=
 (JJ a.top a.brake).bind fun b => bif decide (a.margin < AQ (a.top + b)) then some false else AO (Ga a) 0
theorem Xe (b : AM) (r : Bool) (h : H8 b = some r) : A4 Tryz.prog 114 [.agg (Aa b)] (· = .bool r) := by
 refine fn AA Tryz.func114 Z Z 68 Z [.tmp 2] Z [(0, .p (.agg (Aa b)))] Z Z fun A hA => ?_
 unfold H8 at h
 refine rs AA <| rl Z <| AB <| AB ?_
 refine Bi AA Az [0, 1, 2, 3, 4, 5, 6, 7, 8, 9, 10] 11 (by kernel_rfl) Z Z Z ?_
 refine Am 8 Z <| bq h fun a6 q s => An Z (BA (Xd _ _ _ q) (.inl Z) Z Z Z <| A0 Z <| AC <| cd Z s (fun t => ?_) (fun u => ?_))
 .refine rs AA <| rl Z <| AG <| AI ?_
  cases t
  exact er Z Le.rfl
 refine AD <| AC <| AB <| rs AA <| rl Z <| AH ?_
 apply lp (a := r) (fun c : Int => ⟨68, [(1, .lpb 0 0), (3, li c)], [(0, bx (Aa b))], 1⟩) u
 . exact wf hA [(0, 0)] Z Z Z
 intro c az g
 unfold Ga at g
 refine AB <| rs AA <| rn 3 Z <| sx Z (Al Z Z <| rl Z <| cd Z g (fun v => ?_) (fun ag => ?_))
 .refine AD <| AC <| AB <| AH <| rs AA <| rn 3 Z <| bq v fun a1 k w => sx Z (Aj k Z Z Z <| rl Z <| jb (fun e : Bool => ⟨68, [(1, .lpb 0 0), (3, li c), (42, lb e)], [(0, bx (Aa b))], 1⟩) w (fun e x => ?_) (fun e ac => ?_))
  .refine Bi AA Az [0, 1, 2, 3, 4, 5, 6, 7, 8, 9, 10, 11] 12 (by kernel_rfl) Z Z Z ?_
   refine Am 2 Z <| bq x fun a2 l y => An Z (BA (Gj _ _ _ l) (.inl Z) Z Z Z <| Am 2 Z <| Dk 35 y Z Z Z (fun z => ?_) (fun ab => ?_))
   .exact Am 2 Z <| bq z fun a3 m aa => An Z (BA (VR _ _ _ m) (.inl Z) Z Z Z <| A0 Z <| AN aa (wf hA [(0, 0)] Z Z Z))
   exact A0 Z <| AN ab (wf hA [(0, 0)] Z Z Z)
  refine cd Z ac (fun ad => ?_) (fun af => ?_)
  .refine rs AA <| rl Z <| AG <| AT <| AI <| A1 ad fun aw ae => AT <| AI ?_
   cases ae
   exact er Z Le.rfl
  exact AD <| Ai <| AC <| rg AA <| rl Z <| Av af (wf hA [(0, 0)] Z Z Z)
 refine AU <| Ab <| CW ag fun j ah => Ao <| AC <| AB <| rs AA <| rl Z <| AH ?_
 apply lp (a := j) (fun d : Int => ⟨68, [(1, .lpb 0 0), (5, li d)], [(0, bx (Aa b))], 1⟩) ah
 . exact wf hA [(0, 0)] Z Z Z
 intro d a0 i
 unfold Ed at i
 refine AB <| rs AA <| rn 3 Z <| sx Z (Al Z Z <| rl Z <| cd Z i (fun ai => ?_) (fun au => ?_))
 .refine AD <| AC <| AB <| AH <| jb (fun f : Bool => ⟨68, [(1, .lpb 0 0), (5, li d), (67, lb f)], [(0, bx (Aa b))], 1⟩) ai (fun f aj => ?_) (fun f ao => ?_)
  .refine Bi AA Az [0, 1, 2, 3, 4, 5, 6, 7, 8, 9, 10, 11, 12, 13, 14, 15, 16, 17] 18 (by kernel_rfl) Z Z Z ?_
   refine Am 3 Z <| bq aj fun a4 n ak => An Z (AZ Z (Aj n Z Z Z <| Am 4 Z <| Dk 57 ak Z Z Z (fun al => ?_) (fun an => ?_)))
   .exact Am 3 Z <| bq al fun a5 o am => An Z (AZ Z (Aj o Z Z Z <| A0 Z <| AN am (wf hA [(0, 0)] Z Z Z)))
   exact A0 Z <| AN an (wf hA [(0, 0)] Z Z Z)
  refine cd Z ao (fun ap => ?_) (fun ar => ?_)
  .refine rs AA <| rl Z <| AG <| AT <| AI <| A1 ap fun ax aq => AT <| AI ?_
   cases aq
   exact er Z Le.rfl
  exact AD <| Ai <| AC <| rg AA <| rl Z <| Av ar (wf hA [(0, 0)] Z Z Z)
 refine AU <| Ab <| BH au fun ay av => Ao <| AC <| rs AA <| rl Z <| AG ?_
 cases av
 exact er Z Le.rfl
noncomputable def Fx (a : AM) : Option Int :=
 ((bif decide (40 < (a.elems.length : Int)) then some true else bif decide (24 < (a.signals.length : Int)) then some true else bif decide (4 < (a.lines.length : Int)) then some true else some (decide (80 < (a.joins.length : Int))) : Option (Bool))).bind fun (d : Bool) => bif d then some 3 else (Jb a).bind fun b => (H2 a).bind fun l => bif (!l) then some 1 else (((Ex b.1).bind fun e => bif e then some true else (Ex b.2.1).bind fun f => bif f then some true else (Ex b.2.2).bind fun g => some g : Option (Bool))).bind fun (c : Bool) => bif c then some 4 else (F8 a).bind fun h => bif (!h) then some 6 else (FT a).bind fun i => bif (!i) then some 7 else (G3 a).bind fun j => bif (!j) then some 8 else (H8 a).bind fun k => bif (!k) then some 9 else some 0
theorem Wp (a : AM) (r : Int) (h : Fx a = some r) : A4 Tryz.prog 42 [.agg (Aa a)] (· = .int .i64 r) := by
 refine fn AA Tryz.func42 Z Z 65 Z [.tmp 2] Z [(0, .p (.agg (Aa a)))] Z Z fun A hA => ?_
 unfold Fx at h
 refine rs AA <| rl Z <| AB <| jb (fun c : Bool => ⟨65, [(1, .lpb 0 0), (27, lb c)], [(0, bx (Aa a))], 1⟩) h (fun c am => ?_) (fun c av => ?_)
 .refine rg AA <| rn 2 Z <| sx Z (Al Z Z <| rn 2 Z <| gs 10 am Z Z Z (fun an => ?_) (fun ao => ?_))
  .exact rl Z <| AN an (wf hA [(0, 0)] Z Z Z)
  refine rn 2 Z <| sx Z (Al Z Z <| rn 3 Z <| gs 16 ao Z Z Z (fun ap => ?_) (fun aq => ?_))
  .exact rl Z <| AN ap (wf hA [(0, 0)] Z Z Z)
  refine rn 2 Z <| sx Z (Al Z Z <| rn 3 Z <| gs 22 aq Z Z Z (fun ar => ?_) (fun au => ?_))
  .exact rl Z <| AN ar (wf hA [(0, 0)] Z Z Z)
  exact rn 2 Z <| sx Z (Al Z Z <| rl Z <| AN au (wf hA [(0, 0)] Z Z Z))
 refine cd Z av (fun aw => ?_) (fun ax => ?_)
 .refine rs AA <| rl Z <| AG <| AI ?_
  cases aw
  exact er Z Le.rfl
 refine AD <| AC <| rs AA <| rn 1 Z <| bq ax fun a9 l ay => sx Z (AS (Wj _ _ l) (.inr Z) Z Z Z <| rl Z <| AB <| AH <| rs AA <| rn 1 Z <| bq ay fun ba m az => sx Z (AS (Xb _ _ m) (.inl Z) Z Z Z <| rl Z <| cd Z az (fun a0 => ?_) (fun a1 => ?_)))
 .refine rs AA <| rl Z <| AG <| AT <| AI ?_
  cases a0
  exact er Z Le.rfl
 refine jb (fun b : Bool => ⟨65, [(1, .lpb 0 0), (38, lb b)], [(0, bx (Aa a))], 1⟩) a1 (fun b n => ?_) (fun b x => ?_)
 .refine rg AA <| rn 1 Z <| bq n fun a2 d o => sx Z (AS (Nh _ _ d) (.inl Z) Z Z Z <| rn 1 Z <| gs 41 o Z Z Z (fun q => ?_) (fun s => ?_))
  .exact rl Z <| AN q (wf hA [(0, 0)] Z Z Z)
  refine rn 1 Z <| bq s fun a3 e t => sx Z (AS (Nh _ _ e) (.inl Z) Z Z Z <| rn 2 Z <| gs 45 t Z Z Z (fun u => ?_) (fun v => ?_))
  .exact rl Z <| AN u (wf hA [(0, 0)] Z Z Z)
  exact rn 1 Z <| bq v fun a4 f w => sx Z (AS (Nh _ _ f) (.inl Z) Z Z Z <| rl Z <| AN w (wf hA [(0, 0)] Z Z Z))
 refine cd Z x (fun y => ?_) (fun z => ?_)
 .refine rs AA <| rl Z <| AG <| AT <| AI ?_
  cases y
  exact er Z Le.rfl
 refine rs AA <| rn 1 Z <| bq z fun a5 g aa => sx Z (AS (VP _ _ g) (.inl Z) Z Z Z <| rl Z <| cd Z aa (fun ab => ?_) (fun ac => ?_))
 .refine rs AA <| rl Z <| AG <| AT <| AI ?_
  cases ab
  exact er Z Le.rfl
 refine rs AA <| rn 1 Z <| bq ac fun a6 i ad => sx Z (AS (UM _ _ i) (.inl Z) Z Z Z <| rl Z <| cd Z ad (fun ae => ?_) (fun af => ?_))
 .refine rs AA <| rl Z <| AG <| AT <| AI ?_
  cases ae
  exact er Z Le.rfl
 refine rs AA <| rn 1 Z <| bq af fun a7 j ag => sx Z (AS (Wq _ _ j) (.inl Z) Z Z Z <| rl Z <| cd Z ag (fun ah => ?_) (fun ai => ?_))
 .refine rs AA <| rl Z <| AG <| AT <| AI ?_
  cases ah
  exact er Z Le.rfl
 refine rs AA <| rn 1 Z <| bq ai fun a8 k aj => sx Z (AS (Xe _ _ k) (.inl Z) Z Z Z <| rl Z <| cd Z aj (fun ak => ?_) (fun al => ?_))
 .refine rs AA <| rl Z <| AG <| AT <| AI ?_
  cases ak
  exact er Z Le.rfl
 refine AD <| Ai <| AC <| rs AA <| rl Z <| AG ?_
 cases al
 exact er Z Le.rfl
noncomputable def Fk (a : Int) : Option Bool :=
 ((bif decide (97 <= a) then bif decide (a <= 122) then some true else bif decide (65 <= a) then some (decide (a <= 90)) else some false else bif decide (65 <= a) then some (decide (a <= 90)) else some false : Option (Bool))).bind fun (b : Bool) => some b
theorem OB (b : Int) (r : Bool) (h : Fk b = some r) : A4 Tryz.prog 212 [.int .u8 b] (· = .bool r) := by
 refine fn AA Tryz.func212 Z Z 17 Z [.tmp 2] Z [(0, .p (.int .u8 b))] Z Z fun A hA => ?_
 unfold Fk at h
 refine rs AA <| rl Z <| jb (fun a : Bool => ⟨17, [(2, lb a)], [], 0⟩) h (fun a c => ?_) (fun a m => ?_)
 .refine rg AA <| rn 3 Z <| gs 5 c Z Z Z (fun d => ?_) (fun j => ?_)
  .refine rn 4 Z <| gs 9 d Z Z Z (fun e => ?_) (fun f => ?_)
   .exact rl Z <| AN e (wf hA [] Z Z Z)
   refine rn 3 Z <| gs 12 f Z Z Z (fun g => ?_) (fun i => ?_)
   .exact rl Z <| AN g (wf hA [] Z Z Z)
   exact rl Z <| AN i (wf hA [] Z Z Z)
  refine rn 7 Z <| gs 12 j Z Z Z (fun k => ?_) (fun l => ?_)
  .exact rl Z <| AN k (wf hA [] Z Z Z)
  exact rl Z <| AN l (wf hA [] Z Z Z)
 refine AG ?_
 have hr := Option.some.inj m; subst hr
 exact er Z Le.rfl
noncomputable def Dg (b : ByteArray) (a : Int) : Option (Int ⊕ Bool) :=
 bif decide (a < (b.size : Int)) then (((Kv b a).bind fun d => (Fk (d.toNat : Int)).bind fun e => bif (!e) then (Kv b a).bind fun f => bif decide ((f.toNat : Int) < 48) then some true else (Kv b a).bind fun g => some (decide (57 < (g.toNat : Int))) else some false : Option (Bool))).bind fun (c : Bool) => bif c then some (.inr false) else some (.inl (AQ (a + 1))) else some (.inr true)
noncomputable def EI (a : ByteArray) : Option Bool :=
 ((bif (a.toList == ByteArray.empty.toList) then some true else bif decide (8 < (a.size : Int)) then some true else (Kv a 0).bind fun c => (Fk (c.toNat : Int)).bind fun d => some (!d) : Option (Bool))).bind fun (b : Bool) => bif b then some false else AO (Dg a) 1
theorem Mb (b : ByteArray) (r : Bool) (h : EI b = some r) : A4 Tryz.prog 198 [.str b] (· = .bool r) := by
 refine fn AA Tryz.func198 Z Z 40 Z [.tmp 2] Z [(0, .p (.str b))] Z Z fun A hA => ?_
 unfold EI at h
 refine rs AA <| rl Z <| AB <| jb (fun d : Bool => ⟨40, [(0, .p (.str b)), (16, lb d)], [], 0⟩) h (fun d n => ?_) (fun d x => ?_)
 .refine rg AA <| rn 3 Z <| gs 6 n Z Z Z (fun o => ?_) (fun q => ?_)
  .exact rl Z <| AN o (wf hA [] Z Z Z)
  refine rn 5 Z <| gs 11 q Z Z Z (fun s => ?_) (fun t => ?_)
  .exact rl Z <| AN s (wf hA [] Z Z Z)
  exact rn 1 Z <| bq t fun au g v => sx Z (Oh g Z Z Z <| bq v fun av i w => sx Z (AS (OB _ _ i) (.inl Z) Z Z Z <| rl Z <| AN w (wf hA [] Z Z Z)))
 refine cd Z x (fun z => ?_) (fun ah => ?_)
 .refine rs AA <| rl Z <| AG <| AI ?_
  cases z
  exact er Z Le.rfl
 refine AD <| AC <| AB <| rs AA <| rl Z <| AH ?_
 apply lp (a := r) (fun c : Int => ⟨40, [(0, .p (.str b)), (3, li c)], [], 0⟩) ah
 . exact wf hA [] Z Z Z
 intro c ar f
 unfold Dg at f
 refine AB <| rs AA <| rl Z <| cd Z f (fun u => ?_) (fun an => ?_)
 .refine AD <| AC <| AB <| AH <| jb (fun e : Bool => ⟨40, [(0, .p (.str b)), (3, li c), (39, lb e)], [], 0⟩) u (fun e y => ?_) (fun e aj => ?_)
  .refine rg AA <| rn 2 Z <| bq y fun aw j aa => sx Z (Oh j Z Z Z <| bq aa fun ax k ab => sx Z (AS (OB _ _ k) (.inl Z) Z Z Z <| rn 2 Z <| gs 28 ab Z Z Z (fun ac => ?_) (fun ai => ?_)))
   .refine rn 2 Z <| bq ac fun ay l ad => sx Z (Oh l Z Z Z <| rn 2 Z <| gs 33 ad Z Z Z (fun ae => ?_) (fun af => ?_))
    .exact rl Z <| AN ae (wf hA [] Z Z Z)
    exact rn 2 Z <| bq af fun az m ag => sx Z (Oh m Z Z Z <| rl Z <| AN ag (wf hA [] Z Z Z))
   exact rl Z <| AN ai (wf hA [] Z Z Z)
  refine cd Z aj (fun ak => ?_) (fun am => ?_)
  .refine rs AA <| rl Z <| AG <| AT <| AI <| A1 ak fun ap al => AT <| AI ?_
   cases al
   exact er Z Le.rfl
  exact AD <| Ai <| AC <| rg AA <| rl Z <| Av am (wf hA [] Z Z Z)
 refine AU <| Ab <| BH an fun aq ao => Ao <| AC <| rs AA <| rl Z <| AG ?_
 cases ao
 exact er Z Le.rfl
noncomputable def Hc (a : Int) : Option Int :=
 bif (a == 1) then some 2 else bif (a == 2) then some 3 else bif (a == 3) then some 4 else bif (a == 4) then some 1 else some 0
theorem Mc (a : Int) (r : Int) (h : Hc a = some r) : A4 Tryz.prog 150 [.int .i64 a] (· = .int .i64 r) := by
 refine fn AA Tryz.func150 Z Z 12 Z [.tmp 2] Z [(0, .p (.int .i64 a))] Z Z fun A hA => ?_
 unfold Hc at h
 refine rs AA <| rl Z <| AB <| rs AA <| rl Z <| AH <| rs AA <| rl Z <| cd Z h (fun j => ?_) (fun b => ?_)
 .refine rs AA <| rl Z <| AG <| AT <| AI ?_
  cases j
  exact er Z Le.rfl
 refine rs AA <| rl Z <| cd Z b (fun c => ?_) (fun d => ?_)
 .refine rs AA <| rl Z <| AG <| AT <| AI ?_
  cases c
  exact er Z Le.rfl
 refine rs AA <| rl Z <| cd Z d (fun e => ?_) (fun f => ?_)
 .refine rs AA <| rl Z <| AG <| AT <| AI ?_
  cases e
  exact er Z Le.rfl
 refine rs AA <| rl Z <| cd Z f (fun g => ?_) (fun i => ?_)
 .refine rs AA <| rl Z <| AG <| AT <| AI ?_
  cases g
  exact er Z Le.rfl
 refine AD <| Ai <| AC <| rs AA <| rl Z <| AG ?_
 cases i
 exact er Z Le.rfl
noncomputable def CZ (b : AM) (a : Int) : Option (Int ⊕ Bool) :=
 bif decide (a < (b.lines.length : Int)) then (Ak b.lines a).bind fun c => (EI c.name).bind fun d => bif (!d) then some (.inr false) else some (.inl (AQ (a + 1))) else some (.inr true)
noncomputable def Ca (b : AM) (a : Int) : Option (Int ⊕ Bool) :=
 bif decide (a < (b.signals.length : Int)) then (Ak b.signals a).bind fun c => (EI c.name).bind fun d => bif (!d) then some (.inr false) else some (.inl (AQ (a + 1))) else (AO (CZ b) 0).map .inr
noncomputable def DI (c : AM) (b : Int) : Option (Int ⊕ Bool) :=
 bif decide (b < (c.elems.length : Int)) then FG (((Ak c.elems b).bind fun a => (((EI a.name).bind fun f => bif (!f) then some true else (Hc a.kind).bind fun g => some (g == 0) : Option (Bool))).bind fun (d : Bool) => bif d then some (.inr (.inr false)) else bif (a.kind == 4) then bif (a.length != 0) then some (.inr (.inr false)) else some (.inl ()) else ((bif decide (a.length < 1) then some true else some (decide (4000 < a.length)) : Option (Bool))).bind fun (e : Bool) => bif e then some (.inr (.inr false)) else some (.inl ()) : Option (Unit ⊕ (Int ⊕ Bool)))) fun (h : Unit) => some (.inl (AQ (b + 1))) else (AO (Ca c) 0).map .inr
noncomputable def EA (a : AM) : Option Bool :=
 ((bif decide (a.top < 1) then some true else bif decide (60 < a.top) then some true else bif decide (a.brake < 1) then some true else bif decide (10 < a.brake) then some true else bif decide (a.margin < 1) then some true else bif decide (4000 < a.margin) then some true else bif decide (a.throw < 1) then some true else bif decide (20 < a.throw) then some true else some ((a.elems.length : Int) == 0) : Option (Bool))).bind fun (b : Bool) => bif b then some false else AO (DI a) 0
theorem R4 (b : AM) (r : Bool) (h : EA b = some r) : A4 Tryz.prog 161 [.agg (Aa b)] (· = .bool r) := by
 refine fn AA Tryz.func161 Z Z 112 Z [.tmp 2] Z [(0, .p (.agg (Aa b)))] Z Z fun A hA => ?_
 unfold EA at h
 refine rs AA <| rl Z <| sc <| AB <| jb (fun d : Bool => ⟨112, [(1, .lpb 0 0), (52, lb d)], [(0, bx (Aa b))], 1⟩) h (fun d z => ?_) (fun d bm => ?_)
 .refine rg AA <| rn 4 Z <| gs 12 z Z Z Z (fun aa => ?_) (fun ad => ?_)
  .exact rl Z <| AN aa (wf hA [(0, 0)] Z Z Z)
  refine rn 5 Z <| gs 17 ad Z Z Z (fun ak => ?_) (fun ar => ?_)
  .exact rl Z <| AN ak (wf hA [(0, 0)] Z Z Z)
  refine rn 5 Z <| gs 22 ar Z Z Z (fun az => ?_) (fun a8 => ?_)
  .exact rl Z <| AN az (wf hA [(0, 0)] Z Z Z)
  refine rn 5 Z <| gs 27 a8 Z Z Z (fun bb => ?_) (fun bc => ?_)
  .exact rl Z <| AN bb (wf hA [(0, 0)] Z Z Z)
  refine rn 5 Z <| gs 32 bc Z Z Z (fun be => ?_) (fun bf => ?_)
  .exact rl Z <| AN be (wf hA [(0, 0)] Z Z Z)
  refine rn 5 Z <| gs 37 bf Z Z Z (fun bg => ?_) (fun bh => ?_)
  .exact rl Z <| AN bg (wf hA [(0, 0)] Z Z Z)
  refine rn 5 Z <| gs 42 bh Z Z Z (fun bi => ?_) (fun bj => ?_)
  .exact rl Z <| AN bi (wf hA [(0, 0)] Z Z Z)
  refine rn 5 Z <| gs 47 bj Z Z Z (fun bk => ?_) (fun bl => ?_)
  .exact rl Z <| AN bk (wf hA [(0, 0)] Z Z Z)
  exact rn 2 Z <| sx Z (Al Z Z <| rl Z <| AN bl (wf hA [(0, 0)] Z Z Z))
 refine cd Z bm (fun bn => ?_) (fun bo => ?_)
 .refine rs AA <| rl Z <| AG <| AI <| Em ?_
  cases bn
  exact er Z Le.rfl
 refine AD <| AC <| AB <| Hv <| AC <| AB <| rs AA <| rn 2 Z <| sx Z (Al Z Z <| rl Z <| AH ?_)
 apply lp (a := r) (fun c : Int => ⟨112, [(1, .lpb 0 0), (54, ls 3 BJ b.elems), (55, li (b.elems.length : Int)), (56, li c)], [(0, bx (Aa b))], 1⟩) bo
 . exact wf hA [(0, 0)] Z Z Z
 intro c o g
 unfold DI at g
 refine rs AA <| rl Z <| AB <| cd Z g (fun y => ?_) (fun a9 => ?_)
 .refine AD <| AC ?_
  apply jn (a := o) (fun b8 : Unit => ⟨112, [(1, .lpb 0 0), (54, ls 3 BJ b.elems), (55, li (b.elems.length : Int)), (56, li c)], [(0, bx (Aa b))], 1⟩) y
  .intro ck ab
   refine AH <| rs AA <| bq ab fun b9 q ac => sx Z (Aj q Z Z Z <| rl Z <| AH <| jb (fun e : Bool => ⟨112, [(1, .lpb 0 0), (4, .lpb 1 0), (54, ls 3 BJ b.elems), (55, li (b.elems.length : Int)), (56, li c), (60, lb e)], [(0, bx (Aa b)), (1, bx (BJ b9))], 2⟩) ac (fun e ae => ?_) (fun e aj => ?_))
   .refine rg AA <| rn 2 Z <| bq ae fun cn s af => sx Z (AS (Mb _ _ s) (.inl Z) Z Z Z <| rn 2 Z <| gs 65 af Z Z Z (fun ag => ?_) (fun ah => ?_))
    .exact rl Z <| AN ag (wf hA [(0, 0), (1, 1)] Z Z Z)
    exact rn 2 Z <| bq ah fun co t ai => sx Z (AS (Mc _ _ t) (.inl Z) Z Z Z <| rl Z <| AN ai (wf hA [(0, 0), (1, 1)] Z Z Z))
   refine cd Z aj (fun al => ?_) (fun ao => ?_)
   .refine rs AA <| rl Z <| AG <| AT <| AT <| A1 al fun ca am => A1 am fun cb an => AT <| AI <| Em ?_
    cases an
    exact er Z Le.rfl
   refine rs AA <| rl Z <| cd Z ao (fun ap => ?_) (fun ax => ?_)
   .refine AB <| rs AA <| rl Z <| cd Z ap (fun aq => ?_) (fun aw => ?_)
    .refine rs AA <| rl Z <| AG <| AI <| AT <| AT <| A1 aq fun cc au => A1 au fun ce av => AT <| AI <| Em ?_
     cases av
     exact er Z Le.rfl
    exact AD <| AC <| AU <| NR Z <| Ao <| Av aw (wf hA [(0, 0)] Z Z Z)
   refine jb (fun f : Bool => ⟨112, [(1, .lpb 0 0), (54, ls 3 BJ b.elems), (55, li (b.elems.length : Int)), (56, li c), (78, lb f)], [(0, bx (Aa b))], 1⟩) ax (fun f ay => ?_) (fun f a2 => ?_)
   .refine rg AA <| rn 4 Z <| gs 82 ay Z Z Z (fun a0 => ?_) (fun a1 => ?_)
    .exact rl Z <| AN a0 (wf hA [(0, 0)] Z Z Z)
    exact rl Z <| AN a1 (wf hA [(0, 0)] Z Z Z)
   refine cd Z a2 (fun a3 => ?_) (fun a6 => ?_)
   .refine rs AA <| rl Z <| AG <| AT <| AT <| A1 a3 fun cf a4 => A1 a4 fun cg a5 => AT <| AI <| Em ?_
    cases a5
    exact er Z Le.rfl
   exact AD <| Ai <| Ai <| Av a6 (wf hA [(0, 0)] Z Z Z)
  intro b8 a7
  exact rg AA <| rl Z <| Av a7 (wf hA [(0, 0)] Z Z Z)
 refine AU <| Ab <| CW a9 fun m ba => Ao <| AC <| AB <| rs AA <| rn 2 Z <| sx Z (Al Z Z <| rl Z <| AH ?_)
 apply lp (a := m) (fun k : Int => ⟨112, [(1, .lpb 0 0), (89, ls 4 A2 b.signals), (90, li (b.signals.length : Int)), (91, li k)], [(0, bx (Aa b))], 1⟩) ba
 . exact wf hA [(0, 0)] Z Z Z
 intro k cl i
 unfold Ca at i
 refine rs AA <| rl Z <| AB <| cd Z i (fun bp => ?_) (fun bw => ?_)
 .refine AD <| AC <| AB <| AH <| rs AA <| bq bp fun cp u br => sx Z (Aj u Z Z Z <| rl Z <| rs AA <| rn 2 Z <| bq br fun cq v bs => sx Z (AS (Mb _ _ v) (.inl Z) Z Z Z <| rl Z <| cd Z bs (fun bt => ?_) (fun bv => ?_)))
  .refine rs AA <| rl Z <| AG <| AT <| AI <| A1 bt fun ch bu => AT <| AI <| Em ?_
   cases bu
   exact er Z Le.rfl
  exact AD <| Ai <| AC <| rg AA <| rl Z <| Av bv (wf hA [(0, 0)] Z Z Z)
 refine AU <| Ab <| CW bw fun n bz => Ao <| AC <| AB <| rs AA <| rn 2 Z <| sx Z (Al Z Z <| rl Z <| AH ?_)
 apply lp (a := n) (fun l : Int => ⟨112, [(101, ls 2 BR b.lines), (102, li (b.lines.length : Int)), (103, li l)], [], 0⟩) bz
 . exact wf hA [] Z Z Z
 intro l cm j
 unfold CZ at j
 refine rs AA <| rl Z <| AB <| cd Z j (fun b0 => ?_) (fun b6 => ?_)
 .refine AD <| AC <| AB <| AH <| rs AA <| bq b0 fun cr w b1 => sx Z (Aj w Z Z Z <| rl Z <| rs AA <| rn 2 Z <| bq b1 fun cs x b2 => sx Z (AS (Mb _ _ x) (.inl Z) Z Z Z <| rl Z <| cd Z b2 (fun b3 => ?_) (fun b5 => ?_)))
  .refine rs AA <| rl Z <| AG <| AT <| AI <| A1 b3 fun ci b4 => AT <| AI <| Em ?_
   cases b4
   exact er Z Le.rfl
  exact AD <| Ai <| AC <| rg AA <| rl Z <| Av b5 (wf hA [] Z Z Z)
 refine AU <| Ab <| BH b6 fun cj b7 => Ao <| AC <| rs AA <| rl Z <| AG <| Em ?_
 cases b7
 exact er Z Le.rfl
end Go.E
/- Plain functions, and walks in step with them. Written by a program (gen.py). No condition. -/
set_option maxRecDepth 100000
namespace Go.E
open Go Go.RowKit Go.Proofs
noncomputable def FB (a : Int) (b : AM) : Option ByteArray :=
 (Ak b.elems a).bind fun c => some c.name
theorem M4 (a : Int) (b : AM) (r : ByteArray) (h : FB a b = some r) : A4 Tryz.prog 163 [.int .i64 a, .place (Aa b) 0] (· = .str r) := by
 refine fn AA Tryz.func163 Z Z 10 Z [.tmp 3] Z [(0, .p (.int .i64 a)), (1, .p (.place (Aa b) 0))] Z Z fun A hA => ?_
 unfold FB at h
 refine rs AA <| rl Z <| rs AA <| rn 3 Z <| bq h fun e c d => sx Z (Aj c Z Z Z <| rl Z <| AG ?_)
 cases d
 exact er Z Le.rfl
noncomputable def FC (a : Int) (b : AM) : Option ByteArray :=
 (Ak b.signals a).bind fun c => some c.name
theorem M5 (a : Int) (b : AM) (r : ByteArray) (h : FC a b = some r) : A4 Tryz.prog 164 [.int .i64 a, .place (Aa b) 0] (· = .str r) := by
 refine fn AA Tryz.func164 Z Z 10 Z [.tmp 3] Z [(0, .p (.int .i64 a)), (1, .p (.place (Aa b) 0))] Z Z fun A hA => ?_
 unfold FC at h
 refine rs AA <| rl Z <| rs AA <| rn 3 Z <| bq h fun e c d => sx Z (Aj c Z Z Z <| rl Z <| AG ?_)
 cases d
 exact er Z Le.rfl
noncomputable def FD (a : Int) (b : AM) : Option ByteArray :=
 (Ak b.lines a).bind fun c => some c.name
theorem M6 (a : Int) (b : AM) (r : ByteArray) (h : FD a b = some r) : A4 Tryz.prog 165 [.int .i64 a, .place (Aa b) 0] (· = .str r) := by
 refine fn AA Tryz.func165 Z Z 10 Z [.tmp 3] Z [(0, .p (.int .i64 a)), (1, .p (.place (Aa b) 0))] Z Z fun A hA => ?_
 unfold FD at h
 refine rs AA <| rl Z <| rs AA <| rn 3 Z <| bq h fun e c d => sx Z (Aj c Z Z Z <| rl Z <| AG ?_)
 cases d
 exact er Z Le.rfl
noncomputable def Hd (b : AM) (a : AF) : Option Bool :=
 ((bif decide (0 <= a.elem) then bif decide (a.elem < (b.elems.length : Int)) then bif decide (0 <= a.fin) then (Ak b.elems a.elem).bind fun d => (Hc d.kind).bind fun e => some (decide (a.fin < e)) else some false else some false else some false : Option (Bool))).bind fun (c : Bool) => some c
theorem Md (b : AM) (c : AF) (r : Bool) (h : Hd b c = some r) : A4 Tryz.prog 199 [.agg (Aa b), .agg (AK c)] (· = .bool r) := by
 refine fn AA Tryz.func199 Z Z 34 Z [.tmp 4] Z [(0, .p (.agg (Aa b))), (1, .p (.agg (AK c)))] Z Z fun A hA => ?_
 unfold Hd at h
 refine rs AA <| rl Z <| jb (fun a : Bool => ⟨34, [(4, lb a)], [], 0⟩) h (fun a f => ?_) (fun a q => ?_)
 .refine Bi AA Az [0, 1, 2, 3, 4, 5, 6, 7, 8, 9, 10, 11, 12, 13, 14, 15, 16, 17, 18, 19, 20, 21, 22, 23, 24, 25, 26, 27, 28, 29] 30 (by kernel_rfl) Z Z Z ?_
  refine Am 4 Z <| Dk 8 f Z Z Z (fun g => ?_) (fun o => ?_)
  .refine Am 4 Z <| An Z (Og Z Z <| Am 3 Z <| Dk 16 g Z Z Z (fun i => ?_) (fun n => ?_))
   .refine Am 5 Z <| Dk 21 i Z Z Z (fun j => ?_) (fun m => ?_)
    .exact Am 6 Z <| bq j fun s d k => An Z (AZ Z (Aj d Z Z Z <| Am 2 Z <| bq k fun t e l => An Z (BA (Mc _ _ e) (.inl Z) Z Z Z <| A0 Z <| AN l (wf hA [] Z Z Z))))
    exact A0 Z <| AN m (wf hA [] Z Z Z)
   exact A0 Z <| AN n (wf hA [] Z Z Z)
  exact A0 Z <| AN o (wf hA [] Z Z Z)
 refine AG ?_
 have hr := Option.some.inj q; subst hr
 exact er Z Le.rfl
noncomputable def Cm (c : AM) (b : (Int × (List (AF × AF)))) (a : Int) : Option (Int ⊕ ((List (AF × AF)) × Bool)) :=
 bif decide (a < (c.elems.length : Int)) then FG (((Ak c.elems a).bind fun e => bif (e.kind != 4) then some (.inl ()) else ((bif (!(Ap b.2 (⟨a, 0⟩ : AF)).isSome) then some true else (Ak c.elems (((Ap b.2 (⟨a, 0⟩ : AF)).getD (⟨0, 0⟩ : AF)).elem)).bind fun f => some (f.kind == 4) : Option (Bool))).bind fun (d : Bool) => bif d then some (.inr (.inr ([], false))) else some (.inl ()) : Option (Unit ⊕ (Int ⊕ ((List (AF × AF)) × Bool))))) fun (g : Unit) => some (.inl (AQ (a + 1))) else some (.inr (b.2, true))
noncomputable def C2 (e : AM) (d : Int × (List (AF × AF))) : Option ((Int × (List (AF × AF))) ⊕ ((List (AF × AF)) × Bool)) :=
 bif decide (d.1 < (e.joins.length : Int)) then (Ak e.joins d.1).bind fun c => ((bif (Ap d.2 c.a).isSome then some true else bif (Ap d.2 c.b).isSome then some true else bif (c.a == c.b) then some true else (Hd e c.a).bind fun g => bif (!g) then some true else (Hd e c.b).bind fun h => some (!h) : Option (Bool))).bind fun (f : Bool) => bif f then some (.inr ([], false)) else some (.inl (AQ (d.1 + 1), BC c.b c.a (BC c.a c.b d.2))) else (AO (Cm e d) 0).map .inr
noncomputable def Er (a : AM) : Option ((List (AF × AF)) × Bool) :=
 AO (C2 a) (0, [])
theorem TL (c : AM) (r : ((List (AF × AF)) × Bool)) (h : Er c = some r) : A4 Tryz.prog 166 [.agg (Aa c)] (· = .tup [.map (Aw (fun x => .agg (AK x)) (fun x => .agg (AK x)) r.1), .bool r.2]) := by
 refine fn AA Tryz.func166 Z Z 105 Z [.tmp 2, .tmp 3] Z [(0, .p (.agg (Aa c)))] Z Z fun A hA => ?_
 unfold Er at h
 refine rs AA <| rl Z <| rs AA <| rl Z <| AB <| rs AA <| rn 2 Z <| sx Z (Al Z Z <| rl Z <| AH ?_)
 apply lp (a := r) (fun d : (Int × (List (AF × AF))) => ⟨105, [(1, .lpb 0 0), (4, .lmap 1), (17, ls 4 BZ c.joins), (18, li (c.joins.length : Int)), (19, li d.1)], [(0, bx (Aa c)), (1, .map (Aw (fun x => .agg (AK x)) (fun x => .agg (AK x)) d.2))], 2⟩) h
 . exact wf hA [(0, 0), (1, 1)] Z Z Z
 intro d bg k
 unfold C2 at k
 refine rs AA <| rl Z <| AB <| cd Z k (fun ao => ?_) (fun a7 => ?_)
 .refine AD <| AC <| AB <| AH <| rs AA <| bq ao fun e q ap => sx Z (Aj q Z Z Z <| rl Z <| rs AA <| rn 3 Z <| sx Z (JV (et := 96) (ke := (fun x => .agg (AK x))) (ve := (fun x => .agg (AK x))) (mp := d.2) (y := e.a) (⟨0, 0⟩ : AF) Ck Z Z Z Z <| rl Z <| rs AA <| rn 3 Z <| sx Z (JV (et := 96) (ke := (fun x => .agg (AK x))) (ve := (fun x => .agg (AK x))) (mp := d.2) (y := e.b) (⟨0, 0⟩ : AF) Ck Z Z Z Z <| rl Z <| AB <| jb (fun i : Bool => ⟨105, [(1, .lpb 0 0), (4, .lmap 1), (6, .lpb 2 0), (17, ls 4 BZ c.joins), (18, li (c.joins.length : Int)), (19, li d.1), (61, lb i)], [(0, bx (Aa c)), (1, .map (Aw (fun x => .agg (AK x)) (fun x => .agg (AK x)) d.2)), (2, bx (BZ e))], 3⟩) ap (fun i aq => ?_) (fun i a3 => ?_))))
  .refine rg AA <| rn 2 Z <| gs 38 aq Z Z Z (fun ar => ?_) (fun au => ?_)
   .exact rl Z <| AN ar (wf hA (gi 3 []) Z Z Z)
   refine rn 3 Z <| gs 41 au Z Z Z (fun av => ?_) (fun aw => ?_)
   .exact rl Z <| AN av (wf hA (gi 3 []) Z Z Z)
   refine rn 4 Z <| sx Z (AAc (I9 e.a e.b) Z Z Z Z Z <| rn 2 Z <| gs 48 aw Z Z Z (fun ax => ?_) (fun ay => ?_))
   .exact rl Z <| AN ax (wf hA (gi 3 []) Z Z Z)
   refine rn 3 Z <| bq ay fun bj s az => sx Z (AS (Md _ _ _ s) (.inl Z) Z Z Z <| rn 3 Z <| gs 55 az Z Z Z (fun a0 => ?_) (fun a1 => ?_))
   .exact rl Z <| AN a0 (wf hA (gi 3 []) Z Z Z)
   exact rn 3 Z <| bq a1 fun bk t a2 => sx Z (AS (Md _ _ _ t) (.inl Z) Z Z Z <| rl Z <| AN a2 (wf hA (gi 3 []) Z Z Z))
  refine cd Z a3 (fun a4 => ?_) (fun a6 => ?_)
  .refine rs AA <| rl Z <| AG <| AI <| AT <| AI <| A1 a4 fun be a5 => AT <| AI ?_
   cases a5
   exact er Z (Le.tup' (.cons Le.nilm (.cons Le.rfl .nil)))
  refine AD <| AC ?_
  refine Bi AA Az [0, 1, 2, 3, 4, 5, 6, 7, 8, 9, 10, 11] 12 (by kernel_rfl) Z Z Z ?_
  exact Am 10 Z <| An Z (AZ Z (JW (et := 96) (ke := (fun x => .agg (AK x))) (ve := (fun x => .agg (AK x))) (mp := d.2) (y := e.a) (z := e.b) Ck Z Z Z Z Z Z <| An Z (AZ Z (JW (et := 96) (ke := (fun x => .agg (AK x))) (ve := (fun x => .agg (AK x))) (mp := BC e.a e.b d.2) (y := e.b) (z := e.a) Ck Z Z Z Z Z Z <| A0 Z <| Ai <| AC <| rg AA <| rl Z <| Av a6 (wf hA [(0, 0), (1, 1)] Z Z Z)))))
 refine AU <| Ab <| CW a7 fun l a8 => Ao <| AC <| AB <| rs AA <| rn 2 Z <| sx Z (Al Z Z <| rl Z <| AH ?_)
 apply lp (a := l) (fun f : Int => ⟨105, [(1, .lpb 0 0), (4, .lmap 1), (74, ls 3 BJ c.elems), (75, li (c.elems.length : Int)), (76, li f)], [(0, bx (Aa c)), (1, .map (Aw (fun x => .agg (AK x)) (fun x => .agg (AK x)) d.2))], 2⟩) a8
 . exact wf hA [(0, 0), (1, 1)] Z Z Z
 intro f m j
 unfold Cm at j
 refine rs AA <| rl Z <| AB <| cd Z j (fun u => ?_) (fun am => ?_)
 .refine AD <| AC ?_
  apply jn (a := m) (fun a9 : Unit => ⟨105, [(1, .lpb 0 0), (4, .lmap 1), (74, ls 3 BJ c.elems), (75, li (c.elems.length : Int)), (76, li f)], [(0, bx (Aa c)), (1, .map (Aw (fun x => .agg (AK x)) (fun x => .agg (AK x)) d.2))], 2⟩) u
  .intro bf v
   refine AH <| rs AA <| rn 1 Z <| bq v fun bh n w => sx Z (Aj n Z Z Z <| rl Z <| AB <| rs AA <| rl Z <| cd Z w (fun aa => ?_) (fun ab => ?_))
   .exact AU <| Ab <| Ao <| Av aa (wf hA [(0, 0), (1, 1)] Z Z Z)
   refine AD <| AC <| rs AA <| rn 3 Z <| sx Z (JV (et := 96) (ke := (fun x => .agg (AK x))) (ve := (fun x => .agg (AK x))) (mp := d.2) (y := (⟨f, 0⟩ : AF)) (⟨0, 0⟩ : AF) Ck Z Z Z Z <| rl Z <| jb (fun g : Bool => ⟨105, [(1, .lpb 0 0), (4, .lmap 1), (74, ls 3 BJ c.elems), (75, li (c.elems.length : Int)), (76, li f), (102, lb g)], [(0, bx (Aa c)), (1, .map (Aw (fun x => .agg (AK x)) (fun x => .agg (AK x)) d.2))], 2⟩) ab (fun g ac => ?_) (fun g ag => ?_))
   .refine rg AA <| rn 3 Z <| gs 93 ac Z Z Z (fun ad => ?_) (fun ae => ?_)
    .exact rl Z <| AN ad (wf hA [(0, 0), (1, 1)] Z Z Z)
    exact rn 4 Z <| bq ae fun bi o af => sx Z (Aj o Z Z Z <| rl Z <| AN af (wf hA [(0, 0), (1, 1)] Z Z Z))
   refine cd Z ag (fun ah => ?_) (fun ak => ?_)
   .refine rs AA <| rl Z <| AG <| AT <| A1 ah fun ba ai => A1 ai fun bb aj => AT <| AI ?_
    cases aj
    exact er Z (Le.tup' (.cons Le.nilm (.cons Le.rfl .nil)))
   exact AD <| Ai <| Av ak (wf hA [(0, 0), (1, 1)] Z Z Z)
  intro a9 al
  exact rg AA <| rl Z <| Av al (wf hA [(0, 0), (1, 1)] Z Z Z)
 refine AU <| Ab <| BH am fun bc an => Ao <| AC <| rs AA <| rl Z <| AG ?_
 cases an
 exact er (SY Z (.cons (.one (.map Z)) (.cons (.one (.p _)) .nil))) Le.rfl
noncomputable def Cb (b : AM) (c : (Int × (List (AF × Bool)))) (a : Int) : Option (Int ⊕ Bool) :=
 bif decide (a < (b.elems.length : Int)) then (Ak b.elems a).bind fun e => ((bif (e.kind == 4) then some (!((Ap c.2 (⟨a, 0⟩ : AF)).getD false)) else some false : Option (Bool))).bind fun (d : Bool) => bif d then some (.inr false) else some (.inl (AQ (a + 1))) else some (.inr true)
noncomputable def DJ (b : AM) (d : (List (AF × AF))) (a : Int × (List (AF × Bool))) : Option ((Int × (List (AF × Bool))) ⊕ Bool) :=
 bif decide (a.1 < (b.signals.length : Int)) then (Ak b.signals a.1).bind fun c => (((Hd b c.at_).bind fun j => bif (!j) then some true else some ((Ap a.2 c.at_).getD false) : Option (Bool))).bind fun (g : Bool) => bif g then some (.inr false) else (Ak b.elems c.at_.elem).bind fun e => ((bif (e.kind != 1) then some (e.kind != 4) else some false : Option (Bool))).bind fun (h : Bool) => bif h then some (.inr false) else ((bif (!(Ap d c.at_).isSome) then some true else (Ak b.elems (((Ap d c.at_).getD (⟨0, 0⟩ : AF)).elem)).bind fun i => some (i.kind == 4) : Option (Bool))).bind fun (f : Bool) => bif f then some (.inr false) else some (.inl (AQ (a.1 + 1), BC c.at_ true a.2)) else (AO (Cb b a) 0).map .inr
noncomputable def EB (a : AM) (b : (List (AF × AF))) : Option Bool :=
 AO (DJ a b) (0, [])
theorem R5 (b : AM) (d : (List (AF × AF))) (r : Bool) (h : EB b d = some r) : A4 Tryz.prog 167 [.agg (Aa b), .map (Aw (fun x => .agg (AK x)) (fun x => .agg (AK x)) d)] (· = .bool r) := by
 refine fn AA Tryz.func167 Z Z 88 Z [.tmp 4] Z [(0, .p (.agg (Aa b))), (1, .p (.map (Aw (fun x => .agg (AK x)) (fun x => .agg (AK x)) d)))] Z Z fun A hA => ?_
 unfold EB at h
 refine rs AA <| rl Z <| rs AA <| rl Z <| AB <| rs AA <| rn 2 Z <| sx Z (Al Z Z <| rl Z <| AH ?_)
 apply lp (a := r) (fun c : (Int × (List (AF × Bool))) => ⟨88, [(1, .p (.map (Aw (fun x => .agg (AK x)) (fun x => .agg (AK x)) d))), (2, .lpb 0 0), (5, .lmap 1), (15, ls 4 A2 b.signals), (16, li (b.signals.length : Int)), (17, li c.1)], [(0, bx (Aa b)), (1, .map (Aw (fun x => .agg (AK x)) .bool c.2))], 2⟩) h
 . exact wf hA [(0, 0), (1, 1)] Z Z Z
 intro c bk m
 unfold DJ at m
 refine rs AA <| rl Z <| AB <| cd Z m (fun av => ?_) (fun ag => ?_)
 .refine AD <| AC <| AB <| AH <| rs AA <| bq av fun e s aw => sx Z (Aj s Z Z Z <| rl Z <| AB <| jb (fun j : Bool => ⟨88, [(1, .p (.map (Aw (fun x => .agg (AK x)) (fun x => .agg (AK x)) d))), (2, .lpb 0 0), (5, .lmap 1), (7, .lpb 2 0), (15, ls 4 A2 b.signals), (16, li (b.signals.length : Int)), (17, li c.1), (31, lb j)], [(0, bx (Aa b)), (1, .map (Aw (fun x => .agg (AK x)) .bool c.2)), (2, bx (A2 e))], 3⟩) aw (fun j ax => ?_) (fun j a1 => ?_))
  .refine rg AA <| rn 3 Z <| bq ax fun bn t ay => sx Z (AS (Md _ _ _ t) (.inl Z) Z Z Z <| rn 2 Z <| gs 26 ay Z Z Z (fun az => ?_) (fun a0 => ?_))
   .exact rl Z <| AN az (wf hA (gi 3 []) Z Z Z)
   exact rn 3 Z <| sx Z (K6 (et := 4) (ke := (fun x => .agg (AK x))) (ve := .bool) (mp := c.2) (y := e.at_) false Ck Z Z Z Z <| rl Z <| AN a0 (wf hA (gi 3 []) Z Z Z))
  refine cd Z a1 (fun a2 => ?_) (fun a4 => ?_)
  .refine rs AA <| rl Z <| AG <| AI <| AT <| AI <| A1 a2 fun bh a3 => AT <| AI ?_
   cases a3
   exact er Z Le.rfl
  refine AD <| AC <| AB <| rs AA <| rn 5 Z <| bq a4 fun bo u a5 => sx Z (Aj u Z Z Z <| rl Z <| jb (fun k : Bool => ⟨88, [(1, .p (.map (Aw (fun x => .agg (AK x)) (fun x => .agg (AK x)) d))), (2, .lpb 0 0), (5, .lmap 1), (7, .lpb 2 0), (15, ls 4 A2 b.signals), (16, li (b.signals.length : Int)), (17, li c.1), (45, lb k)], [(0, bx (Aa b)), (1, .map (Aw (fun x => .agg (AK x)) .bool c.2)), (2, bx (A2 e))], 3⟩) a5 (fun k a6 => ?_) (fun k a9 => ?_))
  .refine rg AA <| rn 3 Z <| gs 42 a6 Z Z Z (fun a7 => ?_) (fun a8 => ?_)
   .exact rl Z <| AN a7 (wf hA (gi 3 []) Z Z Z)
   exact rl Z <| AN a8 (wf hA (gi 3 []) Z Z Z)
  refine cd Z a9 (fun ba => ?_) (fun bc => ?_)
  .refine rs AA <| rl Z <| AG <| AI <| AT <| AI <| A1 ba fun bi bb => AT <| AI ?_
   cases bb
   exact er Z Le.rfl
  refine AD <| AC <| rs AA <| rn 3 Z <| sx Z (JV (et := 96) (ke := (fun x => .agg (AK x))) (ve := (fun x => .agg (AK x))) (mp := d) (y := e.at_) (⟨0, 0⟩ : AF) Ck Z Z Z Z <| rl Z <| AB <| jb (fun g : Bool => ⟨88, [(1, .p (.map (Aw (fun x => .agg (AK x)) (fun x => .agg (AK x)) d))), (2, .lpb 0 0), (5, .lmap 1), (7, .lpb 2 0), (15, ls 4 A2 b.signals), (16, li (b.signals.length : Int)), (17, li c.1), (64, lb g)], [(0, bx (Aa b)), (1, .map (Aw (fun x => .agg (AK x)) .bool c.2)), (2, bx (A2 e))], 3⟩) bc (fun g v => ?_) (fun g ac => ?_))
  .refine rg AA <| rn 3 Z <| gs 55 v Z Z Z (fun w => ?_) (fun aa => ?_)
   .exact rl Z <| AN w (wf hA (gi 3 []) Z Z Z)
   exact rn 4 Z <| bq aa fun bl o ab => sx Z (Aj o Z Z Z <| rl Z <| AN ab (wf hA (gi 3 []) Z Z Z))
  refine cd Z ac (fun ad => ?_) (fun af => ?_)
  .refine rs AA <| rl Z <| AG <| AI <| AT <| AI <| A1 ad fun be ae => AT <| AI ?_
   cases ae
   exact er Z Le.rfl
  exact AD <| AC <| rg AA <| rn 3 Z <| sx Z (JW (et := 4) (ke := (fun x => .agg (AK x))) (ve := .bool) (mp := c.2) (y := e.at_) (z := true) Ck Z Z Z Z Z Z <| rl Z <| Ai <| AC <| rg AA <| rl Z <| Av af (wf hA [(0, 0), (1, 1)] Z Z Z))
 refine AU <| Ab <| CW ag fun n ah => Ao <| AC <| AB <| rs AA <| rn 2 Z <| sx Z (Al Z Z <| rl Z <| AH ?_)
 apply lp (a := n) (fun f : Int => ⟨88, [(5, .lmap 0), (70, ls 3 BJ b.elems), (71, li (b.elems.length : Int)), (72, li f)], [(0, .map (Aw (fun x => .agg (AK x)) .bool c.2))], 1⟩) ah
 . exact wf hA [(0, 1)] Z Z Z
 intro f bj l
 unfold Cb at l
 refine rs AA <| rl Z <| AB <| cd Z l (fun ai => ?_) (fun ar => ?_)
 .refine AD <| AC <| AB <| AH <| rs AA <| rn 1 Z <| bq ai fun bm q aj => sx Z (Aj q Z Z Z <| rl Z <| jb (fun i : Bool => ⟨88, [(5, .lmap 0), (70, ls 3 BJ b.elems), (71, li (b.elems.length : Int)), (72, li f), (86, lb i)], [(0, .map (Aw (fun x => .agg (AK x)) .bool c.2))], 1⟩) aj (fun i ak => ?_) (fun i an => ?_))
  .refine rg AA <| rn 4 Z <| gs 80 ak Z Z Z (fun al => ?_) (fun am => ?_)
   .exact rn 3 Z <| sx Z (K6 (et := 4) (ke := (fun x => .agg (AK x))) (ve := .bool) (mp := c.2) (y := (⟨f, 0⟩ : AF)) false Ck Z Z Z Z <| rl Z <| AN al (wf hA [(0, 0)] Z Z Z))
   exact rl Z <| AN am (wf hA [(0, 0)] Z Z Z)
  refine cd Z an (fun ao => ?_) (fun aq => ?_)
  .refine rs AA <| rl Z <| AG <| AT <| AI <| A1 ao fun bf ap => AT <| AI ?_
   cases ap
   exact er Z Le.rfl
  exact AD <| Ai <| AC <| rg AA <| rl Z <| Av aq (wf hA [(0, 0)] Z Z Z)
 refine AU <| Ab <| BH ar fun bg au => Ao <| AC <| rs AA <| rl Z <| AG ?_
 cases au
 exact er Z Le.rfl
noncomputable def DX (b : (List Int)) (c : (List (AF × AF))) (a : Int × Int) : Option ((Int × Int) ⊕ Bool) :=
 bif decide (a.2 < (b.length : Int)) then (Ak b (AQ (a.2 - 1))).bind fun d => ((bif (!(Ap c (⟨d, a.1⟩ : AF)).isSome) then some true else (Ak b a.2).bind fun f => some ((((Ap c (⟨d, a.1⟩ : AF)).getD (⟨0, 0⟩ : AF)).elem) != f) : Option (Bool))).bind fun (e : Bool) => bif e then some (.inr false) else some (.inl (AQ (1 - (((Ap c (⟨d, a.1⟩ : AF)).getD (⟨0, 0⟩ : AF)).fin)), AQ (a.2 + 1))) else some (.inr true)
noncomputable def Cc (b : (List Int)) (c : (List (AF × AF))) (a : Int × Int) : Option ((Int × Int) ⊕ Bool) :=
 bif decide (0 <= a.2) then (((Ak b 0).bind fun d => ((bif (Ap c (⟨d, a.2⟩ : AF)).isSome then (Ak b 1).bind fun g => some ((((Ap c (⟨d, a.2⟩ : AF)).getD (⟨0, 0⟩ : AF)).elem) == g) else some false : Option (Bool))).bind fun (f : Bool) => bif f then some a.2 else some a.1 : Option (Int))).bind fun (e : Int) => some (.inl (e, AQ (a.2 - 1))) else (bif decide (a.1 < 0) then some false else AO (DX b c) (a.1, 1)).map .inr
noncomputable def G4 (a : (List Int)) (b : (List (AF × AF))) : Option Bool :=
 bif decide ((a.length : Int) < 2) then some true else AO (Cc a b) ((-1), 1)
theorem Wr (c : (List Int)) (b : (List (AF × AF))) (r : Bool) (h : G4 c b = some r) : A4 Tryz.prog 200 [.slice 1 (c.map AY), .map (Aw (fun x => .agg (AK x)) (fun x => .agg (AK x)) b)] (· = .bool r) := by
 refine fn AA Tryz.func200 Z Z 73 Z [.tmp 4] Z [(0, .p (.slice 1 (c.map AY))), (1, .p (.map (Aw (fun x => .agg (AK x)) (fun x => .agg (AK x)) b)))] Z Z fun A hA => ?_
 unfold G4 at h
 refine rs AA <| rl Z <| AB <| rs AA <| rn 1 Z <| sx Z (Al Z Z <| rl Z <| cd Z h (fun ak => ?_) (fun al => ?_))
 .refine rs AA <| rl Z <| AG <| AI ?_
  cases ak
  exact er Z Le.rfl
 refine AD <| AC <| rs AA <| rl Z <| AB <| rs AA <| rl Z <| AH ?_
 apply lp (a := r) (fun d : (Int × Int) => ⟨73, [(0, ls 1 AY c), (1, .p (.map (Aw (fun x => .agg (AK x)) (fun x => .agg (AK x)) b))), (5, li d.1), (6, li d.2)], [], 0⟩) al
 . exact wf hA [] Z Z Z
 intro d a3 k
 unfold Cc at k
 refine AB <| rs AA <| rl Z <| cd Z k (fun t => ?_) (fun ag => ?_)
 .refine AD <| AC <| jb (fun f : Int => ⟨73, [(0, ls 1 AY c), (1, .p (.map (Aw (fun x => .agg (AK x)) (fun x => .agg (AK x)) b))), (5, li f), (6, li d.2)], [], 0⟩) t (fun f u => ?_) (fun f af => ?_)
  .refine AH <| rs AA <| rn 2 Z <| bq u fun a0 n v => sx Z (Aj n Z Z Z <| rn 3 Z <| sx Z (JV (et := 96) (ke := (fun x => .agg (AK x))) (ve := (fun x => .agg (AK x))) (mp := b) (y := (⟨a0, d.2⟩ : AF)) (⟨0, 0⟩ : AF) Ck Z Z Z Z <| rl Z <| jb (fun g : Bool => ⟨73, [(0, ls 1 AY c), (1, .p (.map (Aw (fun x => .agg (AK x)) (fun x => .agg (AK x)) b))), (5, li d.1), (6, li d.2), (37, lb g)], [], 0⟩) v (fun g w => ?_) (fun g ac => ?_)))
   .refine Bi AA Az [0, 1, 2, 3, 4, 5, 6, 7, 8] 9 (by kernel_rfl) Z Z Z ?_
    refine Am 2 Z <| Dk 30 w Z Z Z (fun z => ?_) (fun ab => ?_)
    .exact Am 3 Z <| bq z fun a5 o aa => An Z (AZ Z (Aj o Z Z Z <| A0 Z <| AN aa (wf hA [] Z Z Z)))
    exact A0 Z <| AN ab (wf hA [] Z Z Z)
   refine cd Z ac (fun ad => ?_) (fun ae => ?_)
   .exact rg AA <| rl Z <| Ai <| AN ad (wf hA [] Z Z Z)
   exact AD <| Ai <| AN ae (wf hA [] Z Z Z)
  exact rg AA <| rl Z <| Av af (wf hA [] Z Z Z)
 refine AU <| Ab <| CW ag fun m ah => Ao <| AC <| AB <| rs AA <| rl Z <| cd Z ah (fun ai => ?_) (fun aj => ?_)
 .refine rs AA <| rl Z <| AG <| AI ?_
  cases ai
  exact er Z Le.rfl
 refine AD <| AC <| AB <| rs AA <| rl Z <| AH ?_
 apply lp (a := m) (fun e : (Int × Int) => ⟨73, [(0, ls 1 AY c), (1, .p (.map (Aw (fun x => .agg (AK x)) (fun x => .agg (AK x)) b))), (5, li e.1), (9, li e.2)], [], 0⟩) aj
 . exact wf hA [] Z Z Z
 intro e a4 l
 unfold DX at l
 refine AB <| rs AA <| rn 2 Z <| sx Z (Al Z Z <| rl Z <| cd Z l (fun am => ?_) (fun ay => ?_))
 .refine AD <| AC <| AB <| AH <| rs AA <| rn 4 Z <| bq am fun j q an => sx Z (Aj q Z Z Z <| rn 3 Z <| sx Z (JV (et := 96) (ke := (fun x => .agg (AK x))) (ve := (fun x => .agg (AK x))) (mp := b) (y := (⟨j, e.1⟩ : AF)) (⟨0, 0⟩ : AF) Ck Z Z Z Z <| rl Z <| AB <| jb (fun i : Bool => ⟨73, [(0, ls 1 AY c), (1, .p (.map (Aw (fun x => .agg (AK x)) (fun x => .agg (AK x)) b))), (9, li e.2), (10, .lpb 0 0), (69, lb i)], [(0, .box [li (((Ap b (⟨j, e.1⟩ : AF)).getD (⟨0, 0⟩ : AF)).elem), li (((Ap b (⟨j, e.1⟩ : AF)).getD (⟨0, 0⟩ : AF)).fin)])], 1⟩) an (fun i ao => ?_) (fun i au => ?_)))
  .refine Bi AA Az [0, 1, 2, 3, 4, 5, 6, 7, 8, 9, 10] 11 (by kernel_rfl) Z Z Z ?_
   refine Am 3 Z <| Dk 61 ao Z Z Z (fun ap => ?_) (fun aq => ?_)
   .exact A0 Z <| AN ap (wf hA [(0, 0)] Z Z Z)
   exact Am 4 Z <| bq aq fun a6 s ar => An Z (AZ Z (Aj s Z Z Z <| A0 Z <| AN ar (wf hA [(0, 0)] Z Z Z)))
  refine cd Z au (fun av => ?_) (fun ax => ?_)
  .refine rs AA <| rl Z <| AG <| AI <| AT <| AI <| A1 av fun a1 aw => AT <| AI ?_
   cases aw
   exact er Z Le.rfl
  exact AD <| AC <| rg AA <| rl Z <| Ai <| AC <| rg AA <| rl Z <| Av ax (wf hA [] Z Z Z)
 refine AU <| Ab <| BH ay fun a2 az => Ao <| AC <| rs AA <| rl Z <| AG ?_
 cases az
 exact er Z Le.rfl
noncomputable def DO (d : AM) (g : (List (AF × AF))) (e : (Int × (List (Int × Bool)))) (c : CC) (a : Int × (List (Int × Bool))) : Option ((Int × (List (Int × Bool))) ⊕ ((Int × (List (Int × Bool))) ⊕ Bool)) :=
 bif decide (a.1 < (c.elems.length : Int)) then (Ak c.elems a.1).bind fun b => ((bif decide (b < 0) then some true else bif decide ((d.elems.length : Int) <= b) then some true else (Ak d.elems b).bind fun h => bif (h.kind != 1) then some true else some ((Ap a.2 b).getD false) : Option (Bool))).bind fun (f : Bool) => bif f then some (.inr (.inr false)) else some (.inl (AQ (a.1 + 1), BC b true a.2)) else ((G4 c.elems g).bind fun i => bif (!i) then some (.inr false) else some (.inl (AQ (e.1 + 1), a.2))).map .inr
noncomputable def Dm (b : AM) (d : (List (AF × AF))) (a : Int × (List (Int × Bool))) : Option ((Int × (List (Int × Bool))) ⊕ Bool) :=
 bif decide (a.1 < (b.lines.length : Int)) then (Ak b.lines a.1).bind fun c => bif ((c.elems.length : Int) == 0) then some (.inr false) else AO (DO b d a c) (0, a.2) else some (.inr true)
noncomputable def FU (a : AM) (b : (List (AF × AF))) : Option Bool :=
 AO (Dm a b) (0, [])
theorem UN (b : AM) (e : (List (AF × AF))) (r : Bool) (h : FU b e = some r) : A4 Tryz.prog 168 [.agg (Aa b), .map (Aw (fun x => .agg (AK x)) (fun x => .agg (AK x)) e)] (· = .bool r) := by
 refine fn AA Tryz.func168 Z Z 61 Z [.tmp 4] Z [(0, .p (.agg (Aa b))), (1, .p (.map (Aw (fun x => .agg (AK x)) (fun x => .agg (AK x)) e)))] Z Z fun A hA => ?_
 unfold FU at h
 refine rs AA <| rl Z <| rs AA <| rl Z <| AB <| rs AA <| rn 2 Z <| sx Z (Al Z Z <| rl Z <| AH ?_)
 apply lp (a := r) (fun f : (Int × (List (Int × Bool))) => ⟨61, [(1, .p (.map (Aw (fun x => .agg (AK x)) (fun x => .agg (AK x)) e))), (2, .lpb 0 0), (5, .lmap 1), (12, ls 2 BR b.lines), (13, li (b.lines.length : Int)), (14, li f.1)], [(0, bx (Aa b)), (1, .map (Aw (.int .i64) .bool f.2))], 2⟩) h
 . exact wf hA [(0, 0), (1, 1)] Z Z Z
 intro f l j
 unfold Dm at j
 refine rs AA <| rl Z <| AB <| cd Z j (fun s => ?_) (fun ax => ?_)
 .refine AD <| AC <| AB <| AH <| rs AA <| bq s fun c m t => sx Z (Aj m Z Z Z <| rl Z <| AB <| rs AA <| rn 2 Z <| sx Z (Al Z Z <| rl Z <| cd Z t (fun u => ?_) (fun w => ?_)))
  .refine rs AA <| rl Z <| AG <| AI <| AT <| AI <| A1 u fun az v => AT <| AI ?_
   cases v
   exact er Z Le.rfl
  refine AD <| AC <| AB <| rs AA <| rn 2 Z <| sx Z (Al Z Z <| rl Z <| AH ?_)
  apply lp (a := l) (fun d : (Int × (List (Int × Bool))) => ⟨61, [(1, .p (.map (Aw (fun x => .agg (AK x)) (fun x => .agg (AK x)) e))), (2, .lpb 0 0), (5, .lmap 1), (7, .lpb 2 0), (12, ls 2 BR b.lines), (13, li (b.lines.length : Int)), (14, li f.1), (23, ls 1 AY c.elems), (24, li (c.elems.length : Int)), (25, li d.1)], [(0, bx (Aa b)), (1, .map (Aw (.int .i64) .bool d.2)), (2, .box [.p (.str c.name), ls 1 AY c.elems])], 3⟩) w
  . exact wf hA (gi 3 []) Z Z Z
  intro d a5 k
  unfold DO at k
  refine rs AA <| rl Z <| AB <| cd Z k (fun aa => ?_) (fun ap => ?_)
  .refine AD <| AC <| AB <| AH <| rs AA <| bq aa fun i n ab => sx Z (Aj n Z Z Z <| rl Z <| AB <| jb (fun g : Bool => ⟨61, [(1, .p (.map (Aw (fun x => .agg (AK x)) (fun x => .agg (AK x)) e))), (2, .lpb 0 0), (5, .lmap 1), (7, .lpb 2 0), (9, li i), (12, ls 2 BR b.lines), (13, li (b.lines.length : Int)), (14, li f.1), (23, ls 1 AY c.elems), (24, li (c.elems.length : Int)), (25, li d.1), (51, lb g)], [(0, bx (Aa b)), (1, .map (Aw (.int .i64) .bool d.2)), (2, .box [.p (.str c.name), ls 1 AY c.elems])], 3⟩) ab (fun g ac => ?_) (fun g ak => ?_))
   .refine rg AA <| rn 3 Z <| gs 31 ac Z Z Z (fun ad => ?_) (fun ae => ?_)
    .exact rl Z <| AN ad (wf hA (gi 3 []) Z Z Z)
    refine rn 3 Z <| sx Z (Al Z Z <| rn 3 Z <| gs 38 ae Z Z Z (fun af => ?_) (fun ag => ?_))
    .exact rl Z <| AN af (wf hA (gi 3 []) Z Z Z)
    refine rn 3 Z <| bq ag fun a6 o ah => sx Z (Aj o Z Z Z <| rn 5 Z <| gs 47 ah Z Z Z (fun ai => ?_) (fun aj => ?_))
    .exact rl Z <| AN ai (wf hA (gi 3 []) Z Z Z)
    exact rn 2 Z <| sx Z (K6 (et := 4) (ke := (.int .i64)) (ve := .bool) (mp := d.2) (y := i) false Lq Z Z Z Z <| rl Z <| AN aj (wf hA (gi 3 []) Z Z Z))
   refine cd Z ak (fun al => ?_) (fun ao => ?_)
   .refine rs AA <| rl Z <| AG <| AI <| AT <| AI <| A1 al fun a0 am => AT <| AI <| AT <| AI <| A1 am fun a1 an => AT <| AI ?_
    cases an
    exact er Z Le.rfl
   exact AD <| AC <| rg AA <| rn 2 Z <| sx Z (JW (et := 4) (ke := (.int .i64)) (ve := .bool) (mp := d.2) (y := i) (z := true) Lq Z Z Z Z Z Z <| rl Z <| Ai <| AC <| rg AA <| rl Z <| Av ao (wf hA (gi 3 []) Z Z Z))
  refine AU <| Ab <| CW ap fun a2 aq => Ao <| AC <| rs AA <| rn 3 Z <| bq aq fun a7 q ar => sx Z (AS (Wr _ _ _ q) (.inl Z) Z Z Z <| rl Z <| cd Z ar (fun au => ?_) (fun aw => ?_))
  .refine rs AA <| rl Z <| AG <| AT <| AI <| A1 au fun a3 av => AT <| AI ?_
   cases av
   exact er Z Le.rfl
  exact AD <| Ai <| AC <| rg AA <| rl Z <| Av aw (wf hA [(0, 0), (1, 1)] Z Z Z)
 refine AU <| Ab <| BH ax fun a4 ay => Ao <| AC <| rs AA <| rl Z <| AG ?_
 cases ay
 exact er Z Le.rfl
end Go.E
/- Plain functions, and walks in step with them. Written by a program (gen.py). No condition. -/
set_option maxRecDepth 100000
namespace Go.E
open Go Go.RowKit Go.Proofs
noncomputable def M7 (b : Int) (a : Int × Int) : Option ((Int × Int) ⊕ Int) :=
 bif decide (0 < a.1) then some (.inl (AQ (a.1 - b), AQ (a.2 + a.1))) else some (.inr a.2)
noncomputable def Ir (b : Int) (a : Int) : Option Int :=
 ((bif decide (b < 0) then some true else bif decide (60 < b) then some true else bif decide (a < 1) then some true else some (decide (10 < a)) : Option (Bool))).bind fun (c : Bool) => bif c then some 0 else AO (M7 a) (AQ (b - a), 0)
theorem VS (c : Int) (b : Int) (r : Int) (h : Ir c b = some r) : A4 Tryz.prog 201 [.int .i64 c, .int .i64 b] (· = .int .i64 r) := by
 refine fn AA Tryz.func201 Z Z 32 Z [.tmp 4] Z [(0, .p (.int .i64 c)), (1, .p (.int .i64 b))] Z Z fun A hA => ?_
 unfold Ir at h
 refine rs AA <| rl Z <| AB <| jb (fun e : Bool => ⟨32, [(0, li c), (1, li b), (19, lb e)], [], 0⟩) h (fun e g => ?_) (fun e o => ?_)
 .refine rg AA <| rn 3 Z <| gs 8 g Z Z Z (fun i => ?_) (fun j => ?_)
  .exact rl Z <| AN i (wf hA [] Z Z Z)
  refine rn 4 Z <| gs 12 j Z Z Z (fun k => ?_) (fun l => ?_)
  .exact rl Z <| AN k (wf hA [] Z Z Z)
  refine rn 4 Z <| gs 16 l Z Z Z (fun m => ?_) (fun n => ?_)
  .exact rl Z <| AN m (wf hA [] Z Z Z)
  exact rl Z <| AN n (wf hA [] Z Z Z)
 refine cd Z o (fun q => ?_) (fun s => ?_)
 .refine rs AA <| rl Z <| AG <| AI ?_
  cases q
  exact er Z Le.rfl
 refine AD <| AC <| rs AA <| rl Z <| AB <| rs AA <| rl Z <| AH ?_
 apply lp (a := r) (fun d : (Int × Int) => ⟨32, [(0, li d.1), (1, li b), (5, li d.2)], [], 0⟩) s
 . exact wf hA [] Z Z Z
 intro d x f
 unfold M7 at f
 refine AB <| rs AA <| rl Z <| cd Z f (fun t => ?_) (fun u => ?_)
 .exact AD <| AC <| AB <| AH <| rg AA <| rl Z <| Ai <| AC <| rg AA <| rl Z <| Av t (wf hA [] Z Z Z)
 refine AU <| Ab <| BH u fun w v => Ao <| AC <| rs AA <| rl Z <| AG ?_
 cases v
 exact er Z Le.rfl
noncomputable def DE (b : AM) (a : Int) : Option (Int ⊕ Bool) :=
 bif decide (a < (b.elems.length : Int)) then (Ak b.elems a).bind fun c => ((bif (c.kind != 4) then some (decide (c.length < b.top)) else some false : Option (Bool))).bind fun (d : Bool) => bif d then some (.inr false) else some (.inl (AQ (a + 1))) else some (.inr true)
noncomputable def EC (a : AM) (b : Int) : Option (Int ⊕ Bool) :=
 bif decide (b < (a.signals.length : Int)) then (Ak a.signals b).bind fun e => (Ak a.elems e.at_.elem).bind fun c => ((bif (c.kind == 1) then some (decide (c.length < a.margin)) else some false : Option (Bool))).bind fun (d : Bool) => bif d then some (.inr false) else some (.inl (AQ (b + 1))) else (AO (DE a) 0).map .inr
noncomputable def GA (a : AM) : Option Bool :=
 (Ir a.top a.brake).bind fun b => bif decide (a.margin < AQ (a.top + b)) then some false else AO (EC a) 0
theorem VT (b : AM) (r : Bool) (h : GA b = some r) : A4 Tryz.prog 169 [.agg (Aa b)] (· = .bool r) := by
 refine fn AA Tryz.func169 Z Z 62 Z [.tmp 2] Z [(0, .p (.agg (Aa b)))] Z Z fun A hA => ?_
 unfold GA at h
 refine rs AA <| rl Z <| AB <| AB ?_
 refine Bi AA Az [0, 1, 2, 3, 4, 5, 6, 7, 8, 9, 10] 11 (by kernel_rfl) Z Z Z ?_
 refine Am 8 Z <| bq h fun a0 n o => An Z (BA (VS _ _ _ n) (.inl Z) Z Z Z <| A0 Z <| AC <| cd Z o (fun q => ?_) (fun s => ?_))
 .refine rs AA <| rl Z <| AG <| AI ?_
  cases q
  exact er Z Le.rfl
 refine AD <| AC <| AB <| rs AA <| rn 2 Z <| sx Z (Al Z Z <| rl Z <| AH ?_)
 apply lp (a := r) (fun c : Int => ⟨62, [(1, .lpb 0 0), (20, ls 4 A2 b.signals), (21, li (b.signals.length : Int)), (22, li c)], [(0, bx (Aa b))], 1⟩) s
 . exact wf hA [(0, 0)] Z Z Z
 intro c av g
 unfold EC at g
 refine rs AA <| rl Z <| AB <| cd Z g (fun t => ?_) (fun ad => ?_)
 .refine AD <| AC <| AB <| AH <| rs AA <| bq t fun ax k u => sx Z (Aj k Z Z Z <| rl Z <| rs AA <| rn 5 Z <| bq u fun ay l v => sx Z (Aj l Z Z Z <| rl Z <| jb (fun e : Bool => ⟨62, [(1, .lpb 0 0), (20, ls 4 A2 b.signals), (21, li (b.signals.length : Int)), (22, li c), (42, lb e)], [(0, bx (Aa b))], 1⟩) v (fun e w => ?_) (fun e z => ?_)))
  .refine rg AA <| rn 4 Z <| gs 36 w Z Z Z (fun x => ?_) (fun y => ?_)
   .exact rl Z <| AN x (wf hA [(0, 0)] Z Z Z)
   exact rl Z <| AN y (wf hA [(0, 0)] Z Z Z)
  refine cd Z z (fun aa => ?_) (fun ac => ?_)
  .refine rs AA <| rl Z <| AG <| AT <| AI <| A1 aa fun aq ab => AT <| AI ?_
   cases ab
   exact er Z Le.rfl
  exact AD <| Ai <| AC <| rg AA <| rl Z <| Av ac (wf hA [(0, 0)] Z Z Z)
 refine AU <| Ab <| CW ad fun j ae => Ao <| AC <| AB <| rs AA <| rn 2 Z <| sx Z (Al Z Z <| rl Z <| AH ?_)
 apply lp (a := j) (fun d : Int => ⟨62, [(1, .lpb 0 0), (45, ls 3 BJ b.elems), (46, li (b.elems.length : Int)), (47, li d)], [(0, bx (Aa b))], 1⟩) ae
 . exact wf hA [(0, 0)] Z Z Z
 intro d aw i
 unfold DE at i
 refine rs AA <| rl Z <| AB <| cd Z i (fun af => ?_) (fun ao => ?_)
 .refine AD <| AC <| AB <| AH <| rs AA <| bq af fun az m ag => sx Z (Aj m Z Z Z <| rl Z <| jb (fun f : Bool => ⟨62, [(1, .lpb 0 0), (45, ls 3 BJ b.elems), (46, li (b.elems.length : Int)), (47, li d), (60, lb f)], [(0, bx (Aa b))], 1⟩) ag (fun f ah => ?_) (fun f ak => ?_))
  .refine rg AA <| rn 4 Z <| gs 54 ah Z Z Z (fun ai => ?_) (fun aj => ?_)
   .exact rl Z <| AN ai (wf hA [(0, 0)] Z Z Z)
   exact rl Z <| AN aj (wf hA [(0, 0)] Z Z Z)
  refine cd Z ak (fun al => ?_) (fun an => ?_)
  .refine rs AA <| rl Z <| AG <| AT <| AI <| A1 al fun ar am => AT <| AI ?_
   cases am
   exact er Z Le.rfl
  exact AD <| Ai <| AC <| rg AA <| rl Z <| Av an (wf hA [(0, 0)] Z Z Z)
 refine AU <| Ab <| BH ao fun au ap => Ao <| AC <| rs AA <| rl Z <| AG ?_
 cases ap
 exact er Z Le.rfl
noncomputable def Cu (b : AM) (a : Int × (List (ByteArray × Bool))) : Option ((Int × (List (ByteArray × Bool))) ⊕ Bool) :=
 bif decide (a.1 < (b.elems.length : Int)) then (FB a.1 b).bind fun c => bif ((Ap a.2 c).getD false) then some (.inr true) else (FB a.1 b).bind fun d => some (.inl (AQ (a.1 + 1), BC d true a.2)) else some (.inr false)
noncomputable def Cv (b : AM) (a : Int × (List (ByteArray × Bool))) : Option ((Int × (List (ByteArray × Bool))) ⊕ Bool) :=
 bif decide (a.1 < (b.signals.length : Int)) then (FC a.1 b).bind fun c => bif ((Ap a.2 c).getD false) then some (.inr true) else (FC a.1 b).bind fun d => some (.inl (AQ (a.1 + 1), BC d true a.2)) else some (.inr false)
noncomputable def Cw (b : AM) (a : Int × (List (ByteArray × Bool))) : Option ((Int × (List (ByteArray × Bool))) ⊕ Bool) :=
 bif decide (a.1 < (b.lines.length : Int)) then (FD a.1 b).bind fun c => bif ((Ap a.2 c).getD false) then some (.inr true) else (FD a.1 b).bind fun d => some (.inl (AQ (a.1 + 1), BC d true a.2)) else some (.inr false)
noncomputable def FV (a : AM) : Option Int :=
 ((bif decide (40 < (a.elems.length : Int)) then some true else bif decide (24 < (a.signals.length : Int)) then some true else bif decide (4 < (a.lines.length : Int)) then some true else some (decide (80 < (a.joins.length : Int))) : Option (Bool))).bind fun (c : Bool) => bif c then some 3 else (EA a).bind fun h => bif (!h) then some 1 else ((((AO (Cu a) (0, []) : Option (Bool))).bind fun (e : Bool) => bif e then some true else ((AO (Cv a) (0, []) : Option (Bool))).bind fun (f : Bool) => bif f then some true else ((AO (Cw a) (0, []) : Option (Bool))).bind fun (g : Bool) => some g : Option (Bool))).bind fun (d : Bool) => bif d then some 4 else (Er a).bind fun b => bif (!b.2) then some 6 else (EB a b.1).bind fun i => bif (!i) then some 7 else (FU a b.1).bind fun j => bif (!j) then some 8 else (GA a).bind fun k => bif (!k) then some 9 else some 0
theorem UO (b : AM) (r : Int) (h : FV b = some r) : A4 Tryz.prog 115 [.agg (Aa b)] (· = .int .i64 r) := by
 refine fn AA Tryz.func115 Z Z 71 Z [.tmp 2] Z [(0, .p (.agg (Aa b)))] Z Z fun A hA => ?_
 unfold FV at h
 refine rs AA <| rl Z <| AB <| jb (fun j : Bool => ⟨71, [(1, .lpb 0 0), (26, lb j)], [(0, bx (Aa b))], 1⟩) h (fun j ad => ?_) (fun j ak => ?_)
 .refine rg AA <| rn 2 Z <| sx Z (Al Z Z <| rn 2 Z <| gs 9 ad Z Z Z (fun ae => ?_) (fun af => ?_))
  .exact rl Z <| AN ae (wf hA [(0, 0)] Z Z Z)
  refine rn 2 Z <| sx Z (Al Z Z <| rn 3 Z <| gs 15 af Z Z Z (fun ag => ?_) (fun ah => ?_))
  .exact rl Z <| AN ag (wf hA [(0, 0)] Z Z Z)
  refine rn 2 Z <| sx Z (Al Z Z <| rn 3 Z <| gs 21 ah Z Z Z (fun ai => ?_) (fun aj => ?_))
  .exact rl Z <| AN ai (wf hA [(0, 0)] Z Z Z)
  exact rn 2 Z <| sx Z (Al Z Z <| rl Z <| AN aj (wf hA [(0, 0)] Z Z Z))
 refine cd Z ak (fun al => ?_) (fun am => ?_)
 .refine rs AA <| rl Z <| AG <| AI ?_
  cases al
  exact er Z Le.rfl
 refine AD <| AC <| AB <| rs AA <| rn 1 Z <| bq am fun cq s a2 => sx Z (AS (R4 _ _ s) (.inl Z) Z Z Z <| rl Z <| cd Z a2 (fun a4 => ?_) (fun a6 => ?_))
 .refine rs AA <| rl Z <| AG <| AI ?_
  cases a4
  exact er Z Le.rfl
 refine AD <| AC <| AB <| jb (fun k : Bool => ⟨71, [(1, .lpb 0 0), (48, lb k)], [(0, bx (Aa b))], 1⟩) a6 (fun k an => ?_) (fun k bt => ?_)
 .refine rg AA <| rn 2 Z <| sx Z (Al Z Z <| rn 1 Z <| sx Z (Cy AA (fun f : Bool => lb f) (fun f : Bool => [(0, bx (Aa b))]) 1 an Tryz.func162 22 [.tmp 4] [(0, li (b.elems.length : Int)), (1, .fn 163 [.lpb 0 0])] Z Z Z Z Z Z Z Z (fun A hA f ao => ?_) (fun f az => ?_)))
  .refine rs AA <| rl Z <| rs AA <| rl Z <| AB <| rs AA <| rl Z <| AH ?_
   apply lp (a := f) (fun c : (Int × (List (ByteArray × Bool))) => ⟨22, [(1, .fn 163 [.lpb 0 0]), (5, .lmap 1), (8, li (b.elems.length : Int)), (9, li c.1)], [(0, bx (Aa b)), (1, .map (Aw .str .bool c.2))], 2⟩) ao
   . exact wj hA [(0, 0), (1, 1)] Z Z Z Z
   intro c cn l
   unfold Cu at l
   refine rs AA <| rl Z <| AB <| cd Z l (fun ap => ?_) (fun ax => ?_)
   .refine AD <| AC <| AB <| AH <| rs AA <| rl Z <| AB <| rs AA <| rn 3 Z <| bq ap fun ca o aq => sx Z (AS (M4 _ _ _ o) (.inl Z) Z Z (C9.eq (.cons (.one (.p _)) (.cons (.box Z (.cons (.p _) (.cons (.p _) (.cons (.p _) (.cons (.p _) (.cons (.p _) (.cons (.p _) (.cons (.p _) (.cons (.p _) (.cons (.p _) .nil)))))))))) .nil))) <| sx Z (K6 (et := 4) (ke := .str) (ve := .bool) (mp := c.2) (y := ca) false M8 Z Z Z Z <| rl Z <| cd Z aq (fun ar => ?_) (fun av => ?_)))
    .refine rs AA <| rl Z <| AG <| AI <| AT <| AI <| A1 ar fun ch au => AT <| AI ?_
     cases au
     exact Co (nt := 22) (sl := [(4, lb true)]) (wj hA [(0, 0)] Z Z Z Z) Z
    exact AD <| AC <| rg AA <| rn 3 Z <| bq av fun cb q aw => sx Z (AS (M4 _ _ _ q) (.inl Z) Z Z (C9.eq (.cons (.one (.p _)) (.cons (.box Z (.cons (.p _) (.cons (.p _) (.cons (.p _) (.cons (.p _) (.cons (.p _) (.cons (.p _) (.cons (.p _) (.cons (.p _) (.cons (.p _) .nil)))))))))) .nil))) <| sx Z (JW (et := 4) (ke := .str) (ve := .bool) (mp := c.2) (y := cb) (z := true) M8 Z Z Z Z Z Z <| rl Z <| Ai <| AC <| rg AA <| rl Z <| Av aw (wj hA [(0, 0), (1, 1)] Z Z Z Z)))
   refine AU <| Ab <| BH ax fun ci ay => Ao <| AC <| rs AA <| rl Z <| AG ?_
   cases ay
   exact Co (nt := 22) (sl := [(4, lb false)]) (wj hA [(0, 0)] Z Z Z Z) Z
  refine rn 1 Z <| gs 35 az Z Z Z (fun a0 => ?_) (fun a1 => ?_)
  .exact rl Z <| AN a0 (wf hA [(0, 0)] Z Z Z)
  refine rn 2 Z <| sx Z (Al Z Z <| rn 1 Z <| sx Z (Cy AA (fun g : Bool => lb g) (fun g : Bool => [(0, bx (Aa b))]) 1 a1 Tryz.func162 22 [.tmp 4] [(0, li (b.signals.length : Int)), (1, .fn 164 [.lpb 0 0])] Z Z Z Z Z Z Z Z (fun A hA g a3 => ?_) (fun g bf => ?_)))
  .refine rs AA <| rl Z <| rs AA <| rl Z <| AB <| rs AA <| rl Z <| AH ?_
   apply lp (a := g) (fun d : (Int × (List (ByteArray × Bool))) => ⟨22, [(1, .fn 164 [.lpb 0 0]), (5, .lmap 1), (8, li (b.signals.length : Int)), (9, li d.1)], [(0, bx (Aa b)), (1, .map (Aw .str .bool d.2))], 2⟩) a3
   . exact wj hA [(0, 0), (1, 1)] Z Z Z Z
   intro d co m
   unfold Cv at m
   refine rs AA <| rl Z <| AB <| cd Z m (fun a5 => ?_) (fun bc => ?_)
   .refine AD <| AC <| AB <| AH <| rs AA <| rl Z <| AB <| rs AA <| rn 3 Z <| bq a5 fun cc t a7 => sx Z (AS (M5 _ _ _ t) (.inl Z) Z Z (C9.eq (.cons (.one (.p _)) (.cons (.box Z (.cons (.p _) (.cons (.p _) (.cons (.p _) (.cons (.p _) (.cons (.p _) (.cons (.p _) (.cons (.p _) (.cons (.p _) (.cons (.p _) .nil)))))))))) .nil))) <| sx Z (K6 (et := 4) (ke := .str) (ve := .bool) (mp := d.2) (y := cc) false M8 Z Z Z Z <| rl Z <| cd Z a7 (fun a8 => ?_) (fun ba => ?_)))
    .refine rs AA <| rl Z <| AG <| AI <| AT <| AI <| A1 a8 fun cj a9 => AT <| AI ?_
     cases a9
     exact Co (nt := 22) (sl := [(4, lb true)]) (wj hA [(0, 0)] Z Z Z Z) Z
    exact AD <| AC <| rg AA <| rn 3 Z <| bq ba fun ce u bb => sx Z (AS (M5 _ _ _ u) (.inl Z) Z Z (C9.eq (.cons (.one (.p _)) (.cons (.box Z (.cons (.p _) (.cons (.p _) (.cons (.p _) (.cons (.p _) (.cons (.p _) (.cons (.p _) (.cons (.p _) (.cons (.p _) (.cons (.p _) .nil)))))))))) .nil))) <| sx Z (JW (et := 4) (ke := .str) (ve := .bool) (mp := d.2) (y := ce) (z := true) M8 Z Z Z Z Z Z <| rl Z <| Ai <| AC <| rg AA <| rl Z <| Av bb (wj hA [(0, 0), (1, 1)] Z Z Z Z)))
   refine AU <| Ab <| BH bc fun ck be => Ao <| AC <| rs AA <| rl Z <| AG ?_
   cases be
   exact Co (nt := 22) (sl := [(4, lb false)]) (wj hA [(0, 0)] Z Z Z Z) Z
  refine rn 2 Z <| gs 42 bf Z Z Z (fun bg => ?_) (fun bh => ?_)
  .exact rl Z <| AN bg (wf hA [(0, 0)] Z Z Z)
  refine rn 2 Z <| sx Z (Al Z Z <| rn 1 Z <| sx Z (Cy AA (fun i : Bool => lb i) (fun i : Bool => [(0, bx (Aa b))]) 1 bh Tryz.func162 22 [.tmp 4] [(0, li (b.lines.length : Int)), (1, .fn 165 [.lpb 0 0])] Z Z Z Z Z Z Z Z (fun A hA i bi => ?_) (fun i bs => ?_)))
  .refine rs AA <| rl Z <| rs AA <| rl Z <| AB <| rs AA <| rl Z <| AH ?_
   apply lp (a := i) (fun e : (Int × (List (ByteArray × Bool))) => ⟨22, [(1, .fn 165 [.lpb 0 0]), (5, .lmap 1), (8, li (b.lines.length : Int)), (9, li e.1)], [(0, bx (Aa b)), (1, .map (Aw .str .bool e.2))], 2⟩) bi
   . exact wj hA [(0, 0), (1, 1)] Z Z Z Z
   intro e cp n
   unfold Cw at n
   refine rs AA <| rl Z <| AB <| cd Z n (fun bj => ?_) (fun bp => ?_)
   .refine AD <| AC <| AB <| AH <| rs AA <| rl Z <| AB <| rs AA <| rn 3 Z <| bq bj fun cf v bk => sx Z (AS (M6 _ _ _ v) (.inl Z) Z Z (C9.eq (.cons (.one (.p _)) (.cons (.box Z (.cons (.p _) (.cons (.p _) (.cons (.p _) (.cons (.p _) (.cons (.p _) (.cons (.p _) (.cons (.p _) (.cons (.p _) (.cons (.p _) .nil)))))))))) .nil))) <| sx Z (K6 (et := 4) (ke := .str) (ve := .bool) (mp := e.2) (y := cf) false M8 Z Z Z Z <| rl Z <| cd Z bk (fun bl => ?_) (fun bn => ?_)))
    .refine rs AA <| rl Z <| AG <| AI <| AT <| AI <| A1 bl fun cl bm => AT <| AI ?_
     cases bm
     exact Co (nt := 22) (sl := [(4, lb true)]) (wj hA [(0, 0)] Z Z Z Z) Z
    exact AD <| AC <| rg AA <| rn 3 Z <| bq bn fun cg w bo => sx Z (AS (M6 _ _ _ w) (.inl Z) Z Z (C9.eq (.cons (.one (.p _)) (.cons (.box Z (.cons (.p _) (.cons (.p _) (.cons (.p _) (.cons (.p _) (.cons (.p _) (.cons (.p _) (.cons (.p _) (.cons (.p _) (.cons (.p _) .nil)))))))))) .nil))) <| sx Z (JW (et := 4) (ke := .str) (ve := .bool) (mp := e.2) (y := cg) (z := true) M8 Z Z Z Z Z Z <| rl Z <| Ai <| AC <| rg AA <| rl Z <| Av bo (wj hA [(0, 0), (1, 1)] Z Z Z Z)))
   refine AU <| Ab <| BH bp fun cm br => Ao <| AC <| rs AA <| rl Z <| AG ?_
   cases br
   exact Co (nt := 22) (sl := [(4, lb false)]) (wj hA [(0, 0)] Z Z Z Z) Z
  exact rl Z <| AN bs (wf hA [(0, 0)] Z Z Z)
 refine cd Z bt (fun bu => ?_) (fun bv => ?_)
 .refine rs AA <| rl Z <| AG <| AI ?_
  cases bu
  exact er Z Le.rfl
 refine AD <| AC <| rs AA <| rn 1 Z <| bq bv fun cr x bw => sx Z (AS (TL _ _ x) (.inr Z) Z Z Z <| rl Z <| AB <| AH <| rs AA <| rl Z <| cd Z bw (fun bz => ?_) (fun b0 => ?_))
 .refine rs AA <| rl Z <| AG <| AT <| AI ?_
  cases bz
  exact er Z Le.rfl
 refine rs AA <| rn 2 Z <| bq b0 fun cs aa b1 => sx Z (AS (R5 _ _ _ aa) (.inl Z) Z Z Z <| rl Z <| cd Z b1 (fun b2 => ?_) (fun b3 => ?_))
 .refine rs AA <| rl Z <| AG <| AT <| AI ?_
  cases b2
  exact er Z Le.rfl
 refine rs AA <| rn 2 Z <| bq b3 fun ct ab b4 => sx Z (AS (UN _ _ _ ab) (.inl Z) Z Z Z <| rl Z <| cd Z b4 (fun b5 => ?_) (fun b6 => ?_))
 .refine rs AA <| rl Z <| AG <| AT <| AI ?_
  cases b5
  exact er Z Le.rfl
 refine rs AA <| rn 1 Z <| bq b6 fun cu ac b7 => sx Z (AS (VT _ _ ac) (.inl Z) Z Z Z <| rl Z <| cd Z b7 (fun b8 => ?_) (fun b9 => ?_))
 .refine rs AA <| rl Z <| AG <| AT <| AI ?_
  cases b8
  exact er Z Le.rfl
 refine AD <| Ai <| AC <| rs AA <| rl Z <| AG ?_
 cases b9
 exact er Z Le.rfl
noncomputable def EJ (a : (List Bv)) : Option (List Bv) :=
 MX a (some []) ((BE ([] : List Bv) a).bind fun b => some b)
theorem Me (a : (List Bv)) (r : (List Bv)) (h : EJ a = some r) : A4 Tryz.prog 170 [.slice 3 (a.map BJ)] (· = .slice 3 (r.map BJ)) := by
 refine fn AA Tryz.func170 Z Z 8 Z [.tmp 2] Z [(0, .p (.slice 3 (a.map BJ)))] Z Z fun A hA => ?_
 unfold EJ at h
 refine rs AA <| rl Z <| AB <| rs AA <| rn 1 Z <| sx Z (JX h Z Z Z (fun d => ?_) (fun e => ?_))
 .refine rl Z <| Qn Z <| rs AA <| rl Z <| AG <| AI ?_
  cases d
  exact er Z (Le.nil _)
 refine rl Z <| Qo Z <| AD <| AC <| rs AA <| rn 2 Z <| bq e fun f b c => sx Z (Ax (enc := BJ) (l := ([] : List Bv)) (m := a) b (fun _ => ⟨Z, Z⟩) Z Z Z Z Z Z <| rl Z <| AG ?_)
 have hr := Option.some.inj c; subst hr
 exact er (HH Z (.one (.own (enc := BJ) f Z Z))) Le.rfl
noncomputable def EK (a : (List Bs)) : Option (List Bs) :=
 MX a (some []) ((BE ([] : List Bs) a).bind fun b => some b)
theorem Mf (a : (List Bs)) (r : (List Bs)) (h : EK a = some r) : A4 Tryz.prog 171 [.slice 4 (a.map BZ)] (· = .slice 4 (r.map BZ)) := by
 refine fn AA Tryz.func171 Z Z 8 Z [.tmp 2] Z [(0, .p (.slice 4 (a.map BZ)))] Z Z fun A hA => ?_
 unfold EK at h
 refine rs AA <| rl Z <| AB <| rs AA <| rn 1 Z <| sx Z (JX h Z Z Z (fun d => ?_) (fun e => ?_))
 .refine rl Z <| Qn Z <| rs AA <| rl Z <| AG <| AI ?_
  cases d
  exact er Z (Le.nil _)
 refine rl Z <| Qo Z <| AD <| AC <| rs AA <| rn 2 Z <| bq e fun f b c => sx Z (Ax (enc := BZ) (l := ([] : List Bs)) (m := a) b (fun _ => ⟨Z, Z⟩) Z Z Z Z Z Z <| rl Z <| AG ?_)
 have hr := Option.some.inj c; subst hr
 exact er (HH Z (.one (.own (enc := BZ) f Z Z))) Le.rfl
noncomputable def Dn (a : (List BB)) : Option (List BB) :=
 MX a (some []) ((BE ([] : List BB) a).bind fun b => some b)
theorem Lw (a : (List BB)) (r : (List BB)) (h : Dn a = some r) : A4 Tryz.prog 172 [.slice 4 (a.map A2)] (· = .slice 4 (r.map A2)) := by
 refine fn AA Tryz.func172 Z Z 8 Z [.tmp 2] Z [(0, .p (.slice 4 (a.map A2)))] Z Z fun A hA => ?_
 unfold Dn at h
 refine rs AA <| rl Z <| AB <| rs AA <| rn 1 Z <| sx Z (JX h Z Z Z (fun d => ?_) (fun e => ?_))
 .refine rl Z <| Qn Z <| rs AA <| rl Z <| AG <| AI ?_
  cases d
  exact er Z (Le.nil _)
 refine rl Z <| Qo Z <| AD <| AC <| rs AA <| rn 2 Z <| bq e fun f b c => sx Z (Ax (enc := A2) (l := ([] : List BB)) (m := a) b (fun _ => ⟨Z, Z⟩) Z Z Z Z Z Z <| rl Z <| AG ?_)
 have hr := Option.some.inj c; subst hr
 exact er (HH Z (.one (.own (enc := A2) f Z Z))) Le.rfl
noncomputable def EL (a : (List CC)) : Option (List CC) :=
 MX a (some []) ((BE ([] : List CC) a).bind fun b => some b)
theorem L4 (a : (List CC)) (r : (List CC)) (h : EL a = some r) : Gn Tryz.prog 173 [.slice 2 (a.map BR)] 163 2 (r.map BR) := by
 refine XW (enc := BR) (fun _ => ⟨Z, Z⟩) Tryz.func173 Z Z 8 Z 2 Z [(0, .p (.slice 2 (a.map BR)))] Z Z fun A hA => ?_
 unfold EL at h
 refine rs AA <| rl Z <| AB <| rs AA <| rn 1 Z <| sx Z (JX h Z Z Z (fun d => ?_) (fun e => ?_))
 .refine rl Z <| Qn Z <| rs AA <| rl Z <| AG <| AI ?_
  cases d
  exact YT Z
 refine rl Z <| Qo Z <| AD <| AC <| rs AA <| rn 2 Z <| bq e fun f b c => sx Z (Ax (enc := BR) (l := ([] : List CC)) (m := a) b (fun _ => ⟨Z, Z⟩) Z Z Z Z Z Z <| rl Z <| AG ?_)
 have hr := Option.some.inj c; subst hr
 exact XX Z Z Z
noncomputable def Fy (a : (List Int)) : Option (List Int) :=
 MX a (some []) ((BE ([] : List Int) a).bind fun b => some b)
theorem Oy (a : (List Int)) (r : (List Int)) (h : Fy a = some r) : A4 Tryz.prog 124 [.slice 1 (a.map AY)] (· = .slice 1 (r.map AY)) := by
 refine fn AA Tryz.func124 Z Z 8 Z [.tmp 2] Z [(0, .p (.slice 1 (a.map AY)))] Z Z fun A hA => ?_
 unfold Fy at h
 refine rs AA <| rl Z <| AB <| rs AA <| rn 1 Z <| sx Z (JX h Z Z Z (fun d => ?_) (fun e => ?_))
 .refine rl Z <| Qn Z <| rs AA <| rl Z <| AG <| AI ?_
  cases d
  exact er Z (Le.nil _)
 refine rl Z <| Qo Z <| AD <| AC <| rs AA <| rn 2 Z <| bq e fun f b c => sx Z (Ax (enc := AY) (l := ([] : List Int)) (m := a) b (fun _ => ⟨Z, Z⟩) Z Z Z Z Z Z <| rl Z <| AG ?_)
 have hr := Option.some.inj c; subst hr
 exact er (HH Z (.one (.own (enc := AY) f Z Z))) Le.rfl
end Go.E
/- Plain functions, and walks in step with them. Written by a program (gen.py). No condition. -/
set_option maxRecDepth 100000
namespace Go.E
open Go Go.RowKit Go.Proofs
noncomputable def HO (b : AM) (h : (List Bv)) (i : (List Bs)) (c : (List BB)) (g : (List CC)) (a : Int × (List CC)) : Option ((Int × (List CC)) ⊕ AM) :=
 bif decide (a.1 < (g.length : Int)) then (Ak a.2 a.1).bind fun d => (Fy d.elems).bind fun e => (Ak a.2 a.1).bind fun f => some (.inl (AQ (a.1 + 1), BF a.2 a.1 (⟨f.name, e⟩ : CC))) else some (.inr (⟨h, i, c, a.2, b.top, b.brake, b.margin, b.throw, b.hard⟩ : AM))
noncomputable def IR (a : AM) : Option AM :=
 (EJ a.elems).bind fun d => (EK a.joins).bind fun e => (Dn a.signals).bind fun c => (EL a.lines).bind fun b => AO (HO a d e c b) (0, b)
theorem RE (b : AM) (r : AM) (h : IR b = some r) : A4 Tryz.prog 116 [.agg (Aa b)] (· = .agg (Aa r)) := by
 refine fn AA Tryz.func116 Z Z 40 Z [.cell 2 27] Z [(0, .p (.agg (Aa b)))] Z Z fun A hA => ?_
 unfold IR at h
 refine rs AA <| rl Z <| AB ?_
 refine Bi AA Az [0, 1, 2, 3, 4, 5, 6, 7, 8, 9, 10, 11, 12, 13, 14] 15 (by kernel_rfl) Z Z Z ?_
 refine Am 2 Z <| bq h fun ad k x => An Z (BA (Me _ _ k) (.inr Z) Z Z Z <| Am 2 Z <| bq x fun ae l m => An Z (BA (Mf _ _ l) (.inr Z) Z Z Z <| Am 2 Z <| bq m fun y g t => An Z (BA (Lw _ _ g) (.inr Z) Z Z Z <| A0 Z <| AC <| rs AA <| rn 2 Z <| bq t fun ac j w => sx Z (Rx (L4 _ _ j) Z Z Z Z <| rl Z <| AB <| rs AA <| rl Z <| AH ?_))))
 apply lp (a := r) (fun c : (Int × (List CC)) => ⟨40, [(1, .lpb 0 0), (2, .lpb 1 0), (22, li (ac.length : Int)), (23, li c.1)], [(0, .box [ls 3 BJ ad, ls 4 BZ ae, ls 4 A2 y, .lsl 2 2 0 c.2.length, li b.top, li b.brake, li b.margin, li b.throw, lb b.hard]), (1, .box [.p (.nils), .p (.nils), .p (.nils), .p (.nils), li 0, li 0, li 0, li 0, lb false]), (2, .row 163 2 (c.2.map BR))], 3⟩) w
 . exact wf hA [(0, 0), (1, 1), (2, 17)] Z Z Z
 intro c ag f
 unfold HO at f
 refine rs AA <| rl Z <| AB <| cd Z f (fun n => ?_) (fun u => ?_)
 .refine AD <| AC <| AB <| AH <| rs AA <| rl Z ?_
  refine Bi AA Az [0, 1, 2, 3, 4, 5, 6, 7, 8, 9, 10, 11, 12] 13 (by kernel_rfl) Z Z Z ?_
  exact Am 6 Z <| bq n fun ah d o => An Z (AZ Z (B4 d Z Z Z Z <| Am 1 Z <| An Z (Hy Z (DM d Z Z Z <| bq o fun aa i q => An Z (BA (Oy _ _ i) (.inr Z) Z Z Z <| bq q fun ab e s => An Z (AZ Z (B4 e Z Z Z Z <| Am 1 Z <| An Z (Mw Z (MC (z := (⟨ab.name, aa⟩ : CC)) e Z Z Z Z Z Z Z Z <| A0 Z <| Ai <| AC <| rg AA <| rl Z <| Av s (wk (gi 3 []) (Oj hA _) Z Z Z (.cons Z (.cons Z (.cons Z (.cons Z .nil)))) (.cons Z (by simp only [BW]; rfl) (.cons Z Z (.cons Z Z .nil)))))))))))))
 refine AU <| Ab <| BH u fun af v => Ao <| AC <| rs AA <| rl Z <| AG ?_
 cases v
 exact er (HH Z (.agg (.cons (.p _) (.cons (.p _) (.cons (.p _) (.cons (.own (enc := BR) c.2 Z Z) (.cons (.p _) (.cons (.p _) (.cons (.p _) (.cons (.p _) (.cons (.p _) .nil))))))))))) Le.rfl
noncomputable def H9 (e : (Int × (List (AF × AF)))) (c : (Int × (List (Int × Dp)) × (List (Int × Int)))) (d : CC) (a : Int × Int × (List (Int × Dp)) × (List (Int × Int))) : Option ((Int × Int × (List (Int × Dp)) × (List (Int × Int))) ⊕ ((Int × (List (Int × Dp)) × (List (Int × Int))) ⊕ ((Option BI) × Int))) :=
 bif decide (a.2.1 < (d.elems.length : Int)) then (Ak d.elems a.2.1).bind fun b => some (.inl (((Ap e.2 (⟨b, AQ (1 - a.1)⟩ : AF)).getD (⟨0, 0⟩ : AF)).fin, AQ (a.2.1 + 1), BC b (⟨c.1, a.2.1⟩ : Dp) a.2.2.1, BC b a.1 a.2.2.2)) else some (.inr (.inl (AQ (c.1 + 1), a.2.2.1, a.2.2.2)))
noncomputable def Gb (d : AM) (j : AM) (b : (Int × (List (AF × AF)))) (f : (Int × (List (AF × Int)))) (a : Int × (List (Int × Dp)) × (List (Int × Int))) : Option ((Int × (List (Int × Dp)) × (List (Int × Int))) ⊕ ((Option BI) × Int)) :=
 bif decide (a.1 < (d.lines.length : Int)) then (Ak d.lines a.1).bind fun c => ((bif decide (1 < (c.elems.length : Int)) then (Ak c.elems 0).bind fun e => ((bif (Ap b.2 (⟨e, 0⟩ : AF)).isSome then (Ak c.elems 1).bind fun i => some ((((Ap b.2 (⟨e, 0⟩ : AF)).getD (⟨0, 0⟩ : AF)).elem) == i) else some false : Option (Bool))).bind fun (h : Bool) => bif h then some 1 else some 0 else some 0 : Option (Int))).bind fun (g : Int) => AO (H9 b a c) (g, 0, a.2.1, a.2.2) else some (.inr (some (⟨j, b.2, f.2, a.2.1, a.2.2⟩ : BI), 0))
noncomputable def IA (b : AM) (d : AM) (c : (Int × (List (AF × AF)))) (a : Int × (List (AF × Int))) : Option ((Int × (List (AF × Int))) ⊕ ((Option BI) × Int)) :=
 bif decide (a.1 < (b.signals.length : Int)) then (Ak b.signals a.1).bind fun e => some (.inl (AQ (a.1 + 1), BC e.at_ a.1 a.2)) else (AO (Gb b d c a) (0, [], [])).map .inr
noncomputable def IB (e : AM) (f : AM) (c : Int × (List (AF × AF))) : Option ((Int × (List (AF × AF))) ⊕ ((Option BI) × Int)) :=
 bif decide (c.1 < (e.joins.length : Int)) then (Ak e.joins c.1).bind fun d => some (.inl (AQ (c.1 + 1), BC d.b d.a (BC d.a d.b c.2))) else (AO (IA e f c) (0, [])).map .inr
noncomputable def Gh (a : AM) : Option ((Option BI) × Int) :=
 (FV a).bind fun b => bif (b != 0) then some (none, b) else (IR a).bind fun c => AO (IB a c) (0, [])
theorem Si (d : AM) (r : ((Option BI) × Int)) (h : Gh d = some r) : A4 Tryz.prog 43 [.agg (Aa d)] (· = .tup [ABB A6 r.1, .int .i64 r.2]) := by
 refine fn AA Tryz.func43 Z Z 148 Z [.tmp 2, .tmp 3] Z [(0, .p (.agg (Aa d)))] Z Z fun A hA => ?_
 unfold Gh at h
 refine rs AA <| rl Z <| AB <| rs AA <| rn 1 Z <| bq h fun br ah aj => sx Z (AS (UO _ _ ah) (.inl Z) Z Z Z <| rl Z <| rs AA <| rl Z <| cd Z aj (fun al => ?_) (fun ay => ?_))
 .refine rs AA <| rl Z <| AG <| AI ?_
  cases al
  exact er Z Le.rfl
 refine AD <| AC <| rs AA <| rn 1 Z <| bq ay fun c af a8 => sx Z (AS (RE _ _ af) (.inr Z) Z Z Z <| rl Z <| AB <| rs AA <| rn 2 Z <| sx Z (Al Z Z <| rl Z <| AH ?_))
 apply lp (a := r) (fun f : (Int × (List (AF × AF))) => ⟨148, [(1, .lpb 0 0), (5, .lpb 1 0), (31, ls 4 BZ d.joins), (32, li (d.joins.length : Int)), (33, li f.1)], [(0, bx (Aa d)), (1, .box [ls 3 BJ c.elems, ls 4 BZ c.joins, ls 4 A2 c.signals, ls 2 BR c.lines, li c.top, li c.brake, li c.margin, li c.throw, lb c.hard, .lmap 2, .lmap 3, .lmap 4, .lmap 5]), (2, .map (Aw (fun x => .agg (AK x)) (fun x => .agg (AK x)) f.2)), (3, .map (Aw (fun x => .agg (AK x)) (.int .i64) [])), (4, .map (Aw (.int .i64) (fun x => .agg (G5 x)) [])), (5, .map (Aw (.int .i64) (.int .i64) []))], 6⟩) a8
 . exact wf hA [(0, 0), (1, 5), (2, 1), (3, 2), (4, 3), (5, 4)] Z Z Z
 intro f bo t
 unfold IB at t
 refine rs AA <| rl Z <| AB <| cd Z t (fun be => ?_) (fun bg => ?_)
 .refine AD <| AC <| AB <| AH <| rs AA <| bq be fun i ai bf => sx Z (Aj ai Z Z Z <| rl Z ?_)
  refine Bi AA Az [0, 1, 2, 3, 4, 5, 6, 7, 8, 9, 10, 11, 12, 13, 14, 15, 16, 17, 18, 19, 20, 21] 22 (by kernel_rfl) Z Z Z ?_
  exact Am 16 Z <| An Z (AZ Z (Qy (et := 96) (ke := (fun x => .agg (AK x))) (ve := (fun x => .agg (AK x))) (mp := f.2) (y := i.a) (⟨0, 0⟩ : AF) Ck Z Z Z Z Z Z <| Am 1 Z <| An Z (AZ Z (Qz (ke := (fun x => .agg (AK x))) (ve := (fun x => .agg (AK x))) (mp := f.2) (y := i.a) (z := (⟨0, 0⟩ : AF)) (w := i.b) Z Z Z Z Z <| An Z (AZ Z (Qy (et := 96) (ke := (fun x => .agg (AK x))) (ve := (fun x => .agg (AK x))) (mp := BC i.a i.b f.2) (y := i.b) (⟨0, 0⟩ : AF) Ck Z Z Z Z Z Z <| Am 1 Z <| An Z (AZ Z (Qz (ke := (fun x => .agg (AK x))) (ve := (fun x => .agg (AK x))) (mp := BC i.a i.b f.2) (y := i.b) (z := (⟨0, 0⟩ : AF)) (w := i.a) Z Z Z Z Z <| A0 Z <| Ai <| AC <| rg AA <| rl Z <| Av bf (wf hA (gi 6 []) Z Z Z)))))))))
 refine AU <| Ab <| CW bg fun v bh => Ao <| AC <| AB <| rs AA <| rn 2 Z <| sx Z (Al Z Z <| rl Z <| AH ?_)
 apply lp (a := v) (fun j : (Int × (List (AF × Int))) => ⟨148, [(1, .lpb 0 0), (5, .lpb 1 0), (59, ls 4 A2 d.signals), (60, li (d.signals.length : Int)), (61, li j.1)], [(0, bx (Aa d)), (1, .box [ls 3 BJ c.elems, ls 4 BZ c.joins, ls 4 A2 c.signals, ls 2 BR c.lines, li c.top, li c.brake, li c.margin, li c.throw, lb c.hard, .lmap 2, .lmap 3, .lmap 4, .lmap 5]), (2, .map (Aw (fun x => .agg (AK x)) (fun x => .agg (AK x)) f.2)), (3, .map (Aw (fun x => .agg (AK x)) (.int .i64) j.2)), (4, .map (Aw (.int .i64) (fun x => .agg (G5 x)) [])), (5, .map (Aw (.int .i64) (.int .i64) []))], 6⟩) bh
 . exact wf hA (gi 6 []) Z Z Z
 intro j bn s
 unfold IA at s
 refine rs AA <| rl Z <| AB <| cd Z s (fun a9 => ?_) (fun bb => ?_)
 .refine AD <| AC <| AB <| AH <| rs AA <| rn 1 Z <| bq a9 fun bj ag ba => sx Z (Aj ag Z Z Z <| rl Z ?_)
  refine Bi AA Az [0, 1, 2, 3, 4, 5, 6, 7] 8 (by kernel_rfl) Z Z Z ?_
  exact Am 7 Z <| An Z (AZ Z (JW (et := 3) (ke := (fun x => .agg (AK x))) (ve := (.int .i64)) (mp := j.2) (y := bj.at_) (z := j.1) Ck Z Z Z Z Z Z <| A0 Z <| Ai <| AC <| rg AA <| rl Z <| Av ba (wf hA (gi 6 []) Z Z Z)))
 refine AU <| Ab <| CW bb fun u bc => Ao <| AC <| AB <| rs AA <| rn 2 Z <| sx Z (Al Z Z <| rl Z <| AH ?_)
 apply lp (a := u) (fun e : (Int × (List (Int × Dp)) × (List (Int × Int))) => ⟨148, [(5, .lpb 0 0), (75, ls 2 BR d.lines), (76, li (d.lines.length : Int)), (77, li e.1)], [(0, .box [ls 3 BJ c.elems, ls 4 BZ c.joins, ls 4 A2 c.signals, ls 2 BR c.lines, li c.top, li c.brake, li c.margin, li c.throw, lb c.hard, .lmap 1, .lmap 2, .lmap 3, .lmap 4]), (1, .map (Aw (fun x => .agg (AK x)) (fun x => .agg (AK x)) f.2)), (2, .map (Aw (fun x => .agg (AK x)) (.int .i64) j.2)), (3, .map (Aw (.int .i64) (fun x => .agg (G5 x)) e.2.1)), (4, .map (Aw (.int .i64) (.int .i64) e.2.2))], 5⟩) bc
 . exact wf hA [(0, 1), (1, 2), (2, 3), (3, 4), (4, 5)] Z Z Z
 intro e aa o
 unfold Gb at o
 refine rs AA <| rl Z <| AB <| cd Z o (fun ak => ?_) (fun a6 => ?_)
 .refine AD <| AC <| AB <| AH <| rs AA <| rn 1 Z <| bq ak fun k ab am => sx Z (Aj ab Z Z Z <| rl Z <| rs AA <| rl Z <| jb (fun m : Int => ⟨148, [(5, .lpb 0 0), (10, li e.1), (11, .lpb 1 0), (12, li m), (75, ls 2 BR d.lines), (76, li (d.lines.length : Int)), (77, li e.1)], [(0, .box [ls 3 BJ c.elems, ls 4 BZ c.joins, ls 4 A2 c.signals, ls 2 BR c.lines, li c.top, li c.brake, li c.margin, li c.throw, lb c.hard, .lmap 2, .lmap 3, .lmap 4, .lmap 5]), (1, .box [.p (.str k.name), ls 1 AY k.elems]), (2, .map (Aw (fun x => .agg (AK x)) (fun x => .agg (AK x)) f.2)), (3, .map (Aw (fun x => .agg (AK x)) (.int .i64) j.2)), (4, .map (Aw (.int .i64) (fun x => .agg (G5 x)) e.2.1)), (5, .map (Aw (.int .i64) (.int .i64) e.2.2))], 6⟩) am (fun m an => ?_) (fun m a1 => ?_))
  .refine rs AA <| rn 2 Z <| sx Z (Al Z Z <| rl Z <| cd Z an (fun ao => ?_) (fun a0 => ?_))
   .refine AB ?_
    refine Bi AA Az [0, 1, 2, 3, 4, 5, 6, 7, 8, 9, 10, 11, 12, 13, 14, 15] 16 (by kernel_rfl) Z Z Z ?_
    refine Am 6 Z <| bq ao fun bi ac ap => An Z (AZ Z (Aj ac Z Z Z <| Am 2 Z <| An Z (AZ Z (JV (et := 96) (ke := (fun x => .agg (AK x))) (ve := (fun x => .agg (AK x))) (mp := f.2) (y := (⟨bi, 0⟩ : AF)) (⟨0, 0⟩ : AF) Ck Z Z Z Z <| A0 Z <| AC <| jb (fun n : Bool => ⟨148, [(5, .lpb 0 0), (10, li e.1), (11, .lpb 1 0), (12, li 0), (75, ls 2 BR d.lines), (76, li (d.lines.length : Int)), (77, li e.1), (108, lb n)], [(0, .box [ls 3 BJ c.elems, ls 4 BZ c.joins, ls 4 A2 c.signals, ls 2 BR c.lines, li c.top, li c.brake, li c.margin, li c.throw, lb c.hard, .lmap 2, .lmap 3, .lmap 4, .lmap 5]), (1, .box [.p (.str k.name), ls 1 AY k.elems]), (2, .map (Aw (fun x => .agg (AK x)) (fun x => .agg (AK x)) f.2)), (3, .map (Aw (fun x => .agg (AK x)) (.int .i64) j.2)), (4, .map (Aw (.int .i64) (fun x => .agg (G5 x)) e.2.1)), (5, .map (Aw (.int .i64) (.int .i64) e.2.2))], 6⟩) ap (fun n aq => ?_) (fun n aw => ?_)))))
    .refine Bi AA Az [0, 1, 2, 3, 4, 5, 6, 7, 8, 9] 10 (by kernel_rfl) Z Z Z ?_
     refine Am 2 Z <| Dk 100 aq Z Z Z (fun ar => ?_) (fun av => ?_)
     .exact Am 4 Z <| bq ar fun bp ad au => An Z (AZ Z (Aj ad Z Z Z <| A0 Z <| AN au (wf hA [(0, 0), (1, 5), (2, 1), (3, 2), (4, 3), (5, 4)] Z Z Z)))
     exact A0 Z <| AN av (wf hA [(0, 0), (1, 5), (2, 1), (3, 2), (4, 3), (5, 4)] Z Z Z)
    refine cd Z aw (fun ax => ?_) (fun az => ?_)
    .exact rg AA <| rl Z <| AN ax (wf hA (gi 6 []) Z Z Z)
    exact AD <| AN az (wf hA (gi 6 []) Z Z Z)
   exact AD <| AN a0 (wf hA [(0, 0), (1, 5), (2, 1), (3, 2), (4, 3), (5, 4)] Z Z Z)
  refine rs AA <| rn 2 Z <| sx Z (Al Z Z <| rl Z <| AH ?_)
  apply lp (a := aa) (fun g : (Int × Int × (List (Int × Dp)) × (List (Int × Int))) => ⟨148, [(5, .lpb 0 0), (10, li e.1), (12, li g.1), (75, ls 2 BR d.lines), (76, li (d.lines.length : Int)), (77, li e.1), (110, ls 1 AY k.elems), (111, li (k.elems.length : Int)), (112, li g.2.1)], [(0, .box [ls 3 BJ c.elems, ls 4 BZ c.joins, ls 4 A2 c.signals, ls 2 BR c.lines, li c.top, li c.brake, li c.margin, li c.throw, lb c.hard, .lmap 1, .lmap 2, .lmap 3, .lmap 4]), (1, .map (Aw (fun x => .agg (AK x)) (fun x => .agg (AK x)) f.2)), (2, .map (Aw (fun x => .agg (AK x)) (.int .i64) j.2)), (3, .map (Aw (.int .i64) (fun x => .agg (G5 x)) g.2.2.1)), (4, .map (Aw (.int .i64) (.int .i64) g.2.2.2))], 5⟩) a1
  . exact wf hA [(0, 0), (1, 2), (2, 3), (3, 4), (4, 5)] Z Z Z
  intro g bm q
  unfold H9 at q
  refine rs AA <| rl Z <| AB <| cd Z q (fun a2 => ?_) (fun a4 => ?_)
  .refine AD <| AC <| AB <| AH <| rs AA <| rn 1 Z <| bq a2 fun l ae a3 => sx Z (Aj ae Z Z Z <| rl Z <| AB ?_)
   refine Bi AA Az [0, 1, 2, 3, 4, 5, 6, 7, 8, 9, 10, 11, 12, 13, 14, 15, 16, 17, 18, 19] 20 (by kernel_rfl) Z Z Z ?_
   exact Am 14 Z <| An Z (AZ Z (Qy (et := 174) (ke := (.int .i64)) (ve := (fun x => .agg (G5 x))) (mp := g.2.2.1) (y := l) (⟨0, 0⟩ : Dp) Lq Z Z Z Z Z Z <| Am 1 Z <| An Z (AZ Z (Qz (ke := (.int .i64)) (ve := (fun x => .agg (G5 x))) (mp := g.2.2.1) (y := l) (z := (⟨0, 0⟩ : Dp)) (w := (⟨e.1, g.2.1⟩ : Dp)) Z Z Z Z Z <| An Z (AZ Z (Qy (et := 3) (ke := (.int .i64)) (ve := (.int .i64)) (mp := g.2.2.2) (y := l) 0 Lq Z Z Z Z Z Z <| Am 1 Z <| An Z (AZ Z (Qz (ke := (.int .i64)) (ve := (.int .i64)) (mp := g.2.2.2) (y := l) (z := 0) (w := g.1) Z Z Z Z Z <| A0 Z <| AC <| rg AA <| rn 8 Z <| sx Z (K6 (et := 96) (ke := (fun x => .agg (AK x))) (ve := (fun x => .agg (AK x))) (mp := f.2) (y := (⟨l, AQ (1 - g.1)⟩ : AF)) (⟨0, 0⟩ : AF) Ck Z Z Z Z <| rl Z <| Ai <| AC <| rg AA <| rl Z <| Av a3 (wf hA (gi 5 []) Z Z Z))))))))))
  exact AU <| Ab <| BH a4 fun bk a5 => Ao <| Ai <| AC <| rg AA <| rl Z <| Av a5 (wf hA (gi 5 []) Z Z Z)
 refine AU <| Ab <| BH a6 fun bl a7 => Ao <| AC <| rs AA <| rl Z <| AG ?_
 cases a7
 exact er (SY Z (.cons (.box Z (.cons (.p _) (.cons (.p _) (.cons (.p _) (.cons (.p _) (.cons (.p _) (.cons (.p _) (.cons (.p _) (.cons (.p _) (.cons (.p _) (.cons (.map Z) (.cons (.map Z) (.cons (.map Z) (.cons (.map Z) .nil)))))))))))))) (.cons (.one (.p _)) .nil))) Le.rfl
noncomputable def JH (b : AM) (a : Int) : Option (AF × Bool) :=
 ((bif decide (a < 0) then some true else some (decide ((b.signals.length : Int) <= a)) : Option (Bool))).bind fun (c : Bool) => bif c then some ((⟨0, 0⟩ : AF), false) else (Ak b.signals a).bind fun d => some (d.at_, true)
theorem R3 (a : AM) (b : Int) (r : (AF × Bool)) (h : JH a b = some r) : A4 Tryz.prog 93 [.agg (Aa a), .int .i64 b] (· = .tup [.agg (AK r.1), .bool r.2]) := by
 refine fn AA Tryz.func93 Z Z 22 Z [.cell 4 96, .tmp 5] Z [(0, .p (.agg (Aa a))), (1, .p (.int .i64 b))] Z Z fun A hA => ?_
 unfold JH at h
 refine rs AA <| rl Z <| AB <| jb (fun c : Bool => ⟨22, [(1, li b), (2, .lpb 0 0), (4, .lpb 1 0), (14, lb c)], [(0, bx (Aa a)), (1, .box [li 0, li 0])], 2⟩) h (fun c e => ?_) (fun c i => ?_)
 .refine rg AA <| rn 3 Z <| gs 8 e Z Z Z (fun f => ?_) (fun g => ?_)
  .exact rl Z <| AN f (wf hA [(0, 0), (1, 1)] Z Z Z)
  exact rn 3 Z <| sx Z (Al Z Z <| rl Z <| AN g (wf hA [(0, 0), (1, 1)] Z Z Z))
 refine cd Z i (fun j => ?_) (fun k => ?_)
 .refine rs AA <| rl Z <| AG <| AI ?_
  cases j
  exact er Z Le.rfl
 refine AD <| AC <| rs AA <| rn 3 Z <| bq k fun m d l => sx Z (Aj d Z Z Z <| rl Z <| AG ?_)
 cases l
 exact er Z Le.rfl
noncomputable def Ea (a : AM) (b : Int) : Option Int :=
 (Du a b).bind fun c => some c
theorem H4 (a : AM) (b : Int) (r : Int) (h : Ea a b = some r) : A4 Tryz.prog 91 [.agg (Aa a), .int .i64 b] (· = .int .i64 r) := by
 refine fn AA Tryz.func91 Z Z 8 Z [.tmp 4] Z [(0, .p (.agg (Aa a))), (1, .p (.int .i64 b))] Z Z fun A hA => ?_
 unfold Ea at h
 refine rs AA <| rl Z <| rs AA <| rn 2 Z <| bq h fun e c d => sx Z (AS (Gj _ _ _ c) (.inl Z) Z Z Z <| rl Z <| AG ?_)
 have hr := Option.some.inj d; subst hr
 exact er Z Le.rfl
noncomputable def Fz (a : AW) (b : AV) (c : Int) (f : Int) (g : Int) : Option AW :=
 (BE ([] : List AV) a.steps).bind fun i => (BE i [b]).bind fun j => (BE ([] : List AJ) a.needs).bind fun d => ((bif (c != 0) then (BE d [(⟨b.elem, c⟩ : AJ)]).bind fun h => some h else some d : Option ((List AJ)))).bind fun (e : (List AJ)) => some (⟨a.frm, g, f, j, e, [], [], [], false⟩ : AW)
theorem K8 (a : AW) (b : AV) (f : Int) (g : Int) (i : Int) (r : AW) (h : Fz a b f g i = some r) : A4 Tryz.prog 151 [.agg (Ad a), .agg (Af b), .int .i64 f, .int .i64 g, .int .i64 i] (· = .agg (Ad r)) := by
 refine fn AA Tryz.func151 Z Z 42 Z [.cell 10 36] Z [(0, .p (.agg (Ad a))), (1, .p (.agg (Af b))), (2, .p (.int .i64 f)), (3, .p (.int .i64 g)), (4, .p (.int .i64 i))] Z Z fun A hA => ?_
 unfold Fz at h
 refine rs AA <| rl Z <| rs AA <| rl Z <| AB <| bq h fun j c x => bq x fun k d y => ?_
 refine YX AA Az (.picks [1, 2] (.alt 0 [] (.alt 3 [4, 5, 6, 7, 8] .done (.alt 4 [] (.alt 3 [5, 6, 7, 8] .done (.alt 5 [3, 6, 7, 8] .done .nil)) .nil)) (.alt 4 [0] (.alt 3 [5, 6, 7, 8] .done (.alt 5 [3, 6, 7, 8] .done .nil)) .nil))) 9 ⟨42, [(2, li f), (5, .lpb 0 0), (6, .lpb 1 0), (10, .lpb 2 0), (11, .lpb 3 0)], [(0, bx (Ad a)), (1, bx (Af b)), (2, .box [li 0, li 0, li 0, .p (.nils), .p (.nils), .p (.nils), .p (.nils), .p (.nils), lb false]), (3, .box [li a.frm, li i, li g, .lsl 4 3 0 k.length, .p (.nils), .p (.nils), .p (.nils), .p (.nils), lb false]), (4, .row 65 3 (k.map Af))], 5⟩ (by kernel_rfl) Z ?_ ?_
 .refine Td <| A0 Z <| Eh ?_ ?_
  .refine A0 Z <| Eh ?_ ?_
   .exact An Z (BY (Ax (enc := Af) (l := ([] : List AV)) (m := a.steps) c (fun _ => ⟨Z, Z⟩) Z Z Z Z Z Z <| Am 2 Z <| An Z (BY (Ax (enc := Af) (l := j) (m := [b]) d (fun _ => ⟨Z, Z⟩) Z Z Z Z Z Z <| A0 Z <| Hl (wf hA (gi 4 [(4, 10)]) Z Z Z)))))
   refine Eh ?_ ?_
   .refine A0 Z <| Eh ?_ ?_
    .exact An Z (BY (Ax (enc := Af) (l := ([] : List AV)) (m := a.steps) c (fun _ => ⟨Z, Z⟩) Z Z Z Z Z Z <| Am 1 Z <| An Z (BY (Ax (enc := Af) (l := j) (m := [b]) d (fun _ => ⟨Z, Z⟩) Z Z Z Z Z Z <| A0 Z <| Hl (wf hA (gi 4 [(4, 10)]) Z Z Z)))))
    refine Eh ?_ ?_
    .exact Am 1 Z <| An Z (BY (Ax (enc := Af) (l := ([] : List AV)) (m := a.steps) c (fun _ => ⟨Z, Z⟩) Z Z Z Z Z Z <| An Z (BY (Ax (enc := Af) (l := j) (m := [b]) d (fun _ => ⟨Z, Z⟩) Z Z Z Z Z Z <| A0 Z <| Hl (wf hA (gi 4 [(4, 10)]) Z Z Z)))))
    exact KK
   exact KK
  refine Eh ?_ ?_
  .refine A0 Z <| Eh ?_ ?_
   .exact An Z (BY (Ax (enc := Af) (l := ([] : List AV)) (m := a.steps) c (fun _ => ⟨Z, Z⟩) Z Z Z Z Z Z <| Am 1 Z <| An Z (BY (Ax (enc := Af) (l := j) (m := [b]) d (fun _ => ⟨Z, Z⟩) Z Z Z Z Z Z <| A0 Z <| Hl (wf hA (gi 4 [(4, 10)]) Z Z Z)))))
   refine Eh ?_ ?_
   .exact Am 1 Z <| An Z (BY (Ax (enc := Af) (l := ([] : List AV)) (m := a.steps) c (fun _ => ⟨Z, Z⟩) Z Z Z Z Z Z <| An Z (BY (Ax (enc := Af) (l := j) (m := [b]) d (fun _ => ⟨Z, Z⟩) Z Z Z Z Z Z <| A0 Z <| Hl (wf hA (gi 4 [(4, 10)]) Z Z Z)))))
   exact KK
  exact KK
 refine AC <| rs AA <| rn 3 Z <| bq y fun z n q => sx Z (Ax (enc := AR) (l := ([] : List AJ)) (m := a.needs) n (fun _ => ⟨Z, Z⟩) Z Z Z Z Z Z <| rl Z <| jb (fun e : (List AJ) => ⟨42, [(10, .lpb 0 0), (11, .lpb 1 0)], [(0, .box [li 0, li 0, li 0, .p (.nils), .p (.nils), .p (.nils), .p (.nils), .p (.nils), lb false]), (1, .box [li a.frm, li i, li g, .lsl 2 3 0 k.length, .lsl 3 2 0 e.length, .p (.nils), .p (.nils), .p (.nils), lb false]), (2, .row 65 3 (k.map Af)), (3, .row 91 2 (e.map AR))], 4⟩) q (fun e s => ?_) (fun e w => ?_))
 .refine rs AA <| rl Z <| cd Z s (fun t => ?_) (fun v => ?_)
  .exact rg AA <| rn 7 Z <| bq t fun aa o u => sx Z (Ax (enc := AR) (l := z) (m := [(⟨b.elem, f⟩ : AJ)]) o (fun _ => ⟨Z, Z⟩) Z Z Z Z Z Z <| rl Z <| AN u (wf hA [(0, 2), (1, 3), (2, 4), (3, 8)] Z Z Z))
  exact AD <| AN v (wf hA [(0, 2), (1, 3), (2, 4), (3, 6)] Z Z Z)
 refine rs AA <| rl Z <| AG ?_
 cases w
 exact er (HH Z (.agg (.cons (.p _) (.cons (.p _) (.cons (.p _) (.cons (.own (enc := Af) k Z Z) (.cons (.own (enc := AR) e Z Z) (.cons (.p _) (.cons (.p _) (.cons (.p _) (.cons (.p _) .nil))))))))))) (Le.agg' (.cons Le.rfl (.cons Le.rfl (.cons Le.rfl (.cons Le.rfl (.cons Le.rfl (.cons (Le.nil _) (.cons (Le.nil _) (.cons (Le.nil _) (.cons Le.rfl .nil))))))))))
noncomputable def H3 (c : AM) (d : Int) (a : Int) : Option (List BO) :=
 (JA c (⟨d, a⟩ : AF)).bind fun e => bif (!e) then some [] else (Du c d).bind fun b => bif (b == 1) then some [(⟨AQ (1 - a), 0⟩ : BO)] else bif (b == 3) then some [(⟨Y3 a 1, 0⟩ : BO)] else bif (b == 2) then bif (a == 0) then some [(⟨1, 1⟩ : BO), (⟨2, 2⟩ : BO)] else some [(⟨0, a⟩ : BO)] else some []
theorem Ov (b : AM) (c : Int) (a : Int) (r : (List BO)) (h : H3 b c a = some r) : A4 Tryz.prog 152 [.agg (Aa b), .int .i64 c, .int .i64 a] (· = .slice 2 (r.map CR)) := by
 refine fn AA Tryz.func152 Z Z 38 Z [.tmp 6] Z [(0, .p (.agg (Aa b))), (1, .p (.int .i64 c)), (2, .p (.int .i64 a))] Z Z fun A hA => ?_
 unfold H3 at h
 refine rs AA <| rl Z <| AB <| rs AA <| rn 4 Z <| bq h fun v e f => sx Z (AS (QI _ _ _ e) (.inl Z) Z Z Z <| rl Z <| cd Z f (fun g => ?_) (fun i => ?_))
 .refine rs AA <| rl Z <| AG <| AI ?_
  cases g
  exact er Z (Le.nil _)
 refine AD <| AC <| AB <| rs AA <| rn 2 Z <| bq i fun u d j => sx Z (AS (Gj _ _ _ d) (.inl Z) Z Z Z <| rl Z <| AH <| rs AA <| rl Z <| cd Z j (fun k => ?_) (fun l => ?_))
 .refine rs AA <| rl Z <| AG <| AT <| AI ?_
  cases k
  exact er (HH Z (.one (.own (enc := CR) ([(⟨AQ (1 - a), 0⟩ : BO)] : List BO) Z Z))) Le.rfl
 refine rs AA <| rl Z <| cd Z l (fun m => ?_) (fun n => ?_)
 .refine rs AA <| rl Z <| AG <| AT <| AI ?_
  cases m
  exact er (HH Z (.one (.own (enc := CR) ([(⟨Y3 a 1, 0⟩ : BO)] : List BO) Z Z))) Le.rfl
 refine rs AA <| rl Z <| cd Z n (fun o => ?_) (fun t => ?_)
 .refine AB <| rs AA <| rl Z <| cd Z o (fun q => ?_) (fun s => ?_)
  .refine rs AA <| rl Z <| AG <| AI <| AT <| AI ?_
   cases q
   exact er (HH Z (.one (.own (enc := CR) ([(⟨1, 1⟩ : BO), (⟨2, 2⟩ : BO)] : List BO) Z Z))) Le.rfl
  refine AD <| AC <| rs AA <| rl Z <| AG <| AT <| AI ?_
  cases s
  exact er (HH Z (.one (.own (enc := CR) ([(⟨0, a⟩ : BO)] : List BO) Z Z))) Le.rfl
 refine AD <| Ai <| AC <| rs AA <| rl Z <| AG ?_
 cases t
 exact er Z (Le.nil _)
noncomputable def HP (d : AM) (e : AW) (b : AF) (rc : (AM × AW × AF × (List Int)) -> Option (List AW)) (u : (List Int)) (c : (List BO)) (a : Int × (List AW)) : Option ((Int × (List AW)) ⊕ (List AW)) :=
 bif decide (a.1 < (c.length : Int)) then (((Ak c a.1).bind fun g => (Ak c a.1).bind fun f => (Dl d (⟨b.elem, g.out⟩ : AF)).bind fun h => bif decide (0 <= h) then (Ak c a.1).bind fun k => (Fz e (⟨b.elem, b.fin, f.out⟩ : AV) k.pos 1 h).bind fun l => (BE a.2 [l]).bind fun m => some m else (CK d (⟨b.elem, g.out⟩ : AF)).bind fun i => bif (!i.2) then (Ak c a.1).bind fun n => (Fz e (⟨b.elem, b.fin, f.out⟩ : AV) n.pos 3 (-1)).bind fun o => (BE a.2 [o]).bind fun p => some p else (Ak c a.1).bind fun q => (Fz e (⟨b.elem, b.fin, f.out⟩ : AV) q.pos 0 (-1)).bind fun r => (rc (d, r, i.1, u)).bind fun s => (BE a.2 s).bind fun t => some t : Option ((List AW)))).bind fun (j : (List AW)) => some (.inl (AQ (a.1 + 1), j)) else some (.inr a.2)
noncomputable def G6 (rc : (AM × AW × AF × (List Int)) -> Option (List AW)) (b : AM) (c : AW) (a : AF) (d : (List Int)) : Option (List AW) :=
 (((C0 d a.elem).bind fun f => bif f then some true else some ((c.steps.length : Int) == 12) : Option (Bool))).bind fun (e : Bool) => bif e then some [] else (BE ([] : List Int) d).bind fun g => (BE g [a.elem]).bind fun h => (Ea b a.elem).bind fun i => bif (i == 4) then (Fz c (⟨a.elem, a.fin, (-1)⟩ : AV) 0 2 (-1)).bind fun j => some [j] else (H3 b a.elem a.fin).bind fun k => AO (HP b c a rc h k) (0, ([] : List AW))
noncomputable def UP (b : AM) (c : AW) (d : AF) (e : (List Int)) : Option (List AW) :=
 Ox (fun (rc : (AM × AW × AF × (List Int)) -> Option (List AW)) (a : (AM × AW × AF × (List Int))) => G6 rc a.1 a.2.1 a.2.2.1 a.2.2.2) 1000 (b, c, d, e)
theorem Ws (rc : (AM × AW × AF × (List Int)) -> Option (List AW)) (hrec : ∀ (d : AM) (e : AW) (b : AF) (c : (List Int)) (r : (List AW)), rc (d, e, b, c) = some r -> A4 Tryz.prog 105 [.agg (Aa d), .agg (Ad e), .agg (AK b), .slice 1 (c.map AY)] (· = .slice 9 (r.map Ad))) (d : AM) (e : AW) (b : AF) (c : (List Int)) (r : (List AW)) (h : G6 rc d e b c = some r) : A4 Tryz.prog 105 [.agg (Aa d), .agg (Ad e), .agg (AK b), .slice 1 (c.map AY)] (· = .slice 9 (r.map Ad)) := by
 refine fn AA Tryz.func105 Z Z 128 Z [.tmp 8] Z [(0, .p (.agg (Aa d))), (1, .p (.agg (Ad e))), (2, .p (.agg (AK b))), (3, .p (.slice 1 (c.map AY)))] Z Z fun A hA => ?_
 unfold G6 at h
 refine rs AA <| rl Z <| AB <| jb (fun o : Bool => ⟨128, [(3, ls 1 AY c), (4, .lpb 0 0), (5, .lpb 1 0), (6, .lpb 2 0), (26, lb o)], [(0, bx (Aa d)), (1, bx (Ad e)), (2, .box [li b.elem, li b.fin])], 3⟩) h (fun o ba => ?_) (fun o bf => ?_)
 .refine rg AA <| rn 3 Z <| bq ba fun b9 ah bb => sx Z (AS (Ha _ _ _ ah) (.inl Z) Z Z Z <| rn 1 Z <| gs 21 bb Z Z Z (fun bc => ?_) (fun be => ?_))
  .exact rl Z <| AN bc (wf hA (gi 3 []) Z Z Z)
  exact rn 2 Z <| sx Z (Al Z Z <| rl Z <| AN be (wf hA (gi 3 []) Z Z Z))
 refine cd Z bf (fun bg => ?_) (fun bh => ?_)
 .refine rs AA <| rl Z <| AG <| AI ?_
  cases bg
  exact er Z (Le.nil _)
 refine AD <| AC <| AB <| bq bh fun j g bi => bq bi fun k i bj => ?_
 refine YX AA Az (.picks [1, 3] (.alt 0 [] (.alt 2 [4, 5, 6, 7] .done (.alt 4 [] (.alt 2 [5, 6, 7] .done (.alt 5 [2, 6, 7] .done .nil)) .nil)) (.alt 4 [0] (.alt 2 [5, 6, 7] .done (.alt 5 [2, 6, 7] .done .nil)) .nil))) 8 ⟨128, [(3, .lsl 0 1 0 k.length), (4, .lpb 1 0), (5, .lpb 2 0), (6, .lpb 3 0)], [(0, .row 3 1 (k.map AY)), (1, bx (Aa d)), (2, bx (Ad e)), (3, .box [li b.elem, li b.fin])], 4⟩ (by kernel_rfl) Z ?_ ?_
 .refine Td <| A0 Z <| Eh ?_ ?_
  .refine A0 Z <| Eh ?_ ?_
   .exact An Z (BY (Ax (enc := AY) (l := ([] : List Int)) (m := c) g (fun _ => ⟨Z, Z⟩) Z Z Z Z Z Z <| Am 2 Z <| An Z (BY (Ax (enc := AY) (l := j) (m := [b.elem]) i (fun _ => ⟨Z, Z⟩) Z Z Z Z Z Z <| A0 Z <| Hl (wf hA [(0, 9), (1, 0), (2, 1), (3, 2)] Z Z Z)))))
   refine Eh ?_ ?_
   .refine A0 Z <| Eh ?_ ?_
    .exact An Z (BY (Ax (enc := AY) (l := ([] : List Int)) (m := c) g (fun _ => ⟨Z, Z⟩) Z Z Z Z Z Z <| Am 1 Z <| An Z (BY (Ax (enc := AY) (l := j) (m := [b.elem]) i (fun _ => ⟨Z, Z⟩) Z Z Z Z Z Z <| A0 Z <| Hl (wf hA [(0, 9), (1, 0), (2, 1), (3, 2)] Z Z Z)))))
    refine Eh ?_ ?_
    .exact Am 1 Z <| An Z (BY (Ax (enc := AY) (l := ([] : List Int)) (m := c) g (fun _ => ⟨Z, Z⟩) Z Z Z Z Z Z <| An Z (BY (Ax (enc := AY) (l := j) (m := [b.elem]) i (fun _ => ⟨Z, Z⟩) Z Z Z Z Z Z <| A0 Z <| Hl (wf hA [(0, 9), (1, 0), (2, 1), (3, 2)] Z Z Z)))))
    exact KK
   exact KK
  refine Eh ?_ ?_
  .refine A0 Z <| Eh ?_ ?_
   .exact An Z (BY (Ax (enc := AY) (l := ([] : List Int)) (m := c) g (fun _ => ⟨Z, Z⟩) Z Z Z Z Z Z <| Am 1 Z <| An Z (BY (Ax (enc := AY) (l := j) (m := [b.elem]) i (fun _ => ⟨Z, Z⟩) Z Z Z Z Z Z <| A0 Z <| Hl (wf hA [(0, 9), (1, 0), (2, 1), (3, 2)] Z Z Z)))))
   refine Eh ?_ ?_
   .exact Am 1 Z <| An Z (BY (Ax (enc := AY) (l := ([] : List Int)) (m := c) g (fun _ => ⟨Z, Z⟩) Z Z Z Z Z Z <| An Z (BY (Ax (enc := AY) (l := j) (m := [b.elem]) i (fun _ => ⟨Z, Z⟩) Z Z Z Z Z Z <| A0 Z <| Hl (wf hA [(0, 9), (1, 0), (2, 1), (3, 2)] Z Z Z)))))
   exact KK
  exact KK
 refine AC <| AB <| rs AA <| rn 3 Z <| bq bj fun ca ai bk => sx Z (AS (H4 _ _ _ ai) (.inl Z) Z Z Z <| rl Z <| cd Z bk (fun bl => ?_) (fun bn => ?_))
 .refine rs AA <| rn 6 Z <| bq bl fun bt aj bm => sx Z (AS (K8 _ _ _ _ _ _ aj) (.inr Z) Z Z Z <| rl Z <| AG <| AI ?_)
  cases bm
  exact er (HH Z (.one (.own (enc := Ad) ([bt] : List AW) Z Z))) Le.rfl
 refine AD <| AC <| rs AA <| rl Z <| rs AA <| rn 5 Z <| bq bn fun s ak bo => sx Z (AS (Ov _ _ _ _ ak) (.inr Z) Z Z Z <| rl Z <| AB <| rs AA <| rl Z <| AH ?_)
 apply lp (a := r) (fun f : (Int × (List AW)) => ⟨128, [(3, ls 1 AY k), (4, .lpb 0 0), (5, .lpb 1 0), (6, .lpb 2 0), (9, .lsl 3 9 0 f.2.length), (10, ls 2 CR s), (11, li f.1)], [(0, bx (Aa d)), (1, bx (Ad e)), (2, .box [li b.elem, li b.fin]), (3, .row 36 9 (f.2.map Ad))], 4⟩) bo
 . exact A9.trans (Gz 0 (Jc (enc := AY) (l := k) Z) (.cons 3 .hit (.cons 4 (.same _) (.cons 5 (.same _) (.cons 6 (.same _) (.cons 9 (.same _) (.cons 10 (.same _) (.cons 11 (.same _) .nil))))))) (.cons 1 Z Z (.same _) (.cons 2 Z Z (.same _) (.cons 3 Z Z (.same _) .nil)))) (A9.trans (By 9 36 9 Z) (wf hA [(0, 1), (1, 2), (2, 3), (3, 4)] Z Z Z))
 intro f bv q
 unfold HP at q
 refine AB <| rs AA <| rn 2 Z <| sx Z (Al Z Z <| rl Z <| cd Z q (fun al => ?_) (fun a8 => ?_))
 .refine AD <| AC <| jb (fun n : (List AW) => ⟨128, [(3, ls 1 AY k), (4, .lpb 0 0), (5, .lpb 1 0), (6, .lpb 2 0), (9, .lsl 3 9 0 n.length), (10, ls 2 CR s), (11, li f.1)], [(0, bx (Aa d)), (1, bx (Ad e)), (2, .box [li b.elem, li b.fin]), (3, .row 36 9 (n.map Ad))], 4⟩) al (fun n am => ?_) (fun n a7 => ?_)
  .refine AH <| AB ?_
   refine Bi AA Az [0, 1, 2, 3, 4, 5, 6, 7, 8, 9] 10 (by kernel_rfl) Z Z Z ?_
   refine Am 4 Z <| bq am fun bw t an => An Z (AZ Z (Aj t Z Z Z <| A0 Z <| AC <| AB ?_))
   refine Bi AA Az [0, 1, 2, 3, 4, 5, 6, 7, 8, 9, 10, 11] 12 (by kernel_rfl) Z Z Z ?_
   refine Am 6 Z <| bq an fun bz u ao => An Z (AZ Z (Aj u Z Z Z <| A0 Z <| AC <| AB <| rs AA <| rn 2 Z <| bq ao fun b0 v ap => sx Z (AS (G1 _ _ _ v) (.inl Z) Z Z Z <| rl Z <| rs AA <| rl Z <| cd Z ap (fun aq => ?_) (fun aw => ?_))))
   .refine AB ?_
    refine Bi AA Az [0, 1, 2, 3, 4, 5, 6, 7, 8, 9, 10, 11, 12] 13 (by kernel_rfl) Z Z Z ?_
    exact Am 5 Z <| bq aq fun b1 w ar => An Z (AZ Z (Aj w Z Z Z <| Am 3 Z <| bq ar fun bp x au => An Z (BA (K8 _ _ _ _ _ _ x) (.inr Z) Z Z Z <| Am 1 Z <| bq au fun b2 y av => An Z (BY (Ax (enc := Ad) (l := f.2) (m := [bp]) y (fun _ => ⟨Z, Z⟩) Z Z Z Z Z Z <| A0 Z <| AC <| AU <| Ab <| Ao <| AN av (wf hA (gi 3 [(3, 37)]) Z Z Z))))))
   refine AD <| AC <| rs AA <| rn 2 Z <| bq aw fun b3 z ax => sx Z (AS (Cs _ _ _ z) (.inl Z) Z Z Z <| rl Z <| AB <| rs AA <| rl Z <| cd Z ax (fun ay => ?_) (fun a2 => ?_))
   .refine AB ?_
    refine Bi AA Az [0, 1, 2, 3, 4, 5, 6, 7, 8, 9, 10, 11] 12 (by kernel_rfl) Z Z Z ?_
    exact Am 5 Z <| bq ay fun b4 aa az => An Z (AZ Z (Aj aa Z Z Z <| Am 2 Z <| bq az fun br ab a0 => An Z (BA (K8 _ _ _ _ _ _ ab) (.inr Z) Z Z Z <| Am 1 Z <| bq a0 fun b5 ac a1 => An Z (BY (Ax (enc := Ad) (l := f.2) (m := [br]) ac (fun _ => ⟨Z, Z⟩) Z Z Z Z Z Z <| A0 Z <| AC <| AU <| Ab <| Ao <| AN a1 (wf hA (gi 3 [(3, 37)]) Z Z Z))))))
   refine AD <| AC ?_
   refine Bi AA Az [0, 1, 2, 3, 4, 5, 6, 7, 8, 9, 10, 11, 12, 13, 14] 15 (by kernel_rfl) Z Z Z ?_
   exact Am 6 Z <| bq a2 fun b6 ad a3 => An Z (AZ Z (Aj ad Z Z Z <| Am 2 Z <| bq a3 fun b7 ae a4 => An Z (BA (K8 _ _ _ _ _ _ ae) (.inr Z) Z Z Z <| Am 2 Z <| bq a4 fun bs af a5 => An Z (BA (hrec _ _ _ _ _ af) (.inr Z) Z Z Z <| bq a5 fun b8 ag a6 => An Z (BY (Ax (enc := Ad) (l := f.2) (m := bs) ag (fun _ => ⟨Z, Z⟩) Z Z Z Z Z Z <| A0 Z <| Ai <| AN a6 (wf hA (gi 3 [(3, 40)]) Z Z Z)))))))
  exact rg AA <| rl Z <| Av a7 (wf hA (gi 4 []) Z Z Z)
 refine AU <| Ab <| BH a8 fun bu a9 => Ao <| AC <| rs AA <| rl Z <| AG ?_
 cases a9
 exact er (HH Z (.one (.own (enc := Ad) f.2 Z Z))) Le.rfl
theorem Ya (b : AM) (c : AW) (d : AF) (e : (List Int)) (r : (List AW)) (h : UP b c d e = some r) : A4 Tryz.prog 105 [.agg (Aa b), .agg (Ad c), .agg (AK d), .slice 1 (e.map AY)] (· = .slice 9 (r.map Ad)) :=
 recF_holds (F := fun (rc : (AM × AW × AF × (List Int)) -> Option (List AW)) (a : (AM × AW × AF × (List Int))) => G6 rc a.1 a.2.1 a.2.2.1 a.2.2.2) (C := fun (a : (AM × AW × AF × (List Int))) (r : (List AW)) => A4 Tryz.prog 105 [.agg (Aa a.1), .agg (Ad a.2.1), .agg (AK a.2.2.1), .slice 1 (a.2.2.2.map AY)] (· = .slice 9 (r.map Ad))) (fun rc hrec a r h => Ws rc (fun f g i j r h => hrec (f, g, i, j) r h) a.1 a.2.1 a.2.2.1 a.2.2.2 r h) 1000 (b, c, d, e) r h
end Go.E
/- Plain functions, and walks in step with them. Written by a program (gen.py). No condition. -/
set_option maxRecDepth 100000
namespace Go.E
open Go Go.RowKit Go.Proofs
noncomputable def Lv (a : AM) (c : Int) : Option (List AW) :=
 (JH a c).bind fun b => bif (!b.2) then some [] else (CK a b.1).bind fun d => bif (!d.2) then some [] else (UP a (⟨c, 0, 0, [], [], [], [], [], false⟩ : AW) d.1 ([b.1.elem] : (List Int))).bind fun e => some e
theorem YZ (a : AM) (b : Int) (r : (List AW)) (h : Lv a b = some r) : A4 Tryz.prog 38 [.agg (Aa a), .int .i64 b] (· = .slice 9 (r.map Ad)) := by
 refine fn AA Tryz.func38 Z Z 33 Z [.tmp 4] Z [(0, .p (.agg (Aa a))), (1, .p (.int .i64 b))] Z Z fun A hA => ?_
 unfold Lv at h
 refine rs AA <| rl Z <| rs AA <| rn 2 Z <| bq h fun n e k => sx Z (AS (R3 _ _ _ e) (.inl Z) Z Z Z <| rl Z <| AB <| rs AA <| rl Z <| cd Z k (fun l => ?_) (fun m => ?_))
 .refine rs AA <| rl Z <| AG <| AI ?_
  cases l
  exact er Z (Le.nil _)
 refine AD <| AC <| rs AA <| rn 2 Z <| bq m fun o c f => sx Z (AS (Cs _ _ _ c) (.inl Z) Z Z Z <| rl Z <| AB <| rs AA <| rl Z <| cd Z f (fun g => ?_) (fun i => ?_))
 .refine rs AA <| rl Z <| AG <| AI ?_
  cases g
  exact er Z (Le.nil _)
 refine AD <| AC <| rs AA <| rn 7 Z <| bq i fun q d j => sx Z (ZP (A4.le (Ya _ _ _ _ _ d) (.cons Le.rfl (.cons (Le.agg' (.cons Le.rfl (.cons Le.rfl (.cons Le.rfl (.cons (Le.nil _) (.cons (Le.nil _) (.cons (Le.nil _) (.cons (Le.nil _) (.cons (Le.nil _) (.cons Le.rfl .nil)))))))))) (.cons Le.rfl (.cons Le.rfl .nil))))) Z Z Z (C9.eq (.cons (.one (.p _)) (.cons (.one (.p _)) (.cons (.one (.p _)) (.cons (.one (.own (enc := AY) ([n.1.elem] : List Int) Z Z)) .nil))))) Z <| rl Z <| AG ?_)
 have hr := Option.some.inj j; subst hr
 exact er Z Le.rfl
noncomputable def Bl (a : (List AV)) : Option (List AV) :=
 MX a (some []) ((BE ([] : List AV) a).bind fun b => some b)
theorem Mg (a : (List AV)) (r : (List AV)) (h : Bl a = some r) : A4 Tryz.prog 45 [.slice 3 (a.map Af)] (· = .slice 3 (r.map Af)) := by
 refine fn AA Tryz.func45 Z Z 8 Z [.tmp 2] Z [(0, .p (.slice 3 (a.map Af)))] Z Z fun A hA => ?_
 unfold Bl at h
 refine rs AA <| rl Z <| AB <| rs AA <| rn 1 Z <| sx Z (JX h Z Z Z (fun d => ?_) (fun e => ?_))
 .refine rl Z <| Qn Z <| rs AA <| rl Z <| AG <| AI ?_
  cases d
  exact er Z (Le.nil _)
 refine rl Z <| Qo Z <| AD <| AC <| rs AA <| rn 2 Z <| bq e fun f b c => sx Z (Ax (enc := Af) (l := ([] : List AV)) (m := a) b (fun _ => ⟨Z, Z⟩) Z Z Z Z Z Z <| rl Z <| AG ?_)
 have hr := Option.some.inj c; subst hr
 exact er (HH Z (.one (.own (enc := Af) f Z Z))) Le.rfl
theorem FZ (a : (List AV)) (r : (List AV)) (h : Bl a = some r) : Gn Tryz.prog 45 [.slice 3 (a.map Af)] 65 3 (r.map Af) := by
 refine XW (enc := Af) (fun _ => ⟨Z, Z⟩) Tryz.func45 Z Z 8 Z 2 Z [(0, .p (.slice 3 (a.map Af)))] Z Z fun A hA => ?_
 unfold Bl at h
 refine rs AA <| rl Z <| AB <| rs AA <| rn 1 Z <| sx Z (JX h Z Z Z (fun d => ?_) (fun e => ?_))
 .refine rl Z <| Qn Z <| rs AA <| rl Z <| AG <| AI ?_
  cases d
  exact YT Z
 refine rl Z <| Qo Z <| AD <| AC <| rs AA <| rn 2 Z <| bq e fun f b c => sx Z (Ax (enc := Af) (l := ([] : List AV)) (m := a) b (fun _ => ⟨Z, Z⟩) Z Z Z Z Z Z <| rl Z <| AG ?_)
 have hr := Option.some.inj c; subst hr
 exact XX Z Z Z
noncomputable def B9 (a : (List AJ)) : Option (List AJ) :=
 MX a (some []) ((BE ([] : List AJ) a).bind fun b => some b)
theorem Mh (a : (List AJ)) (r : (List AJ)) (h : B9 a = some r) : A4 Tryz.prog 46 [.slice 2 (a.map AR)] (· = .slice 2 (r.map AR)) := by
 refine fn AA Tryz.func46 Z Z 8 Z [.tmp 2] Z [(0, .p (.slice 2 (a.map AR)))] Z Z fun A hA => ?_
 unfold B9 at h
 refine rs AA <| rl Z <| AB <| rs AA <| rn 1 Z <| sx Z (JX h Z Z Z (fun d => ?_) (fun e => ?_))
 .refine rl Z <| Qn Z <| rs AA <| rl Z <| AG <| AI ?_
  cases d
  exact er Z (Le.nil _)
 refine rl Z <| Qo Z <| AD <| AC <| rs AA <| rn 2 Z <| bq e fun f b c => sx Z (Ax (enc := AR) (l := ([] : List AJ)) (m := a) b (fun _ => ⟨Z, Z⟩) Z Z Z Z Z Z <| rl Z <| AG ?_)
 have hr := Option.some.inj c; subst hr
 exact er (HH Z (.one (.own (enc := AR) f Z Z))) Le.rfl
theorem L3 (a : (List AJ)) (r : (List AJ)) (h : B9 a = some r) : Gn Tryz.prog 46 [.slice 2 (a.map AR)] 91 2 (r.map AR) := by
 refine XW (enc := AR) (fun _ => ⟨Z, Z⟩) Tryz.func46 Z Z 8 Z 2 Z [(0, .p (.slice 2 (a.map AR)))] Z Z fun A hA => ?_
 unfold B9 at h
 refine rs AA <| rl Z <| AB <| rs AA <| rn 1 Z <| sx Z (JX h Z Z Z (fun d => ?_) (fun e => ?_))
 .refine rl Z <| Qn Z <| rs AA <| rl Z <| AG <| AI ?_
  cases d
  exact YT Z
 refine rl Z <| Qo Z <| AD <| AC <| rs AA <| rn 2 Z <| bq e fun f b c => sx Z (Ax (enc := AR) (l := ([] : List AJ)) (m := a) b (fun _ => ⟨Z, Z⟩) Z Z Z Z Z Z <| rl Z <| AG ?_)
 have hr := Option.some.inj c; subst hr
 exact XX Z Z Z
noncomputable def DD (a : BI) : Option AM :=
 (IR a.p).bind fun b => some b
theorem J8 (a : BI) (r : AM) (h : DD a = some r) : A4 Tryz.prog 47 [.place (A6 a) 0] (· = .agg (Aa r)) := by
 refine fn AA Tryz.func47 Z Z 8 Z [.cell 2 27] Z [(0, .p (.place (A6 a) 0))] Z Z fun A hA => ?_
 unfold DD at h
 refine rs AA <| rl Z <| rs AA <| rn 4 Z <| bq h fun d b c => sx Z (AS (RE _ _ b) (.inr Z) Z Z Z <| rl Z <| AG ?_)
 have hr := Option.some.inj c; subst hr
 exact er Z Le.rfl
noncomputable def Gc (b : BI) (a : Int) : Option Bv :=
 ((bif decide (a < 0) then some true else some (decide ((b.p.elems.length : Int) <= a)) : Option (Bool))).bind fun (c : Bool) => bif c then some (⟨ByteArray.empty, 0, 0⟩ : Bv) else (Ak b.p.elems a).bind fun d => some d
theorem R6 (a : BI) (b : Int) (r : Bv) (h : Gc a b = some r) : A4 Tryz.prog 119 [.place (A6 a) 0, .int .i64 b] (· = .agg (BJ r)) := by
 refine fn AA Tryz.func119 Z Z 26 Z [.cell 4 152] Z [(0, .p (.place (A6 a) 0)), (1, .p (.int .i64 b))] Z Z fun A hA => ?_
 unfold Gc at h
 refine rs AA <| rl Z <| AB <| jb (fun c : Bool => ⟨26, [(0, lq (A6 a)), (1, li b), (4, .lpb 0 0), (16, lb c)], [(0, .box [.p (.str ByteArray.empty), li 0, li 0])], 1⟩) h (fun c e => ?_) (fun c i => ?_)
 .refine rg AA <| rn 3 Z <| gs 7 e Z Z Z (fun f => ?_) (fun g => ?_)
  .exact rl Z <| AN f (wf hA [(0, 0)] Z Z Z)
  exact rn 6 Z <| sx Z (Al Z Z <| rl Z <| AN g (wf hA [(0, 0)] Z Z Z))
 refine cd Z i (fun j => ?_) (fun k => ?_)
 .refine rs AA <| rl Z <| AG <| AI ?_
  cases j
  exact er Z Le.rfl
 refine AD <| AC <| rs AA <| rn 6 Z <| bq k fun m d l => sx Z (Aj d Z Z Z <| rl Z <| AG ?_)
 have hr := Option.some.inj l; subst hr
 exact er Z Le.rfl
noncomputable def B1 (a : BI) (b : Int) : Option Int :=
 (Gc a b).bind fun c => some c.kind
theorem DC (a : BI) (b : Int) (r : Int) (h : B1 a b = some r) : A4 Tryz.prog 54 [.place (A6 a) 0, .int .i64 b] (· = .int .i64 r) := by
 refine fn AA Tryz.func54 Z Z 9 Z [.tmp 4] Z [(0, .p (.place (A6 a) 0)), (1, .p (.int .i64 b))] Z Z fun A hA => ?_
 unfold B1 at h
 refine rs AA <| rl Z <| rs AA <| rn 2 Z <| bq h fun e c d => sx Z (AS (R6 _ _ _ c) (.inl Z) Z Z Z <| rl Z <| AG ?_)
 cases d
 exact er Z Le.rfl
noncomputable def Bc (a : BI) (b : AF) : Option (AF × Bool) :=
 some (((Ap a.next b).getD (⟨0, 0⟩ : AF)), (Ap a.next b).isSome)
theorem CB (a : BI) (b : AF) (r : (AF × Bool)) (h : Bc a b = some r) : A4 Tryz.prog 49 [.place (A6 a) 0, .agg (AK b)] (· = .tup [.agg (AK r.1), .bool r.2]) := by
 refine fn AA Tryz.func49 Z Z 19 Z [.cell 4 96, .tmp 5] Z [(0, .p (.place (A6 a) 0)), (1, .p (.agg (AK b)))] Z Z fun A hA => ?_
 unfold Bc at h
 refine rs AA <| rl Z <| AB ?_
 refine Bi AA Az [0, 1, 2, 3, 4, 5, 6, 7, 8, 9, 10, 11] 12 (by kernel_rfl) Z Z Z ?_
 refine Am 5 Z <| An Z (AZ Z (JV (et := 96) (ke := (fun x => .agg (AK x))) (ve := (fun x => .agg (AK x))) (mp := a.next) (y := b) (⟨0, 0⟩ : AF) Ck Z Z Z Z <| A0 Z <| AC <| rs AA <| rl Z <| AG ?_))
 cases h
 exact er Z Le.rfl
noncomputable def F0 (g : BI) (e : (Int × (List AF))) (c : AV) (b : (List Int)) (a : Int × (List AF)) : Option ((Int × (List AF)) ⊕ ((Int × (List AF)) ⊕ (List AF))) :=
 bif decide (a.1 < (b.length : Int)) then (((Ak b a.1).bind fun d => (Bc g (⟨c.elem, d⟩ : AF)).bind fun h => bif h.2 then (BE a.2 [(⟨c.elem, d⟩ : AF)]).bind fun i => some i else some a.2 : Option ((List AF)))).bind fun (f : (List AF)) => some (.inl (AQ (a.1 + 1), f)) else some (.inr (.inl (AQ (e.1 + 1), a.2)))
noncomputable def Hp (c : BI) (d : AW) (b : Int × (List AF)) : Option ((Int × (List AF)) ⊕ (List AF)) :=
 bif decide (b.1 < (d.steps.length : Int)) then (Ak d.steps b.1).bind fun a => (((B1 c a.elem).bind fun e => bif (e == 2) then some [AQ (3 - (if a.out > a.in_ then a.out else a.in_))] else bif (e == 3) then bif decide (1 < a.in_) then some [0, 1] else some [2, 3] else some ([] : List Int) : Option ((List Int)))).bind fun (f : (List Int)) => AO (F0 c b a f) (0, b.2) else some (.inr b.2)
noncomputable def GV (a : BI) (b : AW) : Option (List AF) :=
 AO (Hp a b) (0, ([] : List AF))
theorem Ou (e : BI) (b : AW) (r : (List AF)) (h : GV e b = some r) : A4 Tryz.prog 48 [.place (A6 e) 0, .agg (Ad b)] (· = .slice 2 (r.map AK)) := by
 refine fn AA Tryz.func48 Z Z 67 Z [.tmp 4] Z [(0, .p (.place (A6 e) 0)), (1, .p (.agg (Ad b)))] Z Z fun A hA => ?_
 unfold GV at h
 refine rs AA <| rl Z <| rs AA <| rl Z <| AB <| rs AA <| rn 2 Z <| sx Z (Al Z Z <| rl Z <| AH ?_)
 apply lp (a := r) (fun c : (Int × (List AF)) => ⟨67, [(0, lq (A6 e)), (5, .lsl 0 2 0 c.2.length), (16, ls 3 Af b.steps), (17, li (b.steps.length : Int)), (18, li c.1)], [(0, .row 96 2 (c.2.map AK))], 1⟩) h
 . exact A9.trans (By 5 96 2 Z) (wf hA [(0, 1)] Z Z Z)
 intro c o k
 unfold Hp at k
 refine rs AA <| rl Z <| AB <| cd Z k (fun v => ?_) (fun aq => ?_)
 .refine AD <| AC <| AB <| AH <| rs AA <| bq v fun i q w => sx Z (Aj q Z Z Z <| rl Z <| rs AA <| rl Z <| jb (fun d : (List Int) => ⟨67, [(0, lq (A6 e)), (5, .lsl 0 2 0 c.2.length), (7, .lpb 1 0), (8, .lsl 2 1 0 d.length), (16, ls 3 Af b.steps), (17, li (b.steps.length : Int)), (18, li c.1)], [(0, .row 96 2 (c.2.map AK)), (1, bx (Af i)), (2, .row 3 1 (d.map AY))], 3⟩) w (fun d x => ?_) (fun d af => ?_))
  .refine rs AA <| rn 3 Z <| bq x fun ay s y => sx Z (AS (DC _ _ _ s) (.inl Z) Z Z Z <| rl Z <| AH <| rs AA <| rl Z <| cd Z y (fun z => ?_) (fun aa => ?_))
   .exact rs AA <| rl Z <| rg AA <| rl Z <| Ai <| AN z (wf hA (gi 3 []) Z Z Z)
   refine rs AA <| rl Z <| cd Z aa (fun ab => ?_) (fun ae => ?_)
   .refine rs AA <| rl Z <| rs AA <| rl Z <| cd Z ab (fun ac => ?_) (fun ad => ?_)
    .exact rg AA <| rl Z <| Ai <| AN ac (wf hA [(0, 0), (1, 1), (2, 3)] Z Z Z)
    exact AD <| Ai <| AN ad (wf hA (gi 3 []) Z Z Z)
   exact AD <| Ai <| AN ae (A9.trans (By 8 3 1 Z) (wf hA (gi 3 []) Z Z Z))
  refine rs AA <| rl Z <| AH ?_
  apply lp (a := o) (fun f : (Int × (List AF)) => ⟨67, [(0, lq (A6 e)), (5, .lsl 0 2 0 f.2.length), (7, .lpb 1 0), (16, ls 3 Af b.steps), (17, li (b.steps.length : Int)), (18, li c.1), (43, .lsl 2 1 0 d.length), (44, li (d.length : Int)), (45, li f.1)], [(0, .row 96 2 (f.2.map AK)), (1, bx (Af i)), (2, .row 3 1 (d.map AY))], 3⟩) af
  . exact wf hA (gi 3 []) Z Z Z
  intro f ax n
  unfold F0 at n
  refine rs AA <| rl Z <| AB <| cd Z n (fun ag => ?_) (fun ao => ?_)
  .refine AD <| AC <| jb (fun g : (List AF) => ⟨67, [(0, lq (A6 e)), (5, .lsl 0 2 0 g.length), (7, .lpb 1 0), (16, ls 3 Af b.steps), (17, li (b.steps.length : Int)), (18, li c.1), (43, .lsl 2 1 0 d.length), (44, li (d.length : Int)), (45, li f.1)], [(0, .row 96 2 (g.map AK)), (1, bx (Af i)), (2, .row 3 1 (d.map AY))], 3⟩) ag (fun g ah => ?_) (fun g an => ?_)
   .refine AH <| rs AA <| bq ah fun au j ai => sx Z (B4 j Z Z Z Z <| sx Z (DM j Z Z Z <| rl Z <| rs AA <| rl Z <| rs AA <| rn 2 Z <| bq ai fun az t aj => sx Z (AS (CB _ _ _ t) (.inl Z) Z Z Z <| rl Z <| rs AA <| rl Z <| cd Z aj (fun ak => ?_) (fun am => ?_))))
    .exact rg AA <| rn 3 Z <| bq ak fun a0 u al => sx Z (Ax (enc := AK) (l := f.2) (m := [(⟨i.elem, au⟩ : AF)]) u (fun _ => ⟨Z, Z⟩) Z Z Z Z Z Z <| rl Z <| Ai <| AN al (wf hA [(0, 6), (1, 1), (2, 2)] Z Z Z))
    exact AD <| Ai <| AN am (wf hA (gi 3 []) Z Z Z)
   exact rg AA <| rl Z <| Av an (wf hA (gi 3 []) Z Z Z)
  exact AU <| Ab <| BH ao fun av ap => Ao <| Ai <| AC <| rg AA <| rl Z <| Av ap (wf hA [(0, 0)] Z Z Z)
 refine AU <| Ab <| BH aq fun aw ar => Ao <| AC <| rs AA <| rl Z <| AG ?_
 cases ar
 exact er (HH Z (.one (.own (enc := AK) c.2 Z Z))) Le.rfl
noncomputable def Jk (a : AV) (b : Int) : Option Bool :=
 some (a.elem == b)
theorem UQ (a : AV) (b : Int) (r : Bool) (h : Jk a b = some r) : A4 Tryz.prog 117 [.agg (Af a), .place (AY b) 0] (· = .bool r) := by
 refine fn AA Tryz.func117 Z Z 8 Z [.tmp 3] Z [(0, .p (.agg (Af a))), (1, .p (.place (AY b) 0))] Z Z fun A hA => ?_
 unfold Jk at h
 refine rs AA <| rl Z <| rs AA <| rl Z <| AG ?_
 cases h
 exact er Z Le.rfl
noncomputable def HQ (b : AW) (c : Int) (a : Int) : Option (Int ⊕ Int) :=
 bif decide (a < (b.steps.length : Int)) then (Ak b.steps a).bind fun d => (Jk d c).bind fun e => bif e then some (.inr a) else some (.inl (AQ (a + 1))) else some (.inr (-1))
noncomputable def Fu (c : AW) (d : Int) : Option Bool :=
 ((((AO (HQ c d) 0 : Option (Int))).bind fun (b : Int) => some (decide (0 <= b)) : Option (Bool))).bind fun (a : Bool) => some a
theorem Nl (b : AW) (d : Int) (r : Bool) (h : Fu b d = some r) : A4 Tryz.prog 51 [.agg (Ad b), .int .i64 d] (· = .bool r) := by
 refine fn AA Tryz.func51 Z Z 9 Z [.tmp 4] Z [(0, .p (.agg (Ad b))), (1, .p (.int .i64 d))] Z Z fun A hA => ?_
 unfold Fu at h
 refine rs AA <| rl Z <| rs AA <| rn 3 Z <| sx Z (Cy AA (fun e : Bool => lb e) (fun e : Bool => [(0, bx (Ad b)), (1, .box [li d])]) 2 h Tryz.func96 9 [.tmp 4] [(0, ls 3 Af b.steps), (1, .fn 117 [.lpb 1 0])] Z Z Z Z Z Z Z Z (fun A hA e k => ?_) (fun e x => ?_))
 .refine rs AA <| rl Z <| rs AA <| rn 2 Z <| sx Z (Cy AA (fun c : Int => li c) (fun c : Int => [(0, bx (Ad b)), (1, .box [li d])]) 2 k Tryz.func149 19 [.tmp 4] [(0, ls 3 Af b.steps), (1, .fn 117 [.lpb 1 0])] Z Z Z Z Z Z Z Z (fun A hA c l => ?_) (fun c w => ?_))
  .refine rs AA <| rl Z <| AB <| rs AA <| rn 1 Z <| sx Z (Al Z Z <| rl Z <| AH ?_)
   apply lp (a := c) (fun f : Int => ⟨19, [(0, ls 3 Af b.steps), (1, .fn 117 [.lpb 1 0]), (7, li (b.steps.length : Int)), (8, li f)], [(0, bx (Ad b)), (1, .box [li d])], 2⟩) l
   . exact wj hA [(0, 0), (1, 1)] Z Z Z Z
   intro f aa g
   unfold HQ at g
   refine rs AA <| rl Z <| AB <| cd Z g (fun m => ?_) (fun u => ?_)
   .refine AD <| AC <| AB <| AH <| rs AA <| rl Z <| rs AA <| rn 3 Z <| bq m fun ab i n => sx Z (Aj i Z Z Z <| rn 1 Z <| bq n fun ac j o => sx Z (AS (UQ _ _ _ j) (.inl Z) Z Z (C9.eq (.cons (.one (.p _)) (.cons (.box Z (.cons (.p _) .nil)) .nil))) <| rl Z <| cd Z o (fun q => ?_) (fun t => ?_)))
    .refine rs AA <| rl Z <| AG <| AT <| AI <| A1 q fun y s => AT <| AI ?_
     have hr := Option.some.inj s; subst hr
     exact Co (nt := 19) (sl := [(4, li f)]) (wj hA [(0, 0), (1, 1)] Z Z Z Z) Z
    exact AD <| Ai <| AC <| rg AA <| rl Z <| Av t (wj hA [(0, 0), (1, 1)] Z Z Z Z)
   refine AU <| Ab <| BH u fun z v => Ao <| AC <| rs AA <| rl Z <| AG ?_
   cases v
   exact Co (nt := 19) (sl := [(4, li (-1))]) (wj hA [(0, 0), (1, 1)] Z Z Z Z) Z
  refine rl Z <| AG ?_
  cases w
  exact Co (nt := 9) (sl := [(4, lb (decide (0 <= c)))]) (wj hA [(0, 0), (1, 1)] Z Z Z Z) Z
 refine rl Z <| AG ?_
 have hr := Option.some.inj x; subst hr
 exact er Z Le.rfl
noncomputable def Bw (a : BI) (b : AF) : Option Int :=
 bif (Ap a.reads b).isSome then some ((Ap a.reads b).getD 0) else some (-1)
theorem Ei (a : BI) (b : AF) (r : Int) (h : Bw a b = some r) : A4 Tryz.prog 52 [.place (A6 a) 0, .agg (AK b)] (· = .int .i64 r) := by
 refine fn AA Tryz.func52 Z Z 18 Z [.tmp 4] Z [(0, .p (.place (A6 a) 0)), (1, .p (.agg (AK b)))] Z Z fun A hA => ?_
 unfold Bw at h
 refine rs AA <| rl Z <| AB <| AB ?_
 refine Bi AA Az [0, 1, 2, 3, 4, 5, 6, 7, 8, 9, 10] 11 (by kernel_rfl) Z Z Z ?_
 refine Am 5 Z <| An Z (AZ Z (JV (et := 3) (ke := (fun x => .agg (AK x))) (ve := (.int .i64)) (mp := a.reads) (y := b) 0 Ck Z Z Z Z <| A0 Z <| AC <| rs AA <| rl Z <| cd Z h (fun c => ?_) (fun d => ?_)))
 .refine rs AA <| rl Z <| AG <| AI ?_
  cases c
  exact er Z Le.rfl
 refine AD <| AC <| rs AA <| rl Z <| AG ?_
 cases d
 exact er Z Le.rfl
noncomputable def Dh (b : (List Int)) (c : Int) (a : Int) : Option (Int ⊕ Int) :=
 bif decide (a < (b.length : Int)) then (Ak b a).bind fun d => bif (c == d) then some (.inr a) else some (.inl (AQ (a + 1))) else some (.inr (-1))
noncomputable def F1 (a : (List Int)) (b : Int) : Option Int :=
 AO (Dh a b) 0
theorem Oz (b : (List Int)) (c : Int) (r : Int) (h : F1 b c = some r) : A4 Tryz.prog 118 [.slice 1 (b.map AY), .int .i64 c] (· = .int .i64 r) := by
 refine fn AA Tryz.func118 Z Z 19 Z [.tmp 4] Z [(0, .p (.slice 1 (b.map AY))), (1, .p (.int .i64 c))] Z Z fun A hA => ?_
 unfold F1 at h
 refine rs AA <| rl Z <| AB <| rs AA <| rn 1 Z <| sx Z (Al Z Z <| rl Z <| AH ?_)
 apply lp (a := r) (fun e : Int => ⟨19, [(0, ls 1 AY b), (1, li c), (7, li (b.length : Int)), (8, li e)], [], 0⟩) h
 . exact wf hA [] Z Z Z
 intro e s d
 unfold Dh at d
 refine rs AA <| rl Z <| AB <| cd Z d (fun n => ?_) (fun l => ?_)
 .refine AD <| AC <| AB <| AH <| rs AA <| rl Z <| rs AA <| rn 3 Z <| bq n fun t f g => sx Z (Aj f Z Z Z <| rl Z <| cd Z g (fun i => ?_) (fun k => ?_))
  .refine rs AA <| rl Z <| AG <| AT <| AI <| A1 i fun o j => AT <| AI ?_
   have hr := Option.some.inj j; subst hr
   exact er Z Le.rfl
  exact AD <| Ai <| AC <| rg AA <| rl Z <| Av k (wf hA [] Z Z Z)
 refine AU <| Ab <| BH l fun q m => Ao <| AC <| rs AA <| rl Z <| AG ?_
 cases m
 exact er Z Le.rfl
noncomputable def BU (a : (List Int)) (b : Int) : Option Bool :=
 (F1 a b).bind fun c => some (decide (0 <= c))
theorem Cz (a : (List Int)) (b : Int) (r : Bool) (h : BU a b = some r) : A4 Tryz.prog 53 [.slice 1 (a.map AY), .int .i64 b] (· = .bool r) := by
 refine fn AA Tryz.func53 Z Z 9 Z [.tmp 4] Z [(0, .p (.slice 1 (a.map AY))), (1, .p (.int .i64 b))] Z Z fun A hA => ?_
 unfold BU at h
 refine rs AA <| rl Z <| rs AA <| rn 2 Z <| bq h fun e c d => sx Z (AS (Oz _ _ _ c) (.inl Z) Z Z Z <| rl Z <| AG ?_)
 cases d
 exact er Z Le.rfl
noncomputable def Cx (b : (List AJ)) (c : AJ) (a : Int) : Option (Int ⊕ Int) :=
 bif decide (a < (b.length : Int)) then (Ak b a).bind fun d => bif (c == d) then some (.inr a) else some (.inl (AQ (a + 1))) else some (.inr (-1))
noncomputable def EM (a : (List AJ)) (b : AJ) : Option Int :=
 AO (Cx a b) 0
theorem Mi (c : (List AJ)) (b : AJ) (r : Int) (h : EM c b = some r) : A4 Tryz.prog 120 [.slice 2 (c.map AR), .agg (AR b)] (· = .int .i64 r) := by
 refine fn AA Tryz.func120 Z Z 19 Z [.tmp 4] Z [(0, .p (.slice 2 (c.map AR))), (1, .p (.agg (AR b)))] Z Z fun A hA => ?_
 unfold EM at h
 refine rs AA <| rl Z <| AB <| rs AA <| rn 1 Z <| sx Z (Al Z Z <| rl Z <| AH ?_)
 apply lp (a := r) (fun e : Int => ⟨19, [(0, ls 2 AR c), (3, .lpb 0 0), (7, li (c.length : Int)), (8, li e)], [(0, .box [li b.elem, li b.pos])], 1⟩) h
 . exact wf hA [(0, 0)] Z Z Z
 intro e t d
 unfold Cx at d
 refine rs AA <| rl Z <| AB <| cd Z d (fun n => ?_) (fun l => ?_)
 .refine AD <| AC <| AB <| AH <| rs AA <| rl Z <| AB ?_
  refine Bi AA Az [0, 1, 2, 3, 4, 5] 6 (by kernel_rfl) Z Z Z ?_
  refine Am 3 Z <| bq n fun o f g => An Z (AZ Z (Aj f Z Z Z <| Am 1 Z <| An Z (Lf (Nk b o) Z Z Z Z Z <| A0 Z <| AC <| cd Z g (fun i => ?_) (fun k => ?_))))
  .refine rs AA <| rl Z <| AG <| AT <| AI <| A1 i fun q j => AT <| AI ?_
   have hr := Option.some.inj j; subst hr
   exact er Z Le.rfl
  exact AD <| Ai <| AC <| rg AA <| rl Z <| Av k (wf hA [(0, 0)] Z Z Z)
 refine AU <| Ab <| BH l fun s m => Ao <| AC <| rs AA <| rl Z <| AG ?_
 cases m
 exact er Z Le.rfl
noncomputable def B7 (a : (List AJ)) (b : AJ) : Option Bool :=
 (EM a b).bind fun c => some (decide (0 <= c))
theorem E1 (a : (List AJ)) (b : AJ) (r : Bool) (h : B7 a b = some r) : A4 Tryz.prog 56 [.slice 2 (a.map AR), .agg (AR b)] (· = .bool r) := by
 refine fn AA Tryz.func56 Z Z 9 Z [.tmp 4] Z [(0, .p (.slice 2 (a.map AR))), (1, .p (.agg (AR b)))] Z Z fun A hA => ?_
 unfold B7 at h
 refine rs AA <| rl Z <| rs AA <| rn 2 Z <| bq h fun e c d => sx Z (AS (Mi _ _ _ c) (.inl Z) Z Z Z <| rl Z <| AG ?_)
 cases d
 exact er Z Le.rfl
noncomputable def DB (c : BI) (d : Int) (a : Int) : Option (List BO) :=
 ((bif decide (a < 0) then some true else (B1 c d).bind fun f => (Hc f).bind fun g => some (decide (g <= a)) : Option (Bool))).bind fun (e : Bool) => bif e then some [] else (B1 c d).bind fun b => bif (b == 1) then some [(⟨AQ (1 - a), 0⟩ : BO)] else bif (b == 3) then (Ak ([1, 0, 3, 2] : List Int) a).bind fun h => some [(⟨h, 0⟩ : BO)] else bif (b == 2) then bif (a == 0) then some [(⟨1, 1⟩ : BO), (⟨2, 2⟩ : BO)] else (Ak ([0, 1, 2] : List Int) a).bind fun i => some [(⟨0, i⟩ : BO)] else some []
theorem GR (b : BI) (c : Int) (a : Int) (r : (List BO)) (h : DB b c a = some r) : A4 Tryz.prog 99 [.place (A6 b) 0, .int .i64 c, .int .i64 a] (· = .slice 2 (r.map CR)) := by
 refine fn AA Tryz.func99 Z Z 47 Z [.tmp 6] Z [(0, .p (.place (A6 b) 0)), (1, .p (.int .i64 c)), (2, .p (.int .i64 a))] Z Z fun A hA => ?_
 unfold DB at h
 refine rs AA <| rl Z <| AB <| jb (fun d : Bool => ⟨47, [(0, lq (A6 b)), (1, li c), (2, li a), (17, lb d)], [], 0⟩) h (fun d m => ?_) (fun d t => ?_)
 .refine rg AA <| rn 3 Z <| gs 10 m Z Z Z (fun n => ?_) (fun o => ?_)
  .exact rl Z <| AN n (wf hA [] Z Z Z)
  exact rn 3 Z <| bq o fun ak f q => sx Z (AS (DC _ _ _ f) (.inl Z) Z Z Z <| bq q fun al i s => sx Z (AS (Mc _ _ i) (.inl Z) Z Z Z <| rl Z <| AN s (wf hA [] Z Z Z)))
 refine cd Z t (fun u => ?_) (fun v => ?_)
 .refine rs AA <| rl Z <| AG <| AI ?_
  cases u
  exact er Z (Le.nil _)
 refine AD <| AC <| AB <| rs AA <| rn 2 Z <| bq v fun am j w => sx Z (AS (DC _ _ _ j) (.inl Z) Z Z Z <| rl Z <| AH <| rs AA <| rl Z <| cd Z w (fun x => ?_) (fun z => ?_))
 .refine rs AA <| rl Z <| AG <| AT <| AI ?_
  cases x
  exact er (HH Z (.one (.own (enc := CR) ([(⟨AQ (1 - a), 0⟩ : BO)] : List BO) Z Z))) Le.rfl
 refine rs AA <| rl Z <| cd Z z (fun aa => ?_) (fun ac => ?_)
 .refine rs AA <| rl Z <| rs AA <| rn 1 Z <| bq aa fun ai e ab => sx Z (AAd (l := ([1, 0, 3, 2] : List Int)) e Z Z Z Z <| sx Z (AAe (g := fun y => .p (.int .i64 y)) e Z Z Z Z <| rl Z <| AG <| AT <| AI ?_))
  cases ab
  exact er (HH Z (.one (.own (enc := CR) ([(⟨ai, 0⟩ : BO)] : List BO) Z Z))) Le.rfl
 refine rs AA <| rl Z <| cd Z ac (fun ad => ?_) (fun ah => ?_)
 .refine AB <| rs AA <| rl Z <| cd Z ad (fun ae => ?_) (fun af => ?_)
  .refine rs AA <| rl Z <| AG <| AI <| AT <| AI ?_
   cases ae
   exact er (HH Z (.one (.own (enc := CR) ([(⟨1, 1⟩ : BO), (⟨2, 2⟩ : BO)] : List BO) Z Z))) Le.rfl
  refine AD <| AC <| rs AA <| rn 2 Z <| bq af fun aj k ag => sx Z (AAf (l := ([0, 1, 2] : List Int)) (g := fun y => .int .i64 y) k Z Z Z Z <| rl Z <| AG <| AT <| AI ?_)
  cases ag
  exact er (HH Z (.one (.own (enc := CR) ([(⟨0, aj⟩ : BO)] : List BO) Z Z))) Le.rfl
 refine AD <| Ai <| AC <| rs AA <| rl Z <| AG ?_
 cases ah
 exact er Z (Le.nil _)
noncomputable def E2 (e : Int) (c : (List BO)) (a : Int) : Option (Int ⊕ (Int × Bool)) :=
 bif decide (a < (c.length : Int)) then (Ak c a).bind fun b => ((bif (b.pos == 0) then some true else some (b.pos == e) : Option (Bool))).bind fun (d : Bool) => bif d then some (.inr (b.out, true)) else some (.inl (AQ (a + 1))) else some (.inr (0, false))
noncomputable def Eu (a : BI) (b : Int) (c : Int) (d : Int) : Option (Int × Bool) :=
 (DB a b c).bind fun e => AO (E2 d e) 0
theorem Pm (f : BI) (g : Int) (i : Int) (b : Int) (r : (Int × Bool)) (h : Eu f g i b = some r) : A4 Tryz.prog 121 [.place (A6 f) 0, .int .i64 g, .int .i64 i, .int .i64 b] (· = .tup [.int .i64 r.1, .bool r.2]) := by
 refine fn AA Tryz.func121 Z Z 33 Z [.tmp 8, .tmp 9] Z [(0, .p (.place (A6 f) 0)), (1, .p (.int .i64 g)), (2, .p (.int .i64 i)), (3, .p (.int .i64 b))] Z Z fun A hA => ?_
 unfold Eu at h
 refine rs AA <| rl Z <| AB <| rs AA <| rn 3 Z <| bq h fun c l n => sx Z (AS (GR _ _ _ _ l) (.inr Z) Z Z Z <| sx Z (Al Z Z <| rl Z <| AH ?_))
 apply lp (a := r) (fun d : Int => ⟨33, [(3, li b), (15, ls 2 CR c), (16, li (c.length : Int)), (17, li d)], [], 0⟩) n
 . exact wf hA [] Z Z Z
 intro d ad j
 unfold E2 at j
 refine rs AA <| rl Z <| AB <| cd Z j (fun o => ?_) (fun z => ?_)
 .refine AD <| AC <| AB <| AH <| rs AA <| bq o fun k m q => sx Z (Aj m Z Z Z <| rl Z <| jb (fun e : Bool => ⟨33, [(3, li b), (11, .lpb 0 0), (15, ls 2 CR c), (16, li (c.length : Int)), (17, li d), (29, lb e)], [(0, .box [li k.out, li k.pos])], 1⟩) q (fun e s => ?_) (fun e v => ?_))
  .refine rg AA <| rn 4 Z <| gs 24 s Z Z Z (fun t => ?_) (fun u => ?_)
   .exact rl Z <| AN t (wf hA [(0, 0)] Z Z Z)
   exact rl Z <| AN u (wf hA [(0, 0)] Z Z Z)
  refine cd Z v (fun w => ?_) (fun y => ?_)
  .refine rs AA <| rl Z <| AG <| AT <| AI <| A1 w fun ab x => AT <| AI ?_
   cases x
   exact er Z Le.rfl
  exact AD <| Ai <| AC <| rg AA <| rl Z <| Av y (wf hA [] Z Z Z)
 refine AU <| Ab <| BH z fun ac aa => Ao <| AC <| rs AA <| rl Z <| AG ?_
 cases aa
 exact er Z Le.rfl
noncomputable def IS (b : BI) (c : Int) (d : Int) (e : Int) : Option (Int × Bool) :=
 (Eu b c d e).bind fun a => some (a.1, a.2)
theorem R7 (a : BI) (b : Int) (c : Int) (d : Int) (r : (Int × Bool)) (h : IS a b c d = some r) : A4 Tryz.prog 57 [.place (A6 a) 0, .int .i64 b, .int .i64 c, .int .i64 d] (· = .tup [.int .i64 r.1, .bool r.2]) := by
 refine fn AA Tryz.func57 Z Z 17 Z [.tmp 8, .tmp 9] Z [(0, .p (.place (A6 a) 0)), (1, .p (.int .i64 b)), (2, .p (.int .i64 c)), (3, .p (.int .i64 d))] Z Z fun A hA => ?_
 unfold IS at h
 refine rs AA <| rl Z <| rs AA <| rn 4 Z <| bq h fun g e f => sx Z (AS (Pm _ _ _ _ _ e) (.inl Z) Z Z Z <| rl Z <| AG ?_)
 cases f
 exact er Z Le.rfl
end Go.E
