/- Ar rows cut short; nil cells of own boxes; functions that call themselves. No condition. -/
import Derived.Test.YtilbadmonidmhaaGreatJ2
set_option linter.unusedVariables false
set_option linter.unusedSimpArgs false
namespace Go.E
open Go Go.RowKit
section
variable {A : BZ} {μ : Nat -> Option Bs} {h : List (Nat × BM)} {F : Nat -> Prop} {w : World}
theorem HRel.swap (hh : HRel A μ h F w) {id : Nat} {o o' : BM} (hx : AL id h = some o) (hor : ∀ loc, μ id = some loc -> Db (Ar A μ h) μ w loc o -> Db (Ar A μ h) μ w loc o') :
  HRel A μ (B1 id o' h) F w /\ ∀ b, Ar A μ (B1 id o' h) b -> Ar A μ h b := by
 have hlook : ∀ j y, AL j (B1 id o' h) = some y -> (j = id /\ y = o') \/ (j ≠ id /\ AL j h = some y) := by
  intro j y hy
  by_cases e : j = id
  .subst e; rw [Kr hx] at hy; cases hy; exact .inl ⟨rfl, rfl⟩
  rw [Eb e] at hy; exact .inr ⟨e, hy⟩
 have hmine : ∀ b, CK μ (B1 id o' h) b -> CK μ h b := by
  rintro b ⟨j, y, lc, h1, h2, h3, h4⟩
  rcases hlook j y h1 with ⟨rfl, rfl⟩ | ⟨_, h1⟩
  .exact ⟨j, o, lc, hx, h2, h3, h4⟩
  exact ⟨j, y, lc, h1, h2, h3, h4⟩
 have hown : ∀ b, Ar A μ (B1 id o' h) b -> Ar A μ h b := fun b hb => hb.imp (fun h => h) (hmine b)
 have f : ∀ j y, AL j (B1 id o' h) = some y -> ∃ y, AL j h = some y := by
  intro j y hy
  rcases hlook j y hy with ⟨rfl, rfl⟩ | ⟨_, hy⟩
  .exact ⟨_, hx⟩
  exact ⟨_, hy⟩
 refine ⟨⟨?_, ?_, hh.fresh, ?_, hh.size, hh.block, hh.os, hh.tape, hh.output, hh.ext⟩, hown⟩
 .intro j y hy
  rcases hlook j y hy with ⟨rfl, rfl⟩ | ⟨e, hy⟩
  .obtain ⟨lc, h1, h2⟩ := hh.obj j o hx
   exact ⟨lc, h1, (hor lc h1 h2).mono (Bg.refl _ _) (fun b _ hb => hown b hb) (fun _ _ h => h) fun _ => rfl⟩
  obtain ⟨lc, h1, h2⟩ := hh.obj j y hy
  exact ⟨lc, h1, h2.mono (Bg.refl _ _) (fun b _ hb => hown b hb) (fun _ _ h => h) fun _ => rfl⟩
 .intro j j' y y' lc lc' h1 h2 m1 m2 n1 n2 he
  obtain ⟨z, hz⟩ := f j y h1
  obtain ⟨z', hz'⟩ := f j' y' h2
  exact hh.inj _ _ _ _ _ _ hz hz' m1 m2 n1 n2 he
 intro j y lc h1 m1 n1
 obtain ⟨z, hz⟩ := f j y h1
 exact hh.base _ _ _ hz m1 n1
end
section
variable {A : BZ} {nt : Nat} {sl : List (Nat × LV)} {h h' : Ag} {c : Nat}
theorem X3 {id : Nat} {o o' : BM} (hx : AL id h = some o) (hor : ∀ O μ w loc, Db O μ w loc o -> Db O μ w loc o') : A0 A ⟨nt, sl, h, c⟩ ⟨nt, sl, B1 id o' h, c⟩ := fun a w ⟨⟨μ, hh, hr⟩, hnt, hdef⟩ => by
 obtain ⟨g1, g2⟩ := hh.swap hx (o' := o') fun loc _ => hor _ _ _ loc
 exact ⟨⟨μ, g1, fun t ht => (hr t ht).mono (Bg.refl _ _) (fun b _ hb => g2 b hb) fun _ _ h => h⟩, hnt, hdef⟩
theorem Ju {α : Type} {enc : α -> List DV} (id : Nat) {e sz : Nat} {l r : List α} {m : Int} (hr : Kx l 0 m = some r) (hl : Bt id h = some (.row e sz (l.map enc)))
  (hu : MQ id (.row e sz (r.map enc)) h some = some h') : A0 A ⟨nt, sl, h, c⟩ ⟨nt, sl, h', c⟩ := by
 rw [Bn] at hl
 rw [I2, Option.some.injEq] at hu
 subst hu
 refine X3 hl fun O μ w loc ⟨h1, h2, h3⟩ => ?_
 obtain ⟨-, hr⟩ := RC hr
 have hk : r = l.take (m - 0).toNat := by rw [<- hr]; rfl
 generalize (m - 0).toNat = k at hk
 subst hk
 refine ⟨h1, fun x hx => h2 x ?_, ?_⟩
 .obtain ⟨a, ha, rfl⟩ := List.mem_map.1 hx
  exact List.mem_map.2 ⟨a, List.mem_of_mem_take ha, rfl⟩
 rcases h3 with ⟨h3, h4⟩ | ⟨h3, cs, h4, h5, h6, h7, h8⟩
 .refine .inl ⟨h3, ?_⟩
  rw [List.map_take, h4]; simp
 refine .inr ⟨h3, cs, h4, h5, ?_, h7, fun i j x d v hx => h8 i j x d v ?_⟩
 .rw [List.length_map] at h6 ⊢
  rw [List.length_take]; omega
 rw [List.map_take, List.getElem?_take] at hx
 split at hx
 .exact hx
 cases hx
theorem CG (id j e sz : Nat) {cells cells' : List LV} (hl : Bt id h = some (.box cells)) (hj : cells[j]? = some (.p .nils)) (hc : cells.set j (.lsl c sz 0 0) = cells')
  (hu : MQ id (.box cells') h some = some h') : A0 A ⟨nt, sl, h, c⟩ ⟨nt, sl, (c, .row e sz []) :: h', c + 1⟩ := fun a w ⟨⟨μ, hh, hr⟩, hnt, hdef⟩ => by
 rw [Bn] at hl
 rw [I2, Option.some.injEq] at hu
 subst hu hc
 have hno := hh.fresh c (Nat.le_refl _)
 let loc : Bs := ⟨true, 0, 0, sz, 0⟩
 have hsub : ∀ id x, AL id ((c, BM.row e sz []) :: h) = some x -> (id = c /\ x = .row e sz []) \/ AL id h = some x := by
  intro id x hx
  simp only [AL] at hx
  split at hx
  .cases hx; exact .inl ⟨‹_›, rfl⟩
  exact .inr hx
 have hadd := hh.add hno loc (.row e sz []) ((c, .row e sz []) :: h) (fun hn => by cases hn) (fun hn => by cases hn) hsub (Bg.refl _ _) (fun _ _ _ _ _ _ _ => rfl) rfl rfl rfl ⟨rfl, by simp, .inl ⟨rfl, rfl⟩⟩
 have hown := hh.sub_add loc (.row e sz []) ((c, .row e sz []) :: h) (fun hn => by cases hn) hsub
 have hadd' := hadd.less (F' := Fr (c + 1)) fun id hid => by simp only [Fr] at hid ⊢; omega
 have hne : id ≠ c := hh.live_ne hno hl
 have hl' : AL id ((c, BM.row e sz []) :: h) = some (.box cells) := by simp only [AL, if_neg hne]; exact hl
 obtain ⟨g1, g2⟩ := hadd'.swap hl' (o' := .box (cells.set j (.lsl c sz 0 0))) fun lc _ ⟨k1, cs, t, k2, k3, k4⟩ => by
  refine ⟨k1, cs, t, k2, by rw [List.length_set]; exact k3, fun i v l hv hl => ?_⟩
  rw [List.getElem?_set] at hl
  split at hl
  .split at hl
   .cases hl
    subst_vars
    have := k4 _ v _ hv hj
    rw [this.nils_inv]
    exact .lsln c loc (by simp [Bd]) rfl
   cases hl
  exact k4 i v l hv hl
 have hup : B1 id (.box (cells.set j (.lsl c sz 0 0))) ((c, BM.row e sz []) :: h) = (c, .row e sz []) :: B1 id (.box (cells.set j (.lsl c sz 0 0))) h := by
  simp only [B1, if_neg hne]
 rw [hup] at g1 g2
 exact ⟨⟨_, g1, fun u hu => (hr u hu).mono (Bg.refl _ _) (fun b hb hb' => hown b hb (g2 b hb')) (Kz hno loc)⟩, hnt, hdef⟩
end
section
variable {P : Program} {A : BZ} {AE : BH} {α : Type} {enc : α -> List DV} {l r : List α} {nt : Nat} {sl : List (Nat × LV)} {h : Ag} {c d : Nat} {f : St -> Prop} {hf : JE f} {x : Operand} {t sz : Nat}
theorem Q8 {hi : Option Operand} {m : Int} {id k : Nat} (hr : Kx l 0 m = some r) (ht : NY AE t sz = true) (hk : k = l.length) (hx : BK nt sl x = .lsl id sz 0 k)
  (hhi : Ol nt sl l.length hi = some m)
  (kk : f ⟨nt, (d, .lsl id sz 0 r.length) :: sl, h, c⟩) : BR P A AE ⟨nt, sl, h, c⟩ (some d) (.slice t x none hi none) ⟨f, hf⟩ := by
 refine Wl (lo := none) hr ht hk hx rfl hhi ?_
 have e : (m - 0).toNat = r.length := by
  obtain ⟨h1, h2⟩ := RC hr
  rw [<- h2]
  simp at h1 ⊢; omega
 rw [e]
 exact kk
end
section
variable (id : Nat) (src d : LV)
mutual
inductive PJ : LV -> LV -> Prop
 | same (v : LV) : PJ v v
 | hit : PJ src d
 | nil (z : Nat) : PJ (.p .nils) (.p (.slice z []))
 | agg {a b : List LV} : Pf a b -> PJ (.agg a) (.agg b)
inductive Pf : List LV -> List LV -> Prop
 | nil : Pf [] []
 | cons {x y : LV} {a b : List LV} : PJ x y -> Pf a b -> Pf (x :: a) (y :: b)
end
inductive PK (sl : List (Nat × LV)) : List (Nat × LV) -> Prop
 | nil : PK sl []
 | cons (t : Nat) {v : LV} {r : List (Nat × LV)} : PJ src d (Bo sl t) v -> PK sl r -> PK sl ((t, v) :: r)
inductive XF : BM -> BM -> Prop
 | same (o : BM) : XF o o
 | box {a b : List LV} : Pf src d a b -> XF (.box a) (.box b)
inductive PL (h : Ag) : Ag -> Prop
 | nil : PL h []
 | cons (i : Nat) {o o' : BM} {r : Ag} (hne : Nat.beq i id = false) (hl : Bt i h = some o) : XF src d o o' -> PL h r -> PL h ((i, o') :: r)
end
section
variable {A : BZ} {nt : Nat} {sl sl' : List (Nat × LV)} {h h' : Ag} {c : Nat} {id : Nat} {src d : LV}
mutual
theorem QN {O O' : Nat -> Prop} {μ μ' : Nat -> Option Bs} {w : World} (hμ : ∀ id l, μ id = some l -> μ' id = some l) (hO : ∀ b, b < w.heap.size -> O' b -> O b) (hd : ∀ v, Aq O μ w v src -> Aq O' μ' w v d) : ∀ {x y : LV}, PJ src d x y -> ∀ v, Aq O μ w v x -> Aq O' μ' w v y
 | _, _, .same _, v, h => h.mono (Bg.refl _ _) hO hμ
 | _, _, .hit, v, h => hd v h
 | _, _, .nil z, v, h => by
  rw [h.nils_inv]
  exact .p _ _ (.snil z)
 | _, _, .agg (a := ls) (b := b) q, v, h => by
  cases h with
  | agg vs _ hsz hr =>
   obtain ⟨g1, g2⟩ := MJ hμ hO hd q
   exact .agg vs _ (by omega) fun i v l hv hl => by
    have hi := (List.getElem?_eq_some_iff.1 hl).1
    obtain ⟨x, hx⟩ : ∃ x, ls[i]? = some x := ⟨ls[i]'(by omega), List.getElem?_eq_getElem _⟩
    exact g2 i x l hx hl v (hr i v x hv hx)
theorem MJ {O O' : Nat -> Prop} {μ μ' : Nat -> Option Bs} {w : World} (hμ : ∀ id l, μ id = some l -> μ' id = some l) (hO : ∀ b, b < w.heap.size -> O' b -> O b) (hd : ∀ v, Aq O μ w v src -> Aq O' μ' w v d) : ∀ {a b : List LV}, Pf src d a b -> a.length = b.length /\ ∀ (i : Nat) (x y : LV), a[i]? = some x -> b[i]? = some y -> ∀ v, Aq O μ w v x -> Aq O' μ' w v y
 | _, _, .nil => ⟨rfl, fun i x y h => by simp at h⟩
 | _, _, .cons q r => by
  obtain ⟨g1, g2⟩ := MJ hμ hO hd r
  refine ⟨by simp [g1], fun i x y hx hy => ?_⟩
  cases i with
  | zero => simp at hx hy; subst hx hy; exact QN hμ hO hd q
  | succ i => exact g2 i x y (by simpa using hx) (by simpa using hy)
end
theorem PM : ∀ {sl' : List (Nat × LV)}, PK src d sl sl' -> ∀ t l, AL t sl' = some l -> PJ src d (Bo sl t) l
 | _, .nil, t, l, h => by simp [AL] at h
 | _, .cons u q r, t, l, h => by
  simp only [AL] at h
  split at h
  .cases h; subst_vars; exact q
  exact PM r t l h
theorem PN : ∀ {h' : Ag}, PL id src d h h' -> ∀ i o', AL i h' = some o' -> i ≠ id /\ ∃ o, AL i h = some o /\ XF src d o o'
 | _, .nil, i, o, h => by simp [AL] at h
 | _, .cons u hne hl q r, i, o, h => by
  simp only [AL] at h
  split at h
  .cases h; subst_vars
   rw [Bn] at hl
   exact ⟨fun e => by subst e; simp at hne, _, hl, q⟩
  exact PN r i o h
theorem TD (id : Nat) {d0 : DV} (hd : ∀ μ w (O' : Nat -> Prop), HRel A μ h (Fr c) w -> (∀ b, O' b -> Ar A μ (Ce [id] h) b) -> ∀ v, Aq (Ar A μ h) μ w v src -> A6 O' w v d0) (hs : PK src (.p d0) sl sl') (hh : PL id src (.p d0) h h') : A0 A ⟨nt, sl, h, c⟩ ⟨nt, sl', h', c⟩ := fun a w ⟨⟨μ, hR, hr⟩, hnt, hdef⟩ => by
 have hlk := fun i o' => PN hh i o'
 have hmine : ∀ b, CK μ h' b -> CK μ (Ce [id] h) b := by
  rintro b ⟨j, y, lc, h1, h2, h3, h4⟩
  obtain ⟨g1, o, g2, -⟩ := hlk j y h1
  refine ⟨j, o, lc, ?_, h2, h3, h4⟩
  show AL j (JC id h) = some o
  rw [Fk g1]; exact g2
 have hown1 : ∀ b, Ar A μ h' b -> Ar A μ (Ce [id] h) b := fun b hb => hb.imp (fun h => h) (hmine b)
 have hown : ∀ b, Ar A μ h' b -> Ar A μ h b := fun b hb => Iu b (hown1 b hb)
 have hp : ∀ v, Aq (Ar A μ h) μ w v src -> Aq (Ar A μ h') μ w v (.p d0) := fun v hv => .p _ _ (hd μ w _ hR hown1 v hv)
 refine ⟨⟨μ, ⟨?_, ?_, hR.fresh, ?_, hR.size, hR.block, hR.os, hR.tape, hR.output, hR.ext⟩, fun t ht => ?_⟩, hnt, hdef⟩
 .intro j o' hj
  obtain ⟨g1, o, g2, q⟩ := hlk j o' hj
  obtain ⟨lc, h1, h2⟩ := hR.obj j o g2
  refine ⟨lc, h1, ?_⟩
  cases q with
  | same _ => exact h2.mono (Bg.refl _ _) (fun b _ hb => hown b hb) (fun _ _ h => h) fun _ => rfl
  | box q =>
   obtain ⟨k1, cs, ty, k2, k3, k4⟩ := h2
   obtain ⟨q1, q2⟩ := MJ (O' := Ar A μ h') (w := w) (fun _ _ h => h) (fun b _ hb => hown b hb) hp q
   refine ⟨k1, cs, ty, k2, by omega, fun i v l hv hl => ?_⟩
   have hi := (List.getElem?_eq_some_iff.1 hl).1
   rename_i a b
   have hx : a[i]? = some (a[i]'(by omega)) := List.getElem?_eq_getElem _
   exact q2 i _ l hx hl v (k4 i v _ hv hx)
 .intro j j' y y' lc lc' h1 h2 m1 m2 n1 n2 he
  obtain ⟨-, z, hz, -⟩ := hlk j y h1
  obtain ⟨-, z', hz', -⟩ := hlk j' y' h2
  exact hR.inj _ _ _ _ _ _ hz hz' m1 m2 n1 n2 he
 .intro j y lc h1 m1 n1
  obtain ⟨-, z, hz, -⟩ := hlk j y h1
  exact hR.base _ _ _ hz m1 n1
 show Aq _ _ _ _ (match AL t sl' with | some v => v | none => .any)
 cases hl : AL t sl' with
 | none => exact .any _
 | some l => exact QN (fun _ _ h => h) (fun b _ hb => hown b hb) hp (PM hs t l hl) _ (hr t ht)
theorem EH (id : Nat) {d0 : DV} (hd : GS h src = some d0 /\ Jl src = [id]) (hs : PK src (.p d0) sl sl') (hh : PL id src (.p d0) h h') : A0 A ⟨nt, sl, h, c⟩ ⟨nt, sl', h', c⟩ :=
 TD id (fun μ w O' hR hown v hv => (Ly hR (l := [id]) hv hd.1 (by rw [hd.2]; simp)).mono (Bg.refl _ _) fun b _ hb => hown b hb) hs hh
theorem Yz {O : Nat -> Prop} {μ : Nat -> Option Bs} {w : World} {v : Value} {id sz off n : Nat} (h : Aq O μ w v (.lsl id sz off n)) : ∃ loc, μ id = some loc := by
 cases h with
 | lsln _ loc hm hn => exact ⟨loc, hm⟩
 | lsl _ _ _ cap a loc hm => exact ⟨loc, hm⟩
theorem CE (hs : PK (.lsl c 0 0 0) (.p .nils) sl sl') (hh : PL c (.lsl c 0 0 0) (.p .nils) h h') : A0 A ⟨nt, sl, h, c⟩ ⟨nt, sl', h', c⟩ :=
 TD c (fun μ w O' hR hown v hv => by
  have hno := hR.fresh c (Nat.le_refl _)
  obtain ⟨loc, hm⟩ := Yz hv
  rw [hno] at hm; cases hm) hs hh
theorem Gx {α : Type} {enc : α -> List DV} {l : List α} {e : Nat} {sz : Nat} (hl : Bt id h = some (.row e sz (l.map enc))) : GS h (.lsl id sz 0 l.length) = some (.slice sz (l.map enc)) /\ Jl (.lsl id sz 0 l.length) = [id] := by
 refine ⟨?_, rfl⟩
 rw [Bn] at hl
 simp only [GS, hl, Nat.zero_add, List.length_map, Nat.le_refl, and_self, if_true, List.drop_zero]
 rw [List.take_of_length_le (by simp)]
theorem UJ {α : Type} {enc : α -> List DV} {l y : List α} {e sz off n : Nat} (id : Nat) (hl : Bt id h = some (.row e sz (l.map enc))) (hy : off + n <= l.length /\ (l.drop off).take n = y)
  (hs : PK (.lsl id sz off n) (.lsl c sz 0 y.length) sl sl') (hh : PL id (.lsl id sz off n) (.lsl c sz 0 y.length) h h') : A0 A ⟨nt, sl, h, c⟩ ⟨nt, sl', (c, .row e sz (y.map enc)) :: h', c + 1⟩ := fun a w ⟨⟨μ, hR, hr⟩, hnt, hdef⟩ => by
 rw [Bn] at hl
 obtain ⟨hfit, hy⟩ := hy
 have hlen : y.length = n := by rw [<- hy]; simp; omega
 have hno := hR.fresh c (Nat.le_refl _)
 have hlk := fun i o' => PN hh i o'
 obtain ⟨loc, hm, hz, hel, hrow⟩ := hR.obj id _ hl
 have hidc : id ≠ c := fun e2 => by rw [e2, hno] at hm; cases hm
 let loc' : Bs := ⟨loc.nil, loc.b, loc.o + off * loc.sz, loc.sz, loc.cap - off⟩
 have hμ := Kz hno loc'
 have hmine : ∀ b, CK (Bd μ c loc') ((c, BM.row e sz (y.map enc)) :: h') b -> CK μ h b := by
  rintro b ⟨j, o, lc, h1, h2, h3, h4⟩
  simp only [AL] at h1
  split at h1
  .rename_i e2
   subst e2
   simp [Bd] at h2
   subst h2
   exact ⟨id, _, loc, hl, hm, h3, h4⟩
  rename_i e2
  obtain ⟨g1, o2, g2, -⟩ := hlk j o h1
  simp [Bd, e2] at h2
  exact ⟨j, o2, lc, g2, h2, h3, h4⟩
 have hown : ∀ b, b < w.heap.size -> Ar A (Bd μ c loc') ((c, BM.row e sz (y.map enc)) :: h') b -> Ar A μ h b := fun b _ hb => hb.imp (fun h => h) (hmine b)
 have hp : ∀ v, Aq (Ar A μ h) μ w v (.lsl id sz off n) -> Aq (Ar A (Bd μ c loc') ((c, BM.row e sz (y.map enc)) :: h')) (Bd μ c loc') w v (.lsl c sz 0 y.length) := by
  intro v hv
  rw [hlen]
  cases hv with
  | lsln _ lc hm2 hn =>
   rw [hm] at hm2; cases hm2
   exact .lsln c loc' (by simp [Bd]) hn
  | lsl _ _ _ cap ad lc hm2 hn hcap hl2 had hb hsp =>
   rw [hm] at hm2; cases hm2
   exact .lsl c 0 n cap ad loc' (by simp [Bd]) hn (by simp only [loc']; omega) hl2 (fun hc => by rw [had hc]; simp [loc']) hb hsp
 refine ⟨⟨Bd μ c loc', ⟨?_, ?_, ?_, ?_, hR.size, hR.block, hR.os, hR.tape, hR.output, fun j lc hj => hμ _ _ (hR.ext j lc hj)⟩, fun t ht => ?_⟩, hnt, hdef⟩
 .intro j o' hj
  simp only [AL] at hj
  split at hj
  .rename_i e2
   subst e2
   cases hj
   refine ⟨loc', by simp [Bd], hz, fun x hx => ?_, ?_⟩
   .obtain ⟨z, hz2, rfl⟩ := List.mem_map.1 hx
    refine hel _ (List.mem_map.2 ⟨z, ?_, rfl⟩)
    rw [<- hy] at hz2
    exact List.mem_of_mem_drop (List.mem_of_mem_take hz2)
   rcases hrow with ⟨hn, he0⟩ | ⟨hn, cs, hblk, hcs, hle, hcm, hrel⟩
   .refine .inl ⟨hn, ?_⟩
    have : l = [] := by simpa using he0
    subst this
    simp at hfit
    have : y = [] := by rw [<- hy]; simp
    rw [this]; rfl
   refine .inr ⟨hn, cs, hblk, ?_, ?_, ?_, fun i k x d v hx hd hv => ?_⟩
   .simp only [loc']
    rw [List.length_map] at hle
    rw [hcs, Nat.add_assoc, hz, <- Nat.add_mul]
    congr 2; omega
   .simp only [loc', List.length_map] at hle ⊢; omega
   .simp only [loc']; omega
   rw [List.getElem?_map] at hx
   cases hyi : y[i]? with
   | none => rw [hyi] at hx; cases hx
   | some z =>
    rw [hyi] at hx
    cases hx
    have hi : i < n := by have := (List.getElem?_eq_some_iff.1 hyi).1; omega
    have hli : l[off + i]? = some z := by
     rw [<- hy, List.getElem?_take, if_pos hi, List.getElem?_drop] at hyi
     exact hyi
    refine (hrel (off + i) k _ d v (by rw [List.getElem?_map, hli]; rfl) hd ?_).mono (Bg.refl _ _) hown
    rw [<- hv]
    simp only [loc', hz]
    congr 1
    rw [Nat.add_mul]; omega
  obtain ⟨g1, o, g2, q⟩ := hlk j o' hj
  obtain ⟨lc, h1, h2⟩ := hR.obj j o g2
  refine ⟨lc, hμ _ _ h1, ?_⟩
  cases q with
  | same _ => exact h2.mono (Bg.refl _ _) hown hμ fun _ => rfl
  | box q =>
   obtain ⟨k1, cs, ty, k2, k3, k4⟩ := h2
   obtain ⟨q1, q2⟩ := MJ (w := w) hμ hown hp q
   refine ⟨k1, cs, ty, k2, by omega, fun i v l hv hl => ?_⟩
   have hi := (List.getElem?_eq_some_iff.1 hl).1
   rename_i a b
   have hx : a[i]? = some (a[i]'(by omega)) := List.getElem?_eq_getElem _
   exact q2 i _ l hx hl v (k4 i v _ hv hx)
 .intro j j' y1 y1' lc lc' h1 h2 m1 m2 n1 n2 he
  have back : ∀ j o lc, AL j ((c, BM.row e sz (y.map enc)) :: h') = some o -> Bd μ c loc' j = some lc -> (j = c /\ lc = loc') \/ (j ≠ c /\ j ≠ id /\ (∃ o2, AL j h = some o2) /\ μ j = some lc) := by
   intro j o lc h1 m1
   simp only [AL] at h1
   split at h1
   .rename_i e2; subst e2; simp [Bd] at m1; exact .inl ⟨rfl, m1.symm⟩
   rename_i e2
   obtain ⟨g1, o2, g2, -⟩ := hlk j o h1
   simp [Bd, e2] at m1
   exact .inr ⟨e2, g1, ⟨o2, g2⟩, m1⟩
  rcases back j y1 lc h1 m1 with ⟨rfl, rfl⟩ | ⟨a1, a2, ⟨o1, a3⟩, a4⟩ <;> rcases back j' y1' lc' h2 m2 with ⟨rfl, rfl⟩ | ⟨b1, b2, ⟨o2, b3⟩, b4⟩
  .rfl
  .exact absurd (hR.inj _ _ _ _ _ _ hl b3 hm b4 n1 n2 he).symm b2
  .exact absurd (hR.inj _ _ _ _ _ _ a3 hl a4 hm n1 n2 he) a2
  exact hR.inj _ _ _ _ _ _ a3 b3 a4 b4 n1 n2 he
 .intro j hj
  simp only [Fr] at hj
  simp only [Bd]
  rw [if_neg (by omega)]
  exact hR.fresh j (by simp only [Fr]; omega)
 .intro j o lc h1 m1 n1
  simp only [AL] at h1
  split at h1
  .rename_i e2
   subst e2
   simp [Bd] at m1
   subst m1
   exact hR.base id _ loc hl hm n1
  rename_i e2
  obtain ⟨g1, o2, g2, -⟩ := hlk j o h1
  simp [Bd, e2] at m1
  exact hR.base j o2 lc g2 m1 n1
 show Aq _ _ _ _ (match AL t sl' with | some v => v | none => .any)
 cases hl2 : AL t sl' with
 | none => exact .any _
 | some l => exact QN hμ hown hp (PM hs t l hl2) _ (hr t ht)
end
section
variable {P : Program} {A : BZ} {AE : BH}
theorem D5.ownF {h : Ag} {ctr k : Nat} {args : List LV} {ds : List DV} {e sz : Nat} {elems : List (List DV)} {K : LV -> Ag -> Nat -> Prop} (hds : By h args = some ds) (hf : GV P k ds e sz elems)
  (hfl : ∀ x ∈ elems, ∀ d ∈ x, d.flat = true) (hK : K (.lsl ctr sz 0 elems.length) ((ctr, .row e sz elems) :: h) (ctr + 1)) : D5 P A h ctr k args K := by
 refine ⟨hf.enters, fun μ w vs hh hsz hr => ?_⟩
 obtain ⟨g1, g2⟩ := FZ hh (l := args.flatMap (D6 h)) hds (fun id hid => hid)
 generalize args.flatMap (D6 h) = dl at g2
 have hO : ∀ b, Ar A μ (Ce dl h) b -> b < w.heap.size := by
  intro b hb
  rcases Iu b hb with hb | ⟨id, x, lc, h1, h2, h3, rfl⟩
  .exact Nat.lt_of_lt_of_le (A.hO b hb).1 hh.size
  exact (hh.base id x lc h1 h2 h3).1
 refine (hf.run (Ar A μ (Ce dl h)) w vs hO (by omega) fun i v d hv hd => ?_).mono fun en w' ⟨v, he, hn, hb⟩ => ?_
 .have hi := (List.getElem?_eq_some_iff.1 hd).1
  have hx : args[i]? = some (args[i]'(by omega)) := List.getElem?_eq_getElem _
  exact g2 i v _ d hx hd (hr i v _ hv hx)
 have hno : μ ctr = none := hh.fresh ctr (Nat.le_refl _)
 obtain ⟨hlen, hn⟩ := hn
 have hkm : Bg (CK μ h) w w' := ⟨hb.size, fun b hb' _ => hb.block b hb'⟩
 have hsub : ∀ id x, AL id ((ctr, BM.row e sz elems) :: h) = some x -> (id = ctr /\ x = .row e sz elems) \/ AL id h = some x := by
  intro id x hx
  simp only [AL] at hx
  split at hx
  .cases hx; exact .inl ⟨‹_›, rfl⟩
  exact .inr hx
 have hold : ∀ id x lc, AL id ((ctr, BM.row e sz elems) :: h) = some x -> id ≠ ctr -> μ id = some lc -> lc.nil = false -> w'.heap[lc.b]? = w.heap[lc.b]? := by
  intro id x lc hx hne hm hnl
  rcases hsub id x hx with ⟨rfl, _⟩ | hx
  .exact absurd rfl hne
  exact hb.block _ (hh.base id x lc hx hm hnl).1
 have fin : ∀ (loc : Bs), (loc.nil = false -> loc.b < w'.heap.size /\ w.heap.size <= loc.b) ->
   (∀ O' : Nat -> Prop, Db O' (Bd μ ctr loc) w' loc (.row e sz elems)) ->
   (∀ O', Aq O' (Bd μ ctr loc) w' v (.lsl ctr sz 0 elems.length)) ->
   ∃ u l h' c' μ', en = .returned u /\ K l h' c' /\ HRel A μ' h' (Fr c') w' /\ Aq (Ar A μ' h') μ' w' u l /\ ∀ v x, Aq (Ar A μ h) μ w v x -> Aq (Ar A μ' h') μ' w' v x := by
  intro loc hloc ho hu
  have hfr : PP μ h ((ctr, BM.row e sz elems) :: h) w loc := fun hn => .inl (hloc hn).2
  have hown := hh.sub_add loc (.row e sz elems) ((ctr, .row e sz elems) :: h) hfr hsub
  have hadd := hh.add (w' := w') hno loc (.row e sz elems) ((ctr, .row e sz elems) :: h) (fun hn => (hloc hn).1) hfr hsub hkm hold hb.os hb.tape hb.output (ho _)
  exact ⟨v, _, _, _, _, he, hK, hadd.less (fun id hid => by simp only [Fr] at hid ⊢; omega), hu _, fun v x hv => hv.mono hkm.own hown (Kz hno loc)⟩
 rcases hn with ⟨rfl, rfl⟩ | ⟨a, b, o, cap, c, rfl, h1, h2, h3, h4, h5, h6, h7, h8, h9, h10⟩
 .exact fin ⟨true, 0, 0, sz, 0⟩ (fun hn => by cases hn) (fun O' => ⟨rfl, hlen, .inl ⟨rfl, rfl⟩⟩) (fun O' => .lsln ctr ⟨true, 0, 0, sz, 0⟩ (by simp [Bd]) rfl)
 refine fin ⟨false, b, o, sz, cap⟩ (fun _ => ⟨h2, h1⟩) (fun O' => ⟨rfl, hlen, .inr ⟨rfl, c, h6, h7, h8, h9, fun i j x d u hx hd hu => ?_⟩⟩) (fun O' => ?_)
 .exact (h10 i j x d u hx hd hu).flat (hfl x (List.mem_of_getElem? hx) d (List.mem_of_getElem? hd)) _ _
 exact .lsl ctr 0 elems.length cap a ⟨false, b, o, sz, cap⟩ (by simp [Bd]) rfl (by simp) h8 (fun hc => by rw [h3 hc]; simp) h4 h5
end
section
variable {P : Program} {A : BZ} {AE : BH} {α : Type} {enc : α -> List DV} {nt : Nat} {sl : List (Nat × LV)} {h : Ag} {c d : Nat} {f : St -> Prop} {hf : JE f}
theorem QH {fo : Operand} {args : Array Operand} {ts : Array TypeId} {k e sz : Nat} {caps ls : List LV} {ds : List DV} {r : List α} (hF : GV P k ds e sz (r.map enc)) (hfl : ∀ x : α, (enc x).all (·.flat) = true)
  (hfn : BK nt sl fo = .fn k caps) (hl : Eh nt sl args.toList some = some ls) (hds : By h (ls ++ caps) = some ds)
  (kk : f ⟨nt, (d, .lsl c sz 0 r.length) :: sl, (c, .row e sz (r.map enc)) :: h, c + 1⟩) : BR P A AE ⟨nt, sl, h, c⟩ (some d) (.call ⟨.value fo, args, ts⟩) ⟨f, hf⟩ := by
 rw [BO (h := h) (c := c)] at hfn
 show N5 _ _
 rw [hfn]
 show J8 P A h c k (args.toList.map _ ++ caps) _
 rw [H9 hl]
 refine D5.ownF hds hF (fun x hx d hd => ?_) ?_
 .obtain ⟨a, _, rfl⟩ := List.mem_map.1 hx
  exact List.all_eq_true.1 (hfl a) d hd
 rw [List.length_map]
 exact kk
end
theorem YY {A : BZ} {nt : Nat} {sl : List (Nat × LV)} {h : Ag} {c : Nat} (t : Nat) {k : Nat} {ds : List DV} (ht : Bo sl t = .p (.fn k ds)) : A0 A ⟨nt, sl, h, c⟩ ⟨nt, (t, .fn k (ds.map .p)) :: sl, h, c⟩ := fun a w ⟨⟨μ, hh, hr⟩, hnt, hdef⟩ => by
 refine ⟨⟨μ, hh, fun u hu => ?_⟩, hnt, hdef⟩
 show Aq _ _ _ _ (match AL u ((t, LV.fn k (ds.map .p)) :: sl) with | some v => v | none => .any)
 simp only [AL]
 by_cases hut : u = t
 .subst hut
  rw [if_pos rfl]
  have := hr u hu
  simp only at this
  rw [ht] at this
  have hp := this.p_inv
  generalize a.tmps.getD u undef = v at hp
  cases hp with
  | fn _ caps _ hsz q =>
   refine .fn k caps _ (by simpa using hsz) fun i v l hv hl => ?_
   simp only [List.getElem?_map, Option.map_eq_some_iff] at hl
   obtain ⟨d, hd, rfl⟩ := hl
   exact .p _ _ (q i v d hv hd)
 rw [if_neg hut]
 exact hr u hu
noncomputable def Oz {α β : Type} (F : (α -> Option β) -> α -> Option β) (n : Nat) : α -> Option β := Nat.rec (fun _ => none) (fun _ ih => F ih) n
theorem recF_holds {α β : Type} {F : (α -> Option β) -> α -> Option β} {C : α -> β -> Prop} (h : ∀ rec : α -> Option β, (∀ a r, rec a = some r -> C a r) -> ∀ a r, F rec a = some r -> C a r) : ∀ n a r, Oz F n a = some r -> C a r
 | 0, a, r, e => by cases e
 | n + 1, a, r, e => h (Oz F n) (recF_holds h n) a r e
end Go.E
/- Drawn regions of which the orders do not all come to one by waiting: a tree of orders. No condition. -/
namespace Go.E
open Go Go.RowKit
inductive It where
 | done
 | nil
 | picks (l : List Nat) (t : It)
 | alt (i : Nat) (l : List Nat) (t r : It)
def Lv (listed : Array Bool) : List Nat -> Array Bool
 | [] => listed
 | i :: l => Lv (listed.setIfInBounds i true) l
def JB (q w : Bool) (md : Region.Mode) (ops : Array Oper) : List Nat -> Array Bool -> Bool
 | [], _ => true
 | i :: rest, listed => (match ops[i]? with
  | none => false
  | some oi => (Region.ready md ops listed == [i]) || ((Region.ready md ops listed).contains i && PR q w md ops listed i oi (NJ md ops listed i))) &&
  JB q w md ops rest (listed.setIfInBounds i true)
def It.heads : It -> List Nat
 | .alt i _ _ r => i :: r.heads
 | _ => []
def Ky (q w : Bool) (md : Region.Mode) (ops : Array Oper) : It -> Bool -> Array Bool -> Nat -> Bool
 | .done, b, listed, n => !b && (Region.ready md ops listed).isEmpty && n == 0
 | .nil, b, _, _ => b
 | .picks l t, b, listed, n => !b && JB q w md ops l listed && decide (l.length <= n) && Ky q w md ops t false (Lv listed l) (n - l.length)
 | .alt i l t r, b, listed, n => (b || decide (0 < n) && !(Region.ready md ops listed).isEmpty && (Region.ready md ops listed).all fun j => (i :: r.heads).contains j) &&
   (decide (i < ops.size) && JB q w md ops l (listed.setIfInBounds i true) && decide (l.length <= (bif b then n else n - 1)) &&
    Ky q w md ops t false (Lv (listed.setIfInBounds i true) l) ((bif b then n else n - 1) - l.length) && Ky q w md ops r true listed (bif b then n else n - 1))
section
variable (P : Program) (A : BZ) (AE : BH) (base n : Nat) (K : St -> Prop) (ops : List Oper)
def NB : It -> St -> Prop
 | .done, st => K st
 | .nil, _ => True
 | .picks l t, st => DU P A AE base n ⟨NB t, ⟨⟩⟩ (Ga ops l) st
 | .alt i l t r, st => DU P A AE base n ⟨NB t, ⟨⟩⟩ (Ga ops (i :: l)) st /\ NB r st
end
section
variable {P : Program} {A : BZ} {AE : BH} {md : Region.Mode} {base : Nat} {K : St -> Prop}
theorem Tf {ops : List Oper} {n : Nat} {l : List Nat} {t : It} {st : St} (k : DU P A AE base n ⟨NB P A AE base n K ops t, ⟨⟩⟩ (Ga ops l) st) : NB P A AE base n K ops (.picks l t) st := k
theorem D7 {ops : List Oper} {n : Nat} {i : Nat} {l : List Nat} {t r : It} {st : St} (k : DU P A AE base n ⟨NB P A AE base n K ops t, ⟨⟩⟩ (Ga ops (i :: l)) st) (k' : NB P A AE base n K ops r st) : NB P A AE base n K ops (.alt i l t r) st := ⟨k, k'⟩
theorem HP {ops : List Oper} {n c c' nt : Nat} {sl : List (Nat × LV)} {h : Ag} {S : St} (k : A0 A ⟨nt, sl, h, c + n⟩ S) : NB P A AE c n (fun st => A0 A { st with ctr := c + n } S) ops .done ⟨nt, sl, h, c'⟩ := k
theorem KA {ops : List Oper} {n : Nat} {st : St} : NB P A AE base n K ops .nil st := trivial
theorem QO {q w : Bool} {ops : Array Oper} : ∀ {l : List Nat} {listed : Array Bool}, JB q w md ops l listed = true -> ∀ i ∈ l, i < ops.size
 | [], _, _, i, hi => by simp at hi
 | j :: l, listed, h, i, hi => by
  simp only [JB, Bool.and_eq_true] at h
  rcases List.mem_cons.1 hi with rfl | hi
  .cases ho : ops[i]? with
   | none => rw [ho] at h; simp at h
   | some o => exact (Array.getElem?_eq_some_iff.1 ho).1
  exact QO h.2 i hi
theorem N4 (q : Bool) (hq : q = true -> ∃ b, AE.calm = some b) {ops : Array Oper} {T Q : St -> Prop} (fuel : Nat) : ∀ (l : List Nat) (listed : Array Bool) (st : St), JB q AE.own md ops l listed = true -> (∀ k, listed.getD k true = false -> AL (base + k) st.heap = none) ->
  (∀ st', (∀ k, (Lv listed l).getD k true = false -> AL (base + k) st'.heap = none) -> T st' -> Iv P AE md ops base Q fuel (Lv listed l) st') ->
  HN P AE ops base T l st -> Iv P AE md ops base Q (l.length + fuel) listed st
 | [], listed, st, _, hfresh, hT, h => by
  rw [List.length_nil, Nat.zero_add]
  exact hT st hfresh h
 | i :: rest, listed, st, hok, hfresh, hT, h => by
  obtain ⟨o, l, e, ho, hd, hrest⟩ := NK h
  simp only [JB, ho, Bool.and_eq_true, Bool.or_eq_true] at hok
  have hrec : Iv P AE md ops base Q (rest.length + fuel) (listed.setIfInBounds i true) (apS st (base + i) o l e) := by
   refine N4 q hq fuel rest _ _ hok.2 (fun k hk => ?_) hT hrest
   have hik : i ≠ k := by
    rintro rfl
    rcases Nat.lt_or_ge i listed.size with h' | h'
    .simp [h'] at hk
    simp [Array.getElem?_eq_none h'] at hk
   rw [Bw]
   exact Lz hd (by simp only [St.at]; omega) (hfresh k (by rw [getD_set_ne true hik] at hk; exact hk))
  rw [show (i :: rest).length + fuel = rest.length + fuel + 1 by simp; omega]
  rcases hok.1 with h1 | h1
  .have hr : Region.ready md ops listed = [i] := by simpa using h1
   refine ⟨fun h0 => (by rw [hr] at h0; cases h0), fun j hj => ?_⟩
   rw [hr] at hj
   simp at hj
   subst hj
   exact ⟨o, l, e, ho, hd, hrec⟩
  obtain ⟨h1, h2⟩ := h1
  simp only [PR, Bool.and_eq_true, List.all_eq_true, List.mem_range] at h2
  obtain ⟨h2, h3⟩ := h2
  generalize hBe : NJ md ops listed i = B at h2 h3
  refine Qa q hq ho (fun j => B.contains j) (fun j hj => ?_) (rest.length + fuel) listed st (fun j hj => ?_) (fun j oj hoj hji hun hBj => ?_) hfresh (by simpa using h1) hd hrec
  .have := h2 j (by simpa using hj)
   obtain ⟨⟨a1, a2⟩, a3⟩ := this
   refine ⟨by simpa using a1, fun oj hoj => ?_⟩
   rw [hoj] at a3
   obtain ⟨x, hx, hx2⟩ := Array.any_eq_true'.1 a3
   simp only [Bool.and_eq_true, Bool.or_eq_true, beq_iff_eq] at hx2
   exact ⟨x, hx, hx2.1, hx2.2⟩
  .have := (h2 j (by simpa using hj)).1.2
   simpa using this
  have := h3 j (Array.getElem?_eq_some_iff.1 hoj).1
  simp only [Bool.or_eq_true, beq_iff_eq, hji, false_or, hun, Bool.false_eq_true] at this
  rw [hBj] at this
  simp only [Bool.false_eq_true, false_or, hoj, Bool.and_eq_true] at this
  refine ⟨this.1, this.2.1, fun ho => ?_⟩
  have := this.2.2
  rw [ho] at this; simpa using this
theorem Kn (q : Bool) (hq : q = true -> ∃ b, AE.calm = some b) {ops : List Oper} : ∀ (T : It) (listed : Array Bool) (st : St) (n : Nat), (∀ k, listed.getD k true = false -> AL (base + k) st.heap = none) -> NB P A AE base ops.length K ops T st ->
  (Ky q AE.own md ops.toArray T false listed n = true -> Iv P AE md ops.toArray base K n listed st) /\
  (Ky q AE.own md ops.toArray T true listed n = true -> ∀ i ∈ T.heads, ∃ o l e, ops.toArray[i]? = some o /\ DC P AE ops.toArray (st.at (base + i)) o l e /\ Iv P AE md ops.toArray base K n (listed.setIfInBounds i true) (apS st (base + i) o l e))
 | .done, listed, st, n, hfresh, h => by
  refine ⟨fun hok => ?_, fun hok => by simp [Ky] at hok⟩
  simp only [Ky, Bool.not_false, Bool.true_and, Bool.and_eq_true, beq_iff_eq, List.isEmpty_iff] at hok
  obtain ⟨h1, rfl⟩ := hok
  exact ⟨h1, st, Gr.refl st, h⟩
 | .nil, listed, st, n, hfresh, h => ⟨fun hok => by simp [Ky] at hok, fun _ i hi => by simp [It.heads] at hi⟩
 | .picks l t, listed, st, n, hfresh, h => by
  refine ⟨fun hok => ?_, fun hok => by simp [Ky] at hok⟩
  simp only [Ky, Bool.not_false, Bool.true_and, Bool.and_eq_true, decide_eq_true_eq] at hok
  obtain ⟨⟨h1, h2⟩, h3⟩ := hok
  have hb : (l.all fun i => decide (i < ops.length)) = true := List.all_eq_true.2 fun i hi => by simpa using QO h1 i hi
  have := N4 q hq (md := md) (Q := K) (n - l.length) l listed st h1 hfresh (fun st' hf' hT => ?_) (I1 l st hb h)
  .rwa [show l.length + (n - l.length) = n by omega] at this
  refine NI _ _ { st' with ctr := base + ops.length } _ ⟨rfl, fun _ => rfl, fun _ => rfl⟩ ?_
  exact (Kn q hq t (Lv listed l) { st' with ctr := base + ops.length } (n - l.length) hf' hT).1 h3
 | .alt i l t r, listed, st, n, hfresh, ⟨h, h'⟩ => by
  have key : ∀ m, (decide (i < ops.toArray.size) && JB q AE.own md ops.toArray l (listed.setIfInBounds i true) && decide (l.length <= m) && Ky q AE.own md ops.toArray t false (Lv (listed.setIfInBounds i true) l) (m - l.length) && Ky q AE.own md ops.toArray r true listed m) = true ->
    ∀ j ∈ i :: r.heads, ∃ o l e, ops.toArray[j]? = some o /\ DC P AE ops.toArray (st.at (base + j)) o l e /\ Iv P AE md ops.toArray base K m (listed.setIfInBounds j true) (apS st (base + j) o l e) := by
   intro m hok j hj
   simp only [Bool.and_eq_true, decide_eq_true_eq] at hok
   obtain ⟨⟨⟨⟨h0, h1⟩, h2⟩, h3⟩, h4⟩ := hok
   rcases List.mem_cons.1 hj with rfl | hj
   .have hb : ((j :: l).all fun i => decide (i < ops.length)) = true := List.all_eq_true.2 fun i hi => by
     rcases List.mem_cons.1 hi with rfl | hi
     .simpa using h0
     simpa using QO h1 i hi
    obtain ⟨o, lv, e, ho, hd, hrest⟩ := NK (I1 (j :: l) st hb h)
    refine ⟨o, lv, e, ho, hd, ?_⟩
    have := N4 q hq (md := md) (Q := K) (m - l.length) l (listed.setIfInBounds j true) (apS st (base + j) o lv e) h1 (fun k hk => ?_) (fun st' hf' hT => ?_) hrest
    .rwa [show l.length + (m - l.length) = m by omega] at this
    .have hik : j ≠ k := by
      rintro rfl
      rcases Nat.lt_or_ge j listed.size with h' | h'
      .simp [h'] at hk
      simp [Array.getElem?_eq_none h'] at hk
     rw [Bw]
     exact Lz hd (by simp only [St.at]; omega) (hfresh k (by rw [getD_set_ne true hik] at hk; exact hk))
    refine NI _ _ { st' with ctr := base + ops.length } _ ⟨rfl, fun _ => rfl, fun _ => rfl⟩ ?_
    exact (Kn q hq t _ { st' with ctr := base + ops.length } (m - l.length) hf' hT).1 h3
   exact (Kn q hq r listed st m hfresh h').2 h4 j hj
  refine ⟨fun hok => ?_, fun hok => ?_⟩
  .rw [Ky, Bool.false_or] at hok
   obtain ⟨h1, h2⟩ := Bool.and_eq_true_iff.1 hok
   simp only [Bool.and_eq_true, decide_eq_true_eq, Bool.not_eq_true', List.all_eq_true] at h1
   obtain ⟨⟨h3, h4⟩, h5⟩ := h1
   obtain ⟨m, rfl⟩ : ∃ m, n = m + 1 := ⟨n - 1, by omega⟩
   refine ⟨fun h0 => by rw [h0] at h4; simp at h4, fun j hj => ?_⟩
   exact key m (by simpa using h2) j (by simpa using h5 j hj)
  simp only [Ky, Bool.true_or, Bool.true_and, cond_true] at hok
  exact key n hok
theorem YZ (hE : BP P AE) (hm : P.follows .mixedOrders = true) {id : Nat} {ops : List Oper} {Q : Exit -> St -> Prop} {nt : Nat} {sl : List (Nat × LV)} {h : Ag} {c : Nat} (T : It) (n : Nat) (S : St)
  (hok : Ky false AE.own .any ops.toArray T false (Array.replicate ops.length false) ops.length = true) (hn : Nat.beq ops.length n = true)
  (k : NB P A AE c n (fun st => A0 A { st with ctr := c + n } S) ops T ⟨nt, sl, h, c⟩) (kk : Q .normal S) : CJ P A (.region id ops.toArray true) Q ⟨nt, sl, h, c⟩ := fun a w hR => by
 have hn' := Nat.eq_of_beq_eq_true hn
 subst hn'
 refine wp_region_any hm ?_
 have hR' := (hR.drawn (w.drawn + 1)).toRF
 have hfr : ∀ k, AL (c + k) h = none := by
  intro k
  cases hx : AL (c + k) h with
  | none => rfl
  | some o =>
   obtain ⟨⟨μ, hh, _⟩, _, _⟩ := hR
   obtain ⟨loc, h1, _⟩ := hh.obj _ _ hx
   rw [hh.fresh _ (by simp [Fr])] at h1; cases h1
 have hD := (Kn false (fun h => by cases h) (md := .any) T (Array.replicate ops.length false) ⟨nt, sl, h, c⟩ ops.length (fun k _ => hfr k) k).1 hok
 rw [show ops.toArray.size = ops.length by simp]
 refine Il (A := A) (n := ops.length) hE (by simp) (fun st' a' w' listed hk hR'' => ?_) ops.length _ ⟨nt, sl, h, c⟩ a _ (by simp) hD ?_
 .refine ⟨S, ?_, kk⟩
  obtain ⟨⟨μ, x1, x2⟩, x3, x4⟩ := hR''
  exact hk a' w' ⟨⟨μ, x1.less fun id hid => .inl hid, x2⟩, x3, x4⟩
 obtain ⟨⟨μ, x1, x2⟩, x3, x4⟩ := hR'
 refine ⟨⟨μ, x1.less fun id hid => ?_, x2⟩, x3, x4⟩
 rcases hid with hid | ⟨k, _, _, rfl⟩
 .simp only [Fr]; omega
 simp [Fr]
theorem AAl (hE : BP P AE) (hm : P.follows .mixedOrders = true) {id : Nat} {ops : List Oper} {Q : Exit -> St -> Prop} {nt : Nat} {sl : List (Nat × LV)} {h : Ag} {c : Nat} (T : It) (n : Nat) (S : St)
  (hq : AE.calm.isSome = true) (hok : Ky true AE.own .any ops.toArray T false (Array.replicate ops.length false) ops.length = true) (hn : Nat.beq ops.length n = true)
  (k : NB P A AE c n (fun st => A0 A { st with ctr := c + n } S) ops T ⟨nt, sl, h, c⟩) (kk : Q .normal S) : CJ P A (.region id ops.toArray true) Q ⟨nt, sl, h, c⟩ := fun a w hR => by
 have hn' := Nat.eq_of_beq_eq_true hn
 subst hn'
 refine wp_region_any hm ?_
 have hR' := (hR.drawn (w.drawn + 1)).toRF
 have hfr : ∀ k, AL (c + k) h = none := by
  intro k
  cases hx : AL (c + k) h with
  | none => rfl
  | some o =>
   obtain ⟨⟨μ, hh, _⟩, _, _⟩ := hR
   obtain ⟨loc, h1, _⟩ := hh.obj _ _ hx
   rw [hh.fresh _ (by simp [Fr])] at h1; cases h1
 have hD := (Kn true (fun _ => Option.isSome_iff_exists.1 hq) (md := .any) T (Array.replicate ops.length false) ⟨nt, sl, h, c⟩ ops.length (fun k _ => hfr k) k).1 hok
 rw [show ops.toArray.size = ops.length by simp]
 refine Il (A := A) (n := ops.length) hE (by simp) (fun st' a' w' listed hk hR'' => ?_) ops.length _ ⟨nt, sl, h, c⟩ a _ (by simp) hD ?_
 .refine ⟨S, ?_, kk⟩
  obtain ⟨⟨μ, x1, x2⟩, x3, x4⟩ := hR''
  exact hk a' w' ⟨⟨μ, x1.less fun id hid => .inl hid, x2⟩, x3, x4⟩
 obtain ⟨⟨μ, x1, x2⟩, x3, x4⟩ := hR'
 refine ⟨⟨μ, x1.less fun id hid => ?_, x2⟩, x3, x4⟩
 rcases hid with hid | ⟨k, _, _, rfl⟩
 .simp only [Fr]; omega
 simp [Fr]
end
end Go.E
/- Ar objects handed to a function that turns them: its contract (D5 of the objects alone), and its use among other objects (Vz, HE). No condition. -/
namespace Go.E
open Go Go.RowKit
def Sl (ρ : Nat -> Nat) : LV -> LV
 | .lsl id sz off len => .lsl (ρ id) sz off len
 | .lpb id off => .lpb (ρ id) off
 | .lpe id i off => .lpe (ρ id) i off
 | .lmap id => .lmap (ρ id)
 | x => x
def Z7 : LV -> Option Nat
 | .lsl id _ _ _ => some id
 | .lpb id _ => some id
 | .lpe id _ _ => some id
 | .lmap id => some id
 | _ => none
def Z8 : LV -> Bool
 | .p _ => true
 | .lsl _ _ _ _ => true
 | .lpb _ _ => true
 | .lpe _ _ _ => true
 | .lmap _ => true
 | .und => true
 | .any => true
 | _ => false
def O5 (ρ : Nat -> Nat) : BM -> BM
 | .box cs => .box (cs.map (Sl ρ))
 | o => o
def Pt (gl : List (Nat × Nat)) (m : Nat) (l : LV) : Bool := Z8 l && (match Z7 l with
 | none => true
 | some i => Nat.ble m i || (AL i gl).isSome)
def UU (gl : List (Nat × Nat)) (m : Nat) : BM -> Bool
 | .box cs => cs.all (Pt gl m)
 | _ => true
def Z9 (ρ : Nat -> Nat) : LV -> LV
 | .agg l => .agg (l.map (Sl ρ))
 | l => Sl ρ l
def moA (gl : List (Nat × Nat)) (m : Nat) : LV -> Bool
 | .agg l => l.all (Pt gl m)
 | l => Pt gl m l
def mrL (ρ : Nat -> Nat) : LV -> LV
 | .tup l => .tup (l.map (Z9 ρ))
 | l => Z9 ρ l
def moL (gl : List (Nat × Nat)) (m : Nat) : LV -> Bool
 | .tup l => l.all (moA gl m)
 | l => moA gl m l
def Kf (ρ : Nat -> Nat) : Ag -> Ag
 | [] => []
 | (i, o) :: h => (ρ i, O5 ρ o) :: Kf ρ h
def EP (gl : List (Nat × Nat)) (m c i : Nat) : Nat := match AL i gl with
 | some j => j
 | none => c + (i - m)
def RL (ρ : Nat -> Nat) (h : Ag) : Ag -> Prop
 | [] => True
 | (i, o) :: r => AL (ρ i) h = some (O5 ρ o) /\ RL ρ h r
def Yc (gl : List (Nat × Nat)) (m m1 : Nat) (H H1 : Ag) : Bool :=
 Nat.ble m m1 && H.all (fun p => Nat.ble (p.1 + 1) m && (AL p.1 gl).isSome && UU gl m p.2) && gl.all (fun p => (AL p.1 H).isSome && gl.all fun q => p.1 == q.1 || p.2 != q.2) && H1.all (fun p => (Nat.ble m p.1 || (AL p.1 gl).isSome) && UU gl m p.2)
theorem H0 {α : Type} {i : Nat} {o : α} : ∀ {l : List (Nat × α)}, AL i l = some o -> (i, o) ∈ l
 | [], h => by simp [AL] at h
 | (k, v) :: l, h => by
  unfold AL at h
  split at h
  .rename_i e; cases h; subst e; simp
  exact List.mem_cons_of_mem _ (H0 h)
theorem Pu {ρ : Nat -> Nat} {h : Ag} {i : Nat} {o : BM} : ∀ {H : Ag}, RL ρ h H -> AL i H = some o -> AL (ρ i) h = some (O5 ρ o)
 | [], _, hl => by simp [AL] at hl
 | (k, v) :: H, hk, hl => by
  unfold AL at hl
  split at hl
  .rename_i e; cases hl; subst e; exact hk.1
  exact Pu hk.2 hl
theorem UV {ρ : Nat -> Nat} {id : Nat} {o : BM} : ∀ {H : Ag}, AL id (Kf ρ H) = some o -> ∃ i o1, AL i H = some o1 /\ ρ i = id /\ o = O5 ρ o1
 | [], h => by simp [Kf, AL] at h
 | (k, v) :: H, h => by
  unfold Kf AL at h
  split at h
  .rename_i e; cases h; exact ⟨k, v, by simp [AL], e.symm, rfl⟩
  rename_i e
  obtain ⟨i, o1, h1, h2, h3⟩ := UV h
  refine ⟨i, o1, ?_, h2, h3⟩
  unfold AL
  rw [if_neg (fun e2 => e (by rw [<- h2, e2]))]
  exact h1
theorem UW {α : Type} {id : Nat} {o : α} : ∀ {a b : List (Nat × α)}, AL id (a ++ b) = some o -> AL id a = some o \/ AL id b = some o
 | [], b, h => .inr h
 | (k, v) :: a, b, h => by
  rw [List.cons_append] at h
  have e1 : ∀ l : List (Nat × α), AL id ((k, v) :: l) = if id = k then some v else AL id l := fun _ => rfl
  rw [e1] at h
  by_cases e : id = k
  .rw [if_pos e] at h; rw [e1, if_pos e]; exact .inl h
  rw [if_neg e] at h; rw [e1, if_neg e]; exact UW h
section
variable {O : Nat -> Prop} {μ μ' : Nat -> Option Bs} {w : World} {ρ : Nat -> Nat}
theorem V0 {v : Value} {l : LV} (hf : Z8 l = true) (hμ : ∀ i loc, Z7 l = some i -> μ (ρ i) = some loc -> μ' i = some loc) (h : Aq O μ w v (Sl ρ l)) : Aq O μ' w v l := by
 cases l with
 | p d => cases h with | p _ _ h => exact .p _ _ h
 | lsl id sz off len =>
  cases h with
  | lsln _ loc hm hn => exact .lsln id loc (hμ _ _ rfl hm) hn
  | lsl _ _ _ cap a loc hm hn hcap hl ha hb hs => exact .lsl id off len cap a loc (hμ _ _ rfl hm) hn hcap hl ha hb hs
 | lpb id off => cases h with | lpb _ _ loc hm hn => exact .lpb id off loc (hμ _ _ rfl hm) hn
 | lpe id i off => cases h with | lpe _ _ _ loc hm hn => exact .lpe id i off loc (hμ _ _ rfl hm) hn
 | lmap id => cases h with | lmap _ loc hm hn => exact .lmap id loc (hμ _ _ rfl hm) hn
 | und => cases h; exact .und
 | any => exact .any v
 | agg l => cases hf
 | tup l => cases hf
 | fn f l => cases hf
theorem UX {v : Value} {l : LV} (hf : Z8 l = true) (hμ : ∀ i loc, Z7 l = some i -> μ' i = some loc -> μ (ρ i) = some loc) (h : Aq O μ' w v l) : Aq O μ w v (Sl ρ l) := by
 cases l with
 | p d => cases h with | p _ _ h => exact .p _ _ h
 | lsl id sz off len =>
  cases h with
  | lsln _ loc hm hn => exact .lsln _ loc (hμ _ _ rfl hm) hn
  | lsl _ _ _ cap a loc hm hn hcap hl ha hb hs => exact .lsl _ off len cap a loc (hμ _ _ rfl hm) hn hcap hl ha hb hs
 | lpb id off => cases h with | lpb _ _ loc hm hn => exact .lpb _ off loc (hμ _ _ rfl hm) hn
 | lpe id i off => cases h with | lpe _ _ _ loc hm hn => exact .lpe _ i off loc (hμ _ _ rfl hm) hn
 | lmap id => cases h with | lmap _ loc hm hn => exact .lmap _ loc (hμ _ _ rfl hm) hn
 | und => cases h; exact .und
 | any => exact .any v
 | agg l => cases hf
 | tup l => cases hf
 | fn f l => cases hf
theorem ZY {gl : List (Nat × Nat)} {m : Nat} {loc : Bs} {o : BM} (hf : UU gl m o = true) (hμ : ∀ i lc, (m <= i \/ ∃ j, AL i gl = some j) -> μ (ρ i) = some lc -> μ' i = some lc) (h : Db O μ w loc (O5 ρ o)) : Db O μ' w loc o := by
 cases o with
 | row e sz el => exact h
 | map mp => exact h
 | iter cur left => exact h
 | box cs =>
  obtain ⟨hn, c, t, h1, h2, h3⟩ := h
  refine ⟨hn, c, t, h1, by simpa using h2, fun i v l hv hl => ?_⟩
  have hok := List.all_eq_true.1 hf l (List.mem_of_getElem? hl)
  simp only [Pt, Bool.and_eq_true] at hok
  refine V0 hok.1 (fun j lc hj hm => hμ j lc ?_ hm) (h3 i v _ hv (by rw [List.getElem?_map, hl]; rfl))
  have h4 := hok.2
  rw [hj] at h4
  simp only [Bool.or_eq_true, Nat.ble_eq] at h4
  exact h4.imp (fun x => x) fun h5 => Option.isSome_iff_exists.1 h5
theorem Yd {gl : List (Nat × Nat)} {m : Nat} {loc : Bs} {o : BM} (hf : UU gl m o = true) (hμ : ∀ i lc, (m <= i \/ ∃ j, AL i gl = some j) -> μ' i = some lc -> μ (ρ i) = some lc) (h : Db O μ' w loc o) : Db O μ w loc (O5 ρ o) := by
 cases o with
 | row e sz el => exact h
 | map mp => exact h
 | iter cur left => exact h
 | box cs =>
  obtain ⟨hn, c, t, h1, h2, h3⟩ := h
  refine ⟨hn, c, t, h1, by simpa using h2, fun i v l hv hl => ?_⟩
  rw [List.getElem?_map] at hl
  cases hc : cs[i]? with
  | none => rw [hc] at hl; cases hl
  | some x =>
   rw [hc] at hl
   cases hl
   have hok := List.all_eq_true.1 hf x (List.mem_of_getElem? hc)
   simp only [Pt, Bool.and_eq_true] at hok
   refine UX hok.1 (fun j lc hj hm => hμ j lc ?_ hm) (h3 i v x hv hc)
   have h4 := hok.2
   rw [hj] at h4
   simp only [Bool.or_eq_true, Nat.ble_eq] at h4
   exact h4.imp (fun x => x) fun h5 => Option.isSome_iff_exists.1 h5
end
section
variable {P : Program}
theorem Vz {k : Nat} {H H1 : Ag} {m m1 : Nat} {ls : List LV} {L : LV} (hM : ∀ A : BZ, (∀ id, A.μ0 id ≠ none -> id < m) -> D5 P A H m k ls (fun l h c => l = L /\ h = H1 /\ c = m1))
  (gl : List (Nat × Nat)) {A : BZ} {h : Ag} {c : Nat} {K : LV -> Ag -> Nat -> Prop} (hB : Yc gl m m1 H H1 = true) (hobj : RL (EP gl m c) h H) (hls : ls.all (Pt gl m) = true) (hL : moL gl m L = true)
  (hK : K (mrL (EP gl m c) L) (Kf (EP gl m c) H1 ++ Ce (gl.map (·.2)) h) (c + (m1 - m))) : D5 P A h c k (ls.map (Sl (EP gl m c))) K := by
 simp only [Yc, Bool.and_eq_true, List.all_eq_true, Nat.ble_eq, Bool.or_eq_true, beq_iff_eq, bne_iff_ne] at hB
 obtain ⟨⟨⟨hm, hH⟩, hgl⟩, hH1⟩ := hB
 have key : ∀ i o, AL i H = some o -> i < m /\ (∃ j, AL i gl = some j) /\ UU gl m o = true := fun i o hl => by
  obtain ⟨⟨h1, h2⟩, h3⟩ := hH _ (H0 hl)
  exact ⟨h1, Option.isSome_iff_exists.1 h2, h3⟩
 have gkey : ∀ i j, AL i gl = some j -> ∃ o, AL i H = some o := fun i j hl => Option.isSome_iff_exists.1 (hgl _ (H0 hl)).1
 have ginj : ∀ i i' j, AL i gl = some j -> AL i' gl = some j -> i = i' := fun i i' j h1 h2 => by
  have := (hgl _ (H0 h1)).2 _ (H0 h2)
  rcases this with h | h
  .exact h
  exact absurd rfl h
 have rg : ∀ i j, AL i gl = some j -> EP gl m c i = j := fun i j hl => by unfold EP; rw [hl]
 have rn : ∀ i, m <= i -> EP gl m c i = c + (i - m) := fun i hi => by
  unfold EP
  cases hl : AL i gl with
  | none => rfl
  | some j =>
   obtain ⟨o, ho⟩ := gkey i j hl
   have := (key i o ho).1
   omega
 refine ⟨(hM ⟨default, fun _ => False, fun _ => False, fun _ => none, fun _ h => h.elim⟩ (fun _ h => absurd rfl h)).1, fun μ w vs hh hsz hr => ?_⟩
 have hlt : ∀ id loc, μ id = some loc -> id < c := by
  intro id loc hm'
  by_cases hi : id < c
  .exact hi
  rw [hh.fresh id (by simp only [Fr]; omega)] at hm'; cases hm'
 let μ' : Nat -> Option Bs := fun i => match AL i gl with | some j => μ j | none => none
 have μg : ∀ i j, AL i gl = some j -> μ' i = μ j := fun i j hl => by simp only [μ', hl]
 have μlt : ∀ i loc, μ' i = some loc -> ∃ j, AL i gl = some j /\ μ j = some loc := by
  intro i loc hi
  cases hl : AL i gl with
  | none => simp only [μ', hl] at hi; cases hi
  | some j => exact ⟨j, rfl, by rw [<- μg i j hl]; exact hi⟩
 have hobj' : ∀ i o, AL i H = some o -> ∃ j, AL i gl = some j /\ AL j h = some (O5 (EP gl m c) o) := fun i o hl => by
  obtain ⟨_, ⟨j, hj⟩, _⟩ := key i o hl
  have := Pu hobj hl
  rw [rg i j hj] at this
  exact ⟨j, hj, this⟩
 have mine : ∀ b, CK μ' H b -> CK μ h b /\ ∃ i j o loc, AL i H = some o /\ AL i gl = some j /\ AL j h = some (O5 (EP gl m c) o) /\ μ j = some loc /\ loc.nil = false /\ loc.b = b := by
  rintro b ⟨i, o, loc, h1, h2, h3, h4⟩
  obtain ⟨j, hj, hj2⟩ := hobj' i o h1
  rw [μg i j hj] at h2
  exact ⟨⟨j, _, loc, hj2, h2, h3, h4⟩, i, j, o, loc, h1, hj, hj2, h2, h3, h4⟩
 have ownlt : ∀ b, Ar A μ h b -> b < w.heap.size := by
  rintro b (hb | ⟨id, o, loc, h1, h2, h3, rfl⟩)
  .exact Nat.lt_of_lt_of_le (A.hO b hb).1 hh.size
  exact (hh.base id o loc h1 h2 h3).1
 let A' : BZ := ⟨w, fun b => Ar A μ h b /\ ¬ CK μ' H b, CK μ' H, μ', fun b hb => ⟨ownlt b hb.1, hb.2⟩⟩
 have own1 : ∀ b, Ar A' μ' H b -> Ar A μ h b := by
  rintro b (hb | hb)
  .exact hb.1
  exact .inr (mine b hb).1
 have own2 : ∀ b, Ar A μ h b -> Ar A' μ' H b := fun b hb => by
  by_cases hc : CK μ' H b
  .exact .inr hc
  exact .inl ⟨hb, hc⟩
 have hh' : HRel A' μ' H (Fr m) w := by
  refine ⟨?_, ?_, ?_, ?_, Nat.le_refl _, fun _ _ _ => rfl, rfl, rfl, rfl, fun _ _ hm' => hm'⟩
  .intro i o hl
   obtain ⟨j, hj, hj2⟩ := hobj' i o hl
   obtain ⟨loc, h1, h2⟩ := hh.obj j _ hj2
   refine ⟨loc, by rw [μg i j hj]; exact h1, ?_⟩
   have h3 : Db (Ar A' μ' H) μ w loc (O5 (EP gl m c) o) := h2.mono (Bg.refl _ _) (fun b _ hb => own1 b hb) (fun _ _ h => h) (fun _ => rfl)
   refine ZY (key i o hl).2.2 (fun i' lc hi' hm' => ?_) h3
   rcases hi' with hi' | ⟨j', hj'⟩
   .rw [rn i' hi'] at hm'
    have := hlt _ _ hm'
    omega
   rw [rg i' j' hj'] at hm'
   rw [μg i' j' hj']; exact hm'
  .intro i i' o o' loc loc' h1 h2 m1' m2' n1 n2 he
   obtain ⟨j, hj, hj2⟩ := hobj' i o h1
   obtain ⟨j', hj', hj2'⟩ := hobj' i' o' h2
   rw [μg i j hj] at m1'
   rw [μg i' j' hj'] at m2'
   have := hh.inj _ _ _ _ _ _ hj2 hj2' m1' m2' n1 n2 he
   subst this
   exact ginj _ _ _ hj hj'
  .intro i hi
   cases hm' : μ' i with
   | none => rfl
   | some loc =>
    obtain ⟨j, hj, _⟩ := μlt i loc hm'
    obtain ⟨o, ho⟩ := gkey i j hj
    have := (key i o ho).1
    simp only [Fr] at hi; omega
  intro i o loc h1 h2 h3
  have hmine : CK μ' H loc.b := ⟨i, o, loc, h1, h2, h3, rfl⟩
  exact ⟨ownlt _ (.inr (mine _ hmine).1), fun hb => hb.2 hmine, .inr hmine⟩
 have hargs : ∀ (i : Nat) (v : Value) (l : LV), vs[i]? = some v -> ls[i]? = some l -> Aq (Ar A' μ' H) μ' w v l := by
  intro i v l hv hl
  have hok := List.all_eq_true.1 hls l (List.mem_of_getElem? hl)
  simp only [Pt, Bool.and_eq_true] at hok
  have h1 := (hr i v _ hv (by rw [List.getElem?_map, hl]; rfl)).mono (O' := Ar A' μ' H) (Bg.refl _ _) (fun b _ hb => own1 b hb) (fun _ _ h => h)
  refine V0 hok.1 (fun i' lc hi' hm' => ?_) h1
  have h4 := hok.2
  rw [hi'] at h4
  simp only [Bool.or_eq_true, Nat.ble_eq] at h4
  rcases h4 with h4 | h4
  .rw [rn i' h4] at hm'
   have := hlt _ _ hm'
   omega
  obtain ⟨j', hj'⟩ := Option.isSome_iff_exists.1 h4
  rw [rg i' j' hj'] at hm'
  rw [μg i' j' hj']; exact hm'
 have hμ0 : ∀ id, A'.μ0 id ≠ none -> id < m := by
  intro id hid
  cases hm' : μ' id with
  | none => exact absurd hm' hid
  | some loc =>
   obtain ⟨j, hj, _⟩ := μlt id loc hm'
   obtain ⟨o, ho⟩ := gkey id j hj
   exact (key id o ho).1
 refine ((hM A' hμ0).2 μ' w vs hh' (by simpa using hsz) hargs).mono ?_
 rintro e w' ⟨u, l, h1, c1, μ'', he, ⟨rfl, rfl, rfl⟩, hh2, hu, -⟩
 let μ3 : Nat -> Option Bs := fun id => if id < c then μ id else μ'' (m + (id - c))
 have ext : ∀ i loc, μ' i = some loc -> μ'' i = some loc := fun i loc hi => hh2.ext i loc hi
 have μ3o : ∀ id loc, μ id = some loc -> μ3 id = some loc := fun id loc hm' => by simp only [μ3, if_pos (hlt id loc hm'), hm']
 have name : ∀ i lc, (m <= i \/ ∃ j, AL i gl = some j) -> μ'' i = some lc -> μ3 (EP gl m c i) = some lc := by
  intro i lc hi hm'
  rcases hi with hi | ⟨j, hj⟩
  .rw [rn i hi]
   simp only [μ3]
   rw [if_neg (by omega), show m + (c + (i - m) - c) = i by omega]
   exact hm'
  obtain ⟨o, ho⟩ := gkey i j hj
  obtain ⟨j', hj', hj2⟩ := hobj' i o ho
  rw [hj] at hj'
  cases hj'
  obtain ⟨loc, g1, _⟩ := hh.obj j _ hj2
  have := ext i loc (by rw [μg i j hj]; exact g1)
  rw [hm'] at this
  cases this
  rw [rg i j hj]
  exact μ3o j _ g1
 have new : ∀ id o, AL id (Kf (EP gl m c) h1) = some o -> ∃ i o1, AL i h1 = some o1 /\ EP gl m c i = id /\ o = O5 (EP gl m c) o1 /\ (m <= i \/ ∃ j, AL i gl = some j) /\ UU gl m o1 = true := by
  intro id o hl
  obtain ⟨i, o1, g1, g2, g3⟩ := UV hl
  obtain ⟨g4, g5⟩ := hH1 _ (H0 g1)
  exact ⟨i, o1, g1, g2, g3, g4.imp (fun x => x) fun h5 => Option.isSome_iff_exists.1 h5, g5⟩
 have cases' : ∀ id o, AL id (Kf (EP gl m c) h1 ++ Ce (gl.map (·.2)) h) = some o -> (∃ i o1, AL i h1 = some o1 /\ EP gl m c i = id /\ o = O5 (EP gl m c) o1 /\ (m <= i \/ ∃ j, AL i gl = some j) /\ UU gl m o1 = true) \/ (id ∉ gl.map (·.2) /\ AL id h = some o) := by
  intro id o hl
  rcases UW hl with hl | hl
  .exact .inl (new id o hl)
  exact .inr (HX hl)
 have other : ∀ id o loc, id ∉ gl.map (·.2) -> AL id h = some o -> μ id = some loc -> loc.nil = false -> ¬ CK μ' H loc.b := by
  intro id o loc hid hl hm' hn hmine
  obtain ⟨_, i, j, o', loc', g1, g2, g3, g4, g5, g6⟩ := mine _ hmine
  have := hh.inj _ _ _ _ _ _ g3 hl g4 hm' g5 hn g6
  subst this
  exact hid (List.mem_map.2 ⟨(i, j), H0 g2, rfl⟩)
 have hkept : Bg (Ar A μ h) w w' := ⟨hh2.size, fun b hb hO => hh2.block b hb fun hm' => hO (.inr (mine b hm').1)⟩
 have nmine : ∀ b, CK μ3 (Kf (EP gl m c) h1 ++ Ce (gl.map (·.2)) h) b -> CK μ'' h1 b \/ (Ar A μ h b /\ ¬ CK μ' H b) := by
  rintro b ⟨id, o, loc, g1, g2, g3, g4⟩
  rcases cases' id o g1 with ⟨i, o1, k1, k2, k3, k4, k5⟩ | ⟨k1, k2⟩
  .left
   obtain ⟨lc, q1, _⟩ := hh2.obj i o1 k1
   have := name i lc k4 q1
   rw [k2, g2] at this
   cases this
   exact ⟨i, o1, loc, k1, q1, g3, g4⟩
  right
  obtain ⟨lc, q1, _⟩ := hh.obj id o k2
  have := μ3o id lc q1
  rw [g2] at this
  cases this
  rw [<- g4]
  exact ⟨.inr ⟨id, o, loc, k2, q1, g3, rfl⟩, other id o loc k1 k2 q1 g3⟩
 have own3 : ∀ b, Ar A μ3 (Kf (EP gl m c) h1 ++ Ce (gl.map (·.2)) h) b -> Ar A' μ'' h1 b := by
  rintro b (hb | hb)
  .refine .inl ⟨.inl hb, fun hm' => ?_⟩
   obtain ⟨_, i, j, o', loc', g1, g2, g3, g4, g5, rfl⟩ := mine _ hm'
   exact (hh.base j _ loc' g3 g4 g5).2.1 hb
  rcases nmine b hb with hb | hb
  .exact .inr hb
  exact .inl hb
 have own4 : ∀ b, b < w.heap.size -> Ar A μ3 (Kf (EP gl m c) h1 ++ Ce (gl.map (·.2)) h) b -> Ar A μ h b := by
  rintro b hlt' (hb | hb)
  .exact .inl hb
  rcases nmine b hb with ⟨i, o1, loc, k1, k2, k3, rfl⟩ | hb
  .rcases (hh2.base i o1 loc k1 k2 k3).2.2 with hx | hx
   .exact absurd hx (by show ¬ w.heap.size <= _; omega)
   exact .inr (mine _ hx).1
  exact hb.1
 have hu2 : Aq (Ar A μ3 (Kf (EP gl m c) h1 ++ Ce (gl.map (·.2)) h)) μ'' w' u l := hu.mono (Bg.refl _ _) (fun b _ hb => own3 b hb) (fun _ _ h => h)
 have one : ∀ v x, Pt gl m x = true -> Aq (Ar A μ3 (Kf (EP gl m c) h1 ++ Ce (gl.map (·.2)) h)) μ'' w' v x -> Aq (Ar A μ3 (Kf (EP gl m c) h1 ++ Ce (gl.map (·.2)) h)) μ3 w' v (Sl (EP gl m c) x) := by
  intro v x hx hv
  simp only [Pt, Bool.and_eq_true] at hx
  refine UX hx.1 (fun i' lc' hi' hm' => name i' lc' ?_ hm') hv
  have h4 := hx.2
  rw [hi'] at h4
  simp only [Bool.or_eq_true, Nat.ble_eq] at h4
  exact h4.imp (fun x => x) fun h5 => Option.isSome_iff_exists.1 h5
 refine ⟨u, _, _, _, μ3, he, hK, ⟨?_, ?_, ?_, ?_, Nat.le_trans hh.size hh2.size, ?_, hh2.os.trans hh.os, hh2.tape.trans hh.tape, hh2.output.trans hh.output, fun id loc hm' => μ3o id loc (hh.ext id loc hm')⟩, ?_, fun v x hv => hv.mono hkept own4 μ3o⟩
 .intro id o hl
  rcases cases' id o hl with ⟨i, o1, k1, k2, rfl, k4, k5⟩ | ⟨k1, k2⟩
  .obtain ⟨lc, q1, q2⟩ := hh2.obj i o1 k1
   refine ⟨lc, by rw [<- k2]; exact name i lc k4 q1, ?_⟩
   have q3 : Db (Ar A μ3 (Kf (EP gl m c) h1 ++ Ce (gl.map (·.2)) h)) μ'' w' lc o1 := q2.mono (Bg.refl _ _) (fun b _ hb => own3 b hb) (fun _ _ h => h) (fun _ => rfl)
   exact Yd k5 (fun i' lc' hi' hm' => name i' lc' hi' hm') q3
  obtain ⟨lc, q1, q2⟩ := hh.obj id o k2
  refine ⟨lc, μ3o id lc q1, q2.mono hkept own4 μ3o fun hn => ?_⟩
  exact hh2.block _ (hh.base id o lc k2 q1 hn).1 (other id o lc k1 k2 q1 hn)
 .intro id id' o o' loc loc' g1 g2 m1' m2' n1 n2 hb
  rcases cases' id o g1 with ⟨i, o1, k1, k2, k3, k4, k5⟩ | ⟨k1, k2⟩
  .obtain ⟨lc, q1, _⟩ := hh2.obj i o1 k1
   have e1 := name i lc k4 q1
   rw [k2, m1'] at e1
   cases e1
   rcases cases' id' o' g2 with ⟨i', o1', k1', k2', k3', k4', k5'⟩ | ⟨k1', k2'⟩
   .obtain ⟨lc', q1', _⟩ := hh2.obj i' o1' k1'
    have e1' := name i' lc' k4' q1'
    rw [k2', m2'] at e1'
    cases e1'
    have := hh2.inj _ _ _ _ _ _ k1 k1' q1 q1' n1 n2 hb
    rw [<- k2, <- k2', this]
   exfalso
   obtain ⟨lc', q1', _⟩ := hh.obj id' o' k2'
   have e1' := μ3o id' lc' q1'
   rw [m2'] at e1'
   cases e1'
   have hno := other id' o' loc' k1' k2' q1' n2
   have hsz' := (hh.base id' o' loc' k2' q1' n2).1
   rcases (hh2.base i o1 loc k1 q1 n1).2.2 with hx | hx
   .have : w.heap.size <= loc.b := hx
    omega
   rw [hb] at hx; exact hno hx
  obtain ⟨lc, q1, _⟩ := hh.obj id o k2
  have e1 := μ3o id lc q1
  rw [m1'] at e1
  cases e1
  rcases cases' id' o' g2 with ⟨i', o1', k1', k2', k3', k4', k5'⟩ | ⟨k1', k2'⟩
  .exfalso
   obtain ⟨lc', q1', _⟩ := hh2.obj i' o1' k1'
   have e1' := name i' lc' k4' q1'
   rw [k2', m2'] at e1'
   cases e1'
   have hno := other id o loc k1 k2 q1 n1
   have hsz' := (hh.base id o loc k2 q1 n1).1
   rcases (hh2.base i' o1' loc' k1' q1' n2).2.2 with hx | hx
   .have : w.heap.size <= loc'.b := hx
    omega
   rw [<- hb] at hx; exact hno hx
  obtain ⟨lc', q1', _⟩ := hh.obj id' o' k2'
  have e1' := μ3o id' lc' q1'
  rw [m2'] at e1'
  cases e1'
  exact hh.inj _ _ _ _ _ _ k2 k2' q1 q1' n1 n2 hb
 .intro id hid
  simp only [Fr] at hid
  simp only [μ3]
  rw [if_neg (by omega)]
  exact hh2.fresh _ (by simp only [Fr]; omega)
 .intro id o loc g1 g2 g3
  rcases cases' id o g1 with ⟨i, o1, k1, k2, k3, k4, k5⟩ | ⟨k1, k2⟩
  .obtain ⟨lc, q1, _⟩ := hh2.obj i o1 k1
   have e1 := name i lc k4 q1
   rw [k2, g2] at e1
   cases e1
   obtain ⟨b1, b2, b3⟩ := hh2.base i o1 loc k1 q1 g3
   refine ⟨b1, fun hO => b2 ⟨.inl hO, fun hm' => ?_⟩, ?_⟩
   .obtain ⟨_, i', j', o', loc', g1', g2', g3', g4', g5', g6'⟩ := mine _ hm'
    rw [<- g6'] at hO
    exact (hh.base j' _ loc' g3' g4' g5').2.1 hO
   rcases b3 with hx | hx
   .exact .inl (Nat.le_trans hh.size hx)
   obtain ⟨_, i', j', o', loc', g1', g2', g3', g4', g5', g6'⟩ := mine _ hx
   rw [<- g6']
   exact (hh.base j' _ loc' g3' g4' g5').2.2
  obtain ⟨lc, q1, _⟩ := hh.obj id o k2
  have e1 := μ3o id lc q1
  rw [g2] at e1
  cases e1
  obtain ⟨b1, b2, b3⟩ := hh.base id o loc k2 q1 g3
  exact ⟨Nat.lt_of_lt_of_le b1 hh2.size, b2, b3⟩
 .intro b hb hnf
  have hnm : ¬ CK μ' H b := by
   intro hm'
   obtain ⟨_, i', j', o', loc', g1', g2', g3', g4', g5', g6'⟩ := mine _ hm'
   have := (hh.base j' _ loc' g3' g4' g5').2.2
   rw [g6'] at this
   rcases this with hx | hx
   .omega
   exact hnf hx
  rw [hh2.block b (Nat.lt_of_lt_of_le hb hh.size) hnm]
  exact hh.block b hb hnf
 have oneA : ∀ v x, moA gl m x = true -> Aq (Ar A μ3 (Kf (EP gl m c) h1 ++ Ce (gl.map (·.2)) h)) μ'' w' v x -> Aq (Ar A μ3 (Kf (EP gl m c) h1 ++ Ce (gl.map (·.2)) h)) μ3 w' v (Z9 (EP gl m c) x) := by
  intro v x hx hv
  cases x with
  | agg xs =>
   cases hv with
   | agg vs' _ hsz' hxs =>
    refine .agg vs' _ (by simpa using hsz') fun i v x hv hx' => ?_
    rw [List.getElem?_map] at hx'
    cases hc : xs[i]? with
    | none => rw [hc] at hx'; cases hx'
    | some y =>
     rw [hc] at hx'
     cases hx'
     exact one v y (List.all_eq_true.1 hx y (List.mem_of_getElem? hc)) (hxs i v y hv hc)
  | p d => exact one v _ hx hv
  | lsl id sz off len => exact one v _ hx hv
  | lpb id off => exact one v _ hx hv
  | lpe id i off => exact one v _ hx hv
  | lmap id => exact one v _ hx hv
  | und => exact one v _ hx hv
  | any => exact one v _ hx hv
  | tup l => exact one v _ hx hv
  | fn f l => exact one v _ hx hv
 cases l with
 | tup xs =>
  cases hu2 with
  | tup vs' _ hsz' hxs =>
   refine .tup vs' _ (by simpa using hsz') fun i v x hv hx => ?_
   rw [List.getElem?_map] at hx
   cases hc : xs[i]? with
   | none => rw [hc] at hx; cases hx
   | some y =>
    rw [hc] at hx
    cases hx
    exact oneA v y (List.all_eq_true.1 hL y (List.mem_of_getElem? hc)) (hxs i v y hv hc)
 | p d => exact oneA u (.p d) hL hu2
 | lsl id sz off len => exact oneA u (.lsl id sz off len) hL hu2
 | lpb id off => exact oneA u (.lpb id off) hL hu2
 | lpe id i off => exact oneA u (.lpe id i off) hL hu2
 | lmap id => exact oneA u (.lmap id) hL hu2
 | und => exact oneA u .und hL hu2
 | any => exact oneA u .any hL hu2
 | agg l => exact oneA u (.agg l) hL hu2
 | fn f l => exact oneA u (.fn f l) hL hu2
end
def Jv (P : Program) (k : Nat) (H : Ag) (c : Nat) (args : List LV) (L : LV) (H1 : Ag) (C : Nat) : Prop :=
 ∀ A : BZ, (∀ id, A.μ0 id ≠ none -> id < c) -> D5 P A H c k args fun l h c' => l = L /\ h = H1 /\ c' = C
section
variable {P : Program} {AE : BH}
theorem Xc (hE : BP P AE) {k : Nat} {fn : Func} {cd : Code} (hfun : P.funcs[k]? = some fn) (nt' : Nat) (rs : List ResultVar) (sl' : List (Nat × LV)) (hb : fn.body = some cd) (hn : (fn.name == "runtime.NumGoroutine") = false) (hnt : Nat.beq fn.ntmps nt' = true) (hrs : fn.results.toList = rs)
  {H H1 : Ag} {c C : Nat} {ls : List LV} {L : LV} (hlen : Nat.ble ls.length nt' = true) (hsl : L6 0 ls = sl')
  (body : ∀ A : BZ, (∀ id, A.μ0 id ≠ none -> id < c) -> CJ P A cd (IP AE.tt rs A L H1 C) ⟨nt', sl', H, c⟩) : Jv P k H c ls L H1 C := by
 intro A hA
 subst hsl
 refine UC hE hfun hb hn nt' (Nat.eq_of_beq_eq_true hnt) rs hrs (Nat.le_of_ble_eq_true hlen) fun A' hA' => ?_
 refine LI (Vv (body A' hA')) fun e s q => ?_
 have fin : (JO AE.tt rs s = some L /\ s.heap = H1 /\ s.ctr = C) -> ∃ l, JO AE.tt rs s = some l /\ l = L /\ s.heap = H1 /\ s.ctr = C := fun ⟨q1, q2, q3⟩ => ⟨_, q1, rfl, q2, q3⟩
 cases e <;> first | exact fin q | exact q.elim
section
variable {A : BZ} {f : St -> Prop} {hf : JE f} {nt : Nat} {sl : List (Nat × LV)} {h : Ag} {c : Nat}
theorem HE {k : Nat} {H H1 : Ag} {m m1 : Nat} {ls : List LV} {L L' : LV} (hM : Jv P k H m ls L H1 m1) (gl : List (Nat × Nat)) {h' : Ag} {c' : Nat} {dst : Option Tmp} {fo : Operand} {args : Array Operand} {ts : Array TypeId}
  (hB : Yc gl m m1 H H1 = true) (hobj : RL (EP gl m c) h H) (hls : ls.all (Pt gl m) = true) (hfn : BK nt sl fo = .fn k []) (hl : Eh nt sl args.toList some = some (ls.map (Sl (EP gl m c))))
  (hh : Kf (EP gl m c) H1 ++ Ce (gl.map (·.2)) h = h') (hc : c + (m1 - m) = c') (hL : moL gl m L = true) (hL' : mrL (EP gl m c) L = L') (kk : f (match dst with | some d => ⟨nt, (d, L') :: sl, h', c'⟩ | none => ⟨nt, sl, h', c'⟩)) :
  BR P A AE ⟨nt, sl, h, c⟩ dst (.call ⟨.value fo, args, ts⟩) ⟨f, hf⟩ := by
 rw [BO (h := h) (c := c)] at hfn
 show N5 _ _
 rw [hfn]
 show J8 P A h c k (args.toList.map _ ++ []) _
 rw [H9 hl, List.append_nil]
 refine Vz hM gl hB hobj hls hL ?_
 rw [hh, hc, hL']
 show f (St.go ⟨nt, sl, h, c⟩ dst L' h' c')
 rw [PW]
 cases dst <;> exact kk
end
end
end Go.E
/- Loops over maps, in whatever order (loopA); iterators. No condition. -/
namespace Go.E
open Go Go.RowKit
section
variable {σ α Ans : Type}
open Classical in
end
section
variable {P : Program} {A : BZ} {AE : BH} {st : St} {σ α Ans : Type}
end
section
variable {P : Program} {A : BZ} {AE : BH} {f : St -> Prop} {hf : JE f} {nt : Nat} {sl : List (Nat × LV)} {h : Ag} {c : Nat} {d : Tmp} {κ υ : Type} {ke : κ -> DV} {ve : υ -> DV}
end
end Go.E
/- Drawn regions whose last operation waits for all others: it is run as in the text's order (a call that turns an object, a call that hands back an own row). Condition: the checks, by kernel. -/
namespace Go.E
open Go Go.RowKit
def Jb (o : Oper) : Oper := { o with dst := none, op := .move (.tmp 0), guard := none }
def M5 : List Oper -> List Oper
 | [] => []
 | [o] => [Jb o]
 | o :: o' :: r => o :: M5 (o' :: r)
theorem Ps (o : Oper) : ∀ l : List Oper, M5 (l ++ [o]) = l ++ [Jb o]
 | [] => rfl
 | [a] => rfl
 | a :: b :: l => by
  have := Ps o (b :: l)
  simp only [List.cons_append] at this ⊢
  rw [M5, this]
def RJ (md : Region.Mode) (ops : Array Oper) : List Nat -> List Nat -> Bool
 | _, [] => true
 | done, i :: r => (match ops[i]? with
  | some o => o.after.all fun x => !Region.binds md x || done.contains x.on
  | none => false) && RJ md ops (i :: done) r
def O2 (md : Region.Mode) (ops : Array Oper) : List Nat -> List Nat -> Bool
 | _, [] => true
 | later, j :: r => (later.any fun k => match ops[k]? with
  | some o => o.after.any fun x => Region.binds md x && x.on == j
  | none => false) && O2 md ops (j :: later) r
def Vy (ops : Array Oper) (L : Nat) : Bool := ops.all fun o => match o.guard with
 | some (j, _) => !(j == L)
 | none => true
def Xj (md : Region.Mode) (ops : Array Oper) (listed : Array Bool) : Prop := ∀ i, listed.getD i false = true -> ∀ o, ops[i]? = some o -> ∀ x ∈ o.after, Region.binds md x = true -> listed.getD x.on false = true
section
variable {P : Program} {A : BZ} {AE : BH} {md : Region.Mode} {ops : Array Oper} {base : Nat} {K : St -> Prop}
theorem RK {listed : Array Bool} (hr : Region.ready md ops listed = []) : ∀ (order done : List Nat), (∀ i ∈ done, listed.getD i false = true) -> (∀ i ∈ order, i < listed.size) -> RJ md ops done order = true -> ∀ i ∈ order, listed.getD i false = true
 | [], _, _, _, _, i, hi => by simp at hi
 | k :: r, done, hd, hs, ht, i, hi => by
  simp only [RJ, Bool.and_eq_true] at ht
  have hk : listed.getD k false = true := by
   cases hl : listed.getD k false with
   | true => rfl
   | false =>
    exfalso
    cases ho : ops[k]? with
    | none => rw [ho] at ht; simp at ht
    | some o =>
     rw [ho] at ht
     have hks := hs k (by simp)
     have : k ∈ Region.ready md ops listed := mem_ready.2 ⟨by
      simp only [Array.getD_eq_getD_getElem?, Array.getElem?_eq_getElem hks, Option.getD_some] at hl ⊢; exact hl, o, ho, fun x hx hb => by
      have h1 := Array.all_eq_true'.1 ht.1 x hx
      simp only [hb, Bool.not_true, Bool.false_or, List.contains_iff_mem] at h1
      exact hd _ h1⟩
     rw [hr] at this
     cases this
  rcases List.mem_cons.1 hi with rfl | hi
  .exact hk
  exact RK hr r (k :: done) (fun j hj => by
  rcases List.mem_cons.1 hj with rfl | hj
  .exact hk
  exact hd j hj) (fun j hj => hs j (by simp [hj])) ht.2 i hi
theorem O3 {listed : Array Bool} (hc : Xj md ops listed) : ∀ (others later : List Nat), (∀ k ∈ later, ∀ o, ops[k]? = some o -> ∀ x ∈ o.after, Region.binds md x = true -> listed.getD x.on false = true) -> O2 md ops later others = true -> ∀ j ∈ others, listed.getD j false = true
 | [], _, _, _, j, hj => by simp at hj
 | k :: r, later, hl, h, j, hj => by
  simp only [O2, Bool.and_eq_true, List.any_eq_true] at h
  obtain ⟨⟨m, hm, h1⟩, h2⟩ := h
  have hk : listed.getD k false = true := by
   cases ho : ops[m]? with
   | none => rw [ho] at h1; cases h1
   | some o =>
    rw [ho] at h1
    obtain ⟨x, hx, hx2⟩ := Array.any_eq_true'.1 h1
    simp only [Bool.and_eq_true, beq_iff_eq] at hx2
    rw [<- hx2.2]
    exact hl m hm o ho x hx hx2.1
  rcases List.mem_cons.1 hj with rfl | hj
  .exact hk
  exact O3 hc r (k :: later) (fun i hi => by
   rcases List.mem_cons.1 hi with rfl | hi
   .exact hc _ hk
   exact hl i hi) h2 j hj
theorem Xk {Q' : Exit -> Act -> World -> Prop} {listed : Array Bool} (hr : Region.ready md ops listed = []) {a : Act} {w : World} (h : Q' .normal a w) : ∀ fuel, wpAny P md ops Q' fuel listed a w
 | 0 => ⟨hr, h⟩
 | fuel + 1 => ⟨fun _ => h, fun i hi => by rw [hr] at hi; cases hi⟩
theorem Wr (hE : BP P AE) {ops' : Array Oper} {n L : Nat} {oL : Oper} (hn : n = ops.size) (hn' : n = ops'.size) (hL : ops[L]? = some oL) (hL' : ops'[L]? = some (Jb oL)) (hg : oL.guard = none) (heq : ∀ i, i ≠ L -> ops'[i]? = ops[i]?) (hgs : Vy ops L = true)
  {others : List Nat} (hall : ∀ i, i < n -> i = L \/ i ∈ others) (hin : ∀ i ∈ others, i < n) (hLn : L < n) (ht : RJ md ops [] (others ++ [L]) = true) (hch : O2 md ops [L] others.reverse = true)
  {Q' : Exit -> Act -> World -> Prop} {F : St -> Prop} (hQ : ∀ st a w, F st -> R A st a w -> Q' .normal a w) (hK : ∀ st, K st -> BR P A AE { st with ctr := base + n } oL.dst oL.op ⟨F, ⟨⟩⟩) :
  ∀ (fuel : Nat) (listed : Array Bool) (st : St) (a : Act) (w : World), listed.size = n -> Xj md ops listed -> listed.getD L true = false -> Iv P AE md ops' base K fuel listed st -> RF A (Fl base n listed) st a w -> wpAny P md ops Q' fuel listed a w := by
 have hrd : ∀ listed i, i ∈ Region.ready md ops' listed ↔ i ∈ Region.ready md ops listed := fun listed i => by
  rw [mem_ready, mem_ready]
  by_cases e : i = L
  .subst e
   rw [hL, hL']
   constructor
   .rintro ⟨h1, o, h2, h3⟩; cases h2; exact ⟨h1, oL, rfl, h3⟩
   rintro ⟨h1, o, h2, h3⟩; cases h2; exact ⟨h1, Jb oL, rfl, h3⟩
  rw [heq i e]
 have hrd0 : ∀ listed, Region.ready md ops' listed = [] ↔ Region.ready md ops listed = [] := fun listed => by
  simp only [List.eq_nil_iff_forall_not_mem, hrd]
 have hne : ∀ listed : Array Bool, listed.size = n -> listed.getD L true = false -> Region.ready md ops listed ≠ [] := fun listed hs hl h0 => by
  have := RK h0 (others ++ [L]) [] (fun i hi => by simp at hi) (fun i hi => by
   rcases List.mem_append.1 hi with hi | hi
   .have := hin i hi; omega
   simp at hi; omega) ht L (by simp)
  rw [Array.getD_eq_getD_getElem?, Array.getElem?_eq_getElem (by omega : L < listed.size)] at this hl
  simp only [Option.getD_some] at this hl
  rw [this] at hl; cases hl
 intro fuel
 induction fuel with
 | zero => intro listed st a w hs _ hl hD _; exact absurd ((hrd0 _).1 hD.1) (hne _ hs hl)
 | succ fuel ih =>
  intro listed st a w hs hc hl hD hR
  refine ⟨fun h0 => absurd h0 (hne _ hs hl), fun i hi => ?_⟩
  obtain ⟨o, l, e, ho, hd, hrec⟩ := hD.2 i ((hrd _ _).2 hi)
  obtain ⟨hun, o', ho', hdep⟩ := mem_ready.1 hi
  by_cases hiL : i = L
  .subst hiL
   rw [hL] at ho'; cases ho'
   rw [hL'] at ho; cases ho
   have hoth : ∀ j ∈ others, listed.getD j false = true := fun j hj => O3 hc others.reverse [i] (fun k hk o hok x hx hb => by
    simp at hk; subst hk
    rw [hL] at hok; cases hok
    exact hdep x hx hb) hch j (List.mem_reverse.2 hj)
   have hend : Region.ready md ops (listed.setIfInBounds i true) = [] := by
    rw [List.eq_nil_iff_forall_not_mem]
    intro j hj
    obtain ⟨g1, o2, g2, _⟩ := mem_ready.1 hj
    have hjn : j < n := by rw [hn]; exact (Array.getElem?_eq_some_iff.1 g2).1
    by_cases hji : i = j
    .subst hji
     simp [show i < listed.size by omega] at g1
    rw [getD_set_ne true hji] at g1
    rcases hall j hjn with rfl | h
    .exact hji rfl
    have := hoth j h
    rw [Array.getD_eq_getD_getElem?, Array.getElem?_eq_getElem (by omega : j < listed.size)] at this g1
    simp only [Option.getD_some] at this g1
    rw [this] at g1; cases g1
   obtain ⟨st', hev, hk⟩ : ∃ st', Gr (apS st (base + i) (Jb oL) l e) st' /\ K st' := by
    cases fuel with
    | zero => exact hrec.2
    | succ f => exact hrec.1 ((hrd0 _).2 hend)
   have he : e = .keep := by
    unfold DC Jb at hd
    simp only [CT] at hd
    exact hd.1
   subst he
   have hap : apS st (base + i) (Jb oL) l .keep = st := rfl
   rw [hap] at hev
   have hR2 := hR.eqv hev
   have hRR : R A { st' with ctr := base + n } a w := by
    obtain ⟨⟨μ, x1, x2⟩, x3, x4⟩ := hR2
    exact ⟨⟨μ, x1.less fun id hid => .inl hid, x2⟩, x3, x4⟩
   unfold wpOp
   rw [hL]
   have hw : Region.wanted oL (yielded ops a.tmps) = true := by unfold Region.wanted; rw [hg]
   simp only [hw, if_true]
   exact .inl (SN hE (Ro (hK st' hk)) hRR fun st'' a' w' hF hR' => Xk hend (hQ st'' a' w' hF hR') fuel)
  rw [heq i hiL] at ho
  have hlt : i < n := by rw [hn]; exact (Array.getElem?_eq_some_iff.1 ho).1
  have hd' : DC P AE ops (st.at (base + i)) o l e := by
   unfold DC at hd ⊢
   cases hgo : o.guard with
   | none => rw [hgo] at hd; exact hd
   | some g =>
    obtain ⟨j, want⟩ := g
    rw [hgo] at hd
    have hjL : j ≠ L := by
     have := Array.all_eq_true'.1 hgs o (Array.mem_of_getElem? ho)
     rw [hgo] at this
     simpa using this
    have hgl : Dc (st.at (base + i)) ops' j = Dc (st.at (base + i)) ops j := by unfold Dc; rw [heq j hjL]
    simp only [hgl] at hd ⊢
    exact hd
  refine P5 (st := st.at (base + i)) hE ho ⟨hR.ex, hR.nt, hR.defers⟩ (.inr ⟨i, hlt, hun, rfl⟩) hd' fun a' w' hR' => ?_
  refine ih _ _ _ _ (by simpa using hs) (fun k hk o2 ho2 x hx hb => ?_) (by rw [getD_set_ne true hiL]; exact hl) hrec ?_
  .by_cases hki : i = k
   .subst hki
    rw [ho] at ho2; cases ho2
    rw [ho] at ho'; cases ho'
    exact getD_set_true (hdep x hx hb)
   rw [getD_set_ne false hki] at hk
   exact getD_set_true (hc k hk o2 ho2 x hx hb)
  have hR'' : RF A (fun id => Fl base n listed id /\ id ≠ base + i) (apS st (base + i) o l e) a' w' := by
   obtain ⟨⟨μ, x1, x2⟩, x3, x4⟩ := hR'
   refine ⟨⟨μ, ?_, fun t ht => ?_⟩, ?_, x4⟩
   .rw [Bw] at x1 ⊢; exact x1
   .have := x2 t (by rw [Gs] at ht ⊢; exact ht)
    rw [Bw, C2] at this
    rw [Bw, C2]; exact this
   rw [Gs] at x3 ⊢; exact x3
  obtain ⟨⟨μ, x1, x2⟩, x3, x4⟩ := hR''
  refine ⟨⟨μ, x1.less fun id hid => ?_, x2⟩, x3, x4⟩
  rcases hid with hid | ⟨k, hk1, hk2, rfl⟩
  .exact ⟨.inl hid, by omega⟩
  have hik : i ≠ k := by
   rintro rfl
   simp [show i < listed.size by omega] at hk2
  exact ⟨.inr ⟨k, hk1, by rw [getD_set_ne true hik] at hk2; exact hk2, rfl⟩, by omega⟩
def Jy : List Oper -> Option Oper
 | [] => none
 | [o] => some o
 | _ :: o :: r => Jy (o :: r)
theorem O4 {o : Oper} : ∀ {l : List Oper}, Jy l = some o -> ∃ pre, l = pre ++ [o]
 | [a], h => by simp [Jy] at h; subst h; exact ⟨[], rfl⟩
 | a :: b :: l, h => by
  obtain ⟨pre, e⟩ := O4 (l := b :: l) (by simpa [Jy] using h)
  exact ⟨a :: pre, by rw [e]; rfl⟩
def Xl (ops : List Oper) (others : List Nat) : Bool :=
 match Jy ops with
 | none => false
 | some o => o.guard.isNone && (Vy ops.toArray (ops.length - 1) && ((List.range ops.length).all (fun i => Nat.beq i (ops.length - 1) || others.contains i) && ((others.all fun i => Nat.blt i ops.length) &&
   (RJ .any ops.toArray [] (others ++ [ops.length - 1]) && O2 .any ops.toArray [ops.length - 1] others.reverse))))
theorem AA8 (q : Bool) (hE : BP P AE) (hm : P.follows .mixedOrders = true) {id : Nat} {ops : List Oper} {Q : Exit -> St -> Prop} {nt : Nat} {sl : List (Nat × LV)} {h : Ag} {c : Nat} (others : List Nat) (n : Nat) {oL : Oper}
  (hq : (!q || AE.calm.isSome) = true) (hlast : Jy ops = some oL) (hcl : Xl ops others = true) (hok : IS q AE.own .any (M5 ops).toArray (others ++ [ops.length - 1]) (Array.replicate ops.length false) = true) (hl : Nat.beq (others.length + 1) ops.length = true) (hn : Nat.beq ops.length n = true)
  (k : DU P A AE c n ⟨fun st => BR P A AE st oL.dst oL.op ⟨Q .normal, ⟨⟩⟩, ⟨⟩⟩ (Ga (M5 ops) (others ++ [n - 1])) ⟨nt, sl, h, c⟩) : CJ P A (.region id ops.toArray true) Q ⟨nt, sl, h, c⟩ := fun a w hR => by
 have hn' := Nat.eq_of_beq_eq_true hn
 subst hn'
 have hq' : q = true -> ∃ b, AE.calm = some b := fun e => by subst e; exact Option.isSome_iff_exists.1 (by simpa using hq)
 obtain ⟨pre, rfl⟩ := O4 hlast
 unfold Xl at hcl
 rw [hlast] at hcl
 simp only [Bool.and_eq_true, Option.isNone_iff_eq_none] at hcl
 obtain ⟨g0, g1, g2, g3, g4, g5⟩ := hcl
 have hlen : (pre ++ [oL]).length - 1 = pre.length := by simp
 rw [hlen] at g1 g2 g4 g5 hok k
 rw [Ps] at hok k
 have hsz : (pre ++ [Jb oL]).length = (pre ++ [oL]).length := by simp
 have hb : ((others ++ [pre.length]).all fun i => decide (i < (pre ++ [Jb oL]).length)) = true := by
  rw [List.all_eq_true] at g3 ⊢
  intro i hi
  rcases List.mem_append.1 hi with hi | hi
  .have := Nat.le_of_ble_eq_true (g3 i hi)
   simp only [List.length_append, List.length_cons, List.length_nil, decide_eq_true_eq] at this ⊢
   omega
  simp at hi; subst hi; simp
 rw [<- hsz] at k hok
 have hd := I1 (others ++ [pre.length]) _ hb k
 refine wp_region_any hm ?_
 have hR' := (hR.drawn (w.drawn + 1)).toRF
 have hfr : ∀ k, AL (c + k) h = none := by
  intro k
  cases hx : AL (c + k) h with
  | none => rfl
  | some o =>
   obtain ⟨⟨μ, hh, _⟩, _, _⟩ := hR
   obtain ⟨loc, h1, _⟩ := hh.obj _ _ hx
   rw [hh.fresh _ (by simp [Fr])] at h1; cases h1
 have hD := Kp q hq' (others ++ [pre.length]) (Array.replicate (pre ++ [Jb oL]).length false) ⟨nt, sl, h, c⟩ hok (fun k _ => hfr k) hd
 have hol : (others ++ [pre.length]).length = (pre ++ [oL]).length := by
  have := Nat.eq_of_beq_eq_true hl
  simpa using this
 rw [hol, hsz] at hD
 have hs2 : (pre ++ [oL]).toArray.size = (pre ++ [oL]).length := by simp
 rw [hs2]
 have hL0 : pre.length < (pre ++ [oL]).length := by simp
 refine Wr (A := A) (n := (pre ++ [oL]).length) (L := pre.length) (oL := oL) (ops' := (pre ++ [Jb oL]).toArray) (F := Q .normal) (base := c) hE (by simp) (by simp) (by simp) (by simp) g0 (fun i hi => ?_) g1 (others := others) (fun i hi => ?_) (fun i hi => ?_) hL0 g4 g5
  (fun st a w hF hRR => ⟨st, hRR, hF⟩) (fun st hK => hK) (pre ++ [oL]).length _ _ a _ (by simp) (fun i hi => ?_) ?_ hD ?_
 .simp only [List.getElem?_toArray]
  rcases Nat.lt_trichotomy i pre.length with h' | h' | h'
  .rw [List.getElem?_append_left h', List.getElem?_append_left h']
  .exact absurd h' hi
  rw [List.getElem?_eq_none (by simp; omega), List.getElem?_eq_none (by simp; omega)]
 .have := List.all_eq_true.1 g2 i (List.mem_range.2 hi)
  simp only [Bool.or_eq_true, List.contains_iff_mem] at this
  exact this.imp (fun h => Nat.eq_of_beq_eq_true h) fun h => h
 .exact Nat.le_of_ble_eq_true (List.all_eq_true.1 g3 i hi)
 .exfalso
  rw [Array.getD_eq_getD_getElem?] at hi
  rcases Nat.lt_or_ge i (pre ++ [oL]).length with h' | h'
  .rw [Array.getElem?_eq_getElem (by simpa using h')] at hi; simp at hi
  rw [Array.getElem?_eq_none (by simpa using h')] at hi; simp at hi
 .rw [Array.getD_eq_getD_getElem?, Array.getElem?_eq_getElem (by simp)]; simp
 obtain ⟨⟨μ, x1, x2⟩, x3, x4⟩ := hR'
 refine ⟨⟨μ, x1.less fun id hid => ?_, x2⟩, x3, x4⟩
 rcases hid with hid | ⟨k, _, _, rfl⟩
 .simp only [Fr]; omega
 simp [Fr]
end
end Go.E
/- The program's data in plain Lean, and how they stand in cells. Written by a program (gen.py). No condition. -/
namespace Go.E
open Go Go.RowKit Go.Proofs
theorem bq {α β : Type} {o : Option α} {f : α -> Option β} {b : β} {G : Prop} (h : o.bind f = some b) (k : ∀ a, o = some a -> f a = some b -> G) : G := by
 obtain ⟨a, h1, h2⟩ := bd h
 exact k a h1 h2
abbrev bx (l : List DV) : BM := .box (l.map .p)
theorem Z {α : Type} {a : α} : a = a := rfl
theorem AM {σ : Type} {A : BZ} {S : σ -> St} {st : St} {s t : σ} (h : some s = some t) (hw : A0 A st (S s)) : NP A S t .normal st := by
 cases h; exact npn hw
theorem Av {σ Ans : Type} {A : BZ} {S : σ -> St} {Q : Ans -> Exit -> St -> Prop} {st : St} {s : σ} {b : σ ⊕ Ans} (h : some (.inl s) = some b) (hw : A0 A st (S s)) : LP A S Q b .normal st := by
 cases h; exact lpn hw
theorem BG {σ Ans : Type} {A : BZ} {S : σ -> St} {Q : Ans -> Exit -> St -> Prop} {st : St} {x : Ans} {b : σ ⊕ Ans} {id : Nat} (h : some (.inr x) = some b) (k : ∀ a, some x = some a -> Q a (.exit id) st) : LP A S Q b (.exit id) st := by
 cases h; exact lpx (k x rfl)
theorem A4 {σ Ans : Type} {A : BZ} {S : σ -> St} {Q : Ans -> Exit -> St -> Prop} {st : St} {x : Ans} {b : σ ⊕ Ans} (h : some (.inr x) = some b) (k : ∀ a, some x = some a -> Q a .ret st) : LP A S Q b .ret st := by
 cases h; exact lpt (k x rfl)
theorem CU {σ Ans : Type} {A : BZ} {S : σ -> St} {Q : Ans -> Exit -> St -> Prop} {st : St} {o : Option Ans} {b : σ ⊕ Ans} {id : Nat} (h : o.map .inr = some b) (k : ∀ a, o = some a -> Q a (.exit id) st) : LP A S Q b (.exit id) st := by
 obtain ⟨a, h1, rfl⟩ := mp h; exact lpx (k a h1)
theorem ABE {σ Ans : Type} {A : BZ} {S : σ -> St} {Q : Ans -> Exit -> St -> Prop} {st : St} {o : Option Ans} {b : σ ⊕ Ans} (h : o.map .inr = some b) (k : ∀ a, o = some a -> Q a .ret st) : LP A S Q b .ret st := by
 obtain ⟨a, h1, rfl⟩ := mp h; exact lpt (k a h1)

instance : BEq ByteArray := ⟨fun a b => a.toList == b.toList⟩
def AR (n : Int) : Int := IntKind.wrap .i64 n
def Y7 (a b : Int) : Int := IntKind.wrap .i64 (BitVec.ofInt (IntKind.bits .i64) a ^^^ BitVec.ofInt (IntKind.bits .i64) b).toNat
def AW (n : Int) : List DV := [.int .i64 n]
def u8C (n : Int) : List DV := [.int .u8 n]
def AAm (b : Bool) : List DV := [.bool b]
def Fu (s : ByteArray) : List DV := [.str s]
def Ei {α : Type} (sz : Nat) (enc : α -> List DV) (l : List α) : List DV := [.slice sz (l.map enc)]
def AA9 {α : Type} (enc : α -> List DV) (p : Option α) : DV := match p with
 | none => .nilp
 | some x => .place (enc x) 0
structure AF where
 elem : Int
 fin : Int
 deriving DecidableEq
def AK (x : AF) : List DV := [.int .i64 x.elem, .int .i64 x.fin]
theorem Iy (x y : AF) : CX (AK x) (AK y) = (x == y) := by
 rw [Bool.eq_iff_iff]
 rw [beq_iff_eq]
 simp only [AK, CX, Dx, Bool.and_eq_true, beq_iff_eq, Bool.and_true]
 constructor
 .intro h
  obtain ⟨a1, a2⟩ := x; obtain ⟨b1, b2⟩ := y; simp only at h; simp [h]
 rintro rfl; simp
structure Br where
 a : AF
 b : AF
 deriving DecidableEq
def BT (x : Br) : List DV := [.int .i64 x.a.elem, .int .i64 x.a.fin, .int .i64 x.b.elem, .int .i64 x.b.fin]
structure Bp where
 name : ByteArray
 kind : Int
 length : Int
 deriving DecidableEq
def BI (x : Bp) : List DV := [.str x.name, .int .i64 x.kind, .int .i64 x.length]
structure BB where
 name : ByteArray
 at_ : AF
 auto : Bool
 deriving DecidableEq
def A3 (x : BB) : List DV := [.str x.name, .int .i64 x.at_.elem, .int .i64 x.at_.fin, .bool x.auto]
structure B5 where
 name : ByteArray
 elems : (List Int)
 deriving DecidableEq
def BN (x : B5) : List DV := [.str x.name, .slice 1 (x.elems.map AW)]
structure AN where
 elems : (List Bp)
 joins : (List Br)
 signals : (List BB)
 lines : (List B5)
 top : Int
 brake : Int
 margin : Int
 throw : Int
 hard : Bool
 deriving DecidableEq
def AY (x : AN) : List DV := [.slice 3 (x.elems.map BI), .slice 4 (x.joins.map BT), .slice 4 (x.signals.map A3), .slice 2 (x.lines.map BN), .int .i64 x.top, .int .i64 x.brake, .int .i64 x.margin, .int .i64 x.throw, .bool x.hard]
structure DR where
 a0 : Int
 a1 : Int
 deriving DecidableEq
def Gl (x : DR) : List DV := [.int .i64 x.a0, .int .i64 x.a1]
structure BL where
 p : AN
 next : (List (AF × AF))
 reads : (List (AF × Int))
 line : (List (Int × DR))
 lead : (List (Int × Int))
 deriving DecidableEq
def A7 (x : BL) : List DV := [.slice 3 (x.p.elems.map BI), .slice 4 (x.p.joins.map BT), .slice 4 (x.p.signals.map A3), .slice 2 (x.p.lines.map BN), .int .i64 x.p.top, .int .i64 x.p.brake, .int .i64 x.p.margin, .int .i64 x.p.throw, .bool x.p.hard, .map (Ax (fun x => .agg (AK x)) (fun x => .agg (AK x)) x.next), .map (Ax (fun x => .agg (AK x)) (.int .i64) x.reads), .map (Ax (.int .i64) (fun x => .agg (Gl x)) x.line), .map (Ax (.int .i64) (.int .i64) x.lead)]
structure AT where
 elem : Int
 in_ : Int
 out : Int
 deriving DecidableEq
def Ae (x : AT) : List DV := [.int .i64 x.elem, .int .i64 x.in_, .int .i64 x.out]
theorem UI (x y : AT) : CX (Ae x) (Ae y) = (x == y) := by
 rw [Bool.eq_iff_iff]
 rw [beq_iff_eq]
 simp only [Ae, CX, Dx, Bool.and_eq_true, beq_iff_eq, Bool.and_true]
 constructor
 .intro h
  obtain ⟨a1, a2, a3⟩ := x; obtain ⟨b1, b2, b3⟩ := y; simp only at h; simp [h]
 rintro rfl; simp
structure AJ where
 elem : Int
 pos : Int
 deriving DecidableEq
def AP (x : AJ) : List DV := [.int .i64 x.elem, .int .i64 x.pos]
theorem Ni (x y : AJ) : CX (AP x) (AP y) = (x == y) := by
 rw [Bool.eq_iff_iff]
 rw [beq_iff_eq]
 simp only [AP, CX, Dx, Bool.and_eq_true, beq_iff_eq, Bool.and_true]
 constructor
 .intro h
  obtain ⟨a1, a2⟩ := x; obtain ⟨b1, b2⟩ := y; simp only at h; simp [h]
 rintro rfl; simp
structure AO where
 frm : Int
 to : Int
 fin : Int
 steps : (List AT)
 needs : (List AJ)
 guards : (List AJ)
 zone : (List Int)
 holds : (List Int)
 bare : Bool
 deriving DecidableEq
def AZ (x : AO) : List DV := [.int .i64 x.frm, .int .i64 x.to, .int .i64 x.fin, .slice 3 (x.steps.map Ae), .slice 2 (x.needs.map AP), .slice 2 (x.guards.map AP), .slice 1 (x.zone.map AW), .slice 1 (x.holds.map AW), .bool x.bare]
structure BS where
 out : Int
 pos : Int
 deriving DecidableEq
def CP (x : BS) : List DV := [.int .i64 x.out, .int .i64 x.pos]
structure Ng where
 berth : Int
 steps : (List AT)
 pos : (List Int)
 left : (List (List BS))
 deriving DecidableEq
def Sg (x : Ng) : List DV := [.int .i64 x.berth, .slice 3 (x.steps.map Ae), .slice 1 (x.pos.map AW), .slice 1 (x.left.map (Ei 2 CP))]
structure B2 where
 plan : AN
 roads : (List AO)
 deriving DecidableEq
def B4 (x : B2) : List DV := [.slice 3 (x.plan.elems.map BI), .slice 4 (x.plan.joins.map BT), .slice 4 (x.plan.signals.map A3), .slice 2 (x.plan.lines.map BN), .int .i64 x.plan.top, .int .i64 x.plan.brake, .int .i64 x.plan.margin, .int .i64 x.plan.throw, .bool x.plan.hard, .slice 9 (x.roads.map AZ)]
structure Ap where
 p : AN
 r : AO
 met : (List AF)
 deriving DecidableEq
theorem Cc : LZ AE 96 (fun x => .agg (AK x)) := ⟨fun a b => (Iy a b), fun _ => rfl⟩
theorem Lk : LZ AE 3 (.int .i64) := ⟨fun _ _ => rfl, fun _ => rfl⟩
theorem M4 : LZ AE 9 .str := ⟨fun _ _ => rfl, fun _ => rfl⟩
end Go.E
/- Plain functions, and walks in step with them. Written by a program (gen.py). No condition. -/
set_option maxRecDepth 100000
namespace Go.E
open Go Go.RowKit Go.Proofs
noncomputable def Hf (a : Int) (b : Int) (c : Int) (d : Int) : Option Br :=
 some (⟨(⟨a, b⟩ : AF), (⟨c, d⟩ : AF)⟩ : Br)
theorem KZ (a : Int) (b : Int) (c : Int) (d : Int) (r : Br) (h : Hf a b c d = some r) : A5 Tryz.prog 103 [.int .i64 a, .int .i64 b, .int .i64 c, .int .i64 d] (· = .agg (BT r)) := by
 refine fn AA Tryz.func103 Z Z 16 Z [.cell 8 154] Z [(0, .p (.int .i64 a)), (1, .p (.int .i64 b)), (2, .p (.int .i64 c)), (3, .p (.int .i64 d))] Z Z fun A hA => ?_
 unfold Hf at h
 refine rs AA <| rl Z <| rs AA <| rl Z <| AG ?_
 cases h
 exact er Z Le.rfl
noncomputable def Nd : Option AN :=
 (Hf 0 0 1 0).bind fun a => (Hf 1 1 2 0).bind fun b => (Hf 2 1 3 0).bind fun c => (Hf 3 1 5 0).bind fun d => (Hf 2 2 4 0).bind fun e => some (⟨[(⟨(⟨#[87]⟩ : ByteArray), 4, 0⟩ : Bp), (⟨(⟨#[65]⟩ : ByteArray), 1, 20⟩ : Bp), (⟨(⟨#[80]⟩ : ByteArray), 2, 10⟩ : Bp), (⟨(⟨#[66]⟩ : ByteArray), 1, 20⟩ : Bp), (⟨(⟨#[67]⟩ : ByteArray), 1, 30⟩ : Bp), (⟨(⟨#[69]⟩ : ByteArray), 4, 0⟩ : Bp)], [a, b, c, d, e], [(⟨(⟨#[119]⟩ : ByteArray), (⟨0, 0⟩ : AF), false⟩ : BB), (⟨(⟨#[97]⟩ : ByteArray), (⟨1, 1⟩ : AF), false⟩ : BB), (⟨(⟨#[101]⟩ : ByteArray), (⟨5, 0⟩ : AF), false⟩ : BB), (⟨(⟨#[98]⟩ : ByteArray), (⟨3, 0⟩ : AF), false⟩ : BB), (⟨(⟨#[99]⟩ : ByteArray), (⟨4, 0⟩ : AF), false⟩ : BB)], [], 10, 5, 15, 2, false⟩ : AN)
theorem Wi (r : AN) (h : Nd = some r) : A5 Tryz.prog 37 [] (· = .agg (AY r)) := by
 refine fn AA Tryz.func37 Z Z 31 Z [.cell 0 27] Z [] Z Z fun A hA => ?_
 unfold Nd at h
 refine rs AA <| rl Z <| rs AA <| rl Z <| rs AA <| rl Z <| rs AA <| bq h fun l a f => sx Z (AS (KZ _ _ _ _ _ a) (.inl Z) Z Z Z <| bq f fun m b g => sx Z (AS (KZ _ _ _ _ _ b) (.inl Z) Z Z Z <| bq g fun n c i => sx Z (AS (KZ _ _ _ _ _ c) (.inl Z) Z Z Z <| bq i fun o d j => sx Z (AS (KZ _ _ _ _ _ d) (.inl Z) Z Z Z <| bq j fun q e k => sx Z (AS (KZ _ _ _ _ _ e) (.inl Z) Z Z Z <| rl Z <| rs AA <| rl Z <| rs AA <| rl Z <| AG ?_)))))
 cases k
 exact er (GM Z (.agg (.cons (.own (enc := BI) ([(⟨(⟨#[87]⟩ : ByteArray), 4, 0⟩ : Bp), (⟨(⟨#[65]⟩ : ByteArray), 1, 20⟩ : Bp), (⟨(⟨#[80]⟩ : ByteArray), 2, 10⟩ : Bp), (⟨(⟨#[66]⟩ : ByteArray), 1, 20⟩ : Bp), (⟨(⟨#[67]⟩ : ByteArray), 1, 30⟩ : Bp), (⟨(⟨#[69]⟩ : ByteArray), 4, 0⟩ : Bp)] : List Bp) Z Z) (.cons (.own (enc := BT) ([l, m, n, o, q] : List Br) Z Z) (.cons (.own (enc := A3) ([(⟨(⟨#[119]⟩ : ByteArray), (⟨0, 0⟩ : AF), false⟩ : BB), (⟨(⟨#[97]⟩ : ByteArray), (⟨1, 1⟩ : AF), false⟩ : BB), (⟨(⟨#[101]⟩ : ByteArray), (⟨5, 0⟩ : AF), false⟩ : BB), (⟨(⟨#[98]⟩ : ByteArray), (⟨3, 0⟩ : AF), false⟩ : BB), (⟨(⟨#[99]⟩ : ByteArray), (⟨4, 0⟩ : AF), false⟩ : BB)] : List BB) Z Z) (.cons (.p _) (.cons (.p _) (.cons (.p _) (.cons (.p _) (.cons (.p _) (.cons (.p _) .nil))))))))))) (Le.agg' (.cons Le.rfl (.cons Le.rfl (.cons Le.rfl (.cons (Le.nil _) (.cons Le.rfl (.cons Le.rfl (.cons Le.rfl (.cons Le.rfl (.cons Le.rfl .nil))))))))))
noncomputable def IW (b : AN) (a : Int) : Option (Int ⊕ Bool) :=
 bif decide (a < (b.signals.length : Int)) then (Ak b.signals a).bind fun c => bif decide (100 < (c.name.size : Int)) then some (.inr false) else some (.inl (AR (a + 1))) else some (.inr true)
noncomputable def IX (b : AN) (a : Int) : Option (Int ⊕ Bool) :=
 bif decide (a < (b.elems.length : Int)) then (Ak b.elems a).bind fun c => bif decide (100 < (c.name.size : Int)) then some (.inr false) else some (.inl (AR (a + 1))) else (AQ (IW b) 0).map .inr
noncomputable def J9 (b : AN) (a : Int) : Option (Int ⊕ Bool) :=
 bif decide (a < (b.lines.length : Int)) then (((Ak b.lines a).bind fun d => bif decide (60 < (d.elems.length : Int)) then some true else (Ak b.lines a).bind fun e => some (decide (100 < (e.name.size : Int))) : Option (Bool))).bind fun (c : Bool) => bif c then some (.inr false) else some (.inl (AR (a + 1))) else (AQ (IX b) 0).map .inr
noncomputable def Jt (a : AN) : Option Bool :=
 ((bif decide (60 < (a.elems.length : Int)) then some true else bif decide (120 < (a.joins.length : Int)) then some true else bif decide (60 < (a.signals.length : Int)) then some true else some (decide (20 < (a.lines.length : Int))) : Option (Bool))).bind fun (b : Bool) => bif b then some false else AQ (J9 a) 0
theorem YX (b : AN) (r : Bool) (h : Jt b = some r) : A5 Tryz.prog 41 [.agg (AY b)] (· = .bool r) := by
 refine fn AA Tryz.func41 Z Z 83 Z [.tmp 2] Z [(0, .p (.agg (AY b)))] Z Z fun A hA => ?_
 unfold Jt at h
 refine rs AA <| rl Z <| AB <| jb (fun d : Bool => ⟨83, [(1, .lpb 0 0), (27, lb d)], [(0, bx (AY b))], 1⟩) h (fun d u => ?_) (fun d am => ?_)
 .refine rg AA <| rn 2 Z <| sx Z (An Z Z <| rn 2 Z <| gs 10 u Z Z Z (fun v => ?_) (fun ac => ?_))
  .exact rl Z <| AM v (wf hA [(0, 0)] Z Z Z)
  refine rn 2 Z <| sx Z (An Z Z <| rn 3 Z <| gs 16 ac Z Z Z (fun ai => ?_) (fun aj => ?_))
  .exact rl Z <| AM ai (wf hA [(0, 0)] Z Z Z)
  refine rn 2 Z <| sx Z (An Z Z <| rn 3 Z <| gs 22 aj Z Z Z (fun ak => ?_) (fun al => ?_))
  .exact rl Z <| AM ak (wf hA [(0, 0)] Z Z Z)
  exact rn 2 Z <| sx Z (An Z Z <| rl Z <| AM al (wf hA [(0, 0)] Z Z Z))
 refine cd Z am (fun an => ?_) (fun ao => ?_)
 .refine rs AA <| rl Z <| AG <| AI ?_
  cases an
  exact er Z Le.rfl
 refine AD <| AC <| AB <| rs AA <| rl Z <| AH ?_
 apply lp (a := r) (fun c : Int => ⟨83, [(1, .lpb 0 0), (3, li c)], [(0, bx (AY b))], 1⟩) ao
 . exact wf hA [(0, 0)] Z Z Z
 intro c a9 f
 unfold J9 at f
 refine AB <| rs AA <| rn 3 Z <| sx Z (An Z Z <| rl Z <| cd Z f (fun t => ?_) (fun ag => ?_))
 .refine AD <| AC <| AB <| AH <| jb (fun e : Bool => ⟨83, [(1, .lpb 0 0), (3, li c), (52, lb e)], [(0, bx (AY b))], 1⟩) t (fun e w => ?_) (fun e ab => ?_)
  .refine rg AA <| rn 3 Z <| bq w fun bc n x => sx Z (Aj n Z Z Z <| rn 2 Z <| sx Z (An Z Z <| rn 2 Z <| gs 43 x Z Z Z (fun y => ?_) (fun z => ?_)))
   .exact rl Z <| AM y (wf hA [(0, 0)] Z Z Z)
   exact rn 3 Z <| bq z fun be o aa => sx Z (Aj o Z Z Z <| rl Z <| AM aa (wf hA [(0, 0)] Z Z Z))
  refine cd Z ab (fun ad => ?_) (fun af => ?_)
  .refine rs AA <| rl Z <| AG <| AV <| AI <| A4 ad fun a5 ae => AV <| AI ?_
   cases ae
   exact er Z Le.rfl
  exact AD <| Af <| AC <| rg AA <| rl Z <| Av af (wf hA [(0, 0)] Z Z Z)
 refine AU <| Aa <| CU ag fun l ah => Ao <| AC <| AB <| rs AA <| rl Z <| AH ?_
 apply lp (a := l) (fun j : Int => ⟨83, [(1, .lpb 0 0), (4, li j)], [(0, bx (AY b))], 1⟩) ah
 . exact wf hA [(0, 0)] Z Z Z
 intro j ba g
 unfold IX at g
 refine AB <| rs AA <| rn 3 Z <| sx Z (An Z Z <| rl Z <| cd Z g (fun ap => ?_) (fun aw => ?_))
 .refine AD <| AC <| AB <| AH <| rs AA <| rn 3 Z <| bq ap fun bf q aq => sx Z (Aj q Z Z Z <| rl Z <| cd Z aq (fun ar => ?_) (fun av => ?_))
  .refine rs AA <| rl Z <| AG <| AV <| AI <| A4 ar fun a6 au => AV <| AI ?_
   cases au
   exact er Z Le.rfl
  exact AD <| Af <| AC <| rg AA <| rl Z <| Av av (wf hA [(0, 0)] Z Z Z)
 refine AU <| Aa <| CU aw fun m ax => Ao <| AC <| AB <| rs AA <| rl Z <| AH ?_
 apply lp (a := m) (fun k : Int => ⟨83, [(1, .lpb 0 0), (5, li k)], [(0, bx (AY b))], 1⟩) ax
 . exact wf hA [(0, 0)] Z Z Z
 intro k bb i
 unfold IW at i
 refine AB <| rs AA <| rn 3 Z <| sx Z (An Z Z <| rl Z <| cd Z i (fun ay => ?_) (fun a3 => ?_))
 .refine AD <| AC <| AB <| AH <| rs AA <| rn 3 Z <| bq ay fun bg s az => sx Z (Aj s Z Z Z <| rl Z <| cd Z az (fun a0 => ?_) (fun a2 => ?_))
  .refine rs AA <| rl Z <| AG <| AV <| AI <| A4 a0 fun a7 a1 => AV <| AI ?_
   cases a1
   exact er Z Le.rfl
  exact AD <| Af <| AC <| rg AA <| rl Z <| Av a2 (wf hA [(0, 0)] Z Z Z)
 refine AU <| Aa <| BG a3 fun a8 a4 => Ao <| AC <| rs AA <| rl Z <| AG ?_
 cases a4
 exact er Z Le.rfl
noncomputable def E3 (b : AN) (d : (Int × (List ByteArray))) (c : (Int × (List ByteArray))) (a : Int × (List ByteArray)) : Option ((Int × (List ByteArray)) ⊕ ((List ByteArray) × (List ByteArray) × (List ByteArray))) :=
 bif decide (a.1 < (b.lines.length : Int)) then (Ak b.lines a.1).bind fun e => (A8 a.2 [e.name]).bind fun f => some (.inl (AR (a.1 + 1), f)) else some (.inr (d.2, c.2, a.2))
noncomputable def E4 (b : AN) (c : (Int × (List ByteArray))) (a : Int × (List ByteArray)) : Option ((Int × (List ByteArray)) ⊕ ((List ByteArray) × (List ByteArray) × (List ByteArray))) :=
 bif decide (a.1 < (b.signals.length : Int)) then (Ak b.signals a.1).bind fun d => (A8 a.2 [d.name]).bind fun e => some (.inl (AR (a.1 + 1), e)) else (AQ (E3 b c a) (0, ([] : List ByteArray))).map .inr
noncomputable def Gv (b : AN) (a : Int × (List ByteArray)) : Option ((Int × (List ByteArray)) ⊕ ((List ByteArray) × (List ByteArray) × (List ByteArray))) :=
 bif decide (a.1 < (b.elems.length : Int)) then (Ak b.elems a.1).bind fun c => (A8 a.2 [c.name]).bind fun d => some (.inl (AR (a.1 + 1), d)) else (AQ (E4 b a) (0, ([] : List ByteArray))).map .inr
noncomputable def JR (a : AN) : Option ((List ByteArray) × (List ByteArray) × (List ByteArray)) :=
 AQ (Gv a) (0, ([] : List ByteArray))
theorem Wj (e : AN) (r : ((List ByteArray) × (List ByteArray) × (List ByteArray))) (h : JR e = some r) : A5 Tryz.prog 108 [.agg (AY e)] (· = .tup [.slice 1 (r.1.map Fu), .slice 1 (r.2.1.map Fu), .slice 1 (r.2.2.map Fu)]) := by
 refine fn AA Tryz.func108 Z Z 62 Z [.tmp 2, .tmp 3, .tmp 4] Z [(0, .p (.agg (AY e)))] Z Z fun A hA => ?_
 unfold JR at h
 refine rs AA <| rl Z <| rs AA <| rl Z <| AB <| rs AA <| rl Z <| AH ?_
 apply lp (a := r) (fun b : (Int × (List ByteArray)) => ⟨62, [(1, .lpb 0 0), (5, .lsl 1 1 0 b.2.length), (6, .p (.nils)), (7, .p (.nils)), (8, li b.1)], [(0, bx (AY e)), (1, .row 9 1 (b.2.map Fu))], 2⟩) h
 . exact A0.trans (Bm 5 9 1 Z) (wf hA [(0, 0), (1, 1)] Z Z Z)
 intro b aq i
 unfold Gv at i
 refine AB <| rs AA <| rn 3 Z <| sx Z (An Z Z <| rl Z <| cd Z i (fun aj => ?_) (fun x => ?_))
 .exact AD <| AC <| AB <| AH <| rg AA <| rn 4 Z <| bq aj fun ak n v => sx Z (Aj n Z Z Z <| rn 3 Z <| bq v fun ar o w => sx Z (Au (enc := Fu) (l := b.2) (m := [ak.name]) o (fun _ => ⟨Z, Z⟩) Z Z Z Z Z Z <| rl Z <| Af <| AC <| rg AA <| rl Z <| Av w (wf hA [(0, 0), (1, 3)] Z Z Z)))
 refine AU <| Aa <| CU x fun j y => Ao <| AC <| AB <| rs AA <| rl Z <| AH ?_
 apply lp (a := j) (fun c : (Int × (List ByteArray)) => ⟨62, [(1, .lpb 0 0), (5, .lsl 1 1 0 b.2.length), (6, .lsl 2 1 0 c.2.length), (7, .p (.nils)), (9, li c.1)], [(0, bx (AY e)), (1, .row 9 1 (b.2.map Fu)), (2, .row 9 1 (c.2.map Fu))], 3⟩) y
 . exact A0.trans (Bm 6 9 1 Z) (wf hA (gi 3 []) Z Z Z)
 intro c ao f
 unfold E4 at f
 refine AB <| rs AA <| rn 3 Z <| sx Z (An Z Z <| rl Z <| cd Z f (fun z => ?_) (fun ac => ?_))
 .exact AD <| AC <| AB <| AH <| rg AA <| rn 4 Z <| bq z fun al q aa => sx Z (Aj q Z Z Z <| rn 3 Z <| bq aa fun au s ab => sx Z (Au (enc := Fu) (l := c.2) (m := [al.name]) s (fun _ => ⟨Z, Z⟩) Z Z Z Z Z Z <| rl Z <| Af <| AC <| rg AA <| rl Z <| Av ab (wf hA [(0, 0), (1, 1), (2, 4)] Z Z Z)))
 refine AU <| Aa <| CU ac fun k ad => Ao <| AC <| AB <| rs AA <| rl Z <| AH ?_
 apply lp (a := k) (fun d : (Int × (List ByteArray)) => ⟨62, [(1, .lpb 0 0), (5, .lsl 1 1 0 b.2.length), (6, .lsl 2 1 0 c.2.length), (7, .lsl 3 1 0 d.2.length), (10, li d.1)], [(0, bx (AY e)), (1, .row 9 1 (b.2.map Fu)), (2, .row 9 1 (c.2.map Fu)), (3, .row 9 1 (d.2.map Fu))], 4⟩) ad
 . exact A0.trans (Bm 7 9 1 Z) (wf hA (gi 4 []) Z Z Z)
 intro d ap g
 unfold E3 at g
 refine AB <| rs AA <| rn 3 Z <| sx Z (An Z Z <| rl Z <| cd Z g (fun ae => ?_) (fun ah => ?_))
 .exact AD <| AC <| AB <| AH <| rg AA <| rn 4 Z <| bq ae fun am t af => sx Z (Aj t Z Z Z <| rn 3 Z <| bq af fun av u ag => sx Z (Au (enc := Fu) (l := d.2) (m := [am.name]) u (fun _ => ⟨Z, Z⟩) Z Z Z Z Z Z <| rl Z <| Af <| AC <| rg AA <| rl Z <| Av ag (wf hA (gi 3 [(3, 5)]) Z Z Z)))
 refine AU <| Aa <| BG ah fun an ai => Ao <| AC <| rs AA <| rl Z <| AG ?_
 cases ai
 exact er (SZ Z (.cons (.one (.own (enc := Fu) b.2 Z Z)) (.cons (.one (.own (enc := Fu) c.2 Z Z)) (.cons (.one (.own (enc := Fu) d.2 Z Z)) .nil)))) Le.rfl
noncomputable def DH (a : Int) (c : Int) (d : Int) : Option Bool :=
 ((bif decide (c <= a) then some (decide (a <= d)) else some false : Option (Bool))).bind fun (b : Bool) => some b
theorem HD (b : Int) (c : Int) (d : Int) (r : Bool) (h : DH b c d = some r) : A5 Tryz.prog 154 [.int .i64 b, .int .i64 c, .int .i64 d] (· = .bool r) := by
 refine fn AA Tryz.func154 Z Z 15 Z [.tmp 6] Z [(0, .p (.int .i64 b)), (1, .p (.int .i64 c)), (2, .p (.int .i64 d))] Z Z fun A hA => ?_
 unfold DH at h
 refine rs AA <| rl Z <| jb (fun a : Bool => ⟨15, [(6, lb a)], [], 0⟩) h (fun a e => ?_) (fun a i => ?_)
 .refine rg AA <| rn 4 Z <| gs 10 e Z Z Z (fun f => ?_) (fun g => ?_)
  .exact rl Z <| AM f (wf hA [] Z Z Z)
  exact rl Z <| AM g (wf hA [] Z Z Z)
 refine AG ?_
 have hr := Option.some.inj i; subst hr
 exact er Z Le.rfl
noncomputable def Hg (c : ByteArray) (b : Int) : Option (Int ⊕ Bool) :=
 bif decide (b < (c.size : Int)) then (NW c b).bind fun a => ((bif decide (97 <= (a.toNat : Int)) then bif decide ((a.toNat : Int) <= 122) then some true else bif decide (65 <= (a.toNat : Int)) then some (decide ((a.toNat : Int) <= 90)) else some false else bif decide (65 <= (a.toNat : Int)) then some (decide ((a.toNat : Int) <= 90)) else some false : Option (Bool))).bind fun (d : Bool) => ((bif (!d) then bif (b == 0) then some true else bif decide ((a.toNat : Int) < 48) then some true else some (decide (57 < (a.toNat : Int))) else some false : Option (Bool))).bind fun (e : Bool) => bif e then some (.inr false) else some (.inl (AR (b + 1))) else (((bif decide (1 <= (c.size : Int)) then some (decide ((c.size : Int) <= 8)) else some false : Option (Bool))).bind fun (f : Bool) => some f).map .inr
noncomputable def Hh (a : ByteArray) : Option Bool :=
 AQ (Hg a) 0
theorem Ot (b : ByteArray) (r : Bool) (h : Hh b = some r) : A5 Tryz.prog 155 [.str b] (· = .bool r) := by
 refine fn AA Tryz.func155 Z Z 51 Z [.tmp 2] Z [(0, .p (.str b))] Z Z fun A hA => ?_
 unfold Hh at h
 refine rs AA <| rl Z <| AB <| rs AA <| rl Z <| AH ?_
 apply lp (a := r) (fun c : Int => ⟨51, [(0, .p (.str b)), (3, li c)], [], 0⟩) h
 . exact wf hA [] Z Z Z
 intro c ar g
 unfold Hg at g
 refine AB <| rs AA <| rl Z <| cd Z g (fun j => ?_) (fun ai => ?_)
 .refine AD <| AC <| AB <| AH <| rs AA <| rn 2 Z <| bq j fun ao i k => sx Z (Ok i Z Z Z <| rl Z <| jb (fun d : Bool => ⟨51, [(0, .p (.str b)), (3, li c), (4, .p (.int .u8 (ao.toNat : Int))), (5, lb d)], [], 0⟩) k (fun d l => ?_) (fun d w => ?_))
  .refine rg AA <| rn 3 Z <| gs 17 l Z Z Z (fun m => ?_) (fun t => ?_)
   .refine rn 4 Z <| gs 21 m Z Z Z (fun n => ?_) (fun o => ?_)
    .exact rl Z <| AM n (wf hA [] Z Z Z)
    refine rn 3 Z <| gs 24 o Z Z Z (fun q => ?_) (fun s => ?_)
    .exact rl Z <| AM q (wf hA [] Z Z Z)
    exact rl Z <| AM s (wf hA [] Z Z Z)
   refine rn 7 Z <| gs 24 t Z Z Z (fun u => ?_) (fun v => ?_)
   .exact rl Z <| AM u (wf hA [] Z Z Z)
   exact rl Z <| AM v (wf hA [] Z Z Z)
  refine jb (fun e : Bool => ⟨51, [(0, .p (.str b)), (3, li c), (42, lb e)], [], 0⟩) w (fun e x => ?_) (fun e ae => ?_)
  .refine rg AA <| rn 3 Z <| gs 31 x Z Z Z (fun y => ?_) (fun ad => ?_)
   .refine rn 3 Z <| gs 34 y Z Z Z (fun z => ?_) (fun aa => ?_)
    .exact rl Z <| AM z (wf hA [] Z Z Z)
    refine rn 4 Z <| gs 38 aa Z Z Z (fun ab => ?_) (fun ac => ?_)
    .exact rl Z <| AM ab (wf hA [] Z Z Z)
    exact rl Z <| AM ac (wf hA [] Z Z Z)
   exact rl Z <| AM ad (wf hA [] Z Z Z)
  refine cd Z ae (fun af => ?_) (fun ah => ?_)
  .refine rs AA <| rl Z <| AG <| AV <| AI <| A4 af fun ap ag => AV <| AI ?_
   cases ag
   exact er Z Le.rfl
  exact AD <| Af <| AC <| rg AA <| rl Z <| Av ah (wf hA [] Z Z Z)
 refine AU <| Aa <| CU ai fun aq aj => Ao <| AC <| jb (fun f : Bool => ⟨51, [(2, lb f)], [], 0⟩) aj (fun f ak => ?_) (fun f an => ?_)
 .refine rg AA <| rn 4 Z <| gs 46 ak Z Z Z (fun al => ?_) (fun am => ?_)
  .exact rl Z <| AM al (wf hA [] Z Z Z)
  exact rl Z <| AM am (wf hA [] Z Z Z)
 refine AG ?_
 have hr := Option.some.inj an; subst hr
 exact er Z Le.rfl
noncomputable def Hi (a : Int) : Option Int :=
 bif (a == 1) then some 2 else bif (a == 2) then some 3 else bif (a == 3) then some 4 else bif (a == 4) then some 1 else some 0
theorem Ou (a : Int) (r : Int) (h : Hi a = some r) : A5 Tryz.prog 156 [.int .i64 a] (· = .int .i64 r) := by
 refine fn AA Tryz.func156 Z Z 12 Z [.tmp 2] Z [(0, .p (.int .i64 a))] Z Z fun A hA => ?_
 unfold Hi at h
 refine rs AA <| rl Z <| AB <| rs AA <| rl Z <| AH <| rs AA <| rl Z <| cd Z h (fun j => ?_) (fun b => ?_)
 .refine rs AA <| rl Z <| AG <| AV <| AI ?_
  cases j
  exact er Z Le.rfl
 refine rs AA <| rl Z <| cd Z b (fun c => ?_) (fun d => ?_)
 .refine rs AA <| rl Z <| AG <| AV <| AI ?_
  cases c
  exact er Z Le.rfl
 refine rs AA <| rl Z <| cd Z d (fun e => ?_) (fun f => ?_)
 .refine rs AA <| rl Z <| AG <| AV <| AI ?_
  cases e
  exact er Z Le.rfl
 refine rs AA <| rl Z <| cd Z f (fun g => ?_) (fun i => ?_)
 .refine rs AA <| rl Z <| AG <| AV <| AI ?_
  cases g
  exact er Z Le.rfl
 refine AD <| Af <| AC <| rs AA <| rl Z <| AG ?_
 cases i
 exact er Z Le.rfl
noncomputable def Hj (b : AN) (a : Int) : Option (Int ⊕ Bool) :=
 bif decide (a < (b.lines.length : Int)) then (Ak b.lines a).bind fun c => (Hh c.name).bind fun d => bif (!d) then some (.inr false) else some (.inl (AR (a + 1))) else some (.inr true)
noncomputable def Hk (b : AN) (a : Int) : Option (Int ⊕ Bool) :=
 bif decide (a < (b.signals.length : Int)) then (Ak b.signals a).bind fun c => (Hh c.name).bind fun d => bif (!d) then some (.inr false) else some (.inl (AR (a + 1))) else (AQ (Hj b) 0).map .inr
noncomputable def Hl (c : AN) (b : Int) : Option (Int ⊕ Bool) :=
 bif decide (b < (c.elems.length : Int)) then (Ak c.elems b).bind fun a => (((Hh a.name).bind fun e => bif (!e) then some true else (Hi a.kind).bind fun f => bif (f == 0) then some true else bif (a.kind == 4) then bif (a.length != 0) then some true else bif (a.kind != 4) then (DH a.length 1 4000).bind fun g => some (!g) else some false else bif (a.kind != 4) then (DH a.length 1 4000).bind fun h => some (!h) else some false : Option (Bool))).bind fun (d : Bool) => bif d then some (.inr false) else some (.inl (AR (b + 1))) else (AQ (Hk c) 0).map .inr
noncomputable def Ka (a : AN) : Option Bool :=
 (((DH a.top 1 60).bind fun c => bif (!c) then some true else (DH a.brake 1 10).bind fun d => bif (!d) then some true else (DH a.margin 1 4000).bind fun e => bif (!e) then some true else (DH a.throw 1 20).bind fun f => bif (!f) then some true else some ((a.elems.length : Int) == 0) : Option (Bool))).bind fun (b : Bool) => bif b then some false else AQ (Hl a) 0
theorem Xb (b : AN) (r : Bool) (h : Ka b = some r) : A5 Tryz.prog 109 [.agg (AY b)] (· = .bool r) := by
 refine fn AA Tryz.func109 Z Z 108 Z [.tmp 2] Z [(0, .p (.agg (AY b)))] Z Z fun A hA => ?_
 unfold Ka at h
 refine rs AA <| rl Z <| AB <| jb (fun d : Bool => ⟨108, [(1, .lpb 0 0), (34, lb d)], [(0, bx (AY b))], 1⟩) h (fun d aj => ?_) (fun d bo => ?_)
 .refine rg AA <| rn 2 Z <| bq aj fun cc q ak => sx Z (AS (HD _ _ _ _ q) (.inl Z) Z Z Z <| rn 2 Z <| gs 11 ak Z Z Z (fun al => ?_) (fun am => ?_))
  .exact rl Z <| AM al (wf hA [(0, 0)] Z Z Z)
  refine rn 2 Z <| bq am fun ce s ao => sx Z (AS (HD _ _ _ _ s) (.inl Z) Z Z Z <| rn 3 Z <| gs 17 ao Z Z Z (fun ap => ?_) (fun aq => ?_))
  .exact rl Z <| AM ap (wf hA [(0, 0)] Z Z Z)
  refine rn 2 Z <| bq aq fun cf t ar => sx Z (AS (HD _ _ _ _ t) (.inl Z) Z Z Z <| rn 3 Z <| gs 23 ar Z Z Z (fun av => ?_) (fun aw => ?_))
  .exact rl Z <| AM av (wf hA [(0, 0)] Z Z Z)
  refine rn 2 Z <| bq aw fun cj x bc => sx Z (AS (HD _ _ _ _ x) (.inl Z) Z Z Z <| rn 3 Z <| gs 29 bc Z Z Z (fun bl => ?_) (fun bn => ?_))
  .exact rl Z <| AM bl (wf hA [(0, 0)] Z Z Z)
  exact rn 2 Z <| sx Z (An Z Z <| rl Z <| AM bn (wf hA [(0, 0)] Z Z Z))
 refine cd Z bo (fun bp => ?_) (fun br => ?_)
 .refine rs AA <| rl Z <| AG <| AI ?_
  cases bp
  exact er Z Le.rfl
 refine AD <| AC <| AB <| rs AA <| rl Z <| AH ?_
 apply lp (a := r) (fun c : Int => ⟨108, [(1, .lpb 0 0), (3, li c)], [(0, bx (AY b))], 1⟩) br
 . exact wf hA [(0, 0)] Z Z Z
 intro c b7 f
 unfold Hl at f
 refine AB <| rs AA <| rn 3 Z <| sx Z (An Z Z <| rl Z <| cd Z f (fun an => ?_) (fun bk => ?_))
 .refine AD <| AC <| AB <| AH <| rs AA <| rn 3 Z <| bq an fun cg u au => sx Z (Aj u Z Z Z <| rl Z <| jb (fun e : Bool => ⟨108, [(1, .lpb 0 0), (3, li c), (77, lb e)], [(0, bx (AY b))], 1⟩) au (fun e ax => ?_) (fun e bg => ?_))
  .refine rg AA <| rn 2 Z <| bq ax fun ch v ay => sx Z (AS (Ot _ _ v) (.inl Z) Z Z Z <| rn 2 Z <| gs 51 ay Z Z Z (fun az => ?_) (fun a0 => ?_))
   .exact rl Z <| AM az (wf hA [(0, 0)] Z Z Z)
   refine rn 2 Z <| bq a0 fun ci w a1 => sx Z (AS (Ou _ _ w) (.inl Z) Z Z Z <| rn 3 Z <| gs 57 a1 Z Z Z (fun a2 => ?_) (fun a3 => ?_))
   .exact rl Z <| AM a2 (wf hA [(0, 0)] Z Z Z)
   refine rn 4 Z <| gs 61 a3 Z Z Z (fun a4 => ?_) (fun ba => ?_)
   .refine rn 6 Z <| gs 67 a4 Z Z Z (fun a5 => ?_) (fun a6 => ?_)
    .exact rl Z <| AM a5 (wf hA [(0, 0)] Z Z Z)
    refine rn 4 Z <| gs 71 a6 Z Z Z (fun a7 => ?_) (fun a9 => ?_)
    .exact rn 2 Z <| bq a7 fun ck y a8 => sx Z (AS (HD _ _ _ _ y) (.inl Z) Z Z Z <| rl Z <| AM a8 (wf hA [(0, 0)] Z Z Z))
    exact rl Z <| AM a9 (wf hA [(0, 0)] Z Z Z)
   refine rn 10 Z <| gs 71 ba Z Z Z (fun bb => ?_) (fun bf => ?_)
   .exact rn 2 Z <| bq bb fun cl z be => sx Z (AS (HD _ _ _ _ z) (.inl Z) Z Z Z <| rl Z <| AM be (wf hA [(0, 0)] Z Z Z))
   exact rl Z <| AM bf (wf hA [(0, 0)] Z Z Z)
  refine cd Z bg (fun bh => ?_) (fun bj => ?_)
  .refine rs AA <| rl Z <| AG <| AV <| AI <| A4 bh fun b5 bi => AV <| AI ?_
   cases bi
   exact er Z Le.rfl
  exact AD <| Af <| AC <| rg AA <| rl Z <| Av bj (wf hA [(0, 0)] Z Z Z)
 refine AU <| Aa <| CU bk fun l bm => Ao <| AC <| AB <| rs AA <| rl Z <| AH ?_
 apply lp (a := l) (fun j : Int => ⟨108, [(1, .lpb 0 0), (5, li j)], [(0, bx (AY b))], 1⟩) bm
 . exact wf hA [(0, 0)] Z Z Z
 intro j b8 g
 unfold Hk at g
 refine AB <| rs AA <| rn 3 Z <| sx Z (An Z Z <| rl Z <| cd Z g (fun bs => ?_) (fun b0 => ?_))
 .refine AD <| AC <| AB <| AH <| rs AA <| rn 3 Z <| bq bs fun cm aa bt => sx Z (Aj aa Z Z Z <| rn 2 Z <| bq bt fun cn ab bu => sx Z (AS (Ot _ _ ab) (.inl Z) Z Z Z <| rl Z <| cd Z bu (fun bv => ?_) (fun bz => ?_)))
  .refine rs AA <| rl Z <| AG <| AV <| AI <| A4 bv fun b6 bw => AV <| AI ?_
   cases bw
   exact er Z Le.rfl
  exact AD <| Af <| AC <| rg AA <| rl Z <| Av bz (wf hA [(0, 0)] Z Z Z)
 refine AU <| Aa <| CU b0 fun m b1 => Ao <| AC <| AB <| rs AA <| rl Z <| AH ?_
 apply lp (a := m) (fun k : Int => ⟨108, [(1, .lpb 0 0), (6, li k)], [(0, bx (AY b))], 1⟩) b1
 . exact wf hA [(0, 0)] Z Z Z
 intro k b9 i
 unfold Hj at i
 refine AB <| rs AA <| rn 3 Z <| sx Z (An Z Z <| rl Z <| cd Z i (fun b2 => ?_) (fun ah => ?_))
 .refine AD <| AC <| AB <| AH <| rs AA <| rn 3 Z <| bq b2 fun ca n ac => sx Z (Aj n Z Z Z <| rn 2 Z <| bq ac fun cb o ad => sx Z (AS (Ot _ _ o) (.inl Z) Z Z Z <| rl Z <| cd Z ad (fun ae => ?_) (fun ag => ?_)))
  .refine rs AA <| rl Z <| AG <| AV <| AI <| A4 ae fun b3 af => AV <| AI ?_
   cases af
   exact er Z Le.rfl
  exact AD <| Af <| AC <| rg AA <| rl Z <| Av ag (wf hA [(0, 0)] Z Z Z)
 refine AU <| Aa <| BG ah fun b4 ai => Ao <| AC <| rs AA <| rl Z <| AG ?_
 cases ai
 exact er Z Le.rfl
noncomputable def Gw (c : (List ByteArray)) (a : Int) (b : Int) : Option (Int ⊕ (Int ⊕ Bool)) :=
 bif decide (b < a) then (Ak c a).bind fun d => (Ak c b).bind fun e => bif (d.toList == e.toList) then some (.inr (.inr true)) else some (.inl (AR (b + 1))) else some (.inr (.inl (AR (a + 1))))
noncomputable def Io (b : (List ByteArray)) (a : Int) : Option (Int ⊕ Bool) :=
 bif decide (a < (b.length : Int)) then AQ (Gw b a) 0 else some (.inr false)
noncomputable def Gh (a : (List ByteArray)) : Option Bool :=
 AQ (Io a) 0
theorem Nf (b : (List ByteArray)) (r : Bool) (h : Gh b = some r) : A5 Tryz.prog 110 [.slice 1 (b.map Fu)] (· = .bool r) := by
 refine fn AA Tryz.func110 Z Z 25 Z [.tmp 2] Z [(0, .p (.slice 1 (b.map Fu)))] Z Z fun A hA => ?_
 unfold Gh at h
 refine rs AA <| rl Z <| AB <| rs AA <| rl Z <| AH ?_
 apply lp (a := r) (fun c : Int => ⟨25, [(0, ls 1 Fu b), (3, li c)], [], 0⟩) h
 . exact wf hA [] Z Z Z
 intro c g d
 unfold Io at d
 refine AB <| rs AA <| rn 2 Z <| sx Z (An Z Z <| rl Z <| cd Z d (fun k => ?_) (fun w => ?_))
 .refine AD <| AC <| AB <| AH <| rs AA <| rl Z <| AH ?_
  apply lp (a := g) (fun f : Int => ⟨25, [(0, ls 1 Fu b), (3, li c), (4, li f)], [], 0⟩) k
  . exact wf hA [] Z Z Z
  intro f ac e
  unfold Gw at e
  refine AB <| rs AA <| rl Z <| cd Z e (fun l => ?_) (fun u => ?_)
  .refine AD <| AC <| AB <| AH <| AB ?_
   refine Bb AA Az [0, 1, 2, 3, 4, 5, 6, 7, 8] 9 (by kernel_rfl) Z Z Z ?_
   refine Am 2 Z <| bq l fun ad i m => Al Z (AX Z (Aj i Z Z Z <| Am 3 Z <| bq m fun ae j n => Al Z (AX Z (Aj j Z Z Z <| A1 Z <| AC <| cd Z n (fun o => ?_) (fun t => ?_)))))
   .refine rs AA <| rl Z <| AG <| AV <| AI <| A4 o fun y q => AV <| AV <| AI <| A4 q fun z s => AV <| AI ?_
    cases s
    exact er Z Le.rfl
   exact AD <| Af <| AC <| rg AA <| rl Z <| Av t (wf hA [] Z Z Z)
  exact AU <| Aa <| BG u fun aa v => Ao <| Af <| AC <| rg AA <| rl Z <| Av v (wf hA [] Z Z Z)
 refine AU <| Aa <| BG w fun ab x => Ao <| AC <| rs AA <| rl Z <| AG ?_
 cases x
 exact er Z Le.rfl
end Go.E
/- Plain functions, and walks in step with them. Written by a program (gen.py). No condition. -/
set_option maxRecDepth 100000
namespace Go.E
open Go Go.RowKit Go.Proofs
noncomputable def Iz (b : AN) (a : AF) : Option Bool :=
 ((bif decide (0 <= a.elem) then bif decide (a.elem < (b.elems.length : Int)) then bif decide (0 <= a.fin) then (Ak b.elems a.elem).bind fun d => (Hi d.kind).bind fun e => some (decide (a.fin < e)) else some false else some false else some false : Option (Bool))).bind fun (c : Bool) => some c
theorem QI (b : AN) (c : AF) (r : Bool) (h : Iz b c = some r) : A5 Tryz.prog 157 [.agg (AY b), .agg (AK c)] (· = .bool r) := by
 refine fn AA Tryz.func157 Z Z 34 Z [.tmp 4] Z [(0, .p (.agg (AY b))), (1, .p (.agg (AK c)))] Z Z fun A hA => ?_
 unfold Iz at h
 refine rs AA <| rl Z <| jb (fun a : Bool => ⟨34, [(4, lb a)], [], 0⟩) h (fun a f => ?_) (fun a q => ?_)
 .refine Bb AA Az [0, 1, 2, 3, 4, 5, 6, 7, 8, 9, 10, 11, 12, 13, 14, 15, 16, 17, 18, 19, 20, 21, 22, 23, 24, 25, 26, 27, 28, 29] 30 (by kernel_rfl) Z Z Z ?_
  refine Am 4 Z <| DJ 8 f Z Z Z (fun g => ?_) (fun o => ?_)
  .refine Am 4 Z <| Al Z (Oj Z Z <| Am 3 Z <| DJ 16 g Z Z Z (fun i => ?_) (fun n => ?_))
   .refine Am 5 Z <| DJ 21 i Z Z Z (fun j => ?_) (fun m => ?_)
    .exact Am 6 Z <| bq j fun s d k => Al Z (AX Z (Aj d Z Z Z <| Am 2 Z <| bq k fun t e l => Al Z (BA (Ou _ _ e) (.inl Z) Z Z Z <| A1 Z <| AM l (wf hA [] Z Z Z))))
    exact A1 Z <| AM m (wf hA [] Z Z Z)
   exact A1 Z <| AM n (wf hA [] Z Z Z)
  exact A1 Z <| AM o (wf hA [] Z Z Z)
 refine AG ?_
 have hr := Option.some.inj q; subst hr
 exact er Z Le.rfl
noncomputable def JV (d : AN) (e : AF) (c : Int) : Option (Int ⊕ (AF × Bool)) :=
 bif decide (c < (d.joins.length : Int)) then (Ak d.joins c).bind fun f => bif (f.a == e) then (Ak d.joins c).bind fun g => some (.inr (g.b, true)) else (Ak d.joins c).bind fun h => bif (h.b == e) then (Ak d.joins c).bind fun i => some (.inr (i.a, true)) else some (.inl (AR (c + 1))) else some (.inr ((⟨0, 0⟩ : AF), false))
noncomputable def CF (a : AN) (b : AF) : Option (AF × Bool) :=
 AQ (JV a b) 0
theorem Cj (d : AN) (c : AF) (r : (AF × Bool)) (h : CF d c = some r) : A5 Tryz.prog 104 [.agg (AY d), .agg (AK c)] (· = .tup [.agg (AK r.1), .bool r.2]) := by
 refine fn AA Tryz.func104 Z Z 43 Z [.cell 4 96, .tmp 5] Z [(0, .p (.agg (AY d))), (1, .p (.agg (AK c)))] Z Z fun A hA => ?_
 unfold CF at h
 refine rs AA <| rl Z <| AB <| rs AA <| rl Z <| AH ?_
 apply lp (a := r) (fun f : Int => ⟨43, [(2, .lpb 0 0), (3, .lpb 1 0), (4, .lpb 2 0), (6, li f)], [(0, bx (AY d)), (1, .box [li c.elem, li c.fin]), (2, .box [li 0, li 0])], 3⟩) h
 . exact wf hA (gi 3 []) Z Z Z
 intro f af e
 unfold JV at e
 refine AB <| rs AA <| rn 3 Z <| sx Z (An Z Z <| rl Z <| cd Z e (fun l => ?_) (fun y => ?_))
 .refine AD <| AC <| AB <| AH <| AB <| AB ?_
  refine Bb AA Az [0, 1, 2, 3, 4, 5, 6, 7] 8 (by kernel_rfl) Z Z Z ?_
  refine Am 3 Z <| bq l fun aa g m => Al Z (AX Z (Aj g Z Z Z <| Am 3 Z <| Al Z (La (Iy aa.a c) Z Z Z Z Z <| A1 Z <| AC <| cd Z m (fun n => ?_) (fun s => ?_))))
  .refine rs AA <| rn 3 Z <| bq n fun ag i o => sx Z (Aj i Z Z Z <| rl Z <| AG <| AI <| AV <| AI <| A4 o fun ac q => AV <| AI ?_)
   cases q
   exact er Z Le.rfl
  refine AD <| AC <| AB ?_
  refine Bb AA Az [0, 1, 2, 3, 4, 5, 6, 7] 8 (by kernel_rfl) Z Z Z ?_
  refine Am 3 Z <| bq s fun ab j t => Al Z (AX Z (Aj j Z Z Z <| Am 3 Z <| Al Z (La (Iy ab.b c) Z Z Z Z Z <| A1 Z <| AC <| cd Z t (fun u => ?_) (fun x => ?_))))
  .refine rs AA <| rn 3 Z <| bq u fun ah k v => sx Z (Aj k Z Z Z <| rl Z <| AG <| AV <| AI <| A4 v fun ad w => AV <| AI ?_)
   cases w
   exact er Z Le.rfl
  exact AD <| Af <| AC <| rg AA <| rl Z <| Av x (wf hA (gi 3 []) Z Z Z)
 refine AU <| Aa <| BG y fun ae z => Ao <| AC <| rs AA <| rl Z <| AG ?_
 cases z
 exact er Z Le.rfl
noncomputable def DX (b : AN) (a : Int) : Option Int :=
 ((bif decide (a < 0) then some true else some (decide ((b.elems.length : Int) <= a)) : Option (Bool))).bind fun (c : Bool) => bif c then some 0 else (Ak b.elems a).bind fun d => some d.kind
theorem GQ (a : AN) (b : Int) (r : Int) (h : DX a b = some r) : A5 Tryz.prog 144 [.agg (AY a), .int .i64 b] (· = .int .i64 r) := by
 refine fn AA Tryz.func144 Z Z 20 Z [.tmp 4] Z [(0, .p (.agg (AY a))), (1, .p (.int .i64 b))] Z Z fun A hA => ?_
 unfold DX at h
 refine rs AA <| rl Z <| AB <| jb (fun c : Bool => ⟨20, [(1, li b), (2, .lpb 0 0), (13, lb c)], [(0, bx (AY a))], 1⟩) h (fun c e => ?_) (fun c i => ?_)
 .refine rg AA <| rn 3 Z <| gs 7 e Z Z Z (fun f => ?_) (fun g => ?_)
  .exact rl Z <| AM f (wf hA [(0, 0)] Z Z Z)
  exact rn 3 Z <| sx Z (An Z Z <| rl Z <| AM g (wf hA [(0, 0)] Z Z Z))
 refine cd Z i (fun j => ?_) (fun k => ?_)
 .refine rs AA <| rl Z <| AG <| AI ?_
  cases j
  exact er Z Le.rfl
 refine AD <| AC <| rs AA <| rn 3 Z <| bq k fun m d l => sx Z (Aj d Z Z Z <| rl Z <| AG ?_)
 cases l
 exact er Z Le.rfl
noncomputable def F5 (c : (Int × (List AF))) (b : Int) (a : Int) : Option (Int ⊕ (Int ⊕ Bool)) :=
 bif decide (a < b) then (Ak c.2 a).bind fun d => (Ak c.2 b).bind fun e => bif (d == e) then some (.inr (.inr false)) else some (.inl (AR (a + 1))) else some (.inr (.inl (AR (b + 1))))
noncomputable def F6 (b : AN) (a : Int) : Option (Int ⊕ Bool) :=
 bif decide (a < (b.elems.length : Int)) then JJ (((Ak b.elems a).bind fun e => bif (e.kind == 4) then (CF b (⟨a, 0⟩ : AF)).bind fun c => ((bif (!c.2) then some true else (DX b c.1.elem).bind fun f => some (f == 4) : Option (Bool))).bind fun (d : Bool) => bif d then some (.inr (.inr false)) else some (.inl ()) else some (.inl ()) : Option (Unit ⊕ (Int ⊕ Bool)))) fun (g : Unit) => some (.inl (AR (a + 1))) else some (.inr true)
noncomputable def F7 (c : AN) (a : (Int × (List AF))) (b : Int) : Option (Int ⊕ Bool) :=
 bif decide (b < (a.2.length : Int)) then (Ak a.2 b).bind fun d => (Iz c d).bind fun e => bif (!e) then some (.inr false) else AQ (F5 a b) 0 else (AQ (F6 c) 0).map .inr
noncomputable def IC (d : AN) (c : Int × (List AF)) : Option ((Int × (List AF)) ⊕ Bool) :=
 bif decide (c.1 < (d.joins.length : Int)) then (Ak d.joins c.1).bind fun e => (Ak d.joins c.1).bind fun f => (A8 c.2 [e.a, f.b]).bind fun g => some (.inl (AR (c.1 + 1), g)) else (AQ (F7 d c) 0).map .inr
noncomputable def Ic (a : AN) : Option Bool :=
 AQ (IC a) (0, ([] : List AF))
theorem VQ (d : AN) (r : Bool) (h : Ic d = some r) : A5 Tryz.prog 111 [.agg (AY d)] (· = .bool r) := by
 refine fn AA Tryz.func111 Z Z 89 Z [.tmp 2] Z [(0, .p (.agg (AY d)))] Z Z fun A hA => ?_
 unfold Ic at h
 refine rs AA <| rl Z <| rs AA <| rl Z <| AB <| rs AA <| rl Z <| AH ?_
 apply lp (a := r) (fun c : (Int × (List AF)) => ⟨89, [(1, .lpb 0 0), (3, .lsl 1 2 0 c.2.length), (4, li c.1)], [(0, bx (AY d)), (1, .row 96 2 (c.2.map AK))], 2⟩) h
 . exact A0.trans (Bm 3 96 2 Z) (wf hA [(0, 0), (1, 1)] Z Z Z)
 intro c b2 o
 unfold IC at o
 refine AB <| rs AA <| rn 3 Z <| sx Z (An Z Z <| rl Z <| cd Z o (fun ag => ?_) (fun aw => ?_))
 .refine AD <| AC <| AB <| AH ?_
  refine Bb AA Az [0, 1, 2, 3, 4, 5, 6, 7, 8, 9, 10, 11, 12, 13, 14, 15] 16 (by kernel_rfl) Z Z Z ?_
  exact Am 4 Z <| bq ag fun bo z am => Al Z (AX Z (Aj z Z Z Z <| Am 5 Z <| bq am fun bp aa an => Al Z (AX Z (Aj aa Z Z Z <| Am 3 Z <| bq an fun b7 ab ap => Al Z (BY (Au (enc := AK) (l := c.2) (m := [bo.a, bp.b]) ab (fun _ => ⟨Z, Z⟩) Z Z Z Z Z Z <| A1 Z <| Af <| AC <| rg AA <| rl Z <| Av ap (wf hA [(0, 0), (1, 16)] Z Z Z)))))))
 refine AU <| Aa <| CU aw fun v a3 => Ao <| AC <| AB <| rs AA <| rl Z <| AH ?_
 apply lp (a := v) (fun f : Int => ⟨89, [(1, .lpb 0 0), (3, .lsl 1 2 0 c.2.length), (5, li f)], [(0, bx (AY d)), (1, .row 96 2 (c.2.map AK))], 2⟩) a3
 . exact wf hA [(0, 0), (1, 1)] Z Z Z
 intro f w n
 unfold F7 at n
 refine AB <| rs AA <| rl Z <| cd Z n (fun af => ?_) (fun a1 => ?_)
 .refine AD <| AC <| AB <| AH <| AB <| AB ?_
  refine Bb AA Az [0, 1, 2, 3, 4, 5, 6] 7 (by kernel_rfl) Z Z Z ?_
  refine Am 3 Z <| bq af fun b5 i ah => Al Z (AX Z (Bf i Z Z Z Z <| Al Z (FE Z (Cl i Z Z Z <| bq ah fun b6 y ai => Al Z (BA (QI _ _ _ y) (.inl Z) Z Z Z <| A1 Z <| AC <| cd Z ai (fun aj => ?_) (fun al => ?_))))))
  .refine rs AA <| rl Z <| AG <| AI <| AV <| AI <| A4 aj fun bt ak => AV <| AI ?_
   cases ak
   exact er Z Le.rfl
  refine AD <| AC <| rs AA <| rl Z <| AH ?_
  apply lp (a := w) (fun t : Int => ⟨89, [(1, .lpb 0 0), (3, .lsl 1 2 0 c.2.length), (5, li f), (6, li t)], [(0, bx (AY d)), (1, .row 96 2 (c.2.map AK))], 2⟩) al
  . exact wf hA [(0, 0), (1, 1)] Z Z Z
  intro t b3 q
  unfold F5 at q
  refine AB <| rs AA <| rl Z <| cd Z q (fun ao => ?_) (fun az => ?_)
  .refine AD <| AC <| AB <| AH <| AB ?_
   refine Bb AA Az [0, 1, 2, 3, 4, 5, 6, 7, 8] 9 (by kernel_rfl) Z Z Z ?_
   refine Am 2 Z <| bq ao fun br j aq => Al Z (AX Z (Bf j Z Z Z Z <| Al Z (FE Z (Cl j Z Z Z <| Am 2 Z <| bq aq fun bs k ar => Al Z (AX Z (Bf k Z Z Z Z <| Al Z (FE Z (Cl k Z Z Z <| Al Z (La (Iy br bs) Z Z Z Z Z <| A1 Z <| AC <| cd Z ar (fun au => ?_) (fun ay => ?_))))))))))
   .refine rs AA <| rl Z <| AG <| AV <| AI <| A4 au fun bu av => AV <| AV <| AI <| A4 av fun bv ax => AV <| AI ?_
    cases ax
    exact er Z Le.rfl
   exact AD <| Af <| AC <| rg AA <| rl Z <| Av ay (wf hA [(0, 0), (1, 1)] Z Z Z)
  exact AU <| Aa <| BG az fun bw a0 => Ao <| Af <| AC <| rg AA <| rl Z <| Av a0 (wf hA [(0, 0), (1, 1)] Z Z Z)
 refine AU <| Aa <| CU a1 fun u a2 => Ao <| AC <| AB <| rs AA <| rl Z <| AH ?_
 apply lp (a := u) (fun e : Int => ⟨89, [(1, .lpb 0 0), (7, li e)], [(0, bx (AY d))], 1⟩) a2
 . exact wf hA [(0, 0)] Z Z Z
 intro e x s
 unfold F6 at s
 refine AB <| rs AA <| rn 3 Z <| sx Z (An Z Z <| rl Z <| cd Z s (fun a4 => ?_) (fun bl => ?_))
 .refine AD <| AC ?_
  apply jn (a := x) (fun bn : Unit => ⟨89, [(1, .lpb 0 0), (7, li e)], [(0, bx (AY d))], 1⟩) a4
  .intro b4 a5
   refine AH <| rs AA <| rn 3 Z <| bq a5 fun b8 ac a6 => sx Z (Aj ac Z Z Z <| rl Z <| cd Z a6 (fun a7 => ?_) (fun bj => ?_))
   .refine rs AA <| rn 3 Z <| bq a7 fun b9 ad a8 => sx Z (AS (Cj _ _ _ ad) (.inl Z) Z Z Z <| rl Z <| jb (fun g : Bool => ⟨89, [(1, .lpb 0 0), (7, li e), (88, lb g)], [(0, bx (AY d))], 1⟩) a8 (fun g a9 => ?_) (fun g be => ?_))
    .refine rg AA <| rn 3 Z <| gs 82 a9 Z Z Z (fun ba => ?_) (fun bb => ?_)
     .exact rl Z <| AM ba (wf hA [(0, 0)] Z Z Z)
     exact rn 3 Z <| bq bb fun ca ae bc => sx Z (AS (GQ _ _ _ ae) (.inl Z) Z Z Z <| rl Z <| AM bc (wf hA [(0, 0)] Z Z Z))
    refine cd Z be (fun bf => ?_) (fun bi => ?_)
    .refine rs AA <| rl Z <| AG <| AV <| A4 bf fun bz bg => A4 bg fun b0 bh => AV <| AI ?_
     cases bh
     exact er Z Le.rfl
    exact AD <| Af <| Av bi (wf hA [(0, 0)] Z Z Z)
   exact AD <| Af <| Av bj (wf hA [(0, 0)] Z Z Z)
  intro bn bk
  exact rg AA <| rl Z <| Av bk (wf hA [(0, 0)] Z Z Z)
 refine AU <| Aa <| BG bl fun b1 bm => Ao <| AC <| rs AA <| rl Z <| AG ?_
 cases bm
 exact er Z Le.rfl
noncomputable def Iq (b : AN) (c : AF) (a : Int) : Option (Int ⊕ Int) :=
 bif decide (a < (b.signals.length : Int)) then (Ak b.signals a).bind fun d => bif (d.at_ == c) then some (.inr a) else some (.inl (AR (a + 1))) else some (.inr (-1))
noncomputable def DK (a : AN) (b : AF) : Option Int :=
 AQ (Iq a b) 0
theorem Gj (c : AN) (b : AF) (r : Int) (h : DK c b = some r) : A5 Tryz.prog 146 [.agg (AY c), .agg (AK b)] (· = .int .i64 r) := by
 refine fn AA Tryz.func146 Z Z 22 Z [.tmp 4] Z [(0, .p (.agg (AY c))), (1, .p (.agg (AK b)))] Z Z fun A hA => ?_
 unfold DK at h
 refine rs AA <| rl Z <| AB <| rs AA <| rl Z <| AH ?_
 apply lp (a := r) (fun e : Int => ⟨22, [(2, .lpb 0 0), (3, .lpb 1 0), (5, li e)], [(0, bx (AY c)), (1, .box [li b.elem, li b.fin])], 2⟩) h
 . exact wf hA [(0, 0), (1, 1)] Z Z Z
 intro e t d
 unfold Iq at d
 refine AB <| rs AA <| rn 3 Z <| sx Z (An Z Z <| rl Z <| cd Z d (fun n => ?_) (fun l => ?_))
 .refine AD <| AC <| AB <| AH <| AB ?_
  refine Bb AA Az [0, 1, 2, 3, 4, 5, 6, 7] 8 (by kernel_rfl) Z Z Z ?_
  refine Am 3 Z <| bq n fun o f g => Al Z (AX Z (Aj f Z Z Z <| Am 3 Z <| Al Z (La (Iy o.at_ b) Z Z Z Z Z <| A1 Z <| AC <| cd Z g (fun i => ?_) (fun k => ?_))))
  .refine rs AA <| rl Z <| AG <| AV <| AI <| A4 i fun q j => AV <| AI ?_
   have hr := Option.some.inj j; subst hr
   exact er Z Le.rfl
  exact AD <| Af <| AC <| rg AA <| rl Z <| Av k (wf hA [(0, 0), (1, 1)] Z Z Z)
 refine AU <| Aa <| BG l fun s m => Ao <| AC <| rs AA <| rl Z <| AG ?_
 cases m
 exact er Z Le.rfl
noncomputable def FL (b : AN) (a : Int) : Option (Int ⊕ Bool) :=
 bif decide (a < (b.elems.length : Int)) then (((Ak b.elems a).bind fun d => bif (d.kind == 4) then (DK b (⟨a, 0⟩ : AF)).bind fun e => some (decide (e < 0)) else some false : Option (Bool))).bind fun (c : Bool) => bif c then some (.inr false) else some (.inl (AR (a + 1))) else some (.inr true)
noncomputable def HT (a : AN) (b : Int) : Option (Int ⊕ Bool) :=
 bif decide (b < (a.signals.length : Int)) then (Ak a.signals b).bind fun c => (DX a c.at_.elem).bind fun d => (((Iz a c.at_).bind fun h => bif (!h) then some true else bif (d != 1) then some (d != 4) else some false : Option (Bool))).bind fun (f : Bool) => bif f then some (.inr false) else (CF a c.at_).bind fun e => ((bif (!e.2) then some true else (DX a e.1.elem).bind fun i => bif (i == 4) then some true else (DK a c.at_).bind fun j => some (j != b) : Option (Bool))).bind fun (g : Bool) => bif g then some (.inr false) else some (.inl (AR (b + 1))) else (AQ (FL a) 0).map .inr
noncomputable def Ht (a : AN) : Option Bool :=
 AQ (HT a) 0
theorem UP (b : AN) (r : Bool) (h : Ht b = some r) : A5 Tryz.prog 112 [.agg (AY b)] (· = .bool r) := by
 refine fn AA Tryz.func112 Z Z 81 Z [.tmp 2] Z [(0, .p (.agg (AY b)))] Z Z fun A hA => ?_
 unfold Ht at h
 refine rs AA <| rl Z <| AB <| rs AA <| rl Z <| AH ?_
 apply lp (a := r) (fun c : Int => ⟨81, [(1, .lpb 0 0), (3, li c)], [(0, bx (AY b))], 1⟩) h
 . exact wf hA [(0, 0)] Z Z Z
 intro c bh j
 unfold HT at j
 refine AB <| rs AA <| rn 3 Z <| sx Z (An Z Z <| rl Z <| cd Z j (fun ai => ?_) (fun a9 => ?_))
 .refine AD <| AC <| AB <| AH <| rs AA <| rn 3 Z <| bq ai fun k o aj => sx Z (Aj o Z Z Z <| rl Z <| rs AA <| rn 3 Z <| bq aj fun bk q ak => sx Z (AS (GQ _ _ _ q) (.inl Z) Z Z Z <| rl Z <| AB <| jb (fun f : Bool => ⟨81, [(1, .lpb 0 0), (3, li c), (4, .lpb 1 0), (37, lb f)], [(0, bx (AY b)), (1, .box [li k.at_.elem, li k.at_.fin])], 2⟩) ak (fun f al => ?_) (fun f ar => ?_)))
  .refine rg AA <| rn 2 Z <| bq al fun bl s am => sx Z (AS (QI _ _ _ s) (.inl Z) Z Z Z <| rn 2 Z <| gs 30 am Z Z Z (fun an => ?_) (fun ao => ?_))
   .exact rl Z <| AM an (wf hA [(0, 0), (1, 1)] Z Z Z)
   refine rn 3 Z <| gs 33 ao Z Z Z (fun ap => ?_) (fun aq => ?_)
   .exact rl Z <| AM ap (wf hA [(0, 0), (1, 1)] Z Z Z)
   exact rl Z <| AM aq (wf hA [(0, 0), (1, 1)] Z Z Z)
  refine cd Z ar (fun au => ?_) (fun aw => ?_)
  .refine rs AA <| rl Z <| AG <| AI <| AV <| AI <| A4 au fun be av => AV <| AI ?_
   cases av
   exact er Z Le.rfl
  refine AD <| AC <| rs AA <| rn 2 Z <| bq aw fun bm t ax => sx Z (AS (Cj _ _ _ t) (.inl Z) Z Z Z <| rl Z <| jb (fun g : Bool => ⟨81, [(1, .lpb 0 0), (3, li c), (59, lb g)], [(0, bx (AY b))], 1⟩) ax (fun g ay => ?_) (fun g a5 => ?_))
  .refine rg AA <| rn 3 Z <| gs 46 ay Z Z Z (fun az => ?_) (fun a0 => ?_)
   .exact rl Z <| AM az (wf hA [(0, 0)] Z Z Z)
   refine rn 3 Z <| bq a0 fun bn u a1 => sx Z (AS (GQ _ _ _ u) (.inl Z) Z Z Z <| rn 3 Z <| gs 53 a1 Z Z Z (fun a2 => ?_) (fun a3 => ?_))
   .exact rl Z <| AM a2 (wf hA [(0, 0)] Z Z Z)
   exact rn 2 Z <| bq a3 fun bo v a4 => sx Z (AS (Gj _ _ _ v) (.inl Z) Z Z Z <| rl Z <| AM a4 (wf hA [(0, 0)] Z Z Z))
  refine cd Z a5 (fun a6 => ?_) (fun a8 => ?_)
  .refine rs AA <| rl Z <| AG <| AV <| AI <| A4 a6 fun bf a7 => AV <| AI ?_
   cases a7
   exact er Z Le.rfl
  exact AD <| Af <| AC <| rg AA <| rl Z <| Av a8 (wf hA [(0, 0)] Z Z Z)
 refine AU <| Aa <| CU a9 fun l ba => Ao <| AC <| AB <| rs AA <| rl Z <| AH ?_
 apply lp (a := l) (fun d : Int => ⟨81, [(1, .lpb 0 0), (8, li d)], [(0, bx (AY b))], 1⟩) ba
 . exact wf hA [(0, 0)] Z Z Z
 intro d bg i
 unfold FL at i
 refine AB <| rs AA <| rn 3 Z <| sx Z (An Z Z <| rl Z <| cd Z i (fun w => ?_) (fun ag => ?_))
 .refine AD <| AC <| AB <| AH <| jb (fun e : Bool => ⟨81, [(1, .lpb 0 0), (8, li d), (80, lb e)], [(0, bx (AY b))], 1⟩) w (fun e x => ?_) (fun e ac => ?_)
  .refine rg AA <| rn 3 Z <| bq x fun bi m y => sx Z (Aj m Z Z Z <| rn 4 Z <| gs 74 y Z Z Z (fun z => ?_) (fun ab => ?_))
   .exact rn 3 Z <| bq z fun bj n aa => sx Z (AS (Gj _ _ _ n) (.inl Z) Z Z Z <| rl Z <| AM aa (wf hA [(0, 0)] Z Z Z))
   exact rl Z <| AM ab (wf hA [(0, 0)] Z Z Z)
  refine cd Z ac (fun ad => ?_) (fun af => ?_)
  .refine rs AA <| rl Z <| AG <| AV <| AI <| A4 ad fun bb ae => AV <| AI ?_
   cases ae
   exact er Z Le.rfl
  exact AD <| Af <| AC <| rg AA <| rl Z <| Av af (wf hA [(0, 0)] Z Z Z)
 refine AU <| Aa <| BG ag fun bc ah => Ao <| AC <| rs AA <| rl Z <| AG ?_
 cases ah
 exact er Z Le.rfl
noncomputable def FM (b : (List Int)) (c : Int) (a : Int) : Option (Int ⊕ Bool) :=
 bif decide (a < (b.length : Int)) then (Ak b a).bind fun d => bif (d == c) then some (.inr true) else some (.inl (AR (a + 1))) else some (.inr false)
noncomputable def C4 (a : (List Int)) (b : Int) : Option Bool :=
 AQ (FM a b) 0
theorem HF (b : (List Int)) (c : Int) (r : Bool) (h : C4 b c = some r) : A5 Tryz.prog 16 [.slice 1 (b.map AW), .int .i64 c] (· = .bool r) := by
 refine fn AA Tryz.func16 Z Z 18 Z [.tmp 4] Z [(0, .p (.slice 1 (b.map AW))), (1, .p (.int .i64 c))] Z Z fun A hA => ?_
 unfold C4 at h
 refine rs AA <| rl Z <| AB <| rs AA <| rl Z <| AH ?_
 apply lp (a := r) (fun e : Int => ⟨18, [(0, ls 1 AW b), (1, li c), (5, li e)], [], 0⟩) h
 . exact wf hA [] Z Z Z
 intro e s d
 unfold FM at d
 refine AB <| rs AA <| rn 2 Z <| sx Z (An Z Z <| rl Z <| cd Z d (fun n => ?_) (fun l => ?_))
 .refine AD <| AC <| AB <| AH <| rs AA <| rn 2 Z <| bq n fun t f g => sx Z (Aj f Z Z Z <| rl Z <| cd Z g (fun i => ?_) (fun k => ?_))
  .refine rs AA <| rl Z <| AG <| AV <| AI <| A4 i fun o j => AV <| AI ?_
   cases j
   exact er Z Le.rfl
  exact AD <| Af <| AC <| rg AA <| rl Z <| Av k (wf hA [] Z Z Z)
 refine AU <| Aa <| BG l fun q m => Ao <| AC <| rs AA <| rl Z <| AG ?_
 cases m
 exact er Z Le.rfl
noncomputable def F8 (e : AN) (c : (List Int)) (a : Int × Int × (List Int)) : Option ((Int × Int × (List Int)) ⊕ ((List Int) × Bool)) :=
 bif decide (a.2.1 < (c.length : Int)) then (Ak c (AR (a.2.1 - 1))).bind fun f => (CF e (⟨f, a.1⟩ : AF)).bind fun b => ((bif (!b.2) then some true else (Ak c a.2.1).bind fun g => some (b.1.elem != g) : Option (Bool))).bind fun (d : Bool) => bif d then some (.inr ([], false)) else (A8 a.2.2 [b.1.fin]).bind fun h => some (.inl (AR (1 - b.1.fin), AR (a.2.1 + 1), h)) else some (.inr (a.2.2, true))
noncomputable def Dl (c : AN) (b : (List Int)) (a : Int × Int) : Option ((Int × Int) ⊕ ((List Int) × Bool)) :=
 bif decide (0 <= a.2) then (((Ak b 0).bind fun g => (CF c (⟨g, a.2⟩ : AF)).bind fun d => ((bif d.2 then (Ak b 1).bind fun h => some (d.1.elem == h) else some false : Option (Bool))).bind fun (f : Bool) => bif f then some a.2 else some a.1 : Option (Int))).bind fun (e : Int) => some (.inl (e, AR (a.2 - 1))) else (bif decide (a.1 < 0) then some ([], false) else AQ (F8 c b) (a.1, 1, [AR (1 - a.1)])).map .inr
noncomputable def ID (c : AN) (a : (List Int)) (b : Int) : Option (Int ⊕ ((List Int) × Bool)) :=
 bif decide (b < (a.length : Int)) then (Ak a b).bind fun d => (DX c d).bind fun e => bif (e != 1) then some (.inr ([], false)) else some (.inl (AR (b + 1))) else (bif ((a.length : Int) == 1) then some ([0], true) else AQ (Dl c a) ((-1), 1)).map .inr
noncomputable def Ie (b : AN) (a : (List Int)) : Option ((List Int) × Bool) :=
 bif ((a.length : Int) == 0) then some ([], false) else AQ (ID b a) 0
theorem VR (c : AN) (d : (List Int)) (r : ((List Int) × Bool)) (h : Ie c d = some r) : A5 Tryz.prog 158 [.agg (AY c), .slice 1 (d.map AW)] (· = .tup [.slice 1 (r.1.map AW), .bool r.2]) := by
 refine fn AA Tryz.func158 Z Z 102 Z [.tmp 4, .tmp 5] Z [(0, .p (.agg (AY c))), (1, .p (.slice 1 (d.map AW)))] Z Z fun A hA => ?_
 unfold Ie at h
 refine rs AA <| rl Z <| AB <| rs AA <| rn 1 Z <| sx Z (An Z Z <| rl Z <| cd Z h (fun an => ?_) (fun ao => ?_))
 .refine rs AA <| rl Z <| AG <| AI ?_
  cases an
  exact er Z (Le.tup' (.cons (Le.nil _) (.cons Le.rfl .nil)))
 refine AD <| AC <| AB <| rs AA <| rl Z <| AH ?_
 apply lp (a := r) (fun q : Int => ⟨102, [(1, ls 1 AW d), (2, .lpb 0 0), (6, li q)], [(0, bx (AY c))], 1⟩) ao
 . exact wf hA [(0, 0)] Z Z Z
 intro q bp k
 unfold ID at k
 refine AB <| rs AA <| rn 2 Z <| sx Z (An Z Z <| rl Z <| cd Z k (fun ad => ?_) (fun aj => ?_))
 .refine AD <| AC <| AB <| AH <| AB ?_
  refine Bb AA Az [0, 1, 2, 3, 4, 5, 6] 7 (by kernel_rfl) Z Z Z ?_
  refine Am 3 Z <| bq ad fun bt u ae => Al Z (AX Z (Aj u Z Z Z <| Am 1 Z <| bq ae fun bu v af => Al Z (BA (GQ _ _ _ v) (.inl Z) Z Z Z <| A1 Z <| AC <| cd Z af (fun ag => ?_) (fun ai => ?_))))
  .refine rs AA <| rl Z <| AG <| AV <| AI <| A4 ag fun bm ah => AV <| AI ?_
   cases ah
   exact er Z (Le.tup' (.cons (Le.nil _) (.cons Le.rfl .nil)))
  exact AD <| Af <| AC <| rg AA <| rl Z <| Av ai (wf hA [(0, 0)] Z Z Z)
 refine AU <| Aa <| CU aj fun s ak => Ao <| AC <| AB <| rs AA <| rn 1 Z <| sx Z (An Z Z <| rl Z <| cd Z ak (fun al => ?_) (fun am => ?_))
 .refine rs AA <| rl Z <| AG <| AI ?_
  cases al
  exact er (SZ Z (.cons (.one (.own (enc := AW) ([0] : List Int) Z Z)) (.cons (.one (.p _)) .nil))) Le.rfl
 refine AD <| AC <| rs AA <| rl Z <| AB <| rs AA <| rl Z <| AH ?_
 apply lp (a := s) (fun e : (Int × Int) => ⟨102, [(1, ls 1 AW d), (2, .lpb 0 0), (7, li e.1), (8, li e.2)], [(0, bx (AY c))], 1⟩) am
 . exact wf hA [(0, 0)] Z Z Z
 intro e br n
 unfold Dl at n
 refine AB <| rs AA <| rl Z <| cd Z n (fun ap => ?_) (fun a3 => ?_)
 .refine AD <| AC <| jb (fun f : Int => ⟨102, [(1, ls 1 AW d), (2, .lpb 0 0), (7, li f), (8, li e.2)], [(0, bx (AY c))], 1⟩) ap (fun f aq => ?_) (fun f a2 => ?_)
  .refine AH <| AB ?_
   refine Bb AA Az [0, 1, 2, 3, 4, 5, 6, 7, 8, 9, 10, 11, 12] 13 (by kernel_rfl) Z Z Z ?_
   refine Am 2 Z <| bq aq fun bv w ar => Al Z (AX Z (Aj w Z Z Z <| Am 3 Z <| bq ar fun bw x au => Al Z (BA (Cj _ _ _ x) (.inl Z) Z Z Z <| A1 Z <| AC <| jb (fun g : Bool => ⟨102, [(1, ls 1 AW d), (2, .lpb 0 0), (7, li e.1), (8, li e.2), (57, lb g)], [(0, bx (AY c))], 1⟩) au (fun g av => ?_) (fun g az => ?_))))
   .refine Bb AA Az [0, 1, 2, 3, 4, 5, 6, 7, 8] 9 (by kernel_rfl) Z Z Z ?_
    refine Am 2 Z <| DJ 50 av Z Z Z (fun aw => ?_) (fun ay => ?_)
    .exact Am 3 Z <| bq aw fun bz y ax => Al Z (AX Z (Aj y Z Z Z <| A1 Z <| AM ax (wf hA [(0, 0)] Z Z Z)))
    exact A1 Z <| AM ay (wf hA [(0, 0)] Z Z Z)
   refine cd Z az (fun a0 => ?_) (fun a1 => ?_)
   .exact rg AA <| rl Z <| Af <| AM a0 (wf hA [(0, 0)] Z Z Z)
   exact AD <| Af <| AM a1 (wf hA [(0, 0)] Z Z Z)
  exact rg AA <| rl Z <| Av a2 (wf hA [(0, 0)] Z Z Z)
 refine AU <| Aa <| CU a3 fun t a4 => Ao <| AC <| AB <| rs AA <| rl Z <| cd Z a4 (fun a5 => ?_) (fun a6 => ?_)
 .refine rs AA <| rl Z <| AG <| AI ?_
  cases a5
  exact er Z (Le.tup' (.cons (Le.nil _) (.cons Le.rfl .nil)))
 refine AD <| AC <| rs AA <| rl Z <| AB <| rs AA <| rl Z <| AH ?_
 apply lp (a := t) (fun b : (Int × Int × (List Int)) => ⟨102, [(1, ls 1 AW d), (2, .lpb 0 0), (7, li b.1), (11, .lsl 1 1 0 b.2.2.length), (12, li b.2.1)], [(0, bx (AY c)), (1, .row 3 1 (b.2.2.map AW))], 2⟩) a6
 . exact wf hA [(0, 0), (1, 1)] Z Z Z
 intro b bs o
 unfold F8 at o
 refine AB <| rs AA <| rn 2 Z <| sx Z (An Z Z <| rl Z <| cd Z o (fun a7 => ?_) (fun bk => ?_))
 .refine AD <| AC <| AB <| AH <| AB ?_
  refine Bb AA Az [0, 1, 2, 3, 4, 5, 6, 7, 8, 9, 10, 11, 12, 13, 14] 15 (by kernel_rfl) Z Z Z ?_
  refine Am 4 Z <| bq a7 fun b0 z a8 => Al Z (AX Z (Aj z Z Z Z <| Am 3 Z <| bq a8 fun j aa a9 => Al Z (BA (Cj _ _ _ aa) (.inl Z) Z Z Z <| A1 Z <| AC <| AB <| jb (fun i : Bool => ⟨102, [(1, ls 1 AW d), (2, .lpb 0 0), (11, .lsl 1 1 0 b.2.2.length), (12, li b.2.1), (13, .lpb 2 0), (92, lb i)], [(0, bx (AY c)), (1, .row 3 1 (b.2.2.map AW)), (2, .box [li j.1.elem, li j.1.fin])], 3⟩) a9 (fun i ba => ?_) (fun i bf => ?_))))
  .refine Bb AA Az [0, 1, 2, 3, 4, 5, 6, 7, 8, 9, 10] 11 (by kernel_rfl) Z Z Z ?_
   refine Am 3 Z <| DJ 84 ba Z Z Z (fun bb => ?_) (fun bc => ?_)
   .exact A1 Z <| AM bb (wf hA [(0, 0), (1, 1), (2, 14)] Z Z Z)
   exact Am 4 Z <| bq bc fun b1 ab be => Al Z (AX Z (Aj ab Z Z Z <| A1 Z <| AM be (wf hA [(0, 0), (1, 1), (2, 14)] Z Z Z)))
  refine cd Z bf (fun bg => ?_) (fun bi => ?_)
  .refine rs AA <| rl Z <| AG <| AI <| AV <| AI <| A4 bg fun bn bh => AV <| AI ?_
   cases bh
   exact er Z (Le.tup' (.cons (Le.nil _) (.cons Le.rfl .nil)))
  exact AD <| AC <| rs AA <| rn 4 Z <| bq bi fun b2 ac bj => sx Z (Au (enc := AW) (l := b.2.2) (m := [j.1.fin]) ac (fun _ => ⟨Z, Z⟩) Z Z Z Z Z Z <| rl Z <| rg AA <| rl Z <| Af <| AC <| rg AA <| rl Z <| Av bj (wf hA [(0, 0), (1, 4)] Z Z Z))
 refine AU <| Aa <| BG bk fun bo bl => Ao <| AC <| rs AA <| rl Z <| AG ?_
 cases bl
 exact er (SZ Z (.cons (.one (.own (enc := AW) b.2.2 Z Z)) (.cons (.one (.p _)) .nil))) Le.rfl
end Go.E
/- Plain functions, and walks in step with them. Written by a program (gen.py). No condition. -/
set_option maxRecDepth 100000
namespace Go.E
open Go Go.RowKit Go.Proofs
noncomputable def G3 (d : AN) (c : (Int × (List Int))) (b : B5) (a : Int × (List Int)) : Option ((Int × (List Int)) ⊕ ((Int × (List Int)) ⊕ Bool)) :=
 bif decide (a.1 < (b.elems.length : Int)) then (Ak b.elems a.1).bind fun e => (C4 a.2 e).bind fun f => bif f then some (.inr (.inr false)) else (Ak b.elems a.1).bind fun g => (A8 a.2 [g]).bind fun h => some (.inl (AR (a.1 + 1), h)) else ((Ie d b.elems).bind fun i => bif (!i.2) then some (.inr false) else some (.inl (AR (c.1 + 1), a.2))).map .inr
noncomputable def Ir (b : AN) (a : Int × (List Int)) : Option ((Int × (List Int)) ⊕ Bool) :=
 bif decide (a.1 < (b.lines.length : Int)) then (Ak b.lines a.1).bind fun c => AQ (G3 b a c) (0, a.2) else some (.inr true)
noncomputable def JW (a : AN) : Option Bool :=
 AQ (Ir a) (0, ([] : List Int))
theorem Wo (d : AN) (r : Bool) (h : JW d = some r) : A5 Tryz.prog 113 [.agg (AY d)] (· = .bool r) := by
 refine fn AA Tryz.func113 Z Z 49 Z [.tmp 2] Z [(0, .p (.agg (AY d)))] Z Z fun A hA => ?_
 unfold JW at h
 refine rs AA <| rl Z <| rs AA <| rl Z <| AB <| rs AA <| rl Z <| AH ?_
 apply lp (a := r) (fun c : (Int × (List Int)) => ⟨49, [(1, .lpb 0 0), (3, .lsl 1 1 0 c.2.length), (4, li c.1)], [(0, bx (AY d)), (1, .row 3 1 (c.2.map AW))], 2⟩) h
 . exact A0.trans (Bm 3 3 1 Z) (wf hA [(0, 0), (1, 1)] Z Z Z)
 intro c g e
 unfold Ir at e
 refine AB <| rs AA <| rn 3 Z <| sx Z (An Z Z <| rl Z <| cd Z e (fun s => ?_) (fun aj => ?_))
 .refine AD <| AC <| AB <| AH <| rs AA <| rn 3 Z <| bq s fun al i t => sx Z (Aj i Z Z Z <| rl Z <| AB <| rs AA <| rl Z <| AH ?_)
  apply lp (a := g) (fun b : (Int × (List Int)) => ⟨49, [(1, .lpb 0 0), (3, .lsl 1 1 0 b.2.length), (4, li c.1), (5, ls 1 AW al.elems), (6, li b.1)], [(0, bx (AY d)), (1, .row 3 1 (b.2.map AW))], 2⟩) t
  . exact wf hA [(0, 0), (1, 1)] Z Z Z
  intro b au f
  unfold G3 at f
  refine AB <| rs AA <| rn 2 Z <| sx Z (An Z Z <| rl Z <| cd Z f (fun u => ?_) (fun ad => ?_))
  .refine AD <| AC <| AB <| AH <| AB <| rs AA <| rn 3 Z <| bq u fun av j v => sx Z (Aj j Z Z Z <| rn 1 Z <| bq v fun aw k w => sx Z (AS (HF _ _ _ k) (.inl Z) Z Z (Co.eq (.cons (.one (.own (enc := AW) b.2 Z Z)) (.cons (.one (.p _)) .nil))) <| rl Z <| cd Z w (fun x => ?_) (fun aa => ?_)))
   .refine rs AA <| rl Z <| AG <| AI <| AV <| AI <| A4 x fun an y => AV <| AI <| AV <| AI <| A4 y fun ao z => AV <| AI ?_
    cases z
    exact er Z Le.rfl
   exact AD <| AC <| rg AA <| rn 3 Z <| bq aa fun am n ab => sx Z (Aj n Z Z Z <| rn 2 Z <| bq ab fun ax o ac => sx Z (Au (enc := AW) (l := b.2) (m := [am]) o (fun _ => ⟨Z, Z⟩) Z Z Z Z Z Z <| rl Z <| Af <| AC <| rg AA <| rl Z <| Av ac (wf hA [(0, 0), (1, 3)] Z Z Z)))
  refine AU <| Aa <| CU ad fun ap ae => Ao <| AC <| rs AA <| rn 2 Z <| bq ae fun ay q af => sx Z (AS (VR _ _ _ q) (.inr Z) Z Z Z <| rl Z <| rs AA <| rl Z <| cd Z af (fun ag => ?_) (fun ai => ?_))
  .refine rs AA <| rl Z <| AG <| AV <| AI <| A4 ag fun aq ah => AV <| AI ?_
   cases ah
   exact er Z Le.rfl
  exact AD <| Af <| AC <| rg AA <| rl Z <| Av ai (wf hA [(0, 0), (1, 1)] Z Z Z)
 refine AU <| Aa <| BG aj fun ar ak => Ao <| AC <| rs AA <| rl Z <| AG ?_
 cases ak
 exact er Z Le.rfl
noncomputable def JX (b : Int) (a : Int × Int) : Option ((Int × Int) ⊕ Int) :=
 bif decide (0 < a.1) then some (.inl (AR (a.1 - b), AR (a.2 + a.1))) else some (.inr a.2)
noncomputable def I8 (b : Int) (a : Int) : Option Int :=
 ((bif decide (b < 0) then some true else bif decide (60 < b) then some true else bif decide (a < 1) then some true else some (decide (10 < a)) : Option (Bool))).bind fun (c : Bool) => bif c then some 0 else AQ (JX a) (AR (b - a), 0)
theorem Xg (c : Int) (b : Int) (r : Int) (h : I8 c b = some r) : A5 Tryz.prog 159 [.int .i64 c, .int .i64 b] (· = .int .i64 r) := by
 refine fn AA Tryz.func159 Z Z 32 Z [.tmp 4] Z [(0, .p (.int .i64 c)), (1, .p (.int .i64 b))] Z Z fun A hA => ?_
 unfold I8 at h
 refine rs AA <| rl Z <| AB <| jb (fun e : Bool => ⟨32, [(0, li c), (1, li b), (19, lb e)], [], 0⟩) h (fun e g => ?_) (fun e o => ?_)
 .refine rg AA <| rn 3 Z <| gs 8 g Z Z Z (fun i => ?_) (fun j => ?_)
  .exact rl Z <| AM i (wf hA [] Z Z Z)
  refine rn 4 Z <| gs 12 j Z Z Z (fun k => ?_) (fun l => ?_)
  .exact rl Z <| AM k (wf hA [] Z Z Z)
  refine rn 4 Z <| gs 16 l Z Z Z (fun m => ?_) (fun n => ?_)
  .exact rl Z <| AM m (wf hA [] Z Z Z)
  exact rl Z <| AM n (wf hA [] Z Z Z)
 refine cd Z o (fun q => ?_) (fun s => ?_)
 .refine rs AA <| rl Z <| AG <| AI ?_
  cases q
  exact er Z Le.rfl
 refine AD <| AC <| rs AA <| rl Z <| AB <| rs AA <| rl Z <| AH ?_
 apply lp (a := r) (fun d : (Int × Int) => ⟨32, [(0, li d.1), (1, li b), (5, li d.2)], [], 0⟩) s
 . exact wf hA [] Z Z Z
 intro d x f
 unfold JX at f
 refine AB <| rs AA <| rl Z <| cd Z f (fun t => ?_) (fun u => ?_)
 .exact AD <| AC <| AB <| AH <| rg AA <| rl Z <| Af <| AC <| rg AA <| rl Z <| Av t (wf hA [] Z Z Z)
 refine AU <| Aa <| BG u fun w v => Ao <| AC <| rs AA <| rl Z <| AG ?_
 cases v
 exact er Z Le.rfl
noncomputable def If (b : AN) (a : Int) : Option Int :=
 ((bif decide (a < 0) then some true else some (decide ((b.elems.length : Int) <= a)) : Option (Bool))).bind fun (c : Bool) => bif c then some 0 else (Ak b.elems a).bind fun d => some d.length
theorem VS (a : AN) (b : Int) (r : Int) (h : If a b = some r) : A5 Tryz.prog 160 [.agg (AY a), .int .i64 b] (· = .int .i64 r) := by
 refine fn AA Tryz.func160 Z Z 20 Z [.tmp 4] Z [(0, .p (.agg (AY a))), (1, .p (.int .i64 b))] Z Z fun A hA => ?_
 unfold If at h
 refine rs AA <| rl Z <| AB <| jb (fun c : Bool => ⟨20, [(1, li b), (2, .lpb 0 0), (13, lb c)], [(0, bx (AY a))], 1⟩) h (fun c e => ?_) (fun c i => ?_)
 .refine rg AA <| rn 3 Z <| gs 7 e Z Z Z (fun f => ?_) (fun g => ?_)
  .exact rl Z <| AM f (wf hA [(0, 0)] Z Z Z)
  exact rn 3 Z <| sx Z (An Z Z <| rl Z <| AM g (wf hA [(0, 0)] Z Z Z))
 refine cd Z i (fun j => ?_) (fun k => ?_)
 .refine rs AA <| rl Z <| AG <| AI ?_
  cases j
  exact er Z Le.rfl
 refine AD <| AC <| rs AA <| rn 3 Z <| bq k fun m d l => sx Z (Aj d Z Z Z <| rl Z <| AG ?_)
 cases l
 exact er Z Le.rfl
noncomputable def Hu (b : AN) (a : Int) : Option (Int ⊕ Bool) :=
 bif decide (a < (b.elems.length : Int)) then (((Ak b.elems a).bind fun d => bif (d.kind != 4) then (Ak b.elems a).bind fun e => some (decide (e.length < b.top)) else some false : Option (Bool))).bind fun (c : Bool) => bif c then some (.inr false) else some (.inl (AR (a + 1))) else some (.inr true)
noncomputable def JY (a : AN) (b : Int) : Option (Int ⊕ Bool) :=
 bif decide (b < (a.signals.length : Int)) then (Ak a.signals b).bind fun c => (((DX a c.at_.elem).bind fun e => bif (e == 1) then (If a c.at_.elem).bind fun f => some (decide (f < a.margin)) else some false : Option (Bool))).bind fun (d : Bool) => bif d then some (.inr false) else some (.inl (AR (b + 1))) else (AQ (Hu a) 0).map .inr
noncomputable def Ke (a : AN) : Option Bool :=
 (I8 a.top a.brake).bind fun b => bif decide (a.margin < AR (a.top + b)) then some false else AQ (JY a) 0
theorem Xh (b : AN) (r : Bool) (h : Ke b = some r) : A5 Tryz.prog 114 [.agg (AY b)] (· = .bool r) := by
 refine fn AA Tryz.func114 Z Z 68 Z [.tmp 2] Z [(0, .p (.agg (AY b)))] Z Z fun A hA => ?_
 unfold Ke at h
 refine rs AA <| rl Z <| AB <| AB ?_
 refine Bb AA Az [0, 1, 2, 3, 4, 5, 6, 7, 8, 9, 10] 11 (by kernel_rfl) Z Z Z ?_
 refine Am 8 Z <| bq h fun a6 q s => Al Z (BA (Xg _ _ _ q) (.inl Z) Z Z Z <| A1 Z <| AC <| cd Z s (fun t => ?_) (fun u => ?_))
 .refine rs AA <| rl Z <| AG <| AI ?_
  cases t
  exact er Z Le.rfl
 refine AD <| AC <| AB <| rs AA <| rl Z <| AH ?_
 apply lp (a := r) (fun c : Int => ⟨68, [(1, .lpb 0 0), (3, li c)], [(0, bx (AY b))], 1⟩) u
 . exact wf hA [(0, 0)] Z Z Z
 intro c az g
 unfold JY at g
 refine AB <| rs AA <| rn 3 Z <| sx Z (An Z Z <| rl Z <| cd Z g (fun v => ?_) (fun ag => ?_))
 .refine AD <| AC <| AB <| AH <| rs AA <| rn 3 Z <| bq v fun a1 k w => sx Z (Aj k Z Z Z <| rl Z <| jb (fun e : Bool => ⟨68, [(1, .lpb 0 0), (3, li c), (42, lb e)], [(0, bx (AY b))], 1⟩) w (fun e x => ?_) (fun e ac => ?_))
  .refine Bb AA Az [0, 1, 2, 3, 4, 5, 6, 7, 8, 9, 10, 11] 12 (by kernel_rfl) Z Z Z ?_
   refine Am 2 Z <| bq x fun a2 l y => Al Z (BA (GQ _ _ _ l) (.inl Z) Z Z Z <| Am 2 Z <| DJ 35 y Z Z Z (fun z => ?_) (fun ab => ?_))
   .exact Am 2 Z <| bq z fun a3 m aa => Al Z (BA (VS _ _ _ m) (.inl Z) Z Z Z <| A1 Z <| AM aa (wf hA [(0, 0)] Z Z Z))
   exact A1 Z <| AM ab (wf hA [(0, 0)] Z Z Z)
  refine cd Z ac (fun ad => ?_) (fun af => ?_)
  .refine rs AA <| rl Z <| AG <| AV <| AI <| A4 ad fun aw ae => AV <| AI ?_
   cases ae
   exact er Z Le.rfl
  exact AD <| Af <| AC <| rg AA <| rl Z <| Av af (wf hA [(0, 0)] Z Z Z)
 refine AU <| Aa <| CU ag fun j ah => Ao <| AC <| AB <| rs AA <| rl Z <| AH ?_
 apply lp (a := j) (fun d : Int => ⟨68, [(1, .lpb 0 0), (5, li d)], [(0, bx (AY b))], 1⟩) ah
 . exact wf hA [(0, 0)] Z Z Z
 intro d a0 i
 unfold Hu at i
 refine AB <| rs AA <| rn 3 Z <| sx Z (An Z Z <| rl Z <| cd Z i (fun ai => ?_) (fun au => ?_))
 .refine AD <| AC <| AB <| AH <| jb (fun f : Bool => ⟨68, [(1, .lpb 0 0), (5, li d), (67, lb f)], [(0, bx (AY b))], 1⟩) ai (fun f aj => ?_) (fun f ao => ?_)
  .refine Bb AA Az [0, 1, 2, 3, 4, 5, 6, 7, 8, 9, 10, 11, 12, 13, 14, 15, 16, 17] 18 (by kernel_rfl) Z Z Z ?_
   refine Am 3 Z <| bq aj fun a4 n ak => Al Z (AX Z (Aj n Z Z Z <| Am 4 Z <| DJ 57 ak Z Z Z (fun al => ?_) (fun an => ?_)))
   .exact Am 3 Z <| bq al fun a5 o am => Al Z (AX Z (Aj o Z Z Z <| A1 Z <| AM am (wf hA [(0, 0)] Z Z Z)))
   exact A1 Z <| AM an (wf hA [(0, 0)] Z Z Z)
  refine cd Z ao (fun ap => ?_) (fun ar => ?_)
  .refine rs AA <| rl Z <| AG <| AV <| AI <| A4 ap fun ax aq => AV <| AI ?_
   cases aq
   exact er Z Le.rfl
  exact AD <| Af <| AC <| rg AA <| rl Z <| Av ar (wf hA [(0, 0)] Z Z Z)
 refine AU <| Aa <| BG au fun ay av => Ao <| AC <| rs AA <| rl Z <| AG ?_
 cases av
 exact er Z Le.rfl
noncomputable def DL (a : AN) : Option Int :=
 ((bif decide (40 < (a.elems.length : Int)) then some true else bif decide (24 < (a.signals.length : Int)) then some true else bif decide (4 < (a.lines.length : Int)) then some true else some (decide (80 < (a.joins.length : Int))) : Option (Bool))).bind fun (d : Bool) => bif d then some 3 else (JR a).bind fun b => (Ka a).bind fun l => bif (!l) then some 1 else (((Gh b.1).bind fun e => bif e then some true else (Gh b.2.1).bind fun f => bif f then some true else (Gh b.2.2).bind fun g => some g : Option (Bool))).bind fun (c : Bool) => bif c then some 4 else (Ic a).bind fun h => bif (!h) then some 6 else (Ht a).bind fun i => bif (!i) then some 7 else (JW a).bind fun j => bif (!j) then some 8 else (Ke a).bind fun k => bif (!k) then some 9 else some 0
theorem Nk (a : AN) (r : Int) (h : DL a = some r) : A5 Tryz.prog 42 [.agg (AY a)] (· = .int .i64 r) := by
 refine fn AA Tryz.func42 Z Z 65 Z [.tmp 2] Z [(0, .p (.agg (AY a)))] Z Z fun A hA => ?_
 unfold DL at h
 refine rs AA <| rl Z <| AB <| jb (fun c : Bool => ⟨65, [(1, .lpb 0 0), (27, lb c)], [(0, bx (AY a))], 1⟩) h (fun c am => ?_) (fun c av => ?_)
 .refine rg AA <| rn 2 Z <| sx Z (An Z Z <| rn 2 Z <| gs 10 am Z Z Z (fun an => ?_) (fun ao => ?_))
  .exact rl Z <| AM an (wf hA [(0, 0)] Z Z Z)
  refine rn 2 Z <| sx Z (An Z Z <| rn 3 Z <| gs 16 ao Z Z Z (fun ap => ?_) (fun aq => ?_))
  .exact rl Z <| AM ap (wf hA [(0, 0)] Z Z Z)
  refine rn 2 Z <| sx Z (An Z Z <| rn 3 Z <| gs 22 aq Z Z Z (fun ar => ?_) (fun au => ?_))
  .exact rl Z <| AM ar (wf hA [(0, 0)] Z Z Z)
  exact rn 2 Z <| sx Z (An Z Z <| rl Z <| AM au (wf hA [(0, 0)] Z Z Z))
 refine cd Z av (fun aw => ?_) (fun ax => ?_)
 .refine rs AA <| rl Z <| AG <| AI ?_
  cases aw
  exact er Z Le.rfl
 refine AD <| AC <| rs AA <| rn 1 Z <| bq ax fun a9 l ay => sx Z (AS (Wj _ _ l) (.inr Z) Z Z Z <| rl Z <| AB <| AH <| rs AA <| rn 1 Z <| bq ay fun ba m az => sx Z (AS (Xb _ _ m) (.inl Z) Z Z Z <| rl Z <| cd Z az (fun a0 => ?_) (fun a1 => ?_)))
 .refine rs AA <| rl Z <| AG <| AV <| AI ?_
  cases a0
  exact er Z Le.rfl
 refine jb (fun b : Bool => ⟨65, [(1, .lpb 0 0), (38, lb b)], [(0, bx (AY a))], 1⟩) a1 (fun b n => ?_) (fun b x => ?_)
 .refine rg AA <| rn 1 Z <| bq n fun a2 d o => sx Z (AS (Nf _ _ d) (.inl Z) Z Z Z <| rn 1 Z <| gs 41 o Z Z Z (fun q => ?_) (fun s => ?_))
  .exact rl Z <| AM q (wf hA [(0, 0)] Z Z Z)
  refine rn 1 Z <| bq s fun a3 e t => sx Z (AS (Nf _ _ e) (.inl Z) Z Z Z <| rn 2 Z <| gs 45 t Z Z Z (fun u => ?_) (fun v => ?_))
  .exact rl Z <| AM u (wf hA [(0, 0)] Z Z Z)
  exact rn 1 Z <| bq v fun a4 f w => sx Z (AS (Nf _ _ f) (.inl Z) Z Z Z <| rl Z <| AM w (wf hA [(0, 0)] Z Z Z))
 refine cd Z x (fun y => ?_) (fun z => ?_)
 .refine rs AA <| rl Z <| AG <| AV <| AI ?_
  cases y
  exact er Z Le.rfl
 refine rs AA <| rn 1 Z <| bq z fun a5 g aa => sx Z (AS (VQ _ _ g) (.inl Z) Z Z Z <| rl Z <| cd Z aa (fun ab => ?_) (fun ac => ?_))
 .refine rs AA <| rl Z <| AG <| AV <| AI ?_
  cases ab
  exact er Z Le.rfl
 refine rs AA <| rn 1 Z <| bq ac fun a6 i ad => sx Z (AS (UP _ _ i) (.inl Z) Z Z Z <| rl Z <| cd Z ad (fun ae => ?_) (fun af => ?_))
 .refine rs AA <| rl Z <| AG <| AV <| AI ?_
  cases ae
  exact er Z Le.rfl
 refine rs AA <| rn 1 Z <| bq af fun a7 j ag => sx Z (AS (Wo _ _ j) (.inl Z) Z Z Z <| rl Z <| cd Z ag (fun ah => ?_) (fun ai => ?_))
 .refine rs AA <| rl Z <| AG <| AV <| AI ?_
  cases ah
  exact er Z Le.rfl
 refine rs AA <| rn 1 Z <| bq ai fun a8 k aj => sx Z (AS (Xh _ _ k) (.inl Z) Z Z Z <| rl Z <| cd Z aj (fun ak => ?_) (fun al => ?_))
 .refine rs AA <| rl Z <| AG <| AV <| AI ?_
  cases ak
  exact er Z Le.rfl
 refine AD <| Af <| AC <| rs AA <| rl Z <| AG ?_
 cases al
 exact er Z Le.rfl
noncomputable def Hs (a : AN) : Option Bool :=
 (((Jt a).bind fun d => bif d then (DL a).bind fun c => some (c == 0) else some false : Option (Bool))).bind fun (b : Bool) => some b
theorem Xf (b : AN) (r : Bool) (h : Hs b = some r) : A5 Tryz.prog 11 [.agg (AY b)] (· = .bool r) := by
 refine fn AA Tryz.func11 Z Z 10 Z [.tmp 2] Z [(0, .p (.agg (AY b)))] Z Z fun A hA => ?_
 unfold Hs at h
 refine rs AA <| rl Z <| jb (fun a : Bool => ⟨10, [(2, lb a)], [], 0⟩) h (fun a k => ?_) (fun a j => ?_)
 .refine rg AA <| rn 1 Z <| bq k fun m d e => sx Z (AS (YX _ _ d) (.inl Z) Z Z Z <| rn 1 Z <| gs 5 e Z Z Z (fun f => ?_) (fun i => ?_))
  .exact rn 1 Z <| bq f fun l c g => sx Z (AS (Nk _ _ c) (.inl Z) Z Z Z <| rl Z <| AM g (wf hA [] Z Z Z))
  exact rl Z <| AM i (wf hA [] Z Z Z)
 refine AG ?_
 have hr := Option.some.inj j; subst hr
 exact er Z Le.rfl
noncomputable def FA (a : Int) : Option Bool :=
 ((bif decide (97 <= a) then bif decide (a <= 122) then some true else bif decide (65 <= a) then some (decide (a <= 90)) else some false else bif decide (65 <= a) then some (decide (a <= 90)) else some false : Option (Bool))).bind fun (b : Bool) => some b
theorem OC (b : Int) (r : Bool) (h : FA b = some r) : A5 Tryz.prog 212 [.int .u8 b] (· = .bool r) := by
 refine fn AA Tryz.func212 Z Z 17 Z [.tmp 2] Z [(0, .p (.int .u8 b))] Z Z fun A hA => ?_
 unfold FA at h
 refine rs AA <| rl Z <| jb (fun a : Bool => ⟨17, [(2, lb a)], [], 0⟩) h (fun a c => ?_) (fun a m => ?_)
 .refine rg AA <| rn 3 Z <| gs 5 c Z Z Z (fun d => ?_) (fun j => ?_)
  .refine rn 4 Z <| gs 9 d Z Z Z (fun e => ?_) (fun f => ?_)
   .exact rl Z <| AM e (wf hA [] Z Z Z)
   refine rn 3 Z <| gs 12 f Z Z Z (fun g => ?_) (fun i => ?_)
   .exact rl Z <| AM g (wf hA [] Z Z Z)
   exact rl Z <| AM i (wf hA [] Z Z Z)
  refine rn 7 Z <| gs 12 j Z Z Z (fun k => ?_) (fun l => ?_)
  .exact rl Z <| AM k (wf hA [] Z Z Z)
  exact rl Z <| AM l (wf hA [] Z Z Z)
 refine AG ?_
 have hr := Option.some.inj m; subst hr
 exact er Z Le.rfl
noncomputable def F9 (b : ByteArray) (a : Int) : Option (Int ⊕ Bool) :=
 bif decide (a < (b.size : Int)) then (((NW b a).bind fun d => (FA (d.toNat : Int)).bind fun e => bif (!e) then (NW b a).bind fun f => bif decide ((f.toNat : Int) < 48) then some true else (NW b a).bind fun g => some (decide (57 < (g.toNat : Int))) else some false : Option (Bool))).bind fun (c : Bool) => bif c then some (.inr false) else some (.inl (AR (a + 1))) else some (.inr true)
noncomputable def Fe (a : ByteArray) : Option Bool :=
 ((bif (a.toList == ByteArray.empty.toList) then some true else bif decide (8 < (a.size : Int)) then some true else (NW a 0).bind fun c => (FA (c.toNat : Int)).bind fun d => some (!d) : Option (Bool))).bind fun (b : Bool) => bif b then some false else AQ (F9 a) 1
theorem MV (b : ByteArray) (r : Bool) (h : Fe b = some r) : A5 Tryz.prog 198 [.str b] (· = .bool r) := by
 refine fn AA Tryz.func198 Z Z 40 Z [.tmp 2] Z [(0, .p (.str b))] Z Z fun A hA => ?_
 unfold Fe at h
 refine rs AA <| rl Z <| AB <| jb (fun d : Bool => ⟨40, [(0, .p (.str b)), (16, lb d)], [], 0⟩) h (fun d n => ?_) (fun d x => ?_)
 .refine rg AA <| rn 3 Z <| gs 6 n Z Z Z (fun o => ?_) (fun q => ?_)
  .exact rl Z <| AM o (wf hA [] Z Z Z)
  refine rn 5 Z <| gs 11 q Z Z Z (fun s => ?_) (fun t => ?_)
  .exact rl Z <| AM s (wf hA [] Z Z Z)
  exact rn 1 Z <| bq t fun au g v => sx Z (Ok g Z Z Z <| bq v fun av i w => sx Z (AS (OC _ _ i) (.inl Z) Z Z Z <| rl Z <| AM w (wf hA [] Z Z Z)))
 refine cd Z x (fun z => ?_) (fun ah => ?_)
 .refine rs AA <| rl Z <| AG <| AI ?_
  cases z
  exact er Z Le.rfl
 refine AD <| AC <| AB <| rs AA <| rl Z <| AH ?_
 apply lp (a := r) (fun c : Int => ⟨40, [(0, .p (.str b)), (3, li c)], [], 0⟩) ah
 . exact wf hA [] Z Z Z
 intro c ar f
 unfold F9 at f
 refine AB <| rs AA <| rl Z <| cd Z f (fun u => ?_) (fun an => ?_)
 .refine AD <| AC <| AB <| AH <| jb (fun e : Bool => ⟨40, [(0, .p (.str b)), (3, li c), (39, lb e)], [], 0⟩) u (fun e y => ?_) (fun e aj => ?_)
  .refine rg AA <| rn 2 Z <| bq y fun aw j aa => sx Z (Ok j Z Z Z <| bq aa fun ax k ab => sx Z (AS (OC _ _ k) (.inl Z) Z Z Z <| rn 2 Z <| gs 28 ab Z Z Z (fun ac => ?_) (fun ai => ?_)))
   .refine rn 2 Z <| bq ac fun ay l ad => sx Z (Ok l Z Z Z <| rn 2 Z <| gs 33 ad Z Z Z (fun ae => ?_) (fun af => ?_))
    .exact rl Z <| AM ae (wf hA [] Z Z Z)
    exact rn 2 Z <| bq af fun az m ag => sx Z (Ok m Z Z Z <| rl Z <| AM ag (wf hA [] Z Z Z))
   exact rl Z <| AM ai (wf hA [] Z Z Z)
  refine cd Z aj (fun ak => ?_) (fun am => ?_)
  .refine rs AA <| rl Z <| AG <| AV <| AI <| A4 ak fun ap al => AV <| AI ?_
   cases al
   exact er Z Le.rfl
  exact AD <| Af <| AC <| rg AA <| rl Z <| Av am (wf hA [] Z Z Z)
 refine AU <| Aa <| BG an fun aq ao => Ao <| AC <| rs AA <| rl Z <| AG ?_
 cases ao
 exact er Z Le.rfl
noncomputable def HH (a : Int) : Option Int :=
 bif (a == 1) then some 2 else bif (a == 2) then some 3 else bif (a == 3) then some 4 else bif (a == 4) then some 1 else some 0
theorem MW (a : Int) (r : Int) (h : HH a = some r) : A5 Tryz.prog 150 [.int .i64 a] (· = .int .i64 r) := by
 refine fn AA Tryz.func150 Z Z 12 Z [.tmp 2] Z [(0, .p (.int .i64 a))] Z Z fun A hA => ?_
 unfold HH at h
 refine rs AA <| rl Z <| AB <| rs AA <| rl Z <| AH <| rs AA <| rl Z <| cd Z h (fun j => ?_) (fun b => ?_)
 .refine rs AA <| rl Z <| AG <| AV <| AI ?_
  cases j
  exact er Z Le.rfl
 refine rs AA <| rl Z <| cd Z b (fun c => ?_) (fun d => ?_)
 .refine rs AA <| rl Z <| AG <| AV <| AI ?_
  cases c
  exact er Z Le.rfl
 refine rs AA <| rl Z <| cd Z d (fun e => ?_) (fun f => ?_)
 .refine rs AA <| rl Z <| AG <| AV <| AI ?_
  cases e
  exact er Z Le.rfl
 refine rs AA <| rl Z <| cd Z f (fun g => ?_) (fun i => ?_)
 .refine rs AA <| rl Z <| AG <| AV <| AI ?_
  cases g
  exact er Z Le.rfl
 refine AD <| Af <| AC <| rs AA <| rl Z <| AG ?_
 cases i
 exact er Z Le.rfl
noncomputable def DO (b : AN) (a : Int) : Option (Int ⊕ Bool) :=
 bif decide (a < (b.lines.length : Int)) then (Ak b.lines a).bind fun c => (Fe c.name).bind fun d => bif (!d) then some (.inr false) else some (.inl (AR (a + 1))) else some (.inr true)
noncomputable def DP (b : AN) (a : Int) : Option (Int ⊕ Bool) :=
 bif decide (a < (b.signals.length : Int)) then (Ak b.signals a).bind fun c => (Fe c.name).bind fun d => bif (!d) then some (.inr false) else some (.inl (AR (a + 1))) else (AQ (DO b) 0).map .inr
noncomputable def EM (c : AN) (b : Int) : Option (Int ⊕ Bool) :=
 bif decide (b < (c.elems.length : Int)) then JJ (((Ak c.elems b).bind fun a => (((Fe a.name).bind fun f => bif (!f) then some true else (HH a.kind).bind fun g => some (g == 0) : Option (Bool))).bind fun (d : Bool) => bif d then some (.inr (.inr false)) else bif (a.kind == 4) then bif (a.length != 0) then some (.inr (.inr false)) else some (.inl ()) else ((bif decide (a.length < 1) then some true else some (decide (4000 < a.length)) : Option (Bool))).bind fun (e : Bool) => bif e then some (.inr (.inr false)) else some (.inl ()) : Option (Unit ⊕ (Int ⊕ Bool)))) fun (h : Unit) => some (.inl (AR (b + 1))) else (AQ (DP c) 0).map .inr
noncomputable def GA (a : AN) : Option Bool :=
 ((bif decide (a.top < 1) then some true else bif decide (60 < a.top) then some true else bif decide (a.brake < 1) then some true else bif decide (10 < a.brake) then some true else bif decide (a.margin < 1) then some true else bif decide (4000 < a.margin) then some true else bif decide (a.throw < 1) then some true else bif decide (20 < a.throw) then some true else some ((a.elems.length : Int) == 0) : Option (Bool))).bind fun (b : Bool) => bif b then some false else AQ (EM a) 0
theorem R4 (b : AN) (r : Bool) (h : GA b = some r) : A5 Tryz.prog 161 [.agg (AY b)] (· = .bool r) := by
 refine fn AA Tryz.func161 Z Z 112 Z [.tmp 2] Z [(0, .p (.agg (AY b)))] Z Z fun A hA => ?_
 unfold GA at h
 refine rs AA <| rl Z <| sc <| AB <| jb (fun d : Bool => ⟨112, [(1, .lpb 0 0), (52, lb d)], [(0, bx (AY b))], 1⟩) h (fun d z => ?_) (fun d bm => ?_)
 .refine rg AA <| rn 4 Z <| gs 12 z Z Z Z (fun aa => ?_) (fun ad => ?_)
  .exact rl Z <| AM aa (wf hA [(0, 0)] Z Z Z)
  refine rn 5 Z <| gs 17 ad Z Z Z (fun ak => ?_) (fun ar => ?_)
  .exact rl Z <| AM ak (wf hA [(0, 0)] Z Z Z)
  refine rn 5 Z <| gs 22 ar Z Z Z (fun az => ?_) (fun a8 => ?_)
  .exact rl Z <| AM az (wf hA [(0, 0)] Z Z Z)
  refine rn 5 Z <| gs 27 a8 Z Z Z (fun bb => ?_) (fun bc => ?_)
  .exact rl Z <| AM bb (wf hA [(0, 0)] Z Z Z)
  refine rn 5 Z <| gs 32 bc Z Z Z (fun be => ?_) (fun bf => ?_)
  .exact rl Z <| AM be (wf hA [(0, 0)] Z Z Z)
  refine rn 5 Z <| gs 37 bf Z Z Z (fun bg => ?_) (fun bh => ?_)
  .exact rl Z <| AM bg (wf hA [(0, 0)] Z Z Z)
  refine rn 5 Z <| gs 42 bh Z Z Z (fun bi => ?_) (fun bj => ?_)
  .exact rl Z <| AM bi (wf hA [(0, 0)] Z Z Z)
  refine rn 5 Z <| gs 47 bj Z Z Z (fun bk => ?_) (fun bl => ?_)
  .exact rl Z <| AM bk (wf hA [(0, 0)] Z Z Z)
  exact rn 2 Z <| sx Z (An Z Z <| rl Z <| AM bl (wf hA [(0, 0)] Z Z Z))
 refine cd Z bm (fun bn => ?_) (fun bo => ?_)
 .refine rs AA <| rl Z <| AG <| AI <| EF ?_
  cases bn
  exact er Z Le.rfl
 refine AD <| AC <| AB <| Ha <| AC <| AB <| rs AA <| rn 2 Z <| sx Z (An Z Z <| rl Z <| AH ?_)
 apply lp (a := r) (fun c : Int => ⟨112, [(1, .lpb 0 0), (54, ls 3 BI b.elems), (55, li (b.elems.length : Int)), (56, li c)], [(0, bx (AY b))], 1⟩) bo
 . exact wf hA [(0, 0)] Z Z Z
 intro c o g
 unfold EM at g
 refine rs AA <| rl Z <| AB <| cd Z g (fun y => ?_) (fun a9 => ?_)
 .refine AD <| AC ?_
  apply jn (a := o) (fun b8 : Unit => ⟨112, [(1, .lpb 0 0), (54, ls 3 BI b.elems), (55, li (b.elems.length : Int)), (56, li c)], [(0, bx (AY b))], 1⟩) y
  .intro ck ab
   refine AH <| rs AA <| bq ab fun b9 q ac => sx Z (Aj q Z Z Z <| rl Z <| AH <| jb (fun e : Bool => ⟨112, [(1, .lpb 0 0), (4, .lpb 1 0), (54, ls 3 BI b.elems), (55, li (b.elems.length : Int)), (56, li c), (60, lb e)], [(0, bx (AY b)), (1, bx (BI b9))], 2⟩) ac (fun e ae => ?_) (fun e aj => ?_))
   .refine rg AA <| rn 2 Z <| bq ae fun cn s af => sx Z (AS (MV _ _ s) (.inl Z) Z Z Z <| rn 2 Z <| gs 65 af Z Z Z (fun ag => ?_) (fun ah => ?_))
    .exact rl Z <| AM ag (wf hA [(0, 0), (1, 1)] Z Z Z)
    exact rn 2 Z <| bq ah fun co t ai => sx Z (AS (MW _ _ t) (.inl Z) Z Z Z <| rl Z <| AM ai (wf hA [(0, 0), (1, 1)] Z Z Z))
   refine cd Z aj (fun al => ?_) (fun ao => ?_)
   .refine rs AA <| rl Z <| AG <| AV <| AV <| A4 al fun ca am => A4 am fun cb an => AV <| AI <| EF ?_
    cases an
    exact er Z Le.rfl
   refine rs AA <| rl Z <| cd Z ao (fun ap => ?_) (fun ax => ?_)
   .refine AB <| rs AA <| rl Z <| cd Z ap (fun aq => ?_) (fun aw => ?_)
    .refine rs AA <| rl Z <| AG <| AI <| AV <| AV <| A4 aq fun cc au => A4 au fun ce av => AV <| AI <| EF ?_
     cases av
     exact er Z Le.rfl
    exact AD <| AC <| AU <| NO Z <| Ao <| Av aw (wf hA [(0, 0)] Z Z Z)
   refine jb (fun f : Bool => ⟨112, [(1, .lpb 0 0), (54, ls 3 BI b.elems), (55, li (b.elems.length : Int)), (56, li c), (78, lb f)], [(0, bx (AY b))], 1⟩) ax (fun f ay => ?_) (fun f a2 => ?_)
   .refine rg AA <| rn 4 Z <| gs 82 ay Z Z Z (fun a0 => ?_) (fun a1 => ?_)
    .exact rl Z <| AM a0 (wf hA [(0, 0)] Z Z Z)
    exact rl Z <| AM a1 (wf hA [(0, 0)] Z Z Z)
   refine cd Z a2 (fun a3 => ?_) (fun a6 => ?_)
   .refine rs AA <| rl Z <| AG <| AV <| AV <| A4 a3 fun cf a4 => A4 a4 fun cg a5 => AV <| AI <| EF ?_
    cases a5
    exact er Z Le.rfl
   exact AD <| Af <| Af <| Av a6 (wf hA [(0, 0)] Z Z Z)
  intro b8 a7
  exact rg AA <| rl Z <| Av a7 (wf hA [(0, 0)] Z Z Z)
 refine AU <| Aa <| CU a9 fun m ba => Ao <| AC <| AB <| rs AA <| rn 2 Z <| sx Z (An Z Z <| rl Z <| AH ?_)
 apply lp (a := m) (fun k : Int => ⟨112, [(1, .lpb 0 0), (89, ls 4 A3 b.signals), (90, li (b.signals.length : Int)), (91, li k)], [(0, bx (AY b))], 1⟩) ba
 . exact wf hA [(0, 0)] Z Z Z
 intro k cl i
 unfold DP at i
 refine rs AA <| rl Z <| AB <| cd Z i (fun bp => ?_) (fun bw => ?_)
 .refine AD <| AC <| AB <| AH <| rs AA <| bq bp fun cp u br => sx Z (Aj u Z Z Z <| rl Z <| rs AA <| rn 2 Z <| bq br fun cq v bs => sx Z (AS (MV _ _ v) (.inl Z) Z Z Z <| rl Z <| cd Z bs (fun bt => ?_) (fun bv => ?_)))
  .refine rs AA <| rl Z <| AG <| AV <| AI <| A4 bt fun ch bu => AV <| AI <| EF ?_
   cases bu
   exact er Z Le.rfl
  exact AD <| Af <| AC <| rg AA <| rl Z <| Av bv (wf hA [(0, 0)] Z Z Z)
 refine AU <| Aa <| CU bw fun n bz => Ao <| AC <| AB <| rs AA <| rn 2 Z <| sx Z (An Z Z <| rl Z <| AH ?_)
 apply lp (a := n) (fun l : Int => ⟨112, [(101, ls 2 BN b.lines), (102, li (b.lines.length : Int)), (103, li l)], [], 0⟩) bz
 . exact wf hA [] Z Z Z
 intro l cm j
 unfold DO at j
 refine rs AA <| rl Z <| AB <| cd Z j (fun b0 => ?_) (fun b6 => ?_)
 .refine AD <| AC <| AB <| AH <| rs AA <| bq b0 fun cr w b1 => sx Z (Aj w Z Z Z <| rl Z <| rs AA <| rn 2 Z <| bq b1 fun cs x b2 => sx Z (AS (MV _ _ x) (.inl Z) Z Z Z <| rl Z <| cd Z b2 (fun b3 => ?_) (fun b5 => ?_)))
  .refine rs AA <| rl Z <| AG <| AV <| AI <| A4 b3 fun ci b4 => AV <| AI <| EF ?_
   cases b4
   exact er Z Le.rfl
  exact AD <| Af <| AC <| rg AA <| rl Z <| Av b5 (wf hA [] Z Z Z)
 refine AU <| Aa <| BG b6 fun cj b7 => Ao <| AC <| rs AA <| rl Z <| AG <| EF ?_
 cases b7
 exact er Z Le.rfl
end Go.E
/- Plain functions, and walks in step with them. Written by a program (gen.py). No condition. -/
set_option maxRecDepth 100000
namespace Go.E
open Go Go.RowKit Go.Proofs
noncomputable def GB (a : Int) (b : AN) : Option ByteArray :=
 (Ak b.elems a).bind fun c => some c.name
theorem M0 (a : Int) (b : AN) (r : ByteArray) (h : GB a b = some r) : A5 Tryz.prog 163 [.int .i64 a, .place (AY b) 0] (· = .str r) := by
 refine fn AA Tryz.func163 Z Z 10 Z [.tmp 3] Z [(0, .p (.int .i64 a)), (1, .p (.place (AY b) 0))] Z Z fun A hA => ?_
 unfold GB at h
 refine rs AA <| rl Z <| rs AA <| rn 3 Z <| bq h fun e c d => sx Z (Aj c Z Z Z <| rl Z <| AG ?_)
 cases d
 exact er Z Le.rfl
noncomputable def GC (a : Int) (b : AN) : Option ByteArray :=
 (Ak b.signals a).bind fun c => some c.name
theorem M1 (a : Int) (b : AN) (r : ByteArray) (h : GC a b = some r) : A5 Tryz.prog 164 [.int .i64 a, .place (AY b) 0] (· = .str r) := by
 refine fn AA Tryz.func164 Z Z 10 Z [.tmp 3] Z [(0, .p (.int .i64 a)), (1, .p (.place (AY b) 0))] Z Z fun A hA => ?_
 unfold GC at h
 refine rs AA <| rl Z <| rs AA <| rn 3 Z <| bq h fun e c d => sx Z (Aj c Z Z Z <| rl Z <| AG ?_)
 cases d
 exact er Z Le.rfl
noncomputable def GD (a : Int) (b : AN) : Option ByteArray :=
 (Ak b.lines a).bind fun c => some c.name
theorem M2 (a : Int) (b : AN) (r : ByteArray) (h : GD a b = some r) : A5 Tryz.prog 165 [.int .i64 a, .place (AY b) 0] (· = .str r) := by
 refine fn AA Tryz.func165 Z Z 10 Z [.tmp 3] Z [(0, .p (.int .i64 a)), (1, .p (.place (AY b) 0))] Z Z fun A hA => ?_
 unfold GD at h
 refine rs AA <| rl Z <| rs AA <| rn 3 Z <| bq h fun e c d => sx Z (Aj c Z Z Z <| rl Z <| AG ?_)
 cases d
 exact er Z Le.rfl
noncomputable def HI (b : AN) (a : AF) : Option Bool :=
 ((bif decide (0 <= a.elem) then bif decide (a.elem < (b.elems.length : Int)) then bif decide (0 <= a.fin) then (Ak b.elems a.elem).bind fun d => (HH d.kind).bind fun e => some (decide (a.fin < e)) else some false else some false else some false : Option (Bool))).bind fun (c : Bool) => some c
theorem MX (b : AN) (c : AF) (r : Bool) (h : HI b c = some r) : A5 Tryz.prog 199 [.agg (AY b), .agg (AK c)] (· = .bool r) := by
 refine fn AA Tryz.func199 Z Z 34 Z [.tmp 4] Z [(0, .p (.agg (AY b))), (1, .p (.agg (AK c)))] Z Z fun A hA => ?_
 unfold HI at h
 refine rs AA <| rl Z <| jb (fun a : Bool => ⟨34, [(4, lb a)], [], 0⟩) h (fun a f => ?_) (fun a q => ?_)
 .refine Bb AA Az [0, 1, 2, 3, 4, 5, 6, 7, 8, 9, 10, 11, 12, 13, 14, 15, 16, 17, 18, 19, 20, 21, 22, 23, 24, 25, 26, 27, 28, 29] 30 (by kernel_rfl) Z Z Z ?_
  refine Am 4 Z <| DJ 8 f Z Z Z (fun g => ?_) (fun o => ?_)
  .refine Am 4 Z <| Al Z (Oj Z Z <| Am 3 Z <| DJ 16 g Z Z Z (fun i => ?_) (fun n => ?_))
   .refine Am 5 Z <| DJ 21 i Z Z Z (fun j => ?_) (fun m => ?_)
    .exact Am 6 Z <| bq j fun s d k => Al Z (AX Z (Aj d Z Z Z <| Am 2 Z <| bq k fun t e l => Al Z (BA (MW _ _ e) (.inl Z) Z Z Z <| A1 Z <| AM l (wf hA [] Z Z Z))))
    exact A1 Z <| AM m (wf hA [] Z Z Z)
   exact A1 Z <| AM n (wf hA [] Z Z Z)
  exact A1 Z <| AM o (wf hA [] Z Z Z)
 refine AG ?_
 have hr := Option.some.inj q; subst hr
 exact er Z Le.rfl
noncomputable def Dm (c : AN) (b : (Int × (List (AF × AF)))) (a : Int) : Option (Int ⊕ ((List (AF × AF)) × Bool)) :=
 bif decide (a < (c.elems.length : Int)) then JJ (((Ak c.elems a).bind fun e => bif (e.kind != 4) then some (.inl ()) else ((bif (!(As b.2 (⟨a, 0⟩ : AF)).isSome) then some true else (Ak c.elems (((As b.2 (⟨a, 0⟩ : AF)).getD (⟨0, 0⟩ : AF)).elem)).bind fun f => some (f.kind == 4) : Option (Bool))).bind fun (d : Bool) => bif d then some (.inr (.inr ([], false))) else some (.inl ()) : Option (Unit ⊕ (Int ⊕ ((List (AF × AF)) × Bool))))) fun (g : Unit) => some (.inl (AR (a + 1))) else some (.inr (b.2, true))
noncomputable def Et (e : AN) (d : Int × (List (AF × AF))) : Option ((Int × (List (AF × AF))) ⊕ ((List (AF × AF)) × Bool)) :=
 bif decide (d.1 < (e.joins.length : Int)) then (Ak e.joins d.1).bind fun c => ((bif (As d.2 c.a).isSome then some true else bif (As d.2 c.b).isSome then some true else bif (c.a == c.b) then some true else (HI e c.a).bind fun g => bif (!g) then some true else (HI e c.b).bind fun h => some (!h) : Option (Bool))).bind fun (f : Bool) => bif f then some (.inr ([], false)) else some (.inl (AR (d.1 + 1), BE c.b c.a (BE c.a c.b d.2))) else (AQ (Dm e d) 0).map .inr
noncomputable def G4 (a : AN) : Option ((List (AF × AF)) × Bool) :=
 AQ (Et a) (0, [])
theorem TP (c : AN) (r : ((List (AF × AF)) × Bool)) (h : G4 c = some r) : A5 Tryz.prog 166 [.agg (AY c)] (· = .tup [.map (Ax (fun x => .agg (AK x)) (fun x => .agg (AK x)) r.1), .bool r.2]) := by
 refine fn AA Tryz.func166 Z Z 105 Z [.tmp 2, .tmp 3] Z [(0, .p (.agg (AY c)))] Z Z fun A hA => ?_
 unfold G4 at h
 refine rs AA <| rl Z <| rs AA <| rl Z <| AB <| rs AA <| rn 2 Z <| sx Z (An Z Z <| rl Z <| AH ?_)
 apply lp (a := r) (fun d : (Int × (List (AF × AF))) => ⟨105, [(1, .lpb 0 0), (4, .lmap 1), (17, ls 4 BT c.joins), (18, li (c.joins.length : Int)), (19, li d.1)], [(0, bx (AY c)), (1, .map (Ax (fun x => .agg (AK x)) (fun x => .agg (AK x)) d.2))], 2⟩) h
 . exact wf hA [(0, 0), (1, 1)] Z Z Z
 intro d bg k
 unfold Et at k
 refine rs AA <| rl Z <| AB <| cd Z k (fun ao => ?_) (fun a7 => ?_)
 .refine AD <| AC <| AB <| AH <| rs AA <| bq ao fun e q ap => sx Z (Aj q Z Z Z <| rl Z <| rs AA <| rn 3 Z <| sx Z (JL (et := 96) (ke := (fun x => .agg (AK x))) (ve := (fun x => .agg (AK x))) (mp := d.2) (y := e.a) (⟨0, 0⟩ : AF) Cc Z Z Z Z <| rl Z <| rs AA <| rn 3 Z <| sx Z (JL (et := 96) (ke := (fun x => .agg (AK x))) (ve := (fun x => .agg (AK x))) (mp := d.2) (y := e.b) (⟨0, 0⟩ : AF) Cc Z Z Z Z <| rl Z <| AB <| jb (fun i : Bool => ⟨105, [(1, .lpb 0 0), (4, .lmap 1), (6, .lpb 2 0), (17, ls 4 BT c.joins), (18, li (c.joins.length : Int)), (19, li d.1), (61, lb i)], [(0, bx (AY c)), (1, .map (Ax (fun x => .agg (AK x)) (fun x => .agg (AK x)) d.2)), (2, bx (BT e))], 3⟩) ap (fun i aq => ?_) (fun i a3 => ?_))))
  .refine rg AA <| rn 2 Z <| gs 38 aq Z Z Z (fun ar => ?_) (fun au => ?_)
   .exact rl Z <| AM ar (wf hA (gi 3 []) Z Z Z)
   refine rn 3 Z <| gs 41 au Z Z Z (fun av => ?_) (fun aw => ?_)
   .exact rl Z <| AM av (wf hA (gi 3 []) Z Z Z)
   refine rn 4 Z <| sx Z (AAf (Iy e.a e.b) Z Z Z Z Z <| rn 2 Z <| gs 48 aw Z Z Z (fun ax => ?_) (fun ay => ?_))
   .exact rl Z <| AM ax (wf hA (gi 3 []) Z Z Z)
   refine rn 3 Z <| bq ay fun bj s az => sx Z (AS (MX _ _ _ s) (.inl Z) Z Z Z <| rn 3 Z <| gs 55 az Z Z Z (fun a0 => ?_) (fun a1 => ?_))
   .exact rl Z <| AM a0 (wf hA (gi 3 []) Z Z Z)
   exact rn 3 Z <| bq a1 fun bk t a2 => sx Z (AS (MX _ _ _ t) (.inl Z) Z Z Z <| rl Z <| AM a2 (wf hA (gi 3 []) Z Z Z))
  refine cd Z a3 (fun a4 => ?_) (fun a6 => ?_)
  .refine rs AA <| rl Z <| AG <| AI <| AV <| AI <| A4 a4 fun be a5 => AV <| AI ?_
   cases a5
   exact er Z (Le.tup' (.cons Le.nilm (.cons Le.rfl .nil)))
  refine AD <| AC ?_
  refine Bb AA Az [0, 1, 2, 3, 4, 5, 6, 7, 8, 9, 10, 11] 12 (by kernel_rfl) Z Z Z ?_
  exact Am 10 Z <| Al Z (AX Z (JM (et := 96) (ke := (fun x => .agg (AK x))) (ve := (fun x => .agg (AK x))) (mp := d.2) (y := e.a) (z := e.b) Cc Z Z Z Z Z Z <| Al Z (AX Z (JM (et := 96) (ke := (fun x => .agg (AK x))) (ve := (fun x => .agg (AK x))) (mp := BE e.a e.b d.2) (y := e.b) (z := e.a) Cc Z Z Z Z Z Z <| A1 Z <| Af <| AC <| rg AA <| rl Z <| Av a6 (wf hA [(0, 0), (1, 1)] Z Z Z)))))
 refine AU <| Aa <| CU a7 fun l a8 => Ao <| AC <| AB <| rs AA <| rn 2 Z <| sx Z (An Z Z <| rl Z <| AH ?_)
 apply lp (a := l) (fun f : Int => ⟨105, [(1, .lpb 0 0), (4, .lmap 1), (74, ls 3 BI c.elems), (75, li (c.elems.length : Int)), (76, li f)], [(0, bx (AY c)), (1, .map (Ax (fun x => .agg (AK x)) (fun x => .agg (AK x)) d.2))], 2⟩) a8
 . exact wf hA [(0, 0), (1, 1)] Z Z Z
 intro f m j
 unfold Dm at j
 refine rs AA <| rl Z <| AB <| cd Z j (fun u => ?_) (fun am => ?_)
 .refine AD <| AC ?_
  apply jn (a := m) (fun a9 : Unit => ⟨105, [(1, .lpb 0 0), (4, .lmap 1), (74, ls 3 BI c.elems), (75, li (c.elems.length : Int)), (76, li f)], [(0, bx (AY c)), (1, .map (Ax (fun x => .agg (AK x)) (fun x => .agg (AK x)) d.2))], 2⟩) u
  .intro bf v
   refine AH <| rs AA <| rn 1 Z <| bq v fun bh n w => sx Z (Aj n Z Z Z <| rl Z <| AB <| rs AA <| rl Z <| cd Z w (fun aa => ?_) (fun ab => ?_))
   .exact AU <| Aa <| Ao <| Av aa (wf hA [(0, 0), (1, 1)] Z Z Z)
   refine AD <| AC <| rs AA <| rn 3 Z <| sx Z (JL (et := 96) (ke := (fun x => .agg (AK x))) (ve := (fun x => .agg (AK x))) (mp := d.2) (y := (⟨f, 0⟩ : AF)) (⟨0, 0⟩ : AF) Cc Z Z Z Z <| rl Z <| jb (fun g : Bool => ⟨105, [(1, .lpb 0 0), (4, .lmap 1), (74, ls 3 BI c.elems), (75, li (c.elems.length : Int)), (76, li f), (102, lb g)], [(0, bx (AY c)), (1, .map (Ax (fun x => .agg (AK x)) (fun x => .agg (AK x)) d.2))], 2⟩) ab (fun g ac => ?_) (fun g ag => ?_))
   .refine rg AA <| rn 3 Z <| gs 93 ac Z Z Z (fun ad => ?_) (fun ae => ?_)
    .exact rl Z <| AM ad (wf hA [(0, 0), (1, 1)] Z Z Z)
    exact rn 4 Z <| bq ae fun bi o af => sx Z (Aj o Z Z Z <| rl Z <| AM af (wf hA [(0, 0), (1, 1)] Z Z Z))
   refine cd Z ag (fun ah => ?_) (fun ak => ?_)
   .refine rs AA <| rl Z <| AG <| AV <| A4 ah fun ba ai => A4 ai fun bb aj => AV <| AI ?_
    cases aj
    exact er Z (Le.tup' (.cons Le.nilm (.cons Le.rfl .nil)))
   exact AD <| Af <| Av ak (wf hA [(0, 0), (1, 1)] Z Z Z)
  intro a9 al
  exact rg AA <| rl Z <| Av al (wf hA [(0, 0), (1, 1)] Z Z Z)
 refine AU <| Aa <| BG am fun bc an => Ao <| AC <| rs AA <| rl Z <| AG ?_
 cases an
 exact er (SZ Z (.cons (.one (.map Z)) (.cons (.one (.p _)) .nil))) Le.rfl
noncomputable def DQ (b : AN) (c : (Int × (List (AF × Bool)))) (a : Int) : Option (Int ⊕ Bool) :=
 bif decide (a < (b.elems.length : Int)) then (Ak b.elems a).bind fun e => ((bif (e.kind == 4) then some (!((As c.2 (⟨a, 0⟩ : AF)).getD false)) else some false : Option (Bool))).bind fun (d : Bool) => bif d then some (.inr false) else some (.inl (AR (a + 1))) else some (.inr true)
noncomputable def EN (b : AN) (d : (List (AF × AF))) (a : Int × (List (AF × Bool))) : Option ((Int × (List (AF × Bool))) ⊕ Bool) :=
 bif decide (a.1 < (b.signals.length : Int)) then (Ak b.signals a.1).bind fun c => (((HI b c.at_).bind fun j => bif (!j) then some true else some ((As a.2 c.at_).getD false) : Option (Bool))).bind fun (g : Bool) => bif g then some (.inr false) else (Ak b.elems c.at_.elem).bind fun e => ((bif (e.kind != 1) then some (e.kind != 4) else some false : Option (Bool))).bind fun (h : Bool) => bif h then some (.inr false) else ((bif (!(As d c.at_).isSome) then some true else (Ak b.elems (((As d c.at_).getD (⟨0, 0⟩ : AF)).elem)).bind fun i => some (i.kind == 4) : Option (Bool))).bind fun (f : Bool) => bif f then some (.inr false) else some (.inl (AR (a.1 + 1), BE c.at_ true a.2)) else (AQ (DQ b a) 0).map .inr
noncomputable def GE (a : AN) (b : (List (AF × AF))) : Option Bool :=
 AQ (EN a b) (0, [])
theorem R5 (b : AN) (d : (List (AF × AF))) (r : Bool) (h : GE b d = some r) : A5 Tryz.prog 167 [.agg (AY b), .map (Ax (fun x => .agg (AK x)) (fun x => .agg (AK x)) d)] (· = .bool r) := by
 refine fn AA Tryz.func167 Z Z 88 Z [.tmp 4] Z [(0, .p (.agg (AY b))), (1, .p (.map (Ax (fun x => .agg (AK x)) (fun x => .agg (AK x)) d)))] Z Z fun A hA => ?_
 unfold GE at h
 refine rs AA <| rl Z <| rs AA <| rl Z <| AB <| rs AA <| rn 2 Z <| sx Z (An Z Z <| rl Z <| AH ?_)
 apply lp (a := r) (fun c : (Int × (List (AF × Bool))) => ⟨88, [(1, .p (.map (Ax (fun x => .agg (AK x)) (fun x => .agg (AK x)) d))), (2, .lpb 0 0), (5, .lmap 1), (15, ls 4 A3 b.signals), (16, li (b.signals.length : Int)), (17, li c.1)], [(0, bx (AY b)), (1, .map (Ax (fun x => .agg (AK x)) .bool c.2))], 2⟩) h
 . exact wf hA [(0, 0), (1, 1)] Z Z Z
 intro c bk m
 unfold EN at m
 refine rs AA <| rl Z <| AB <| cd Z m (fun av => ?_) (fun ag => ?_)
 .refine AD <| AC <| AB <| AH <| rs AA <| bq av fun e s aw => sx Z (Aj s Z Z Z <| rl Z <| AB <| jb (fun j : Bool => ⟨88, [(1, .p (.map (Ax (fun x => .agg (AK x)) (fun x => .agg (AK x)) d))), (2, .lpb 0 0), (5, .lmap 1), (7, .lpb 2 0), (15, ls 4 A3 b.signals), (16, li (b.signals.length : Int)), (17, li c.1), (31, lb j)], [(0, bx (AY b)), (1, .map (Ax (fun x => .agg (AK x)) .bool c.2)), (2, bx (A3 e))], 3⟩) aw (fun j ax => ?_) (fun j a1 => ?_))
  .refine rg AA <| rn 3 Z <| bq ax fun bn t ay => sx Z (AS (MX _ _ _ t) (.inl Z) Z Z Z <| rn 2 Z <| gs 26 ay Z Z Z (fun az => ?_) (fun a0 => ?_))
   .exact rl Z <| AM az (wf hA (gi 3 []) Z Z Z)
   exact rn 3 Z <| sx Z (K4 (et := 4) (ke := (fun x => .agg (AK x))) (ve := .bool) (mp := c.2) (y := e.at_) false Cc Z Z Z Z <| rl Z <| AM a0 (wf hA (gi 3 []) Z Z Z))
  refine cd Z a1 (fun a2 => ?_) (fun a4 => ?_)
  .refine rs AA <| rl Z <| AG <| AI <| AV <| AI <| A4 a2 fun bh a3 => AV <| AI ?_
   cases a3
   exact er Z Le.rfl
  refine AD <| AC <| AB <| rs AA <| rn 5 Z <| bq a4 fun bo u a5 => sx Z (Aj u Z Z Z <| rl Z <| jb (fun k : Bool => ⟨88, [(1, .p (.map (Ax (fun x => .agg (AK x)) (fun x => .agg (AK x)) d))), (2, .lpb 0 0), (5, .lmap 1), (7, .lpb 2 0), (15, ls 4 A3 b.signals), (16, li (b.signals.length : Int)), (17, li c.1), (45, lb k)], [(0, bx (AY b)), (1, .map (Ax (fun x => .agg (AK x)) .bool c.2)), (2, bx (A3 e))], 3⟩) a5 (fun k a6 => ?_) (fun k a9 => ?_))
  .refine rg AA <| rn 3 Z <| gs 42 a6 Z Z Z (fun a7 => ?_) (fun a8 => ?_)
   .exact rl Z <| AM a7 (wf hA (gi 3 []) Z Z Z)
   exact rl Z <| AM a8 (wf hA (gi 3 []) Z Z Z)
  refine cd Z a9 (fun ba => ?_) (fun bc => ?_)
  .refine rs AA <| rl Z <| AG <| AI <| AV <| AI <| A4 ba fun bi bb => AV <| AI ?_
   cases bb
   exact er Z Le.rfl
  refine AD <| AC <| rs AA <| rn 3 Z <| sx Z (JL (et := 96) (ke := (fun x => .agg (AK x))) (ve := (fun x => .agg (AK x))) (mp := d) (y := e.at_) (⟨0, 0⟩ : AF) Cc Z Z Z Z <| rl Z <| AB <| jb (fun g : Bool => ⟨88, [(1, .p (.map (Ax (fun x => .agg (AK x)) (fun x => .agg (AK x)) d))), (2, .lpb 0 0), (5, .lmap 1), (7, .lpb 2 0), (15, ls 4 A3 b.signals), (16, li (b.signals.length : Int)), (17, li c.1), (64, lb g)], [(0, bx (AY b)), (1, .map (Ax (fun x => .agg (AK x)) .bool c.2)), (2, bx (A3 e))], 3⟩) bc (fun g v => ?_) (fun g ac => ?_))
  .refine rg AA <| rn 3 Z <| gs 55 v Z Z Z (fun w => ?_) (fun aa => ?_)
   .exact rl Z <| AM w (wf hA (gi 3 []) Z Z Z)
   exact rn 4 Z <| bq aa fun bl o ab => sx Z (Aj o Z Z Z <| rl Z <| AM ab (wf hA (gi 3 []) Z Z Z))
  refine cd Z ac (fun ad => ?_) (fun af => ?_)
  .refine rs AA <| rl Z <| AG <| AI <| AV <| AI <| A4 ad fun be ae => AV <| AI ?_
   cases ae
   exact er Z Le.rfl
  exact AD <| AC <| rg AA <| rn 3 Z <| sx Z (JM (et := 4) (ke := (fun x => .agg (AK x))) (ve := .bool) (mp := c.2) (y := e.at_) (z := true) Cc Z Z Z Z Z Z <| rl Z <| Af <| AC <| rg AA <| rl Z <| Av af (wf hA [(0, 0), (1, 1)] Z Z Z))
 refine AU <| Aa <| CU ag fun n ah => Ao <| AC <| AB <| rs AA <| rn 2 Z <| sx Z (An Z Z <| rl Z <| AH ?_)
 apply lp (a := n) (fun f : Int => ⟨88, [(5, .lmap 0), (70, ls 3 BI b.elems), (71, li (b.elems.length : Int)), (72, li f)], [(0, .map (Ax (fun x => .agg (AK x)) .bool c.2))], 1⟩) ah
 . exact wf hA [(0, 1)] Z Z Z
 intro f bj l
 unfold DQ at l
 refine rs AA <| rl Z <| AB <| cd Z l (fun ai => ?_) (fun ar => ?_)
 .refine AD <| AC <| AB <| AH <| rs AA <| rn 1 Z <| bq ai fun bm q aj => sx Z (Aj q Z Z Z <| rl Z <| jb (fun i : Bool => ⟨88, [(5, .lmap 0), (70, ls 3 BI b.elems), (71, li (b.elems.length : Int)), (72, li f), (86, lb i)], [(0, .map (Ax (fun x => .agg (AK x)) .bool c.2))], 1⟩) aj (fun i ak => ?_) (fun i an => ?_))
  .refine rg AA <| rn 4 Z <| gs 80 ak Z Z Z (fun al => ?_) (fun am => ?_)
   .exact rn 3 Z <| sx Z (K4 (et := 4) (ke := (fun x => .agg (AK x))) (ve := .bool) (mp := c.2) (y := (⟨f, 0⟩ : AF)) false Cc Z Z Z Z <| rl Z <| AM al (wf hA [(0, 0)] Z Z Z))
   exact rl Z <| AM am (wf hA [(0, 0)] Z Z Z)
  refine cd Z an (fun ao => ?_) (fun aq => ?_)
  .refine rs AA <| rl Z <| AG <| AV <| AI <| A4 ao fun bf ap => AV <| AI ?_
   cases ap
   exact er Z Le.rfl
  exact AD <| Af <| AC <| rg AA <| rl Z <| Av aq (wf hA [(0, 0)] Z Z Z)
 refine AU <| Aa <| BG ar fun bg au => Ao <| AC <| rs AA <| rl Z <| AG ?_
 cases au
 exact er Z Le.rfl
noncomputable def FB (b : (List Int)) (c : (List (AF × AF))) (a : Int × Int) : Option ((Int × Int) ⊕ Bool) :=
 bif decide (a.2 < (b.length : Int)) then (Ak b (AR (a.2 - 1))).bind fun d => ((bif (!(As c (⟨d, a.1⟩ : AF)).isSome) then some true else (Ak b a.2).bind fun f => some ((((As c (⟨d, a.1⟩ : AF)).getD (⟨0, 0⟩ : AF)).elem) != f) : Option (Bool))).bind fun (e : Bool) => bif e then some (.inr false) else some (.inl (AR (1 - (((As c (⟨d, a.1⟩ : AF)).getD (⟨0, 0⟩ : AF)).fin)), AR (a.2 + 1))) else some (.inr true)
noncomputable def EJ (b : (List Int)) (c : (List (AF × AF))) (a : Int × Int) : Option ((Int × Int) ⊕ Bool) :=
 bif decide (0 <= a.2) then (((Ak b 0).bind fun d => ((bif (As c (⟨d, a.2⟩ : AF)).isSome then (Ak b 1).bind fun g => some ((((As c (⟨d, a.2⟩ : AF)).getD (⟨0, 0⟩ : AF)).elem) == g) else some false : Option (Bool))).bind fun (f : Bool) => bif f then some a.2 else some a.1 : Option (Int))).bind fun (e : Int) => some (.inl (e, AR (a.2 - 1))) else (bif decide (a.1 < 0) then some false else AQ (FB b c) (a.1, 1)).map .inr
noncomputable def JZ (a : (List Int)) (b : (List (AF × AF))) : Option Bool :=
 bif decide ((a.length : Int) < 2) then some true else AQ (EJ a b) ((-1), 1)
theorem Wp (c : (List Int)) (b : (List (AF × AF))) (r : Bool) (h : JZ c b = some r) : A5 Tryz.prog 200 [.slice 1 (c.map AW), .map (Ax (fun x => .agg (AK x)) (fun x => .agg (AK x)) b)] (· = .bool r) := by
 refine fn AA Tryz.func200 Z Z 73 Z [.tmp 4] Z [(0, .p (.slice 1 (c.map AW))), (1, .p (.map (Ax (fun x => .agg (AK x)) (fun x => .agg (AK x)) b)))] Z Z fun A hA => ?_
 unfold JZ at h
 refine rs AA <| rl Z <| AB <| rs AA <| rn 1 Z <| sx Z (An Z Z <| rl Z <| cd Z h (fun ak => ?_) (fun al => ?_))
 .refine rs AA <| rl Z <| AG <| AI ?_
  cases ak
  exact er Z Le.rfl
 refine AD <| AC <| rs AA <| rl Z <| AB <| rs AA <| rl Z <| AH ?_
 apply lp (a := r) (fun d : (Int × Int) => ⟨73, [(0, ls 1 AW c), (1, .p (.map (Ax (fun x => .agg (AK x)) (fun x => .agg (AK x)) b))), (5, li d.1), (6, li d.2)], [], 0⟩) al
 . exact wf hA [] Z Z Z
 intro d a3 k
 unfold EJ at k
 refine AB <| rs AA <| rl Z <| cd Z k (fun t => ?_) (fun ag => ?_)
 .refine AD <| AC <| jb (fun f : Int => ⟨73, [(0, ls 1 AW c), (1, .p (.map (Ax (fun x => .agg (AK x)) (fun x => .agg (AK x)) b))), (5, li f), (6, li d.2)], [], 0⟩) t (fun f u => ?_) (fun f af => ?_)
  .refine AH <| rs AA <| rn 2 Z <| bq u fun a0 n v => sx Z (Aj n Z Z Z <| rn 3 Z <| sx Z (JL (et := 96) (ke := (fun x => .agg (AK x))) (ve := (fun x => .agg (AK x))) (mp := b) (y := (⟨a0, d.2⟩ : AF)) (⟨0, 0⟩ : AF) Cc Z Z Z Z <| rl Z <| jb (fun g : Bool => ⟨73, [(0, ls 1 AW c), (1, .p (.map (Ax (fun x => .agg (AK x)) (fun x => .agg (AK x)) b))), (5, li d.1), (6, li d.2), (37, lb g)], [], 0⟩) v (fun g w => ?_) (fun g ac => ?_)))
   .refine Bb AA Az [0, 1, 2, 3, 4, 5, 6, 7, 8] 9 (by kernel_rfl) Z Z Z ?_
    refine Am 2 Z <| DJ 30 w Z Z Z (fun z => ?_) (fun ab => ?_)
    .exact Am 3 Z <| bq z fun a5 o aa => Al Z (AX Z (Aj o Z Z Z <| A1 Z <| AM aa (wf hA [] Z Z Z)))
    exact A1 Z <| AM ab (wf hA [] Z Z Z)
   refine cd Z ac (fun ad => ?_) (fun ae => ?_)
   .exact rg AA <| rl Z <| Af <| AM ad (wf hA [] Z Z Z)
   exact AD <| Af <| AM ae (wf hA [] Z Z Z)
  exact rg AA <| rl Z <| Av af (wf hA [] Z Z Z)
 refine AU <| Aa <| CU ag fun m ah => Ao <| AC <| AB <| rs AA <| rl Z <| cd Z ah (fun ai => ?_) (fun aj => ?_)
 .refine rs AA <| rl Z <| AG <| AI ?_
  cases ai
  exact er Z Le.rfl
 refine AD <| AC <| AB <| rs AA <| rl Z <| AH ?_
 apply lp (a := m) (fun e : (Int × Int) => ⟨73, [(0, ls 1 AW c), (1, .p (.map (Ax (fun x => .agg (AK x)) (fun x => .agg (AK x)) b))), (5, li e.1), (9, li e.2)], [], 0⟩) aj
 . exact wf hA [] Z Z Z
 intro e a4 l
 unfold FB at l
 refine AB <| rs AA <| rn 2 Z <| sx Z (An Z Z <| rl Z <| cd Z l (fun am => ?_) (fun ay => ?_))
 .refine AD <| AC <| AB <| AH <| rs AA <| rn 4 Z <| bq am fun j q an => sx Z (Aj q Z Z Z <| rn 3 Z <| sx Z (JL (et := 96) (ke := (fun x => .agg (AK x))) (ve := (fun x => .agg (AK x))) (mp := b) (y := (⟨j, e.1⟩ : AF)) (⟨0, 0⟩ : AF) Cc Z Z Z Z <| rl Z <| AB <| jb (fun i : Bool => ⟨73, [(0, ls 1 AW c), (1, .p (.map (Ax (fun x => .agg (AK x)) (fun x => .agg (AK x)) b))), (9, li e.2), (10, .lpb 0 0), (69, lb i)], [(0, .box [li (((As b (⟨j, e.1⟩ : AF)).getD (⟨0, 0⟩ : AF)).elem), li (((As b (⟨j, e.1⟩ : AF)).getD (⟨0, 0⟩ : AF)).fin)])], 1⟩) an (fun i ao => ?_) (fun i au => ?_)))
  .refine Bb AA Az [0, 1, 2, 3, 4, 5, 6, 7, 8, 9, 10] 11 (by kernel_rfl) Z Z Z ?_
   refine Am 3 Z <| DJ 61 ao Z Z Z (fun ap => ?_) (fun aq => ?_)
   .exact A1 Z <| AM ap (wf hA [(0, 0)] Z Z Z)
   exact Am 4 Z <| bq aq fun a6 s ar => Al Z (AX Z (Aj s Z Z Z <| A1 Z <| AM ar (wf hA [(0, 0)] Z Z Z)))
  refine cd Z au (fun av => ?_) (fun ax => ?_)
  .refine rs AA <| rl Z <| AG <| AI <| AV <| AI <| A4 av fun a1 aw => AV <| AI ?_
   cases aw
   exact er Z Le.rfl
  exact AD <| AC <| rg AA <| rl Z <| Af <| AC <| rg AA <| rl Z <| Av ax (wf hA [] Z Z Z)
 refine AU <| Aa <| BG ay fun a2 az => Ao <| AC <| rs AA <| rl Z <| AG ?_
 cases az
 exact er Z Le.rfl
noncomputable def FN (d : AN) (g : (List (AF × AF))) (e : (Int × (List (Int × Bool)))) (c : B5) (a : Int × (List (Int × Bool))) : Option ((Int × (List (Int × Bool))) ⊕ ((Int × (List (Int × Bool))) ⊕ Bool)) :=
 bif decide (a.1 < (c.elems.length : Int)) then (Ak c.elems a.1).bind fun b => ((bif decide (b < 0) then some true else bif decide ((d.elems.length : Int) <= b) then some true else (Ak d.elems b).bind fun h => bif (h.kind != 1) then some true else some ((As a.2 b).getD false) : Option (Bool))).bind fun (f : Bool) => bif f then some (.inr (.inr false)) else some (.inl (AR (a.1 + 1), BE b true a.2)) else ((JZ c.elems g).bind fun i => bif (!i) then some (.inr false) else some (.inl (AR (e.1 + 1), a.2))).map .inr
noncomputable def FO (b : AN) (d : (List (AF × AF))) (a : Int × (List (Int × Bool))) : Option ((Int × (List (Int × Bool))) ⊕ Bool) :=
 bif decide (a.1 < (b.lines.length : Int)) then (Ak b.lines a.1).bind fun c => bif ((c.elems.length : Int) == 0) then some (.inr false) else AQ (FN b d a c) (0, a.2) else some (.inr true)
noncomputable def Hv (a : AN) (b : (List (AF × AF))) : Option Bool :=
 AQ (FO a b) (0, [])
theorem UQ (b : AN) (e : (List (AF × AF))) (r : Bool) (h : Hv b e = some r) : A5 Tryz.prog 168 [.agg (AY b), .map (Ax (fun x => .agg (AK x)) (fun x => .agg (AK x)) e)] (· = .bool r) := by
 refine fn AA Tryz.func168 Z Z 61 Z [.tmp 4] Z [(0, .p (.agg (AY b))), (1, .p (.map (Ax (fun x => .agg (AK x)) (fun x => .agg (AK x)) e)))] Z Z fun A hA => ?_
 unfold Hv at h
 refine rs AA <| rl Z <| rs AA <| rl Z <| AB <| rs AA <| rn 2 Z <| sx Z (An Z Z <| rl Z <| AH ?_)
 apply lp (a := r) (fun f : (Int × (List (Int × Bool))) => ⟨61, [(1, .p (.map (Ax (fun x => .agg (AK x)) (fun x => .agg (AK x)) e))), (2, .lpb 0 0), (5, .lmap 1), (12, ls 2 BN b.lines), (13, li (b.lines.length : Int)), (14, li f.1)], [(0, bx (AY b)), (1, .map (Ax (.int .i64) .bool f.2))], 2⟩) h
 . exact wf hA [(0, 0), (1, 1)] Z Z Z
 intro f l j
 unfold FO at j
 refine rs AA <| rl Z <| AB <| cd Z j (fun s => ?_) (fun ax => ?_)
 .refine AD <| AC <| AB <| AH <| rs AA <| bq s fun c m t => sx Z (Aj m Z Z Z <| rl Z <| AB <| rs AA <| rn 2 Z <| sx Z (An Z Z <| rl Z <| cd Z t (fun u => ?_) (fun w => ?_)))
  .refine rs AA <| rl Z <| AG <| AI <| AV <| AI <| A4 u fun az v => AV <| AI ?_
   cases v
   exact er Z Le.rfl
  refine AD <| AC <| AB <| rs AA <| rn 2 Z <| sx Z (An Z Z <| rl Z <| AH ?_)
  apply lp (a := l) (fun d : (Int × (List (Int × Bool))) => ⟨61, [(1, .p (.map (Ax (fun x => .agg (AK x)) (fun x => .agg (AK x)) e))), (2, .lpb 0 0), (5, .lmap 1), (7, .lpb 2 0), (12, ls 2 BN b.lines), (13, li (b.lines.length : Int)), (14, li f.1), (23, ls 1 AW c.elems), (24, li (c.elems.length : Int)), (25, li d.1)], [(0, bx (AY b)), (1, .map (Ax (.int .i64) .bool d.2)), (2, .box [.p (.str c.name), ls 1 AW c.elems])], 3⟩) w
  . exact wf hA (gi 3 []) Z Z Z
  intro d a5 k
  unfold FN at k
  refine rs AA <| rl Z <| AB <| cd Z k (fun aa => ?_) (fun ap => ?_)
  .refine AD <| AC <| AB <| AH <| rs AA <| bq aa fun i n ab => sx Z (Aj n Z Z Z <| rl Z <| AB <| jb (fun g : Bool => ⟨61, [(1, .p (.map (Ax (fun x => .agg (AK x)) (fun x => .agg (AK x)) e))), (2, .lpb 0 0), (5, .lmap 1), (7, .lpb 2 0), (9, li i), (12, ls 2 BN b.lines), (13, li (b.lines.length : Int)), (14, li f.1), (23, ls 1 AW c.elems), (24, li (c.elems.length : Int)), (25, li d.1), (51, lb g)], [(0, bx (AY b)), (1, .map (Ax (.int .i64) .bool d.2)), (2, .box [.p (.str c.name), ls 1 AW c.elems])], 3⟩) ab (fun g ac => ?_) (fun g ak => ?_))
   .refine rg AA <| rn 3 Z <| gs 31 ac Z Z Z (fun ad => ?_) (fun ae => ?_)
    .exact rl Z <| AM ad (wf hA (gi 3 []) Z Z Z)
    refine rn 3 Z <| sx Z (An Z Z <| rn 3 Z <| gs 38 ae Z Z Z (fun af => ?_) (fun ag => ?_))
    .exact rl Z <| AM af (wf hA (gi 3 []) Z Z Z)
    refine rn 3 Z <| bq ag fun a6 o ah => sx Z (Aj o Z Z Z <| rn 5 Z <| gs 47 ah Z Z Z (fun ai => ?_) (fun aj => ?_))
    .exact rl Z <| AM ai (wf hA (gi 3 []) Z Z Z)
    exact rn 2 Z <| sx Z (K4 (et := 4) (ke := (.int .i64)) (ve := .bool) (mp := d.2) (y := i) false Lk Z Z Z Z <| rl Z <| AM aj (wf hA (gi 3 []) Z Z Z))
   refine cd Z ak (fun al => ?_) (fun ao => ?_)
   .refine rs AA <| rl Z <| AG <| AI <| AV <| AI <| A4 al fun a0 am => AV <| AI <| AV <| AI <| A4 am fun a1 an => AV <| AI ?_
    cases an
    exact er Z Le.rfl
   exact AD <| AC <| rg AA <| rn 2 Z <| sx Z (JM (et := 4) (ke := (.int .i64)) (ve := .bool) (mp := d.2) (y := i) (z := true) Lk Z Z Z Z Z Z <| rl Z <| Af <| AC <| rg AA <| rl Z <| Av ao (wf hA (gi 3 []) Z Z Z))
  refine AU <| Aa <| CU ap fun a2 aq => Ao <| AC <| rs AA <| rn 3 Z <| bq aq fun a7 q ar => sx Z (AS (Wp _ _ _ q) (.inl Z) Z Z Z <| rl Z <| cd Z ar (fun au => ?_) (fun aw => ?_))
  .refine rs AA <| rl Z <| AG <| AV <| AI <| A4 au fun a3 av => AV <| AI ?_
   cases av
   exact er Z Le.rfl
  exact AD <| Af <| AC <| rg AA <| rl Z <| Av aw (wf hA [(0, 0), (1, 1)] Z Z Z)
 refine AU <| Aa <| BG ax fun a4 ay => Ao <| AC <| rs AA <| rl Z <| AG ?_
 cases ay
 exact er Z Le.rfl
end Go.E
/- Plain functions, and walks in step with them. Written by a program (gen.py). No condition. -/
set_option maxRecDepth 100000
namespace Go.E
open Go Go.RowKit Go.Proofs
noncomputable def M3 (b : Int) (a : Int × Int) : Option ((Int × Int) ⊕ Int) :=
 bif decide (0 < a.1) then some (.inl (AR (a.1 - b), AR (a.2 + a.1))) else some (.inr a.2)
noncomputable def KG (b : Int) (a : Int) : Option Int :=
 ((bif decide (b < 0) then some true else bif decide (60 < b) then some true else bif decide (a < 1) then some true else some (decide (10 < a)) : Option (Bool))).bind fun (c : Bool) => bif c then some 0 else AQ (M3 a) (AR (b - a), 0)
theorem VT (c : Int) (b : Int) (r : Int) (h : KG c b = some r) : A5 Tryz.prog 201 [.int .i64 c, .int .i64 b] (· = .int .i64 r) := by
 refine fn AA Tryz.func201 Z Z 32 Z [.tmp 4] Z [(0, .p (.int .i64 c)), (1, .p (.int .i64 b))] Z Z fun A hA => ?_
 unfold KG at h
 refine rs AA <| rl Z <| AB <| jb (fun e : Bool => ⟨32, [(0, li c), (1, li b), (19, lb e)], [], 0⟩) h (fun e g => ?_) (fun e o => ?_)
 .refine rg AA <| rn 3 Z <| gs 8 g Z Z Z (fun i => ?_) (fun j => ?_)
  .exact rl Z <| AM i (wf hA [] Z Z Z)
  refine rn 4 Z <| gs 12 j Z Z Z (fun k => ?_) (fun l => ?_)
  .exact rl Z <| AM k (wf hA [] Z Z Z)
  refine rn 4 Z <| gs 16 l Z Z Z (fun m => ?_) (fun n => ?_)
  .exact rl Z <| AM m (wf hA [] Z Z Z)
  exact rl Z <| AM n (wf hA [] Z Z Z)
 refine cd Z o (fun q => ?_) (fun s => ?_)
 .refine rs AA <| rl Z <| AG <| AI ?_
  cases q
  exact er Z Le.rfl
 refine AD <| AC <| rs AA <| rl Z <| AB <| rs AA <| rl Z <| AH ?_
 apply lp (a := r) (fun d : (Int × Int) => ⟨32, [(0, li d.1), (1, li b), (5, li d.2)], [], 0⟩) s
 . exact wf hA [] Z Z Z
 intro d x f
 unfold M3 at f
 refine AB <| rs AA <| rl Z <| cd Z f (fun t => ?_) (fun u => ?_)
 .exact AD <| AC <| AB <| AH <| rg AA <| rl Z <| Af <| AC <| rg AA <| rl Z <| Av t (wf hA [] Z Z Z)
 refine AU <| Aa <| BG u fun w v => Ao <| AC <| rs AA <| rl Z <| AG ?_
 cases v
 exact er Z Le.rfl
noncomputable def Ef (b : AN) (a : Int) : Option (Int ⊕ Bool) :=
 bif decide (a < (b.elems.length : Int)) then (Ak b.elems a).bind fun c => ((bif (c.kind != 4) then some (decide (c.length < b.top)) else some false : Option (Bool))).bind fun (d : Bool) => bif d then some (.inr false) else some (.inl (AR (a + 1))) else some (.inr true)
noncomputable def GF (a : AN) (b : Int) : Option (Int ⊕ Bool) :=
 bif decide (b < (a.signals.length : Int)) then (Ak a.signals b).bind fun e => (Ak a.elems e.at_.elem).bind fun c => ((bif (c.kind == 1) then some (decide (c.length < a.margin)) else some false : Option (Bool))).bind fun (d : Bool) => bif d then some (.inr false) else some (.inl (AR (b + 1))) else (AQ (Ef a) 0).map .inr
noncomputable def Ig (a : AN) : Option Bool :=
 (KG a.top a.brake).bind fun b => bif decide (a.margin < AR (a.top + b)) then some false else AQ (GF a) 0
theorem VU (b : AN) (r : Bool) (h : Ig b = some r) : A5 Tryz.prog 169 [.agg (AY b)] (· = .bool r) := by
 refine fn AA Tryz.func169 Z Z 62 Z [.tmp 2] Z [(0, .p (.agg (AY b)))] Z Z fun A hA => ?_
 unfold Ig at h
 refine rs AA <| rl Z <| AB <| AB ?_
 refine Bb AA Az [0, 1, 2, 3, 4, 5, 6, 7, 8, 9, 10] 11 (by kernel_rfl) Z Z Z ?_
 refine Am 8 Z <| bq h fun a0 n o => Al Z (BA (VT _ _ _ n) (.inl Z) Z Z Z <| A1 Z <| AC <| cd Z o (fun q => ?_) (fun s => ?_))
 .refine rs AA <| rl Z <| AG <| AI ?_
  cases q
  exact er Z Le.rfl
 refine AD <| AC <| AB <| rs AA <| rn 2 Z <| sx Z (An Z Z <| rl Z <| AH ?_)
 apply lp (a := r) (fun c : Int => ⟨62, [(1, .lpb 0 0), (20, ls 4 A3 b.signals), (21, li (b.signals.length : Int)), (22, li c)], [(0, bx (AY b))], 1⟩) s
 . exact wf hA [(0, 0)] Z Z Z
 intro c av g
 unfold GF at g
 refine rs AA <| rl Z <| AB <| cd Z g (fun t => ?_) (fun ad => ?_)
 .refine AD <| AC <| AB <| AH <| rs AA <| bq t fun ax k u => sx Z (Aj k Z Z Z <| rl Z <| rs AA <| rn 5 Z <| bq u fun ay l v => sx Z (Aj l Z Z Z <| rl Z <| jb (fun e : Bool => ⟨62, [(1, .lpb 0 0), (20, ls 4 A3 b.signals), (21, li (b.signals.length : Int)), (22, li c), (42, lb e)], [(0, bx (AY b))], 1⟩) v (fun e w => ?_) (fun e z => ?_)))
  .refine rg AA <| rn 4 Z <| gs 36 w Z Z Z (fun x => ?_) (fun y => ?_)
   .exact rl Z <| AM x (wf hA [(0, 0)] Z Z Z)
   exact rl Z <| AM y (wf hA [(0, 0)] Z Z Z)
  refine cd Z z (fun aa => ?_) (fun ac => ?_)
  .refine rs AA <| rl Z <| AG <| AV <| AI <| A4 aa fun aq ab => AV <| AI ?_
   cases ab
   exact er Z Le.rfl
  exact AD <| Af <| AC <| rg AA <| rl Z <| Av ac (wf hA [(0, 0)] Z Z Z)
 refine AU <| Aa <| CU ad fun j ae => Ao <| AC <| AB <| rs AA <| rn 2 Z <| sx Z (An Z Z <| rl Z <| AH ?_)
 apply lp (a := j) (fun d : Int => ⟨62, [(1, .lpb 0 0), (45, ls 3 BI b.elems), (46, li (b.elems.length : Int)), (47, li d)], [(0, bx (AY b))], 1⟩) ae
 . exact wf hA [(0, 0)] Z Z Z
 intro d aw i
 unfold Ef at i
 refine rs AA <| rl Z <| AB <| cd Z i (fun af => ?_) (fun ao => ?_)
 .refine AD <| AC <| AB <| AH <| rs AA <| bq af fun az m ag => sx Z (Aj m Z Z Z <| rl Z <| jb (fun f : Bool => ⟨62, [(1, .lpb 0 0), (45, ls 3 BI b.elems), (46, li (b.elems.length : Int)), (47, li d), (60, lb f)], [(0, bx (AY b))], 1⟩) ag (fun f ah => ?_) (fun f ak => ?_))
  .refine rg AA <| rn 4 Z <| gs 54 ah Z Z Z (fun ai => ?_) (fun aj => ?_)
   .exact rl Z <| AM ai (wf hA [(0, 0)] Z Z Z)
   exact rl Z <| AM aj (wf hA [(0, 0)] Z Z Z)
  refine cd Z ak (fun al => ?_) (fun an => ?_)
  .refine rs AA <| rl Z <| AG <| AV <| AI <| A4 al fun ar am => AV <| AI ?_
   cases am
   exact er Z Le.rfl
  exact AD <| Af <| AC <| rg AA <| rl Z <| Av an (wf hA [(0, 0)] Z Z Z)
 refine AU <| Aa <| BG ao fun au ap => Ao <| AC <| rs AA <| rl Z <| AG ?_
 cases ap
 exact er Z Le.rfl
noncomputable def EA (b : AN) (a : Int × (List (ByteArray × Bool))) : Option ((Int × (List (ByteArray × Bool))) ⊕ Bool) :=
 bif decide (a.1 < (b.elems.length : Int)) then (GB a.1 b).bind fun c => bif ((As a.2 c).getD false) then some (.inr true) else (GB a.1 b).bind fun d => some (.inl (AR (a.1 + 1), BE d true a.2)) else some (.inr false)
noncomputable def EB (b : AN) (a : Int × (List (ByteArray × Bool))) : Option ((Int × (List (ByteArray × Bool))) ⊕ Bool) :=
 bif decide (a.1 < (b.signals.length : Int)) then (GC a.1 b).bind fun c => bif ((As a.2 c).getD false) then some (.inr true) else (GC a.1 b).bind fun d => some (.inl (AR (a.1 + 1), BE d true a.2)) else some (.inr false)
noncomputable def EC (b : AN) (a : Int × (List (ByteArray × Bool))) : Option ((Int × (List (ByteArray × Bool))) ⊕ Bool) :=
 bif decide (a.1 < (b.lines.length : Int)) then (GD a.1 b).bind fun c => bif ((As a.2 c).getD false) then some (.inr true) else (GD a.1 b).bind fun d => some (.inl (AR (a.1 + 1), BE d true a.2)) else some (.inr false)
noncomputable def Hw (a : AN) : Option Int :=
 ((bif decide (40 < (a.elems.length : Int)) then some true else bif decide (24 < (a.signals.length : Int)) then some true else bif decide (4 < (a.lines.length : Int)) then some true else some (decide (80 < (a.joins.length : Int))) : Option (Bool))).bind fun (c : Bool) => bif c then some 3 else (GA a).bind fun h => bif (!h) then some 1 else ((((AQ (EA a) (0, []) : Option (Bool))).bind fun (e : Bool) => bif e then some true else ((AQ (EB a) (0, []) : Option (Bool))).bind fun (f : Bool) => bif f then some true else ((AQ (EC a) (0, []) : Option (Bool))).bind fun (g : Bool) => some g : Option (Bool))).bind fun (d : Bool) => bif d then some 4 else (G4 a).bind fun b => bif (!b.2) then some 6 else (GE a b.1).bind fun i => bif (!i) then some 7 else (Hv a b.1).bind fun j => bif (!j) then some 8 else (Ig a).bind fun k => bif (!k) then some 9 else some 0
theorem UR (b : AN) (r : Int) (h : Hw b = some r) : A5 Tryz.prog 115 [.agg (AY b)] (· = .int .i64 r) := by
 refine fn AA Tryz.func115 Z Z 71 Z [.tmp 2] Z [(0, .p (.agg (AY b)))] Z Z fun A hA => ?_
 unfold Hw at h
 refine rs AA <| rl Z <| AB <| jb (fun j : Bool => ⟨71, [(1, .lpb 0 0), (26, lb j)], [(0, bx (AY b))], 1⟩) h (fun j ad => ?_) (fun j ak => ?_)
 .refine rg AA <| rn 2 Z <| sx Z (An Z Z <| rn 2 Z <| gs 9 ad Z Z Z (fun ae => ?_) (fun af => ?_))
  .exact rl Z <| AM ae (wf hA [(0, 0)] Z Z Z)
  refine rn 2 Z <| sx Z (An Z Z <| rn 3 Z <| gs 15 af Z Z Z (fun ag => ?_) (fun ah => ?_))
  .exact rl Z <| AM ag (wf hA [(0, 0)] Z Z Z)
  refine rn 2 Z <| sx Z (An Z Z <| rn 3 Z <| gs 21 ah Z Z Z (fun ai => ?_) (fun aj => ?_))
  .exact rl Z <| AM ai (wf hA [(0, 0)] Z Z Z)
  exact rn 2 Z <| sx Z (An Z Z <| rl Z <| AM aj (wf hA [(0, 0)] Z Z Z))
 refine cd Z ak (fun al => ?_) (fun am => ?_)
 .refine rs AA <| rl Z <| AG <| AI ?_
  cases al
  exact er Z Le.rfl
 refine AD <| AC <| AB <| rs AA <| rn 1 Z <| bq am fun cq s a2 => sx Z (AS (R4 _ _ s) (.inl Z) Z Z Z <| rl Z <| cd Z a2 (fun a4 => ?_) (fun a6 => ?_))
 .refine rs AA <| rl Z <| AG <| AI ?_
  cases a4
  exact er Z Le.rfl
 refine AD <| AC <| AB <| jb (fun k : Bool => ⟨71, [(1, .lpb 0 0), (48, lb k)], [(0, bx (AY b))], 1⟩) a6 (fun k an => ?_) (fun k bt => ?_)
 .refine rg AA <| rn 2 Z <| sx Z (An Z Z <| rn 1 Z <| sx Z (Cn AA (fun f : Bool => lb f) (fun f : Bool => [(0, bx (AY b))]) 1 an Tryz.func162 22 [.tmp 4] [(0, li (b.elems.length : Int)), (1, .fn 163 [.lpb 0 0])] Z Z Z Z Z Z Z Z (fun A hA f ao => ?_) (fun f az => ?_)))
  .refine rs AA <| rl Z <| rs AA <| rl Z <| AB <| rs AA <| rl Z <| AH ?_
   apply lp (a := f) (fun c : (Int × (List (ByteArray × Bool))) => ⟨22, [(1, .fn 163 [.lpb 0 0]), (5, .lmap 1), (8, li (b.elems.length : Int)), (9, li c.1)], [(0, bx (AY b)), (1, .map (Ax .str .bool c.2))], 2⟩) ao
   . exact wj hA [(0, 0), (1, 1)] Z Z Z Z
   intro c cn l
   unfold EA at l
   refine rs AA <| rl Z <| AB <| cd Z l (fun ap => ?_) (fun ax => ?_)
   .refine AD <| AC <| AB <| AH <| rs AA <| rl Z <| AB <| rs AA <| rn 3 Z <| bq ap fun ca o aq => sx Z (AS (M0 _ _ _ o) (.inl Z) Z Z (Co.eq (.cons (.one (.p _)) (.cons (.box Z (.cons (.p _) (.cons (.p _) (.cons (.p _) (.cons (.p _) (.cons (.p _) (.cons (.p _) (.cons (.p _) (.cons (.p _) (.cons (.p _) .nil)))))))))) .nil))) <| sx Z (K4 (et := 4) (ke := .str) (ve := .bool) (mp := c.2) (y := ca) false M4 Z Z Z Z <| rl Z <| cd Z aq (fun ar => ?_) (fun av => ?_)))
    .refine rs AA <| rl Z <| AG <| AI <| AV <| AI <| A4 ar fun ch au => AV <| AI ?_
     cases au
     exact CS (nt := 22) (sl := [(4, lb true)]) (wj hA [(0, 0)] Z Z Z Z) Z
    exact AD <| AC <| rg AA <| rn 3 Z <| bq av fun cb q aw => sx Z (AS (M0 _ _ _ q) (.inl Z) Z Z (Co.eq (.cons (.one (.p _)) (.cons (.box Z (.cons (.p _) (.cons (.p _) (.cons (.p _) (.cons (.p _) (.cons (.p _) (.cons (.p _) (.cons (.p _) (.cons (.p _) (.cons (.p _) .nil)))))))))) .nil))) <| sx Z (JM (et := 4) (ke := .str) (ve := .bool) (mp := c.2) (y := cb) (z := true) M4 Z Z Z Z Z Z <| rl Z <| Af <| AC <| rg AA <| rl Z <| Av aw (wj hA [(0, 0), (1, 1)] Z Z Z Z)))
   refine AU <| Aa <| BG ax fun ci ay => Ao <| AC <| rs AA <| rl Z <| AG ?_
   cases ay
   exact CS (nt := 22) (sl := [(4, lb false)]) (wj hA [(0, 0)] Z Z Z Z) Z
  refine rn 1 Z <| gs 35 az Z Z Z (fun a0 => ?_) (fun a1 => ?_)
  .exact rl Z <| AM a0 (wf hA [(0, 0)] Z Z Z)
  refine rn 2 Z <| sx Z (An Z Z <| rn 1 Z <| sx Z (Cn AA (fun g : Bool => lb g) (fun g : Bool => [(0, bx (AY b))]) 1 a1 Tryz.func162 22 [.tmp 4] [(0, li (b.signals.length : Int)), (1, .fn 164 [.lpb 0 0])] Z Z Z Z Z Z Z Z (fun A hA g a3 => ?_) (fun g bf => ?_)))
  .refine rs AA <| rl Z <| rs AA <| rl Z <| AB <| rs AA <| rl Z <| AH ?_
   apply lp (a := g) (fun d : (Int × (List (ByteArray × Bool))) => ⟨22, [(1, .fn 164 [.lpb 0 0]), (5, .lmap 1), (8, li (b.signals.length : Int)), (9, li d.1)], [(0, bx (AY b)), (1, .map (Ax .str .bool d.2))], 2⟩) a3
   . exact wj hA [(0, 0), (1, 1)] Z Z Z Z
   intro d co m
   unfold EB at m
   refine rs AA <| rl Z <| AB <| cd Z m (fun a5 => ?_) (fun bc => ?_)
   .refine AD <| AC <| AB <| AH <| rs AA <| rl Z <| AB <| rs AA <| rn 3 Z <| bq a5 fun cc t a7 => sx Z (AS (M1 _ _ _ t) (.inl Z) Z Z (Co.eq (.cons (.one (.p _)) (.cons (.box Z (.cons (.p _) (.cons (.p _) (.cons (.p _) (.cons (.p _) (.cons (.p _) (.cons (.p _) (.cons (.p _) (.cons (.p _) (.cons (.p _) .nil)))))))))) .nil))) <| sx Z (K4 (et := 4) (ke := .str) (ve := .bool) (mp := d.2) (y := cc) false M4 Z Z Z Z <| rl Z <| cd Z a7 (fun a8 => ?_) (fun ba => ?_)))
    .refine rs AA <| rl Z <| AG <| AI <| AV <| AI <| A4 a8 fun cj a9 => AV <| AI ?_
     cases a9
     exact CS (nt := 22) (sl := [(4, lb true)]) (wj hA [(0, 0)] Z Z Z Z) Z
    exact AD <| AC <| rg AA <| rn 3 Z <| bq ba fun ce u bb => sx Z (AS (M1 _ _ _ u) (.inl Z) Z Z (Co.eq (.cons (.one (.p _)) (.cons (.box Z (.cons (.p _) (.cons (.p _) (.cons (.p _) (.cons (.p _) (.cons (.p _) (.cons (.p _) (.cons (.p _) (.cons (.p _) (.cons (.p _) .nil)))))))))) .nil))) <| sx Z (JM (et := 4) (ke := .str) (ve := .bool) (mp := d.2) (y := ce) (z := true) M4 Z Z Z Z Z Z <| rl Z <| Af <| AC <| rg AA <| rl Z <| Av bb (wj hA [(0, 0), (1, 1)] Z Z Z Z)))
   refine AU <| Aa <| BG bc fun ck be => Ao <| AC <| rs AA <| rl Z <| AG ?_
   cases be
   exact CS (nt := 22) (sl := [(4, lb false)]) (wj hA [(0, 0)] Z Z Z Z) Z
  refine rn 2 Z <| gs 42 bf Z Z Z (fun bg => ?_) (fun bh => ?_)
  .exact rl Z <| AM bg (wf hA [(0, 0)] Z Z Z)
  refine rn 2 Z <| sx Z (An Z Z <| rn 1 Z <| sx Z (Cn AA (fun i : Bool => lb i) (fun i : Bool => [(0, bx (AY b))]) 1 bh Tryz.func162 22 [.tmp 4] [(0, li (b.lines.length : Int)), (1, .fn 165 [.lpb 0 0])] Z Z Z Z Z Z Z Z (fun A hA i bi => ?_) (fun i bs => ?_)))
  .refine rs AA <| rl Z <| rs AA <| rl Z <| AB <| rs AA <| rl Z <| AH ?_
   apply lp (a := i) (fun e : (Int × (List (ByteArray × Bool))) => ⟨22, [(1, .fn 165 [.lpb 0 0]), (5, .lmap 1), (8, li (b.lines.length : Int)), (9, li e.1)], [(0, bx (AY b)), (1, .map (Ax .str .bool e.2))], 2⟩) bi
   . exact wj hA [(0, 0), (1, 1)] Z Z Z Z
   intro e cp n
   unfold EC at n
   refine rs AA <| rl Z <| AB <| cd Z n (fun bj => ?_) (fun bp => ?_)
   .refine AD <| AC <| AB <| AH <| rs AA <| rl Z <| AB <| rs AA <| rn 3 Z <| bq bj fun cf v bk => sx Z (AS (M2 _ _ _ v) (.inl Z) Z Z (Co.eq (.cons (.one (.p _)) (.cons (.box Z (.cons (.p _) (.cons (.p _) (.cons (.p _) (.cons (.p _) (.cons (.p _) (.cons (.p _) (.cons (.p _) (.cons (.p _) (.cons (.p _) .nil)))))))))) .nil))) <| sx Z (K4 (et := 4) (ke := .str) (ve := .bool) (mp := e.2) (y := cf) false M4 Z Z Z Z <| rl Z <| cd Z bk (fun bl => ?_) (fun bn => ?_)))
    .refine rs AA <| rl Z <| AG <| AI <| AV <| AI <| A4 bl fun cl bm => AV <| AI ?_
     cases bm
     exact CS (nt := 22) (sl := [(4, lb true)]) (wj hA [(0, 0)] Z Z Z Z) Z
    exact AD <| AC <| rg AA <| rn 3 Z <| bq bn fun cg w bo => sx Z (AS (M2 _ _ _ w) (.inl Z) Z Z (Co.eq (.cons (.one (.p _)) (.cons (.box Z (.cons (.p _) (.cons (.p _) (.cons (.p _) (.cons (.p _) (.cons (.p _) (.cons (.p _) (.cons (.p _) (.cons (.p _) (.cons (.p _) .nil)))))))))) .nil))) <| sx Z (JM (et := 4) (ke := .str) (ve := .bool) (mp := e.2) (y := cg) (z := true) M4 Z Z Z Z Z Z <| rl Z <| Af <| AC <| rg AA <| rl Z <| Av bo (wj hA [(0, 0), (1, 1)] Z Z Z Z)))
   refine AU <| Aa <| BG bp fun cm br => Ao <| AC <| rs AA <| rl Z <| AG ?_
   cases br
   exact CS (nt := 22) (sl := [(4, lb false)]) (wj hA [(0, 0)] Z Z Z Z) Z
  exact rl Z <| AM bs (wf hA [(0, 0)] Z Z Z)
 refine cd Z bt (fun bu => ?_) (fun bv => ?_)
 .refine rs AA <| rl Z <| AG <| AI ?_
  cases bu
  exact er Z Le.rfl
 refine AD <| AC <| rs AA <| rn 1 Z <| bq bv fun cr x bw => sx Z (AS (TP _ _ x) (.inr Z) Z Z Z <| rl Z <| AB <| AH <| rs AA <| rl Z <| cd Z bw (fun bz => ?_) (fun b0 => ?_))
 .refine rs AA <| rl Z <| AG <| AV <| AI ?_
  cases bz
  exact er Z Le.rfl
 refine rs AA <| rn 2 Z <| bq b0 fun cs aa b1 => sx Z (AS (R5 _ _ _ aa) (.inl Z) Z Z Z <| rl Z <| cd Z b1 (fun b2 => ?_) (fun b3 => ?_))
 .refine rs AA <| rl Z <| AG <| AV <| AI ?_
  cases b2
  exact er Z Le.rfl
 refine rs AA <| rn 2 Z <| bq b3 fun ct ab b4 => sx Z (AS (UQ _ _ _ ab) (.inl Z) Z Z Z <| rl Z <| cd Z b4 (fun b5 => ?_) (fun b6 => ?_))
 .refine rs AA <| rl Z <| AG <| AV <| AI ?_
  cases b5
  exact er Z Le.rfl
 refine rs AA <| rn 1 Z <| bq b6 fun cu ac b7 => sx Z (AS (VU _ _ ac) (.inl Z) Z Z Z <| rl Z <| cd Z b7 (fun b8 => ?_) (fun b9 => ?_))
 .refine rs AA <| rl Z <| AG <| AV <| AI ?_
  cases b8
  exact er Z Le.rfl
 refine AD <| Af <| AC <| rs AA <| rl Z <| AG ?_
 cases b9
 exact er Z Le.rfl
noncomputable def Dq (a : (List Bp)) : Option (List Bp) :=
 MR a (some []) ((A8 ([] : List Bp) a).bind fun b => some b)
theorem MY (a : (List Bp)) (r : (List Bp)) (h : Dq a = some r) : A5 Tryz.prog 170 [.slice 3 (a.map BI)] (· = .slice 3 (r.map BI)) := by
 refine fn AA Tryz.func170 Z Z 8 Z [.tmp 2] Z [(0, .p (.slice 3 (a.map BI)))] Z Z fun A hA => ?_
 unfold Dq at h
 refine rs AA <| rl Z <| AB <| rs AA <| rn 1 Z <| sx Z (JN h Z Z Z (fun d => ?_) (fun e => ?_))
 .refine rl Z <| Qm Z <| rs AA <| rl Z <| AG <| AI ?_
  cases d
  exact er Z (Le.nil _)
 refine rl Z <| Qn Z <| AD <| AC <| rs AA <| rn 2 Z <| bq e fun f b c => sx Z (Au (enc := BI) (l := ([] : List Bp)) (m := a) b (fun _ => ⟨Z, Z⟩) Z Z Z Z Z Z <| rl Z <| AG ?_)
 have hr := Option.some.inj c; subst hr
 exact er (GM Z (.one (.own (enc := BI) f Z Z))) Le.rfl
noncomputable def Dr (a : (List Br)) : Option (List Br) :=
 MR a (some []) ((A8 ([] : List Br) a).bind fun b => some b)
theorem MZ (a : (List Br)) (r : (List Br)) (h : Dr a = some r) : A5 Tryz.prog 171 [.slice 4 (a.map BT)] (· = .slice 4 (r.map BT)) := by
 refine fn AA Tryz.func171 Z Z 8 Z [.tmp 2] Z [(0, .p (.slice 4 (a.map BT)))] Z Z fun A hA => ?_
 unfold Dr at h
 refine rs AA <| rl Z <| AB <| rs AA <| rn 1 Z <| sx Z (JN h Z Z Z (fun d => ?_) (fun e => ?_))
 .refine rl Z <| Qm Z <| rs AA <| rl Z <| AG <| AI ?_
  cases d
  exact er Z (Le.nil _)
 refine rl Z <| Qn Z <| AD <| AC <| rs AA <| rn 2 Z <| bq e fun f b c => sx Z (Au (enc := BT) (l := ([] : List Br)) (m := a) b (fun _ => ⟨Z, Z⟩) Z Z Z Z Z Z <| rl Z <| AG ?_)
 have hr := Option.some.inj c; subst hr
 exact er (GM Z (.one (.own (enc := BT) f Z Z))) Le.rfl
noncomputable def DM (a : (List BB)) : Option (List BB) :=
 MR a (some []) ((A8 ([] : List BB) a).bind fun b => some b)
theorem Lp (a : (List BB)) (r : (List BB)) (h : DM a = some r) : A5 Tryz.prog 172 [.slice 4 (a.map A3)] (· = .slice 4 (r.map A3)) := by
 refine fn AA Tryz.func172 Z Z 8 Z [.tmp 2] Z [(0, .p (.slice 4 (a.map A3)))] Z Z fun A hA => ?_
 unfold DM at h
 refine rs AA <| rl Z <| AB <| rs AA <| rn 1 Z <| sx Z (JN h Z Z Z (fun d => ?_) (fun e => ?_))
 .refine rl Z <| Qm Z <| rs AA <| rl Z <| AG <| AI ?_
  cases d
  exact er Z (Le.nil _)
 refine rl Z <| Qn Z <| AD <| AC <| rs AA <| rn 2 Z <| bq e fun f b c => sx Z (Au (enc := A3) (l := ([] : List BB)) (m := a) b (fun _ => ⟨Z, Z⟩) Z Z Z Z Z Z <| rl Z <| AG ?_)
 have hr := Option.some.inj c; subst hr
 exact er (GM Z (.one (.own (enc := A3) f Z Z))) Le.rfl
noncomputable def Ds (a : (List B5)) : Option (List B5) :=
 MR a (some []) ((A8 ([] : List B5) a).bind fun b => some b)
theorem Lx (a : (List B5)) (r : (List B5)) (h : Ds a = some r) : GV Tryz.prog 173 [.slice 2 (a.map BN)] 163 2 (r.map BN) := by
 refine XW (enc := BN) (fun _ => ⟨Z, Z⟩) Tryz.func173 Z Z 8 Z 2 Z [(0, .p (.slice 2 (a.map BN)))] Z Z fun A hA => ?_
 unfold Ds at h
 refine rs AA <| rl Z <| AB <| rs AA <| rn 1 Z <| sx Z (JN h Z Z Z (fun d => ?_) (fun e => ?_))
 .refine rl Z <| Qm Z <| rs AA <| rl Z <| AG <| AI ?_
  cases d
  exact YV Z
 refine rl Z <| Qn Z <| AD <| AC <| rs AA <| rn 2 Z <| bq e fun f b c => sx Z (Au (enc := BN) (l := ([] : List B5)) (m := a) b (fun _ => ⟨Z, Z⟩) Z Z Z Z Z Z <| rl Z <| AG ?_)
 have hr := Option.some.inj c; subst hr
 exact XX Z Z Z
noncomputable def FP (a : (List Int)) : Option (List Int) :=
 MR a (some []) ((A8 ([] : List Int) a).bind fun b => some b)
theorem O0 (a : (List Int)) (r : (List Int)) (h : FP a = some r) : A5 Tryz.prog 124 [.slice 1 (a.map AW)] (· = .slice 1 (r.map AW)) := by
 refine fn AA Tryz.func124 Z Z 8 Z [.tmp 2] Z [(0, .p (.slice 1 (a.map AW)))] Z Z fun A hA => ?_
 unfold FP at h
 refine rs AA <| rl Z <| AB <| rs AA <| rn 1 Z <| sx Z (JN h Z Z Z (fun d => ?_) (fun e => ?_))
 .refine rl Z <| Qm Z <| rs AA <| rl Z <| AG <| AI ?_
  cases d
  exact er Z (Le.nil _)
 refine rl Z <| Qn Z <| AD <| AC <| rs AA <| rn 2 Z <| bq e fun f b c => sx Z (Au (enc := AW) (l := ([] : List Int)) (m := a) b (fun _ => ⟨Z, Z⟩) Z Z Z Z Z Z <| rl Z <| AG ?_)
 have hr := Option.some.inj c; subst hr
 exact er (GM Z (.one (.own (enc := AW) f Z Z))) Le.rfl
end Go.E
/- Plain functions, and walks in step with them. Written by a program (gen.py). No condition. -/
set_option maxRecDepth 100000
namespace Go.E
open Go Go.RowKit Go.Proofs
noncomputable def G5 (b : AN) (h : (List Bp)) (i : (List Br)) (c : (List BB)) (g : (List B5)) (a : Int × (List B5)) : Option ((Int × (List B5)) ⊕ AN) :=
 bif decide (a.1 < (g.length : Int)) then (Ak a.2 a.1).bind fun d => (FP d.elems).bind fun e => (Ak a.2 a.1).bind fun f => some (.inl (AR (a.1 + 1), A9 a.2 a.1 (⟨f.name, e⟩ : B5))) else some (.inr (⟨h, i, c, a.2, b.top, b.brake, b.margin, b.throw, b.hard⟩ : AN))
noncomputable def IE (a : AN) : Option AN :=
 (Dq a.elems).bind fun d => (Dr a.joins).bind fun e => (DM a.signals).bind fun c => (Ds a.lines).bind fun b => AQ (G5 a d e c b) (0, b)
theorem RH (b : AN) (r : AN) (h : IE b = some r) : A5 Tryz.prog 116 [.agg (AY b)] (· = .agg (AY r)) := by
 refine fn AA Tryz.func116 Z Z 40 Z [.cell 2 27] Z [(0, .p (.agg (AY b)))] Z Z fun A hA => ?_
 unfold IE at h
 refine rs AA <| rl Z <| AB ?_
 refine Bb AA Az [0, 1, 2, 3, 4, 5, 6, 7, 8, 9, 10, 11, 12, 13, 14] 15 (by kernel_rfl) Z Z Z ?_
 refine Am 2 Z <| bq h fun ad k x => Al Z (BA (MY _ _ k) (.inr Z) Z Z Z <| Am 2 Z <| bq x fun ae l m => Al Z (BA (MZ _ _ l) (.inr Z) Z Z Z <| Am 2 Z <| bq m fun y g t => Al Z (BA (Lp _ _ g) (.inr Z) Z Z Z <| A1 Z <| AC <| rs AA <| rn 2 Z <| bq t fun ac j w => sx Z (Rx (Lx _ _ j) Z Z Z Z <| rl Z <| AB <| rs AA <| rl Z <| AH ?_))))
 apply lp (a := r) (fun c : (Int × (List B5)) => ⟨40, [(1, .lpb 0 0), (2, .lpb 1 0), (22, li (ac.length : Int)), (23, li c.1)], [(0, .box [ls 3 BI ad, ls 4 BT ae, ls 4 A3 y, .lsl 2 2 0 c.2.length, li b.top, li b.brake, li b.margin, li b.throw, lb b.hard]), (1, .box [.p (.nils), .p (.nils), .p (.nils), .p (.nils), li 0, li 0, li 0, li 0, lb false]), (2, .row 163 2 (c.2.map BN))], 3⟩) w
 . exact wf hA [(0, 0), (1, 1), (2, 17)] Z Z Z
 intro c ag f
 unfold G5 at f
 refine rs AA <| rl Z <| AB <| cd Z f (fun n => ?_) (fun u => ?_)
 .refine AD <| AC <| AB <| AH <| rs AA <| rl Z ?_
  refine Bb AA Az [0, 1, 2, 3, 4, 5, 6, 7, 8, 9, 10, 11, 12] 13 (by kernel_rfl) Z Z Z ?_
  exact Am 6 Z <| bq n fun ah d o => Al Z (AX Z (Bf d Z Z Z Z <| Am 1 Z <| Al Z (FE Z (Cl d Z Z Z <| bq o fun aa i q => Al Z (BA (O0 _ _ i) (.inr Z) Z Z Z <| bq q fun ab e s => Al Z (AX Z (Bf e Z Z Z Z <| Am 1 Z <| Al Z (JK Z (HO (z := (⟨ab.name, aa⟩ : B5)) e Z Z Z Z Z Z Z Z <| A1 Z <| Af <| AC <| rg AA <| rl Z <| Av s (wk (gi 3 []) (Ks hA _) Z Z Z (.cons Z (.cons Z (.cons Z (.cons Z .nil)))) (.cons Z (by simp only [BC]; rfl) (.cons Z Z (.cons Z Z .nil)))))))))))))
 refine AU <| Aa <| BG u fun af v => Ao <| AC <| rs AA <| rl Z <| AG ?_
 cases v
 exact er (GM Z (.agg (.cons (.p _) (.cons (.p _) (.cons (.p _) (.cons (.own (enc := BN) c.2 Z Z) (.cons (.p _) (.cons (.p _) (.cons (.p _) (.cons (.p _) (.cons (.p _) .nil))))))))))) Le.rfl
noncomputable def Hx (e : (Int × (List (AF × AF)))) (c : (Int × (List (Int × DR)) × (List (Int × Int)))) (d : B5) (a : Int × Int × (List (Int × DR)) × (List (Int × Int))) : Option ((Int × Int × (List (Int × DR)) × (List (Int × Int))) ⊕ ((Int × (List (Int × DR)) × (List (Int × Int))) ⊕ ((Option BL) × Int))) :=
 bif decide (a.2.1 < (d.elems.length : Int)) then (Ak d.elems a.2.1).bind fun b => some (.inl (((As e.2 (⟨b, AR (1 - a.1)⟩ : AF)).getD (⟨0, 0⟩ : AF)).fin, AR (a.2.1 + 1), BE b (⟨c.1, a.2.1⟩ : DR) a.2.2.1, BE b a.1 a.2.2.2)) else some (.inr (.inl (AR (c.1 + 1), a.2.2.1, a.2.2.2)))
noncomputable def GG (d : AN) (j : AN) (b : (Int × (List (AF × AF)))) (f : (Int × (List (AF × Int)))) (a : Int × (List (Int × DR)) × (List (Int × Int))) : Option ((Int × (List (Int × DR)) × (List (Int × Int))) ⊕ ((Option BL) × Int)) :=
 bif decide (a.1 < (d.lines.length : Int)) then (Ak d.lines a.1).bind fun c => ((bif decide (1 < (c.elems.length : Int)) then (Ak c.elems 0).bind fun e => ((bif (As b.2 (⟨e, 0⟩ : AF)).isSome then (Ak c.elems 1).bind fun i => some ((((As b.2 (⟨e, 0⟩ : AF)).getD (⟨0, 0⟩ : AF)).elem) == i) else some false : Option (Bool))).bind fun (h : Bool) => bif h then some 1 else some 0 else some 0 : Option (Int))).bind fun (g : Int) => AQ (Hx b a c) (g, 0, a.2.1, a.2.2) else some (.inr (some (⟨j, b.2, f.2, a.2.1, a.2.2⟩ : BL), 0))
noncomputable def Hy (b : AN) (d : AN) (c : (Int × (List (AF × AF)))) (a : Int × (List (AF × Int))) : Option ((Int × (List (AF × Int))) ⊕ ((Option BL) × Int)) :=
 bif decide (a.1 < (b.signals.length : Int)) then (Ak b.signals a.1).bind fun e => some (.inl (AR (a.1 + 1), BE e.at_ a.1 a.2)) else (AQ (GG b d c a) (0, [], [])).map .inr
noncomputable def Hz (e : AN) (f : AN) (c : Int × (List (AF × AF))) : Option ((Int × (List (AF × AF))) ⊕ ((Option BL) × Int)) :=
 bif decide (c.1 < (e.joins.length : Int)) then (Ak e.joins c.1).bind fun d => some (.inl (AR (c.1 + 1), BE d.b d.a (BE d.a d.b c.2))) else (AQ (Hy e f c) (0, [])).map .inr
noncomputable def Hm (a : AN) : Option ((Option BL) × Int) :=
 (Hw a).bind fun b => bif (b != 0) then some (none, b) else (IE a).bind fun c => AQ (Hz a c) (0, [])
theorem Sj (d : AN) (r : ((Option BL) × Int)) (h : Hm d = some r) : A5 Tryz.prog 43 [.agg (AY d)] (· = .tup [AA9 A7 r.1, .int .i64 r.2]) := by
 refine fn AA Tryz.func43 Z Z 148 Z [.tmp 2, .tmp 3] Z [(0, .p (.agg (AY d)))] Z Z fun A hA => ?_
 unfold Hm at h
 refine rs AA <| rl Z <| AB <| rs AA <| rn 1 Z <| bq h fun br ah aj => sx Z (AS (UR _ _ ah) (.inl Z) Z Z Z <| rl Z <| rs AA <| rl Z <| cd Z aj (fun al => ?_) (fun ay => ?_))
 .refine rs AA <| rl Z <| AG <| AI ?_
  cases al
  exact er Z Le.rfl
 refine AD <| AC <| rs AA <| rn 1 Z <| bq ay fun c af a8 => sx Z (AS (RH _ _ af) (.inr Z) Z Z Z <| rl Z <| AB <| rs AA <| rn 2 Z <| sx Z (An Z Z <| rl Z <| AH ?_))
 apply lp (a := r) (fun f : (Int × (List (AF × AF))) => ⟨148, [(1, .lpb 0 0), (5, .lpb 1 0), (31, ls 4 BT d.joins), (32, li (d.joins.length : Int)), (33, li f.1)], [(0, bx (AY d)), (1, .box [ls 3 BI c.elems, ls 4 BT c.joins, ls 4 A3 c.signals, ls 2 BN c.lines, li c.top, li c.brake, li c.margin, li c.throw, lb c.hard, .lmap 2, .lmap 3, .lmap 4, .lmap 5]), (2, .map (Ax (fun x => .agg (AK x)) (fun x => .agg (AK x)) f.2)), (3, .map (Ax (fun x => .agg (AK x)) (.int .i64) [])), (4, .map (Ax (.int .i64) (fun x => .agg (Gl x)) [])), (5, .map (Ax (.int .i64) (.int .i64) []))], 6⟩) a8
 . exact wf hA [(0, 0), (1, 5), (2, 1), (3, 2), (4, 3), (5, 4)] Z Z Z
 intro f bo t
 unfold Hz at t
 refine rs AA <| rl Z <| AB <| cd Z t (fun be => ?_) (fun bg => ?_)
 .refine AD <| AC <| AB <| AH <| rs AA <| bq be fun i ai bf => sx Z (Aj ai Z Z Z <| rl Z ?_)
  refine Bb AA Az [0, 1, 2, 3, 4, 5, 6, 7, 8, 9, 10, 11, 12, 13, 14, 15, 16, 17, 18, 19, 20, 21] 22 (by kernel_rfl) Z Z Z ?_
  exact Am 16 Z <| Al Z (AX Z (Qy (et := 96) (ke := (fun x => .agg (AK x))) (ve := (fun x => .agg (AK x))) (mp := f.2) (y := i.a) (⟨0, 0⟩ : AF) Cc Z Z Z Z Z Z <| Am 1 Z <| Al Z (AX Z (Qz (ke := (fun x => .agg (AK x))) (ve := (fun x => .agg (AK x))) (mp := f.2) (y := i.a) (z := (⟨0, 0⟩ : AF)) (w := i.b) Z Z Z Z Z <| Al Z (AX Z (Qy (et := 96) (ke := (fun x => .agg (AK x))) (ve := (fun x => .agg (AK x))) (mp := BE i.a i.b f.2) (y := i.b) (⟨0, 0⟩ : AF) Cc Z Z Z Z Z Z <| Am 1 Z <| Al Z (AX Z (Qz (ke := (fun x => .agg (AK x))) (ve := (fun x => .agg (AK x))) (mp := BE i.a i.b f.2) (y := i.b) (z := (⟨0, 0⟩ : AF)) (w := i.a) Z Z Z Z Z <| A1 Z <| Af <| AC <| rg AA <| rl Z <| Av bf (wf hA (gi 6 []) Z Z Z)))))))))
 refine AU <| Aa <| CU bg fun v bh => Ao <| AC <| AB <| rs AA <| rn 2 Z <| sx Z (An Z Z <| rl Z <| AH ?_)
 apply lp (a := v) (fun j : (Int × (List (AF × Int))) => ⟨148, [(1, .lpb 0 0), (5, .lpb 1 0), (59, ls 4 A3 d.signals), (60, li (d.signals.length : Int)), (61, li j.1)], [(0, bx (AY d)), (1, .box [ls 3 BI c.elems, ls 4 BT c.joins, ls 4 A3 c.signals, ls 2 BN c.lines, li c.top, li c.brake, li c.margin, li c.throw, lb c.hard, .lmap 2, .lmap 3, .lmap 4, .lmap 5]), (2, .map (Ax (fun x => .agg (AK x)) (fun x => .agg (AK x)) f.2)), (3, .map (Ax (fun x => .agg (AK x)) (.int .i64) j.2)), (4, .map (Ax (.int .i64) (fun x => .agg (Gl x)) [])), (5, .map (Ax (.int .i64) (.int .i64) []))], 6⟩) bh
 . exact wf hA (gi 6 []) Z Z Z
 intro j bn s
 unfold Hy at s
 refine rs AA <| rl Z <| AB <| cd Z s (fun a9 => ?_) (fun bb => ?_)
 .refine AD <| AC <| AB <| AH <| rs AA <| rn 1 Z <| bq a9 fun bj ag ba => sx Z (Aj ag Z Z Z <| rl Z ?_)
  refine Bb AA Az [0, 1, 2, 3, 4, 5, 6, 7] 8 (by kernel_rfl) Z Z Z ?_
  exact Am 7 Z <| Al Z (AX Z (JM (et := 3) (ke := (fun x => .agg (AK x))) (ve := (.int .i64)) (mp := j.2) (y := bj.at_) (z := j.1) Cc Z Z Z Z Z Z <| A1 Z <| Af <| AC <| rg AA <| rl Z <| Av ba (wf hA (gi 6 []) Z Z Z)))
 refine AU <| Aa <| CU bb fun u bc => Ao <| AC <| AB <| rs AA <| rn 2 Z <| sx Z (An Z Z <| rl Z <| AH ?_)
 apply lp (a := u) (fun e : (Int × (List (Int × DR)) × (List (Int × Int))) => ⟨148, [(5, .lpb 0 0), (75, ls 2 BN d.lines), (76, li (d.lines.length : Int)), (77, li e.1)], [(0, .box [ls 3 BI c.elems, ls 4 BT c.joins, ls 4 A3 c.signals, ls 2 BN c.lines, li c.top, li c.brake, li c.margin, li c.throw, lb c.hard, .lmap 1, .lmap 2, .lmap 3, .lmap 4]), (1, .map (Ax (fun x => .agg (AK x)) (fun x => .agg (AK x)) f.2)), (2, .map (Ax (fun x => .agg (AK x)) (.int .i64) j.2)), (3, .map (Ax (.int .i64) (fun x => .agg (Gl x)) e.2.1)), (4, .map (Ax (.int .i64) (.int .i64) e.2.2))], 5⟩) bc
 . exact wf hA [(0, 1), (1, 2), (2, 3), (3, 4), (4, 5)] Z Z Z
 intro e aa o
 unfold GG at o
 refine rs AA <| rl Z <| AB <| cd Z o (fun ak => ?_) (fun a6 => ?_)
 .refine AD <| AC <| AB <| AH <| rs AA <| rn 1 Z <| bq ak fun k ab am => sx Z (Aj ab Z Z Z <| rl Z <| rs AA <| rl Z <| jb (fun m : Int => ⟨148, [(5, .lpb 0 0), (10, li e.1), (11, .lpb 1 0), (12, li m), (75, ls 2 BN d.lines), (76, li (d.lines.length : Int)), (77, li e.1)], [(0, .box [ls 3 BI c.elems, ls 4 BT c.joins, ls 4 A3 c.signals, ls 2 BN c.lines, li c.top, li c.brake, li c.margin, li c.throw, lb c.hard, .lmap 2, .lmap 3, .lmap 4, .lmap 5]), (1, .box [.p (.str k.name), ls 1 AW k.elems]), (2, .map (Ax (fun x => .agg (AK x)) (fun x => .agg (AK x)) f.2)), (3, .map (Ax (fun x => .agg (AK x)) (.int .i64) j.2)), (4, .map (Ax (.int .i64) (fun x => .agg (Gl x)) e.2.1)), (5, .map (Ax (.int .i64) (.int .i64) e.2.2))], 6⟩) am (fun m an => ?_) (fun m a1 => ?_))
  .refine rs AA <| rn 2 Z <| sx Z (An Z Z <| rl Z <| cd Z an (fun ao => ?_) (fun a0 => ?_))
   .refine AB ?_
    refine Bb AA Az [0, 1, 2, 3, 4, 5, 6, 7, 8, 9, 10, 11, 12, 13, 14, 15] 16 (by kernel_rfl) Z Z Z ?_
    refine Am 6 Z <| bq ao fun bi ac ap => Al Z (AX Z (Aj ac Z Z Z <| Am 2 Z <| Al Z (AX Z (JL (et := 96) (ke := (fun x => .agg (AK x))) (ve := (fun x => .agg (AK x))) (mp := f.2) (y := (⟨bi, 0⟩ : AF)) (⟨0, 0⟩ : AF) Cc Z Z Z Z <| A1 Z <| AC <| jb (fun n : Bool => ⟨148, [(5, .lpb 0 0), (10, li e.1), (11, .lpb 1 0), (12, li 0), (75, ls 2 BN d.lines), (76, li (d.lines.length : Int)), (77, li e.1), (108, lb n)], [(0, .box [ls 3 BI c.elems, ls 4 BT c.joins, ls 4 A3 c.signals, ls 2 BN c.lines, li c.top, li c.brake, li c.margin, li c.throw, lb c.hard, .lmap 2, .lmap 3, .lmap 4, .lmap 5]), (1, .box [.p (.str k.name), ls 1 AW k.elems]), (2, .map (Ax (fun x => .agg (AK x)) (fun x => .agg (AK x)) f.2)), (3, .map (Ax (fun x => .agg (AK x)) (.int .i64) j.2)), (4, .map (Ax (.int .i64) (fun x => .agg (Gl x)) e.2.1)), (5, .map (Ax (.int .i64) (.int .i64) e.2.2))], 6⟩) ap (fun n aq => ?_) (fun n aw => ?_)))))
    .refine Bb AA Az [0, 1, 2, 3, 4, 5, 6, 7, 8, 9] 10 (by kernel_rfl) Z Z Z ?_
     refine Am 2 Z <| DJ 100 aq Z Z Z (fun ar => ?_) (fun av => ?_)
     .exact Am 4 Z <| bq ar fun bp ad au => Al Z (AX Z (Aj ad Z Z Z <| A1 Z <| AM au (wf hA [(0, 0), (1, 5), (2, 1), (3, 2), (4, 3), (5, 4)] Z Z Z)))
     exact A1 Z <| AM av (wf hA [(0, 0), (1, 5), (2, 1), (3, 2), (4, 3), (5, 4)] Z Z Z)
    refine cd Z aw (fun ax => ?_) (fun az => ?_)
    .exact rg AA <| rl Z <| AM ax (wf hA (gi 6 []) Z Z Z)
    exact AD <| AM az (wf hA (gi 6 []) Z Z Z)
   exact AD <| AM a0 (wf hA [(0, 0), (1, 5), (2, 1), (3, 2), (4, 3), (5, 4)] Z Z Z)
  refine rs AA <| rn 2 Z <| sx Z (An Z Z <| rl Z <| AH ?_)
  apply lp (a := aa) (fun g : (Int × Int × (List (Int × DR)) × (List (Int × Int))) => ⟨148, [(5, .lpb 0 0), (10, li e.1), (12, li g.1), (75, ls 2 BN d.lines), (76, li (d.lines.length : Int)), (77, li e.1), (110, ls 1 AW k.elems), (111, li (k.elems.length : Int)), (112, li g.2.1)], [(0, .box [ls 3 BI c.elems, ls 4 BT c.joins, ls 4 A3 c.signals, ls 2 BN c.lines, li c.top, li c.brake, li c.margin, li c.throw, lb c.hard, .lmap 1, .lmap 2, .lmap 3, .lmap 4]), (1, .map (Ax (fun x => .agg (AK x)) (fun x => .agg (AK x)) f.2)), (2, .map (Ax (fun x => .agg (AK x)) (.int .i64) j.2)), (3, .map (Ax (.int .i64) (fun x => .agg (Gl x)) g.2.2.1)), (4, .map (Ax (.int .i64) (.int .i64) g.2.2.2))], 5⟩) a1
  . exact wf hA [(0, 0), (1, 2), (2, 3), (3, 4), (4, 5)] Z Z Z
  intro g bm q
  unfold Hx at q
  refine rs AA <| rl Z <| AB <| cd Z q (fun a2 => ?_) (fun a4 => ?_)
  .refine AD <| AC <| AB <| AH <| rs AA <| rn 1 Z <| bq a2 fun l ae a3 => sx Z (Aj ae Z Z Z <| rl Z <| AB ?_)
   refine Bb AA Az [0, 1, 2, 3, 4, 5, 6, 7, 8, 9, 10, 11, 12, 13, 14, 15, 16, 17, 18, 19] 20 (by kernel_rfl) Z Z Z ?_
   exact Am 14 Z <| Al Z (AX Z (Qy (et := 174) (ke := (.int .i64)) (ve := (fun x => .agg (Gl x))) (mp := g.2.2.1) (y := l) (⟨0, 0⟩ : DR) Lk Z Z Z Z Z Z <| Am 1 Z <| Al Z (AX Z (Qz (ke := (.int .i64)) (ve := (fun x => .agg (Gl x))) (mp := g.2.2.1) (y := l) (z := (⟨0, 0⟩ : DR)) (w := (⟨e.1, g.2.1⟩ : DR)) Z Z Z Z Z <| Al Z (AX Z (Qy (et := 3) (ke := (.int .i64)) (ve := (.int .i64)) (mp := g.2.2.2) (y := l) 0 Lk Z Z Z Z Z Z <| Am 1 Z <| Al Z (AX Z (Qz (ke := (.int .i64)) (ve := (.int .i64)) (mp := g.2.2.2) (y := l) (z := 0) (w := g.1) Z Z Z Z Z <| A1 Z <| AC <| rg AA <| rn 8 Z <| sx Z (K4 (et := 96) (ke := (fun x => .agg (AK x))) (ve := (fun x => .agg (AK x))) (mp := f.2) (y := (⟨l, AR (1 - g.1)⟩ : AF)) (⟨0, 0⟩ : AF) Cc Z Z Z Z <| rl Z <| Af <| AC <| rg AA <| rl Z <| Av a3 (wf hA (gi 5 []) Z Z Z))))))))))
  exact AU <| Aa <| BG a4 fun bk a5 => Ao <| Af <| AC <| rg AA <| rl Z <| Av a5 (wf hA (gi 5 []) Z Z Z)
 refine AU <| Aa <| BG a6 fun bl a7 => Ao <| AC <| rs AA <| rl Z <| AG ?_
 cases a7
 exact er (SZ Z (.cons (.box Z (.cons (.p _) (.cons (.p _) (.cons (.p _) (.cons (.p _) (.cons (.p _) (.cons (.p _) (.cons (.p _) (.cons (.p _) (.cons (.p _) (.cons (.map Z) (.cons (.map Z) (.cons (.map Z) (.cons (.map Z) .nil)))))))))))))) (.cons (.one (.p _)) .nil))) Le.rfl
noncomputable def I6 (b : AN) (a : Int) : Option (AF × Bool) :=
 ((bif decide (a < 0) then some true else some (decide ((b.signals.length : Int) <= a)) : Option (Bool))).bind fun (c : Bool) => bif c then some ((⟨0, 0⟩ : AF), false) else (Ak b.signals a).bind fun d => some (d.at_, true)
theorem R3 (a : AN) (b : Int) (r : (AF × Bool)) (h : I6 a b = some r) : A5 Tryz.prog 93 [.agg (AY a), .int .i64 b] (· = .tup [.agg (AK r.1), .bool r.2]) := by
 refine fn AA Tryz.func93 Z Z 22 Z [.cell 4 96, .tmp 5] Z [(0, .p (.agg (AY a))), (1, .p (.int .i64 b))] Z Z fun A hA => ?_
 unfold I6 at h
 refine rs AA <| rl Z <| AB <| jb (fun c : Bool => ⟨22, [(1, li b), (2, .lpb 0 0), (4, .lpb 1 0), (14, lb c)], [(0, bx (AY a)), (1, .box [li 0, li 0])], 2⟩) h (fun c e => ?_) (fun c i => ?_)
 .refine rg AA <| rn 3 Z <| gs 8 e Z Z Z (fun f => ?_) (fun g => ?_)
  .exact rl Z <| AM f (wf hA [(0, 0), (1, 1)] Z Z Z)
  exact rn 3 Z <| sx Z (An Z Z <| rl Z <| AM g (wf hA [(0, 0), (1, 1)] Z Z Z))
 refine cd Z i (fun j => ?_) (fun k => ?_)
 .refine rs AA <| rl Z <| AG <| AI ?_
  cases j
  exact er Z Le.rfl
 refine AD <| AC <| rs AA <| rn 3 Z <| bq k fun m d l => sx Z (Aj d Z Z Z <| rl Z <| AG ?_)
 cases l
 exact er Z Le.rfl
noncomputable def D2 (a : AN) (b : Int) : Option Int :=
 (DX a b).bind fun c => some c
theorem Ho (a : AN) (b : Int) (r : Int) (h : D2 a b = some r) : A5 Tryz.prog 91 [.agg (AY a), .int .i64 b] (· = .int .i64 r) := by
 refine fn AA Tryz.func91 Z Z 8 Z [.tmp 4] Z [(0, .p (.agg (AY a))), (1, .p (.int .i64 b))] Z Z fun A hA => ?_
 unfold D2 at h
 refine rs AA <| rl Z <| rs AA <| rn 2 Z <| bq h fun e c d => sx Z (AS (GQ _ _ _ c) (.inl Z) Z Z Z <| rl Z <| AG ?_)
 have hr := Option.some.inj d; subst hr
 exact er Z Le.rfl
noncomputable def FQ (a : AO) (b : AT) (c : Int) (f : Int) (g : Int) : Option AO :=
 (A8 ([] : List AT) a.steps).bind fun i => (A8 i [b]).bind fun j => (A8 ([] : List AJ) a.needs).bind fun d => ((bif (c != 0) then (A8 d [(⟨b.elem, c⟩ : AJ)]).bind fun h => some h else some d : Option ((List AJ)))).bind fun (e : (List AJ)) => some (⟨a.frm, g, f, j, e, [], [], [], false⟩ : AO)
theorem K7 (a : AO) (b : AT) (f : Int) (g : Int) (i : Int) (r : AO) (h : FQ a b f g i = some r) : A5 Tryz.prog 151 [.agg (AZ a), .agg (Ae b), .int .i64 f, .int .i64 g, .int .i64 i] (· = .agg (AZ r)) := by
 refine fn AA Tryz.func151 Z Z 42 Z [.cell 10 36] Z [(0, .p (.agg (AZ a))), (1, .p (.agg (Ae b))), (2, .p (.int .i64 f)), (3, .p (.int .i64 g)), (4, .p (.int .i64 i))] Z Z fun A hA => ?_
 unfold FQ at h
 refine rs AA <| rl Z <| rs AA <| rl Z <| AB <| bq h fun j c x => bq x fun k d y => ?_
 refine YZ AA Az (.picks [1, 2] (.alt 0 [] (.alt 3 [4, 5, 6, 7, 8] .done (.alt 4 [] (.alt 3 [5, 6, 7, 8] .done (.alt 5 [3, 6, 7, 8] .done .nil)) .nil)) (.alt 4 [0] (.alt 3 [5, 6, 7, 8] .done (.alt 5 [3, 6, 7, 8] .done .nil)) .nil))) 9 ⟨42, [(2, li f), (5, .lpb 0 0), (6, .lpb 1 0), (10, .lpb 2 0), (11, .lpb 3 0)], [(0, bx (AZ a)), (1, bx (Ae b)), (2, .box [li 0, li 0, li 0, .p (.nils), .p (.nils), .p (.nils), .p (.nils), .p (.nils), lb false]), (3, .box [li a.frm, li i, li g, .lsl 4 3 0 k.length, .p (.nils), .p (.nils), .p (.nils), .p (.nils), lb false]), (4, .row 65 3 (k.map Ae))], 5⟩ (by kernel_rfl) Z ?_ ?_
 .refine Tf <| A1 Z <| D7 ?_ ?_
  .refine A1 Z <| D7 ?_ ?_
   .exact Al Z (BY (Au (enc := Ae) (l := ([] : List AT)) (m := a.steps) c (fun _ => ⟨Z, Z⟩) Z Z Z Z Z Z <| Am 2 Z <| Al Z (BY (Au (enc := Ae) (l := j) (m := [b]) d (fun _ => ⟨Z, Z⟩) Z Z Z Z Z Z <| A1 Z <| HP (wf hA (gi 4 [(4, 10)]) Z Z Z)))))
   refine D7 ?_ ?_
   .refine A1 Z <| D7 ?_ ?_
    .exact Al Z (BY (Au (enc := Ae) (l := ([] : List AT)) (m := a.steps) c (fun _ => ⟨Z, Z⟩) Z Z Z Z Z Z <| Am 1 Z <| Al Z (BY (Au (enc := Ae) (l := j) (m := [b]) d (fun _ => ⟨Z, Z⟩) Z Z Z Z Z Z <| A1 Z <| HP (wf hA (gi 4 [(4, 10)]) Z Z Z)))))
    refine D7 ?_ ?_
    .exact Am 1 Z <| Al Z (BY (Au (enc := Ae) (l := ([] : List AT)) (m := a.steps) c (fun _ => ⟨Z, Z⟩) Z Z Z Z Z Z <| Al Z (BY (Au (enc := Ae) (l := j) (m := [b]) d (fun _ => ⟨Z, Z⟩) Z Z Z Z Z Z <| A1 Z <| HP (wf hA (gi 4 [(4, 10)]) Z Z Z)))))
    exact KA
   exact KA
  refine D7 ?_ ?_
  .refine A1 Z <| D7 ?_ ?_
   .exact Al Z (BY (Au (enc := Ae) (l := ([] : List AT)) (m := a.steps) c (fun _ => ⟨Z, Z⟩) Z Z Z Z Z Z <| Am 1 Z <| Al Z (BY (Au (enc := Ae) (l := j) (m := [b]) d (fun _ => ⟨Z, Z⟩) Z Z Z Z Z Z <| A1 Z <| HP (wf hA (gi 4 [(4, 10)]) Z Z Z)))))
   refine D7 ?_ ?_
   .exact Am 1 Z <| Al Z (BY (Au (enc := Ae) (l := ([] : List AT)) (m := a.steps) c (fun _ => ⟨Z, Z⟩) Z Z Z Z Z Z <| Al Z (BY (Au (enc := Ae) (l := j) (m := [b]) d (fun _ => ⟨Z, Z⟩) Z Z Z Z Z Z <| A1 Z <| HP (wf hA (gi 4 [(4, 10)]) Z Z Z)))))
   exact KA
  exact KA
 refine AC <| rs AA <| rn 3 Z <| bq y fun z n q => sx Z (Au (enc := AP) (l := ([] : List AJ)) (m := a.needs) n (fun _ => ⟨Z, Z⟩) Z Z Z Z Z Z <| rl Z <| jb (fun e : (List AJ) => ⟨42, [(10, .lpb 0 0), (11, .lpb 1 0)], [(0, .box [li 0, li 0, li 0, .p (.nils), .p (.nils), .p (.nils), .p (.nils), .p (.nils), lb false]), (1, .box [li a.frm, li i, li g, .lsl 2 3 0 k.length, .lsl 3 2 0 e.length, .p (.nils), .p (.nils), .p (.nils), lb false]), (2, .row 65 3 (k.map Ae)), (3, .row 91 2 (e.map AP))], 4⟩) q (fun e s => ?_) (fun e w => ?_))
 .refine rs AA <| rl Z <| cd Z s (fun t => ?_) (fun v => ?_)
  .exact rg AA <| rn 7 Z <| bq t fun aa o u => sx Z (Au (enc := AP) (l := z) (m := [(⟨b.elem, f⟩ : AJ)]) o (fun _ => ⟨Z, Z⟩) Z Z Z Z Z Z <| rl Z <| AM u (wf hA [(0, 2), (1, 3), (2, 4), (3, 8)] Z Z Z))
  exact AD <| AM v (wf hA [(0, 2), (1, 3), (2, 4), (3, 6)] Z Z Z)
 refine rs AA <| rl Z <| AG ?_
 cases w
 exact er (GM Z (.agg (.cons (.p _) (.cons (.p _) (.cons (.p _) (.cons (.own (enc := Ae) k Z Z) (.cons (.own (enc := AP) e Z Z) (.cons (.p _) (.cons (.p _) (.cons (.p _) (.cons (.p _) .nil))))))))))) (Le.agg' (.cons Le.rfl (.cons Le.rfl (.cons Le.rfl (.cons Le.rfl (.cons Le.rfl (.cons (Le.nil _) (.cons (Le.nil _) (.cons (Le.nil _) (.cons Le.rfl .nil))))))))))
noncomputable def Hn (c : AN) (d : Int) (a : Int) : Option (List BS) :=
 (Iz c (⟨d, a⟩ : AF)).bind fun e => bif (!e) then some [] else (DX c d).bind fun b => bif (b == 1) then some [(⟨AR (1 - a), 0⟩ : BS)] else bif (b == 3) then some [(⟨Y7 a 1, 0⟩ : BS)] else bif (b == 2) then bif (a == 0) then some [(⟨1, 1⟩ : BS), (⟨2, 2⟩ : BS)] else some [(⟨0, a⟩ : BS)] else some []
theorem Ox (b : AN) (c : Int) (a : Int) (r : (List BS)) (h : Hn b c a = some r) : A5 Tryz.prog 152 [.agg (AY b), .int .i64 c, .int .i64 a] (· = .slice 2 (r.map CP)) := by
 refine fn AA Tryz.func152 Z Z 38 Z [.tmp 6] Z [(0, .p (.agg (AY b))), (1, .p (.int .i64 c)), (2, .p (.int .i64 a))] Z Z fun A hA => ?_
 unfold Hn at h
 refine rs AA <| rl Z <| AB <| rs AA <| rn 4 Z <| bq h fun v e f => sx Z (AS (QI _ _ _ e) (.inl Z) Z Z Z <| rl Z <| cd Z f (fun g => ?_) (fun i => ?_))
 .refine rs AA <| rl Z <| AG <| AI ?_
  cases g
  exact er Z (Le.nil _)
 refine AD <| AC <| AB <| rs AA <| rn 2 Z <| bq i fun u d j => sx Z (AS (GQ _ _ _ d) (.inl Z) Z Z Z <| rl Z <| AH <| rs AA <| rl Z <| cd Z j (fun k => ?_) (fun l => ?_))
 .refine rs AA <| rl Z <| AG <| AV <| AI ?_
  cases k
  exact er (GM Z (.one (.own (enc := CP) ([(⟨AR (1 - a), 0⟩ : BS)] : List BS) Z Z))) Le.rfl
 refine rs AA <| rl Z <| cd Z l (fun m => ?_) (fun n => ?_)
 .refine rs AA <| rl Z <| AG <| AV <| AI ?_
  cases m
  exact er (GM Z (.one (.own (enc := CP) ([(⟨Y7 a 1, 0⟩ : BS)] : List BS) Z Z))) Le.rfl
 refine rs AA <| rl Z <| cd Z n (fun o => ?_) (fun t => ?_)
 .refine AB <| rs AA <| rl Z <| cd Z o (fun q => ?_) (fun s => ?_)
  .refine rs AA <| rl Z <| AG <| AI <| AV <| AI ?_
   cases q
   exact er (GM Z (.one (.own (enc := CP) ([(⟨1, 1⟩ : BS), (⟨2, 2⟩ : BS)] : List BS) Z Z))) Le.rfl
  refine AD <| AC <| rs AA <| rl Z <| AG <| AV <| AI ?_
  cases s
  exact er (GM Z (.one (.own (enc := CP) ([(⟨0, a⟩ : BS)] : List BS) Z Z))) Le.rfl
 refine AD <| Af <| AC <| rs AA <| rl Z <| AG ?_
 cases t
 exact er Z (Le.nil _)
noncomputable def G6 (d : AN) (e : AO) (b : AF) (rc : (AN × AO × AF × (List Int)) -> Option (List AO)) (u : (List Int)) (c : (List BS)) (a : Int × (List AO)) : Option ((Int × (List AO)) ⊕ (List AO)) :=
 bif decide (a.1 < (c.length : Int)) then (((Ak c a.1).bind fun g => (Ak c a.1).bind fun f => (DK d (⟨b.elem, g.out⟩ : AF)).bind fun h => bif decide (0 <= h) then (Ak c a.1).bind fun k => (FQ e (⟨b.elem, b.fin, f.out⟩ : AT) k.pos 1 h).bind fun l => (A8 a.2 [l]).bind fun m => some m else (CF d (⟨b.elem, g.out⟩ : AF)).bind fun i => bif (!i.2) then (Ak c a.1).bind fun n => (FQ e (⟨b.elem, b.fin, f.out⟩ : AT) n.pos 3 (-1)).bind fun o => (A8 a.2 [o]).bind fun p => some p else (Ak c a.1).bind fun q => (FQ e (⟨b.elem, b.fin, f.out⟩ : AT) q.pos 0 (-1)).bind fun r => (rc (d, r, i.1, u)).bind fun s => (A8 a.2 s).bind fun t => some t : Option ((List AO)))).bind fun (j : (List AO)) => some (.inl (AR (a.1 + 1), j)) else some (.inr a.2)
noncomputable def Gm (rc : (AN × AO × AF × (List Int)) -> Option (List AO)) (b : AN) (c : AO) (a : AF) (d : (List Int)) : Option (List AO) :=
 (((C4 d a.elem).bind fun f => bif f then some true else some ((c.steps.length : Int) == 12) : Option (Bool))).bind fun (e : Bool) => bif e then some [] else (A8 ([] : List Int) d).bind fun g => (A8 g [a.elem]).bind fun h => (D2 b a.elem).bind fun i => bif (i == 4) then (FQ c (⟨a.elem, a.fin, (-1)⟩ : AT) 0 2 (-1)).bind fun j => some [j] else (Hn b a.elem a.fin).bind fun k => AQ (G6 b c a rc h k) (0, ([] : List AO))
noncomputable def US (b : AN) (c : AO) (d : AF) (e : (List Int)) : Option (List AO) :=
 Oz (fun (rc : (AN × AO × AF × (List Int)) -> Option (List AO)) (a : (AN × AO × AF × (List Int))) => Gm rc a.1 a.2.1 a.2.2.1 a.2.2.2) 1000 (b, c, d, e)
theorem Wq (rc : (AN × AO × AF × (List Int)) -> Option (List AO)) (hrec : ∀ (d : AN) (e : AO) (b : AF) (c : (List Int)) (r : (List AO)), rc (d, e, b, c) = some r -> A5 Tryz.prog 105 [.agg (AY d), .agg (AZ e), .agg (AK b), .slice 1 (c.map AW)] (· = .slice 9 (r.map AZ))) (d : AN) (e : AO) (b : AF) (c : (List Int)) (r : (List AO)) (h : Gm rc d e b c = some r) : A5 Tryz.prog 105 [.agg (AY d), .agg (AZ e), .agg (AK b), .slice 1 (c.map AW)] (· = .slice 9 (r.map AZ)) := by
 refine fn AA Tryz.func105 Z Z 128 Z [.tmp 8] Z [(0, .p (.agg (AY d))), (1, .p (.agg (AZ e))), (2, .p (.agg (AK b))), (3, .p (.slice 1 (c.map AW)))] Z Z fun A hA => ?_
 unfold Gm at h
 refine rs AA <| rl Z <| AB <| jb (fun o : Bool => ⟨128, [(3, ls 1 AW c), (4, .lpb 0 0), (5, .lpb 1 0), (6, .lpb 2 0), (26, lb o)], [(0, bx (AY d)), (1, bx (AZ e)), (2, .box [li b.elem, li b.fin])], 3⟩) h (fun o ba => ?_) (fun o bf => ?_)
 .refine rg AA <| rn 3 Z <| bq ba fun b9 ah bb => sx Z (AS (HF _ _ _ ah) (.inl Z) Z Z Z <| rn 1 Z <| gs 21 bb Z Z Z (fun bc => ?_) (fun be => ?_))
  .exact rl Z <| AM bc (wf hA (gi 3 []) Z Z Z)
  exact rn 2 Z <| sx Z (An Z Z <| rl Z <| AM be (wf hA (gi 3 []) Z Z Z))
 refine cd Z bf (fun bg => ?_) (fun bh => ?_)
 .refine rs AA <| rl Z <| AG <| AI ?_
  cases bg
  exact er Z (Le.nil _)
 refine AD <| AC <| AB <| bq bh fun j g bi => bq bi fun k i bj => ?_
 refine YZ AA Az (.picks [1, 3] (.alt 0 [] (.alt 2 [4, 5, 6, 7] .done (.alt 4 [] (.alt 2 [5, 6, 7] .done (.alt 5 [2, 6, 7] .done .nil)) .nil)) (.alt 4 [0] (.alt 2 [5, 6, 7] .done (.alt 5 [2, 6, 7] .done .nil)) .nil))) 8 ⟨128, [(3, .lsl 0 1 0 k.length), (4, .lpb 1 0), (5, .lpb 2 0), (6, .lpb 3 0)], [(0, .row 3 1 (k.map AW)), (1, bx (AY d)), (2, bx (AZ e)), (3, .box [li b.elem, li b.fin])], 4⟩ (by kernel_rfl) Z ?_ ?_
 .refine Tf <| A1 Z <| D7 ?_ ?_
  .refine A1 Z <| D7 ?_ ?_
   .exact Al Z (BY (Au (enc := AW) (l := ([] : List Int)) (m := c) g (fun _ => ⟨Z, Z⟩) Z Z Z Z Z Z <| Am 2 Z <| Al Z (BY (Au (enc := AW) (l := j) (m := [b.elem]) i (fun _ => ⟨Z, Z⟩) Z Z Z Z Z Z <| A1 Z <| HP (wf hA [(0, 9), (1, 0), (2, 1), (3, 2)] Z Z Z)))))
   refine D7 ?_ ?_
   .refine A1 Z <| D7 ?_ ?_
    .exact Al Z (BY (Au (enc := AW) (l := ([] : List Int)) (m := c) g (fun _ => ⟨Z, Z⟩) Z Z Z Z Z Z <| Am 1 Z <| Al Z (BY (Au (enc := AW) (l := j) (m := [b.elem]) i (fun _ => ⟨Z, Z⟩) Z Z Z Z Z Z <| A1 Z <| HP (wf hA [(0, 9), (1, 0), (2, 1), (3, 2)] Z Z Z)))))
    refine D7 ?_ ?_
    .exact Am 1 Z <| Al Z (BY (Au (enc := AW) (l := ([] : List Int)) (m := c) g (fun _ => ⟨Z, Z⟩) Z Z Z Z Z Z <| Al Z (BY (Au (enc := AW) (l := j) (m := [b.elem]) i (fun _ => ⟨Z, Z⟩) Z Z Z Z Z Z <| A1 Z <| HP (wf hA [(0, 9), (1, 0), (2, 1), (3, 2)] Z Z Z)))))
    exact KA
   exact KA
  refine D7 ?_ ?_
  .refine A1 Z <| D7 ?_ ?_
   .exact Al Z (BY (Au (enc := AW) (l := ([] : List Int)) (m := c) g (fun _ => ⟨Z, Z⟩) Z Z Z Z Z Z <| Am 1 Z <| Al Z (BY (Au (enc := AW) (l := j) (m := [b.elem]) i (fun _ => ⟨Z, Z⟩) Z Z Z Z Z Z <| A1 Z <| HP (wf hA [(0, 9), (1, 0), (2, 1), (3, 2)] Z Z Z)))))
   refine D7 ?_ ?_
   .exact Am 1 Z <| Al Z (BY (Au (enc := AW) (l := ([] : List Int)) (m := c) g (fun _ => ⟨Z, Z⟩) Z Z Z Z Z Z <| Al Z (BY (Au (enc := AW) (l := j) (m := [b.elem]) i (fun _ => ⟨Z, Z⟩) Z Z Z Z Z Z <| A1 Z <| HP (wf hA [(0, 9), (1, 0), (2, 1), (3, 2)] Z Z Z)))))
   exact KA
  exact KA
 refine AC <| AB <| rs AA <| rn 3 Z <| bq bj fun ca ai bk => sx Z (AS (Ho _ _ _ ai) (.inl Z) Z Z Z <| rl Z <| cd Z bk (fun bl => ?_) (fun bn => ?_))
 .refine rs AA <| rn 6 Z <| bq bl fun bt aj bm => sx Z (AS (K7 _ _ _ _ _ _ aj) (.inr Z) Z Z Z <| rl Z <| AG <| AI ?_)
  cases bm
  exact er (GM Z (.one (.own (enc := AZ) ([bt] : List AO) Z Z))) Le.rfl
 refine AD <| AC <| rs AA <| rl Z <| rs AA <| rn 5 Z <| bq bn fun s ak bo => sx Z (AS (Ox _ _ _ _ ak) (.inr Z) Z Z Z <| rl Z <| AB <| rs AA <| rl Z <| AH ?_)
 apply lp (a := r) (fun f : (Int × (List AO)) => ⟨128, [(3, ls 1 AW k), (4, .lpb 0 0), (5, .lpb 1 0), (6, .lpb 2 0), (9, .lsl 3 9 0 f.2.length), (10, ls 2 CP s), (11, li f.1)], [(0, bx (AY d)), (1, bx (AZ e)), (2, .box [li b.elem, li b.fin]), (3, .row 36 9 (f.2.map AZ))], 4⟩) bo
 . exact A0.trans (EH 0 (Gx (enc := AW) (l := k) Z) (.cons 3 .hit (.cons 4 (.same _) (.cons 5 (.same _) (.cons 6 (.same _) (.cons 9 (.same _) (.cons 10 (.same _) (.cons 11 (.same _) .nil))))))) (.cons 1 Z Z (.same _) (.cons 2 Z Z (.same _) (.cons 3 Z Z (.same _) .nil)))) (A0.trans (Bm 9 36 9 Z) (wf hA [(0, 1), (1, 2), (2, 3), (3, 4)] Z Z Z))
 intro f bv q
 unfold G6 at q
 refine AB <| rs AA <| rn 2 Z <| sx Z (An Z Z <| rl Z <| cd Z q (fun al => ?_) (fun a8 => ?_))
 .refine AD <| AC <| jb (fun n : (List AO) => ⟨128, [(3, ls 1 AW k), (4, .lpb 0 0), (5, .lpb 1 0), (6, .lpb 2 0), (9, .lsl 3 9 0 n.length), (10, ls 2 CP s), (11, li f.1)], [(0, bx (AY d)), (1, bx (AZ e)), (2, .box [li b.elem, li b.fin]), (3, .row 36 9 (n.map AZ))], 4⟩) al (fun n am => ?_) (fun n a7 => ?_)
  .refine AH <| AB ?_
   refine Bb AA Az [0, 1, 2, 3, 4, 5, 6, 7, 8, 9] 10 (by kernel_rfl) Z Z Z ?_
   refine Am 4 Z <| bq am fun bw t an => Al Z (AX Z (Aj t Z Z Z <| A1 Z <| AC <| AB ?_))
   refine Bb AA Az [0, 1, 2, 3, 4, 5, 6, 7, 8, 9, 10, 11] 12 (by kernel_rfl) Z Z Z ?_
   refine Am 6 Z <| bq an fun bz u ao => Al Z (AX Z (Aj u Z Z Z <| A1 Z <| AC <| AB <| rs AA <| rn 2 Z <| bq ao fun b0 v ap => sx Z (AS (Gj _ _ _ v) (.inl Z) Z Z Z <| rl Z <| rs AA <| rl Z <| cd Z ap (fun aq => ?_) (fun aw => ?_))))
   .refine AB ?_
    refine Bb AA Az [0, 1, 2, 3, 4, 5, 6, 7, 8, 9, 10, 11, 12] 13 (by kernel_rfl) Z Z Z ?_
    exact Am 5 Z <| bq aq fun b1 w ar => Al Z (AX Z (Aj w Z Z Z <| Am 3 Z <| bq ar fun bp x au => Al Z (BA (K7 _ _ _ _ _ _ x) (.inr Z) Z Z Z <| Am 1 Z <| bq au fun b2 y av => Al Z (BY (Au (enc := AZ) (l := f.2) (m := [bp]) y (fun _ => ⟨Z, Z⟩) Z Z Z Z Z Z <| A1 Z <| AC <| AU <| Aa <| Ao <| AM av (wf hA (gi 3 [(3, 37)]) Z Z Z))))))
   refine AD <| AC <| rs AA <| rn 2 Z <| bq aw fun b3 z ax => sx Z (AS (Cj _ _ _ z) (.inl Z) Z Z Z <| rl Z <| AB <| rs AA <| rl Z <| cd Z ax (fun ay => ?_) (fun a2 => ?_))
   .refine AB ?_
    refine Bb AA Az [0, 1, 2, 3, 4, 5, 6, 7, 8, 9, 10, 11] 12 (by kernel_rfl) Z Z Z ?_
    exact Am 5 Z <| bq ay fun b4 aa az => Al Z (AX Z (Aj aa Z Z Z <| Am 2 Z <| bq az fun br ab a0 => Al Z (BA (K7 _ _ _ _ _ _ ab) (.inr Z) Z Z Z <| Am 1 Z <| bq a0 fun b5 ac a1 => Al Z (BY (Au (enc := AZ) (l := f.2) (m := [br]) ac (fun _ => ⟨Z, Z⟩) Z Z Z Z Z Z <| A1 Z <| AC <| AU <| Aa <| Ao <| AM a1 (wf hA (gi 3 [(3, 37)]) Z Z Z))))))
   refine AD <| AC ?_
   refine Bb AA Az [0, 1, 2, 3, 4, 5, 6, 7, 8, 9, 10, 11, 12, 13, 14] 15 (by kernel_rfl) Z Z Z ?_
   exact Am 6 Z <| bq a2 fun b6 ad a3 => Al Z (AX Z (Aj ad Z Z Z <| Am 2 Z <| bq a3 fun b7 ae a4 => Al Z (BA (K7 _ _ _ _ _ _ ae) (.inr Z) Z Z Z <| Am 2 Z <| bq a4 fun bs af a5 => Al Z (BA (hrec _ _ _ _ _ af) (.inr Z) Z Z Z <| bq a5 fun b8 ag a6 => Al Z (BY (Au (enc := AZ) (l := f.2) (m := bs) ag (fun _ => ⟨Z, Z⟩) Z Z Z Z Z Z <| A1 Z <| Af <| AM a6 (wf hA (gi 3 [(3, 40)]) Z Z Z)))))))
  exact rg AA <| rl Z <| Av a7 (wf hA (gi 4 []) Z Z Z)
 refine AU <| Aa <| BG a8 fun bu a9 => Ao <| AC <| rs AA <| rl Z <| AG ?_
 cases a9
 exact er (GM Z (.one (.own (enc := AZ) f.2 Z Z))) Le.rfl
theorem Yb (b : AN) (c : AO) (d : AF) (e : (List Int)) (r : (List AO)) (h : US b c d e = some r) : A5 Tryz.prog 105 [.agg (AY b), .agg (AZ c), .agg (AK d), .slice 1 (e.map AW)] (· = .slice 9 (r.map AZ)) :=
 recF_holds (F := fun (rc : (AN × AO × AF × (List Int)) -> Option (List AO)) (a : (AN × AO × AF × (List Int))) => Gm rc a.1 a.2.1 a.2.2.1 a.2.2.2) (C := fun (a : (AN × AO × AF × (List Int))) (r : (List AO)) => A5 Tryz.prog 105 [.agg (AY a.1), .agg (AZ a.2.1), .agg (AK a.2.2.1), .slice 1 (a.2.2.2.map AW)] (· = .slice 9 (r.map AZ))) (fun rc hrec a r h => Wq rc (fun f g i j r h => hrec (f, g, i, j) r h) a.1 a.2.1 a.2.2.1 a.2.2.2 r h) 1000 (b, c, d, e) r h
end Go.E
/- Plain functions, and walks in step with them. Written by a program (gen.py). No condition. -/
set_option maxRecDepth 100000
namespace Go.E
open Go Go.RowKit Go.Proofs
noncomputable def Jx (a : AN) (c : Int) : Option (List AO) :=
 (I6 a c).bind fun b => bif (!b.2) then some [] else (CF a b.1).bind fun d => bif (!d.2) then some [] else (US a (⟨c, 0, 0, [], [], [], [], [], false⟩ : AO) d.1 ([b.1.elem] : (List Int))).bind fun e => some e
theorem UL (a : AN) (b : Int) (r : (List AO)) (h : Jx a b = some r) : A5 Tryz.prog 38 [.agg (AY a), .int .i64 b] (· = .slice 9 (r.map AZ)) := by
 refine fn AA Tryz.func38 Z Z 33 Z [.tmp 4] Z [(0, .p (.agg (AY a))), (1, .p (.int .i64 b))] Z Z fun A hA => ?_
 unfold Jx at h
 refine rs AA <| rl Z <| rs AA <| rn 2 Z <| bq h fun n e k => sx Z (AS (R3 _ _ _ e) (.inl Z) Z Z Z <| rl Z <| AB <| rs AA <| rl Z <| cd Z k (fun l => ?_) (fun m => ?_))
 .refine rs AA <| rl Z <| AG <| AI ?_
  cases l
  exact er Z (Le.nil _)
 refine AD <| AC <| rs AA <| rn 2 Z <| bq m fun o c f => sx Z (AS (Cj _ _ _ c) (.inl Z) Z Z Z <| rl Z <| AB <| rs AA <| rl Z <| cd Z f (fun g => ?_) (fun i => ?_))
 .refine rs AA <| rl Z <| AG <| AI ?_
  cases g
  exact er Z (Le.nil _)
 refine AD <| AC <| rs AA <| rn 7 Z <| bq i fun q d j => sx Z (ZS (A5.le (Yb _ _ _ _ _ d) (.cons Le.rfl (.cons (Le.agg' (.cons Le.rfl (.cons Le.rfl (.cons Le.rfl (.cons (Le.nil _) (.cons (Le.nil _) (.cons (Le.nil _) (.cons (Le.nil _) (.cons (Le.nil _) (.cons Le.rfl .nil)))))))))) (.cons Le.rfl (.cons Le.rfl .nil))))) Z Z Z (Co.eq (.cons (.one (.p _)) (.cons (.one (.p _)) (.cons (.one (.p _)) (.cons (.one (.own (enc := AW) ([n.1.elem] : List Int) Z Z)) .nil))))) Z <| rl Z <| AG ?_)
 have hr := Option.some.inj j; subst hr
 exact er Z Le.rfl
noncomputable def Bk (a : (List AT)) : Option (List AT) :=
 MR a (some []) ((A8 ([] : List AT) a).bind fun b => some b)
theorem Ma (a : (List AT)) (r : (List AT)) (h : Bk a = some r) : A5 Tryz.prog 45 [.slice 3 (a.map Ae)] (· = .slice 3 (r.map Ae)) := by
 refine fn AA Tryz.func45 Z Z 8 Z [.tmp 2] Z [(0, .p (.slice 3 (a.map Ae)))] Z Z fun A hA => ?_
 unfold Bk at h
 refine rs AA <| rl Z <| AB <| rs AA <| rn 1 Z <| sx Z (JN h Z Z Z (fun d => ?_) (fun e => ?_))
 .refine rl Z <| Qm Z <| rs AA <| rl Z <| AG <| AI ?_
  cases d
  exact er Z (Le.nil _)
 refine rl Z <| Qn Z <| AD <| AC <| rs AA <| rn 2 Z <| bq e fun f b c => sx Z (Au (enc := Ae) (l := ([] : List AT)) (m := a) b (fun _ => ⟨Z, Z⟩) Z Z Z Z Z Z <| rl Z <| AG ?_)
 have hr := Option.some.inj c; subst hr
 exact er (GM Z (.one (.own (enc := Ae) f Z Z))) Le.rfl
theorem Ez (a : (List AT)) (r : (List AT)) (h : Bk a = some r) : GV Tryz.prog 45 [.slice 3 (a.map Ae)] 65 3 (r.map Ae) := by
 refine XW (enc := Ae) (fun _ => ⟨Z, Z⟩) Tryz.func45 Z Z 8 Z 2 Z [(0, .p (.slice 3 (a.map Ae)))] Z Z fun A hA => ?_
 unfold Bk at h
 refine rs AA <| rl Z <| AB <| rs AA <| rn 1 Z <| sx Z (JN h Z Z Z (fun d => ?_) (fun e => ?_))
 .refine rl Z <| Qm Z <| rs AA <| rl Z <| AG <| AI ?_
  cases d
  exact YV Z
 refine rl Z <| Qn Z <| AD <| AC <| rs AA <| rn 2 Z <| bq e fun f b c => sx Z (Au (enc := Ae) (l := ([] : List AT)) (m := a) b (fun _ => ⟨Z, Z⟩) Z Z Z Z Z Z <| rl Z <| AG ?_)
 have hr := Option.some.inj c; subst hr
 exact XX Z Z Z
noncomputable def B9 (a : (List AJ)) : Option (List AJ) :=
 MR a (some []) ((A8 ([] : List AJ) a).bind fun b => some b)
theorem Mb (a : (List AJ)) (r : (List AJ)) (h : B9 a = some r) : A5 Tryz.prog 46 [.slice 2 (a.map AP)] (· = .slice 2 (r.map AP)) := by
 refine fn AA Tryz.func46 Z Z 8 Z [.tmp 2] Z [(0, .p (.slice 2 (a.map AP)))] Z Z fun A hA => ?_
 unfold B9 at h
 refine rs AA <| rl Z <| AB <| rs AA <| rn 1 Z <| sx Z (JN h Z Z Z (fun d => ?_) (fun e => ?_))
 .refine rl Z <| Qm Z <| rs AA <| rl Z <| AG <| AI ?_
  cases d
  exact er Z (Le.nil _)
 refine rl Z <| Qn Z <| AD <| AC <| rs AA <| rn 2 Z <| bq e fun f b c => sx Z (Au (enc := AP) (l := ([] : List AJ)) (m := a) b (fun _ => ⟨Z, Z⟩) Z Z Z Z Z Z <| rl Z <| AG ?_)
 have hr := Option.some.inj c; subst hr
 exact er (GM Z (.one (.own (enc := AP) f Z Z))) Le.rfl
theorem Lw (a : (List AJ)) (r : (List AJ)) (h : B9 a = some r) : GV Tryz.prog 46 [.slice 2 (a.map AP)] 91 2 (r.map AP) := by
 refine XW (enc := AP) (fun _ => ⟨Z, Z⟩) Tryz.func46 Z Z 8 Z 2 Z [(0, .p (.slice 2 (a.map AP)))] Z Z fun A hA => ?_
 unfold B9 at h
 refine rs AA <| rl Z <| AB <| rs AA <| rn 1 Z <| sx Z (JN h Z Z Z (fun d => ?_) (fun e => ?_))
 .refine rl Z <| Qm Z <| rs AA <| rl Z <| AG <| AI ?_
  cases d
  exact YV Z
 refine rl Z <| Qn Z <| AD <| AC <| rs AA <| rn 2 Z <| bq e fun f b c => sx Z (Au (enc := AP) (l := ([] : List AJ)) (m := a) b (fun _ => ⟨Z, Z⟩) Z Z Z Z Z Z <| rl Z <| AG ?_)
 have hr := Option.some.inj c; subst hr
 exact XX Z Z Z
noncomputable def Cy (a : BL) : Option AN :=
 (IE a.p).bind fun b => some b
theorem Jw (a : BL) (r : AN) (h : Cy a = some r) : A5 Tryz.prog 47 [.place (A7 a) 0] (· = .agg (AY r)) := by
 refine fn AA Tryz.func47 Z Z 8 Z [.cell 2 27] Z [(0, .p (.place (A7 a) 0))] Z Z fun A hA => ?_
 unfold Cy at h
 refine rs AA <| rl Z <| rs AA <| rn 4 Z <| bq h fun d b c => sx Z (AS (RH _ _ b) (.inr Z) Z Z Z <| rl Z <| AG ?_)
 have hr := Option.some.inj c; subst hr
 exact er Z Le.rfl
noncomputable def GH (b : BL) (a : Int) : Option Bp :=
 ((bif decide (a < 0) then some true else some (decide ((b.p.elems.length : Int) <= a)) : Option (Bool))).bind fun (c : Bool) => bif c then some (⟨ByteArray.empty, 0, 0⟩ : Bp) else (Ak b.p.elems a).bind fun d => some d
theorem R6 (a : BL) (b : Int) (r : Bp) (h : GH a b = some r) : A5 Tryz.prog 119 [.place (A7 a) 0, .int .i64 b] (· = .agg (BI r)) := by
 refine fn AA Tryz.func119 Z Z 26 Z [.cell 4 152] Z [(0, .p (.place (A7 a) 0)), (1, .p (.int .i64 b))] Z Z fun A hA => ?_
 unfold GH at h
 refine rs AA <| rl Z <| AB <| jb (fun c : Bool => ⟨26, [(0, lq (A7 a)), (1, li b), (4, .lpb 0 0), (16, lb c)], [(0, .box [.p (.str ByteArray.empty), li 0, li 0])], 1⟩) h (fun c e => ?_) (fun c i => ?_)
 .refine rg AA <| rn 3 Z <| gs 7 e Z Z Z (fun f => ?_) (fun g => ?_)
  .exact rl Z <| AM f (wf hA [(0, 0)] Z Z Z)
  exact rn 6 Z <| sx Z (An Z Z <| rl Z <| AM g (wf hA [(0, 0)] Z Z Z))
 refine cd Z i (fun j => ?_) (fun k => ?_)
 .refine rs AA <| rl Z <| AG <| AI ?_
  cases j
  exact er Z Le.rfl
 refine AD <| AC <| rs AA <| rn 6 Z <| bq k fun m d l => sx Z (Aj d Z Z Z <| rl Z <| AG ?_)
 have hr := Option.some.inj l; subst hr
 exact er Z Le.rfl
noncomputable def Bz (a : BL) (b : Int) : Option Int :=
 (GH a b).bind fun c => some c.kind
theorem Cx (a : BL) (b : Int) (r : Int) (h : Bz a b = some r) : A5 Tryz.prog 54 [.place (A7 a) 0, .int .i64 b] (· = .int .i64 r) := by
 refine fn AA Tryz.func54 Z Z 9 Z [.tmp 4] Z [(0, .p (.place (A7 a) 0)), (1, .p (.int .i64 b))] Z Z fun A hA => ?_
 unfold Bz at h
 refine rs AA <| rl Z <| rs AA <| rn 2 Z <| bq h fun e c d => sx Z (AS (R6 _ _ _ c) (.inl Z) Z Z Z <| rl Z <| AG ?_)
 cases d
 exact er Z Le.rfl
noncomputable def Ba (a : BL) (b : AF) : Option (AF × Bool) :=
 some (((As a.next b).getD (⟨0, 0⟩ : AF)), (As a.next b).isSome)
theorem CC (a : BL) (b : AF) (r : (AF × Bool)) (h : Ba a b = some r) : A5 Tryz.prog 49 [.place (A7 a) 0, .agg (AK b)] (· = .tup [.agg (AK r.1), .bool r.2]) := by
 refine fn AA Tryz.func49 Z Z 19 Z [.cell 4 96, .tmp 5] Z [(0, .p (.place (A7 a) 0)), (1, .p (.agg (AK b)))] Z Z fun A hA => ?_
 unfold Ba at h
 refine rs AA <| rl Z <| AB ?_
 refine Bb AA Az [0, 1, 2, 3, 4, 5, 6, 7, 8, 9, 10, 11] 12 (by kernel_rfl) Z Z Z ?_
 refine Am 5 Z <| Al Z (AX Z (JL (et := 96) (ke := (fun x => .agg (AK x))) (ve := (fun x => .agg (AK x))) (mp := a.next) (y := b) (⟨0, 0⟩ : AF) Cc Z Z Z Z <| A1 Z <| AC <| rs AA <| rl Z <| AG ?_))
 cases h
 exact er Z Le.rfl
noncomputable def FR (g : BL) (e : (Int × (List AF))) (c : AT) (b : (List Int)) (a : Int × (List AF)) : Option ((Int × (List AF)) ⊕ ((Int × (List AF)) ⊕ (List AF))) :=
 bif decide (a.1 < (b.length : Int)) then (((Ak b a.1).bind fun d => (Ba g (⟨c.elem, d⟩ : AF)).bind fun h => bif h.2 then (A8 a.2 [(⟨c.elem, d⟩ : AF)]).bind fun i => some i else some a.2 : Option ((List AF)))).bind fun (f : (List AF)) => some (.inl (AR (a.1 + 1), f)) else some (.inr (.inl (AR (e.1 + 1), a.2)))
noncomputable def HU (c : BL) (d : AO) (b : Int × (List AF)) : Option ((Int × (List AF)) ⊕ (List AF)) :=
 bif decide (b.1 < (d.steps.length : Int)) then (Ak d.steps b.1).bind fun a => (((Bz c a.elem).bind fun e => bif (e == 2) then some [AR (3 - (if a.out > a.in_ then a.out else a.in_))] else bif (e == 3) then bif decide (1 < a.in_) then some [0, 1] else some [2, 3] else some ([] : List Int) : Option ((List Int)))).bind fun (f : (List Int)) => AQ (FR c b a f) (0, b.2) else some (.inr b.2)
noncomputable def Fz (a : BL) (b : AO) : Option (List AF) :=
 AQ (HU a b) (0, ([] : List AF))
theorem Ow (e : BL) (b : AO) (r : (List AF)) (h : Fz e b = some r) : A5 Tryz.prog 48 [.place (A7 e) 0, .agg (AZ b)] (· = .slice 2 (r.map AK)) := by
 refine fn AA Tryz.func48 Z Z 67 Z [.tmp 4] Z [(0, .p (.place (A7 e) 0)), (1, .p (.agg (AZ b)))] Z Z fun A hA => ?_
 unfold Fz at h
 refine rs AA <| rl Z <| rs AA <| rl Z <| AB <| rs AA <| rn 2 Z <| sx Z (An Z Z <| rl Z <| AH ?_)
 apply lp (a := r) (fun c : (Int × (List AF)) => ⟨67, [(0, lq (A7 e)), (5, .lsl 0 2 0 c.2.length), (16, ls 3 Ae b.steps), (17, li (b.steps.length : Int)), (18, li c.1)], [(0, .row 96 2 (c.2.map AK))], 1⟩) h
 . exact A0.trans (Bm 5 96 2 Z) (wf hA [(0, 1)] Z Z Z)
 intro c o k
 unfold HU at k
 refine rs AA <| rl Z <| AB <| cd Z k (fun v => ?_) (fun aq => ?_)
 .refine AD <| AC <| AB <| AH <| rs AA <| bq v fun i q w => sx Z (Aj q Z Z Z <| rl Z <| rs AA <| rl Z <| jb (fun d : (List Int) => ⟨67, [(0, lq (A7 e)), (5, .lsl 0 2 0 c.2.length), (7, .lpb 1 0), (8, .lsl 2 1 0 d.length), (16, ls 3 Ae b.steps), (17, li (b.steps.length : Int)), (18, li c.1)], [(0, .row 96 2 (c.2.map AK)), (1, bx (Ae i)), (2, .row 3 1 (d.map AW))], 3⟩) w (fun d x => ?_) (fun d af => ?_))
  .refine rs AA <| rn 3 Z <| bq x fun ay s y => sx Z (AS (Cx _ _ _ s) (.inl Z) Z Z Z <| rl Z <| AH <| rs AA <| rl Z <| cd Z y (fun z => ?_) (fun aa => ?_))
   .exact rs AA <| rl Z <| rg AA <| rl Z <| Af <| AM z (wf hA (gi 3 []) Z Z Z)
   refine rs AA <| rl Z <| cd Z aa (fun ab => ?_) (fun ae => ?_)
   .refine rs AA <| rl Z <| rs AA <| rl Z <| cd Z ab (fun ac => ?_) (fun ad => ?_)
    .exact rg AA <| rl Z <| Af <| AM ac (wf hA [(0, 0), (1, 1), (2, 3)] Z Z Z)
    exact AD <| Af <| AM ad (wf hA (gi 3 []) Z Z Z)
   exact AD <| Af <| AM ae (A0.trans (Bm 8 3 1 Z) (wf hA (gi 3 []) Z Z Z))
  refine rs AA <| rl Z <| AH ?_
  apply lp (a := o) (fun f : (Int × (List AF)) => ⟨67, [(0, lq (A7 e)), (5, .lsl 0 2 0 f.2.length), (7, .lpb 1 0), (16, ls 3 Ae b.steps), (17, li (b.steps.length : Int)), (18, li c.1), (43, .lsl 2 1 0 d.length), (44, li (d.length : Int)), (45, li f.1)], [(0, .row 96 2 (f.2.map AK)), (1, bx (Ae i)), (2, .row 3 1 (d.map AW))], 3⟩) af
  . exact wf hA (gi 3 []) Z Z Z
  intro f ax n
  unfold FR at n
  refine rs AA <| rl Z <| AB <| cd Z n (fun ag => ?_) (fun ao => ?_)
  .refine AD <| AC <| jb (fun g : (List AF) => ⟨67, [(0, lq (A7 e)), (5, .lsl 0 2 0 g.length), (7, .lpb 1 0), (16, ls 3 Ae b.steps), (17, li (b.steps.length : Int)), (18, li c.1), (43, .lsl 2 1 0 d.length), (44, li (d.length : Int)), (45, li f.1)], [(0, .row 96 2 (g.map AK)), (1, bx (Ae i)), (2, .row 3 1 (d.map AW))], 3⟩) ag (fun g ah => ?_) (fun g an => ?_)
   .refine AH <| rs AA <| bq ah fun au j ai => sx Z (Bf j Z Z Z Z <| sx Z (Cl j Z Z Z <| rl Z <| rs AA <| rl Z <| rs AA <| rn 2 Z <| bq ai fun az t aj => sx Z (AS (CC _ _ _ t) (.inl Z) Z Z Z <| rl Z <| rs AA <| rl Z <| cd Z aj (fun ak => ?_) (fun am => ?_))))
    .exact rg AA <| rn 3 Z <| bq ak fun a0 u al => sx Z (Au (enc := AK) (l := f.2) (m := [(⟨i.elem, au⟩ : AF)]) u (fun _ => ⟨Z, Z⟩) Z Z Z Z Z Z <| rl Z <| Af <| AM al (wf hA [(0, 6), (1, 1), (2, 2)] Z Z Z))
    exact AD <| Af <| AM am (wf hA (gi 3 []) Z Z Z)
   exact rg AA <| rl Z <| Av an (wf hA (gi 3 []) Z Z Z)
  exact AU <| Aa <| BG ao fun av ap => Ao <| Af <| AC <| rg AA <| rl Z <| Av ap (wf hA [(0, 0)] Z Z Z)
 refine AU <| Aa <| BG aq fun aw ar => Ao <| AC <| rs AA <| rl Z <| AG ?_
 cases ar
 exact er (GM Z (.one (.own (enc := AK) c.2 Z Z))) Le.rfl
noncomputable def Ja (a : AT) (b : Int) : Option Bool :=
 some (a.elem == b)
theorem UT (a : AT) (b : Int) (r : Bool) (h : Ja a b = some r) : A5 Tryz.prog 117 [.agg (Ae a), .place (AW b) 0] (· = .bool r) := by
 refine fn AA Tryz.func117 Z Z 8 Z [.tmp 3] Z [(0, .p (.agg (Ae a))), (1, .p (.place (AW b) 0))] Z Z fun A hA => ?_
 unfold Ja at h
 refine rs AA <| rl Z <| rs AA <| rl Z <| AG ?_
 cases h
 exact er Z Le.rfl
noncomputable def G7 (b : AO) (c : Int) (a : Int) : Option (Int ⊕ Int) :=
 bif decide (a < (b.steps.length : Int)) then (Ak b.steps a).bind fun d => (Ja d c).bind fun e => bif e then some (.inr a) else some (.inl (AR (a + 1))) else some (.inr (-1))
noncomputable def FH (c : AO) (d : Int) : Option Bool :=
 ((((AQ (G7 c d) 0 : Option (Int))).bind fun (b : Int) => some (decide (0 <= b)) : Option (Bool))).bind fun (a : Bool) => some a
theorem Nj (b : AO) (d : Int) (r : Bool) (h : FH b d = some r) : A5 Tryz.prog 51 [.agg (AZ b), .int .i64 d] (· = .bool r) := by
 refine fn AA Tryz.func51 Z Z 9 Z [.tmp 4] Z [(0, .p (.agg (AZ b))), (1, .p (.int .i64 d))] Z Z fun A hA => ?_
 unfold FH at h
 refine rs AA <| rl Z <| rs AA <| rn 3 Z <| sx Z (Cn AA (fun e : Bool => lb e) (fun e : Bool => [(0, bx (AZ b)), (1, .box [li d])]) 2 h Tryz.func96 9 [.tmp 4] [(0, ls 3 Ae b.steps), (1, .fn 117 [.lpb 1 0])] Z Z Z Z Z Z Z Z (fun A hA e k => ?_) (fun e x => ?_))
 .refine rs AA <| rl Z <| rs AA <| rn 2 Z <| sx Z (Cn AA (fun c : Int => li c) (fun c : Int => [(0, bx (AZ b)), (1, .box [li d])]) 2 k Tryz.func149 19 [.tmp 4] [(0, ls 3 Ae b.steps), (1, .fn 117 [.lpb 1 0])] Z Z Z Z Z Z Z Z (fun A hA c l => ?_) (fun c w => ?_))
  .refine rs AA <| rl Z <| AB <| rs AA <| rn 1 Z <| sx Z (An Z Z <| rl Z <| AH ?_)
   apply lp (a := c) (fun f : Int => ⟨19, [(0, ls 3 Ae b.steps), (1, .fn 117 [.lpb 1 0]), (7, li (b.steps.length : Int)), (8, li f)], [(0, bx (AZ b)), (1, .box [li d])], 2⟩) l
   . exact wj hA [(0, 0), (1, 1)] Z Z Z Z
   intro f aa g
   unfold G7 at g
   refine rs AA <| rl Z <| AB <| cd Z g (fun m => ?_) (fun u => ?_)
   .refine AD <| AC <| AB <| AH <| rs AA <| rl Z <| rs AA <| rn 3 Z <| bq m fun ab i n => sx Z (Aj i Z Z Z <| rn 1 Z <| bq n fun ac j o => sx Z (AS (UT _ _ _ j) (.inl Z) Z Z (Co.eq (.cons (.one (.p _)) (.cons (.box Z (.cons (.p _) .nil)) .nil))) <| rl Z <| cd Z o (fun q => ?_) (fun t => ?_)))
    .refine rs AA <| rl Z <| AG <| AV <| AI <| A4 q fun y s => AV <| AI ?_
     have hr := Option.some.inj s; subst hr
     exact CS (nt := 19) (sl := [(4, li f)]) (wj hA [(0, 0), (1, 1)] Z Z Z Z) Z
    exact AD <| Af <| AC <| rg AA <| rl Z <| Av t (wj hA [(0, 0), (1, 1)] Z Z Z Z)
   refine AU <| Aa <| BG u fun z v => Ao <| AC <| rs AA <| rl Z <| AG ?_
   cases v
   exact CS (nt := 19) (sl := [(4, li (-1))]) (wj hA [(0, 0), (1, 1)] Z Z Z Z) Z
  refine rl Z <| AG ?_
  cases w
  exact CS (nt := 9) (sl := [(4, lb (decide (0 <= c)))]) (wj hA [(0, 0), (1, 1)] Z Z Z Z) Z
 refine rl Z <| AG ?_
 have hr := Option.some.inj x; subst hr
 exact er Z Le.rfl
noncomputable def Bv (a : BL) (b : AF) : Option Int :=
 bif (As a.reads b).isSome then some ((As a.reads b).getD 0) else some (-1)
theorem D8 (a : BL) (b : AF) (r : Int) (h : Bv a b = some r) : A5 Tryz.prog 52 [.place (A7 a) 0, .agg (AK b)] (· = .int .i64 r) := by
 refine fn AA Tryz.func52 Z Z 18 Z [.tmp 4] Z [(0, .p (.place (A7 a) 0)), (1, .p (.agg (AK b)))] Z Z fun A hA => ?_
 unfold Bv at h
 refine rs AA <| rl Z <| AB <| AB ?_
 refine Bb AA Az [0, 1, 2, 3, 4, 5, 6, 7, 8, 9, 10] 11 (by kernel_rfl) Z Z Z ?_
 refine Am 5 Z <| Al Z (AX Z (JL (et := 3) (ke := (fun x => .agg (AK x))) (ve := (.int .i64)) (mp := a.reads) (y := b) 0 Cc Z Z Z Z <| A1 Z <| AC <| rs AA <| rl Z <| cd Z h (fun c => ?_) (fun d => ?_)))
 .refine rs AA <| rl Z <| AG <| AI ?_
  cases c
  exact er Z Le.rfl
 refine AD <| AC <| rs AA <| rl Z <| AG ?_
 cases d
 exact er Z Le.rfl
noncomputable def DG (b : (List Int)) (c : Int) (a : Int) : Option (Int ⊕ Int) :=
 bif decide (a < (b.length : Int)) then (Ak b a).bind fun d => bif (c == d) then some (.inr a) else some (.inl (AR (a + 1))) else some (.inr (-1))
noncomputable def FT (a : (List Int)) (b : Int) : Option Int :=
 AQ (DG a b) 0
theorem O1 (b : (List Int)) (c : Int) (r : Int) (h : FT b c = some r) : A5 Tryz.prog 118 [.slice 1 (b.map AW), .int .i64 c] (· = .int .i64 r) := by
 refine fn AA Tryz.func118 Z Z 19 Z [.tmp 4] Z [(0, .p (.slice 1 (b.map AW))), (1, .p (.int .i64 c))] Z Z fun A hA => ?_
 unfold FT at h
 refine rs AA <| rl Z <| AB <| rs AA <| rn 1 Z <| sx Z (An Z Z <| rl Z <| AH ?_)
 apply lp (a := r) (fun e : Int => ⟨19, [(0, ls 1 AW b), (1, li c), (7, li (b.length : Int)), (8, li e)], [], 0⟩) h
 . exact wf hA [] Z Z Z
 intro e s d
 unfold DG at d
 refine rs AA <| rl Z <| AB <| cd Z d (fun n => ?_) (fun l => ?_)
 .refine AD <| AC <| AB <| AH <| rs AA <| rl Z <| rs AA <| rn 3 Z <| bq n fun t f g => sx Z (Aj f Z Z Z <| rl Z <| cd Z g (fun i => ?_) (fun k => ?_))
  .refine rs AA <| rl Z <| AG <| AV <| AI <| A4 i fun o j => AV <| AI ?_
   have hr := Option.some.inj j; subst hr
   exact er Z Le.rfl
  exact AD <| Af <| AC <| rg AA <| rl Z <| Av k (wf hA [] Z Z Z)
 refine AU <| Aa <| BG l fun q m => Ao <| AC <| rs AA <| rl Z <| AG ?_
 cases m
 exact er Z Le.rfl
noncomputable def BV (a : (List Int)) (b : Int) : Option Bool :=
 (FT a b).bind fun c => some (decide (0 <= c))
theorem Cp (a : (List Int)) (b : Int) (r : Bool) (h : BV a b = some r) : A5 Tryz.prog 53 [.slice 1 (a.map AW), .int .i64 b] (· = .bool r) := by
 refine fn AA Tryz.func53 Z Z 9 Z [.tmp 4] Z [(0, .p (.slice 1 (a.map AW))), (1, .p (.int .i64 b))] Z Z fun A hA => ?_
 unfold BV at h
 refine rs AA <| rl Z <| rs AA <| rn 2 Z <| bq h fun e c d => sx Z (AS (O1 _ _ _ c) (.inl Z) Z Z Z <| rl Z <| AG ?_)
 cases d
 exact er Z Le.rfl
noncomputable def Cm (b : (List AJ)) (c : AJ) (a : Int) : Option (Int ⊕ Int) :=
 bif decide (a < (b.length : Int)) then (Ak b a).bind fun d => bif (c == d) then some (.inr a) else some (.inl (AR (a + 1))) else some (.inr (-1))
noncomputable def Dt (a : (List AJ)) (b : AJ) : Option Int :=
 AQ (Cm a b) 0
theorem Mc (c : (List AJ)) (b : AJ) (r : Int) (h : Dt c b = some r) : A5 Tryz.prog 120 [.slice 2 (c.map AP), .agg (AP b)] (· = .int .i64 r) := by
 refine fn AA Tryz.func120 Z Z 19 Z [.tmp 4] Z [(0, .p (.slice 2 (c.map AP))), (1, .p (.agg (AP b)))] Z Z fun A hA => ?_
 unfold Dt at h
 refine rs AA <| rl Z <| AB <| rs AA <| rn 1 Z <| sx Z (An Z Z <| rl Z <| AH ?_)
 apply lp (a := r) (fun e : Int => ⟨19, [(0, ls 2 AP c), (3, .lpb 0 0), (7, li (c.length : Int)), (8, li e)], [(0, .box [li b.elem, li b.pos])], 1⟩) h
 . exact wf hA [(0, 0)] Z Z Z
 intro e t d
 unfold Cm at d
 refine rs AA <| rl Z <| AB <| cd Z d (fun n => ?_) (fun l => ?_)
 .refine AD <| AC <| AB <| AH <| rs AA <| rl Z <| AB ?_
  refine Bb AA Az [0, 1, 2, 3, 4, 5] 6 (by kernel_rfl) Z Z Z ?_
  refine Am 3 Z <| bq n fun o f g => Al Z (AX Z (Aj f Z Z Z <| Am 1 Z <| Al Z (La (Ni b o) Z Z Z Z Z <| A1 Z <| AC <| cd Z g (fun i => ?_) (fun k => ?_))))
  .refine rs AA <| rl Z <| AG <| AV <| AI <| A4 i fun q j => AV <| AI ?_
   have hr := Option.some.inj j; subst hr
   exact er Z Le.rfl
  exact AD <| Af <| AC <| rg AA <| rl Z <| Av k (wf hA [(0, 0)] Z Z Z)
 refine AU <| Aa <| BG l fun s m => Ao <| AC <| rs AA <| rl Z <| AG ?_
 cases m
 exact er Z Le.rfl
noncomputable def B8 (a : (List AJ)) (b : AJ) : Option Bool :=
 (Dt a b).bind fun c => some (decide (0 <= c))
theorem EV (a : (List AJ)) (b : AJ) (r : Bool) (h : B8 a b = some r) : A5 Tryz.prog 56 [.slice 2 (a.map AP), .agg (AP b)] (· = .bool r) := by
 refine fn AA Tryz.func56 Z Z 9 Z [.tmp 4] Z [(0, .p (.slice 2 (a.map AP))), (1, .p (.agg (AP b)))] Z Z fun A hA => ?_
 unfold B8 at h
 refine rs AA <| rl Z <| rs AA <| rn 2 Z <| bq h fun e c d => sx Z (AS (Mc _ _ _ c) (.inl Z) Z Z Z <| rl Z <| AG ?_)
 cases d
 exact er Z Le.rfl
noncomputable def Cw (c : BL) (d : Int) (a : Int) : Option (List BS) :=
 ((bif decide (a < 0) then some true else (Bz c d).bind fun f => (HH f).bind fun g => some (decide (g <= a)) : Option (Bool))).bind fun (e : Bool) => bif e then some [] else (Bz c d).bind fun b => bif (b == 1) then some [(⟨AR (1 - a), 0⟩ : BS)] else bif (b == 3) then (Ak ([1, 0, 3, 2] : List Int) a).bind fun h => some [(⟨h, 0⟩ : BS)] else bif (b == 2) then bif (a == 0) then some [(⟨1, 1⟩ : BS), (⟨2, 2⟩ : BS)] else (Ak ([0, 1, 2] : List Int) a).bind fun i => some [(⟨0, i⟩ : BS)] else some []
theorem Fw (b : BL) (c : Int) (a : Int) (r : (List BS)) (h : Cw b c a = some r) : A5 Tryz.prog 99 [.place (A7 b) 0, .int .i64 c, .int .i64 a] (· = .slice 2 (r.map CP)) := by
 refine fn AA Tryz.func99 Z Z 47 Z [.tmp 6] Z [(0, .p (.place (A7 b) 0)), (1, .p (.int .i64 c)), (2, .p (.int .i64 a))] Z Z fun A hA => ?_
 unfold Cw at h
 refine rs AA <| rl Z <| AB <| jb (fun d : Bool => ⟨47, [(0, lq (A7 b)), (1, li c), (2, li a), (17, lb d)], [], 0⟩) h (fun d m => ?_) (fun d t => ?_)
 .refine rg AA <| rn 3 Z <| gs 10 m Z Z Z (fun n => ?_) (fun o => ?_)
  .exact rl Z <| AM n (wf hA [] Z Z Z)
  exact rn 3 Z <| bq o fun ak f q => sx Z (AS (Cx _ _ _ f) (.inl Z) Z Z Z <| bq q fun al i s => sx Z (AS (MW _ _ i) (.inl Z) Z Z Z <| rl Z <| AM s (wf hA [] Z Z Z)))
 refine cd Z t (fun u => ?_) (fun v => ?_)
 .refine rs AA <| rl Z <| AG <| AI ?_
  cases u
  exact er Z (Le.nil _)
 refine AD <| AC <| AB <| rs AA <| rn 2 Z <| bq v fun am j w => sx Z (AS (Cx _ _ _ j) (.inl Z) Z Z Z <| rl Z <| AH <| rs AA <| rl Z <| cd Z w (fun x => ?_) (fun z => ?_))
 .refine rs AA <| rl Z <| AG <| AV <| AI ?_
  cases x
  exact er (GM Z (.one (.own (enc := CP) ([(⟨AR (1 - a), 0⟩ : BS)] : List BS) Z Z))) Le.rfl
 refine rs AA <| rl Z <| cd Z z (fun aa => ?_) (fun ac => ?_)
 .refine rs AA <| rl Z <| rs AA <| rn 1 Z <| bq aa fun ai e ab => sx Z (AAg (l := ([1, 0, 3, 2] : List Int)) e Z Z Z Z <| sx Z (AAh (g := fun y => .p (.int .i64 y)) e Z Z Z Z <| rl Z <| AG <| AV <| AI ?_))
  cases ab
  exact er (GM Z (.one (.own (enc := CP) ([(⟨ai, 0⟩ : BS)] : List BS) Z Z))) Le.rfl
 refine rs AA <| rl Z <| cd Z ac (fun ad => ?_) (fun ah => ?_)
 .refine AB <| rs AA <| rl Z <| cd Z ad (fun ae => ?_) (fun af => ?_)
  .refine rs AA <| rl Z <| AG <| AI <| AV <| AI ?_
   cases ae
   exact er (GM Z (.one (.own (enc := CP) ([(⟨1, 1⟩ : BS), (⟨2, 2⟩ : BS)] : List BS) Z Z))) Le.rfl
  refine AD <| AC <| rs AA <| rn 2 Z <| bq af fun aj k ag => sx Z (AAi (l := ([0, 1, 2] : List Int)) (g := fun y => .int .i64 y) k Z Z Z Z <| rl Z <| AG <| AV <| AI ?_)
  cases ag
  exact er (GM Z (.one (.own (enc := CP) ([(⟨0, aj⟩ : BS)] : List BS) Z Z))) Le.rfl
 refine AD <| Af <| AC <| rs AA <| rl Z <| AG ?_
 cases ah
 exact er Z (Le.nil _)
noncomputable def EW (e : Int) (c : (List BS)) (a : Int) : Option (Int ⊕ (Int × Bool)) :=
 bif decide (a < (c.length : Int)) then (Ak c a).bind fun b => ((bif (b.pos == 0) then some true else some (b.pos == e) : Option (Bool))).bind fun (d : Bool) => bif d then some (.inr (b.out, true)) else some (.inl (AR (a + 1))) else some (.inr (0, false))
noncomputable def EO (a : BL) (b : Int) (c : Int) (d : Int) : Option (Int × Bool) :=
 (Cw a b c).bind fun e => AQ (EW d e) 0
theorem Pk (f : BL) (g : Int) (i : Int) (b : Int) (r : (Int × Bool)) (h : EO f g i b = some r) : A5 Tryz.prog 121 [.place (A7 f) 0, .int .i64 g, .int .i64 i, .int .i64 b] (· = .tup [.int .i64 r.1, .bool r.2]) := by
 refine fn AA Tryz.func121 Z Z 33 Z [.tmp 8, .tmp 9] Z [(0, .p (.place (A7 f) 0)), (1, .p (.int .i64 g)), (2, .p (.int .i64 i)), (3, .p (.int .i64 b))] Z Z fun A hA => ?_
 unfold EO at h
 refine rs AA <| rl Z <| AB <| rs AA <| rn 3 Z <| bq h fun c l n => sx Z (AS (Fw _ _ _ _ l) (.inr Z) Z Z Z <| sx Z (An Z Z <| rl Z <| AH ?_))
 apply lp (a := r) (fun d : Int => ⟨33, [(3, li b), (15, ls 2 CP c), (16, li (c.length : Int)), (17, li d)], [], 0⟩) n
 . exact wf hA [] Z Z Z
 intro d ad j
 unfold EW at j
 refine rs AA <| rl Z <| AB <| cd Z j (fun o => ?_) (fun z => ?_)
 .refine AD <| AC <| AB <| AH <| rs AA <| bq o fun k m q => sx Z (Aj m Z Z Z <| rl Z <| jb (fun e : Bool => ⟨33, [(3, li b), (11, .lpb 0 0), (15, ls 2 CP c), (16, li (c.length : Int)), (17, li d), (29, lb e)], [(0, .box [li k.out, li k.pos])], 1⟩) q (fun e s => ?_) (fun e v => ?_))
  .refine rg AA <| rn 4 Z <| gs 24 s Z Z Z (fun t => ?_) (fun u => ?_)
   .exact rl Z <| AM t (wf hA [(0, 0)] Z Z Z)
   exact rl Z <| AM u (wf hA [(0, 0)] Z Z Z)
  refine cd Z v (fun w => ?_) (fun y => ?_)
  .refine rs AA <| rl Z <| AG <| AV <| AI <| A4 w fun ab x => AV <| AI ?_
   cases x
   exact er Z Le.rfl
  exact AD <| Af <| AC <| rg AA <| rl Z <| Av y (wf hA [] Z Z Z)
 refine AU <| Aa <| BG z fun ac aa => Ao <| AC <| rs AA <| rl Z <| AG ?_
 cases aa
 exact er Z Le.rfl
noncomputable def IF (b : BL) (c : Int) (d : Int) (e : Int) : Option (Int × Bool) :=
 (EO b c d e).bind fun a => some (a.1, a.2)
theorem R7 (a : BL) (b : Int) (c : Int) (d : Int) (r : (Int × Bool)) (h : IF a b c d = some r) : A5 Tryz.prog 57 [.place (A7 a) 0, .int .i64 b, .int .i64 c, .int .i64 d] (· = .tup [.int .i64 r.1, .bool r.2]) := by
 refine fn AA Tryz.func57 Z Z 17 Z [.tmp 8, .tmp 9] Z [(0, .p (.place (A7 a) 0)), (1, .p (.int .i64 b)), (2, .p (.int .i64 c)), (3, .p (.int .i64 d))] Z Z fun A hA => ?_
 unfold IF at h
 refine rs AA <| rl Z <| rs AA <| rn 4 Z <| bq h fun g e f => sx Z (AS (Pk _ _ _ _ _ e) (.inl Z) Z Z Z <| rl Z <| AG ?_)
 cases f
 exact er Z Le.rfl
end Go.E
